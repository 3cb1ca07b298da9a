/- RunRenders: two outcomes that read alike are alike. -/
import Derived.Test.YtmcijdpbjhcimaaDoorRm
import Derived.Deep.RegionHeld3
import Derived.StillTailTactics
namespace Go.Proofs.YtmcijdpbjhcimaaDoor.Rn
open Go.RowKit Mm
theorem sees_form {w : World} {v : Value} {l : List ByteArray} (h : Sees w v (ss l)) : ∃ a cap, v = .slice a l.length cap ∧ l.length ≤ cap ∧ cap ≤ maxLen := by
  obtain ⟨a, cap, hv, _, hc, hm, _⟩ := h
  rw [ss_len] at hv hc
  exact ⟨a, cap, hv, hc, hm⟩
theorem sees_cells {w : World} {a : Option Addr} {n cap : Nat} {l : List ByteArray} (h : Sees w (.slice a n cap) (ss l)) (hl : 0 < l.length) :
    ∃ g off, a = some ⟨g, off, none⟩ ∧ g < w.heap.size ∧ ∀ (j : Nat) (h : j < l.length), w.cell? ⟨g, off + j, none⟩ = some (.string l[j]) := by
  obtain ⟨a', cap', hv, _, _, _, hx⟩ := h
  cases hv
  rcases hx with hx | ⟨g, off, ha, hg, hq⟩
  · have := congrArg List.length hx
    rw [ss_len] at this
    simp only [List.length_nil] at this
    omega
  · exact ⟨g, off, ha, hg, fun j hj => hq j _ (ss_at hj)⟩
set_option maxRecDepth 100000 in
set_option maxHeartbeats 2000000 in
theorem texts_yes (l : List ByteArray) (v u : Value) (w : World) (hv : Sees w v (ss l)) (hu : Sees w u (ss l)) :
    Calls Tryd.prog 23 #[v, u] w fun e w' => e = .returned (.bool true) ∧ Below w.heap.size w w' := by
  obtain ⟨a0, cap0, rfl, hcap, hcm⟩ := sees_form hv
  obtain ⟨a1, cap1, rfl, hcap1, hcm1⟩ := sees_form hu
  have HX := Lib.hid hv
  have HX1 := Lib.hid hu
  unfold maxLen at hcm hcm1
  have hne : ((l.length : Int) != (l.length : Int)) = false := by simp
  clear hv hu
  go_enter Tryd.func23, Tryd.ntmps23
  go_wp2
  go_loopw [5] (fun i wr => ∃ k : Nat, k ≤ l.length ∧ i = .int .i64 k ∧ Below w.heap.size w wr) (fun i _ => l.length - (intOf i).toNat)
  case atStart => exact ⟨0, Nat.zero_le _, rfl, Below.refl _ _⟩
  case round =>
    obtain ⟨k, hk, rfl, hbel⟩ := hrel
    by_cases hlt : k < l.length
    · obtain ⟨g, off, rfl, hg, hq⟩ := sees_cells HX.out (by omega)
      obtain ⟨g1, off1, rfl, hg1, hq1⟩ := sees_cells HX1.out (by omega)
      have q0 := hq k hlt
      have p0 := hq1 k hlt
      rw [← hbel.cell (p := ⟨g, off + k, none⟩) hg] at q0
      rw [← hbel.cell (p := ⟨g1, off1 + k, none⟩) hg1] at p0
      generalize l[k] = z at *
      have hzz : (z.toList == z.toList) = true := by simp
      have hx1 : (k : Int) < (l.length : Int) := by omega
      have hx0 : (0 : Int) ≤ (k : Int) := by omega
      clear hq hq1
      go_wp2
      go_quiet (fail)
      go_wp2
      go_roundw
      case rel => exact ⟨k + 1, by omega, by go_num, below_drewN hbel _⟩
      case measure => simp [intOf]; omega
    · go_wp2
      go_ret
      exact ⟨rfl, hbel⟩
def yA (y : Rep) (u : Vs) : Value := .agg #[.int .i64 y.kd, .bool y.fd, .string y.sp, .string y.wi, u.p, u.e, .string y.fi, u.l, .bool y.mo]
set_option maxRecDepth 100000 in
set_option maxHeartbeats 2000000 in
theorem replies_yes (y : Rep) (a b : Vs) (w : World) (ha : RepW w a y) (hb : RepW w b y) :
    Calls Tryd.prog 18 #[yA y a, yA y b] w fun e w' => e = .returned (.bool true) ∧ Below w.heap.size w w' := by
  have H1 := Lib.hid (fun w' (h : Below w.heap.size w w') => texts_yes y.po a.p b.p w' (ha.p.below h) (hb.p.below h))
  have H2 := Lib.hid (fun w' (h : Below w.heap.size w w') => texts_yes y.en a.e b.e w' (ha.e.below h) (hb.e.below h))
  have H3 := Lib.hid (fun w' (h : Below w.heap.size w w') => texts_yes y.li a.l b.l w' (ha.l.below h) (hb.l.below h))
  clear ha hb
  obtain ⟨kd, fd, sp, wi, po, en, fi, li, mo⟩ := y
  obtain ⟨ap, ae, al⟩ := a
  obtain ⟨bp, be, bl⟩ := b
  unfold yA
  have e0 : (kd != kd) = false := by simp
  have e1 : (fd != fd) = false := by simp
  have e2 : (sp.toList == sp.toList) = true := by simp
  have e3 : (wi.toList == wi.toList) = true := by simp
  have e4 : (fi.toList == fi.toList) = true := by simp
  have e5 : (mo != mo) = false := by simp
  have hA := (Blk.new w 30 #[.int .i64 kd, .bool fd, .string sp, .string wi, ap, ae, .string fi, al, .bool mo])
  have hB := (Blk.new (w.alloc (.cells #[.int .i64 kd, .bool fd, .string sp, .string wi, ap, ae, .string fi, al, .bool mo] 30)) 30 #[.int .i64 kd, .bool fd, .string sp, .string wi, bp, be, .string fi, bl, .bool mo])
  have hA2 := hA.alloc (.cells #[.int .i64 kd, .bool fd, .string sp, .string wi, bp, be, .string fi, bl, .bool mo] 30)
  rw [World.size_alloc] at hB
  have HA := Lib.hid (And.intro hA2 hB)
  clear hA hB hA2
  go_enter Tryd.func18, Tryd.ntmps18
  go_wp2_with fail
  refine (H1.out _ (bal (bal (Below.refl _ _) _) _)).mono ?_
  rintro e w1 ⟨rfl, hb1⟩
  have hA1 := HA.out.1.below hb1 (by simp only [World.size_alloc]; omega)
  have hB1 := HA.out.2.below hb1 (by simp only [World.size_alloc]; omega)
  have hg1 := bnx (bal (bal (Below.refl w.heap.size w) _) _) hb1
  have cA := hA1.cell
  have cB := hB1.cell
  have HK := Lib.hid (And.intro hA1 hB1)
  clear hA1 hB1 hb1 HA
  go_wp2_with fail
  refine (H2.out _ hg1).mono ?_
  rintro e w2 ⟨rfl, hb2⟩
  have hA1 := HK.out.1.below hb2 HK.out.1.lt
  have hB1 := HK.out.2.below hb2 HK.out.2.lt
  have hg2 := bnx hg1 hb2
  clear cA cB HK hg1 hb2
  have cA := hA1.cell
  have cB := hB1.cell
  clear hA1 hB1
  go_wp2_with fail
  refine (H3.out _ hg2).mono ?_
  rintro e w3 ⟨rfl, hb3⟩
  have hg3 := bnx hg2 hb3
  clear cA cB
  go_wp2_with fail
  go_ret
  exact ⟨rfl, hg3⟩
/-- reply k's cells -/
structure YAt (w : World) (g o : Nat) (y : Rep) (u : Vs) : Prop where
  c0 : w.cell? ⟨g, o, none⟩ = some (.int .i64 y.kd)
  c1 : w.cell? ⟨g, o + 1, none⟩ = some (.bool y.fd)
  c2 : w.cell? ⟨g, o + 2, none⟩ = some (.string y.sp)
  c3 : w.cell? ⟨g, o + 3, none⟩ = some (.string y.wi)
  c4 : w.cell? ⟨g, o + 4, none⟩ = some u.p
  c5 : w.cell? ⟨g, o + 5, none⟩ = some u.e
  c6 : w.cell? ⟨g, o + 6, none⟩ = some (.string y.fi)
  c7 : w.cell? ⟨g, o + 7, none⟩ = some u.l
  c8 : w.cell? ⟨g, o + 8, none⟩ = some (.bool y.mo)
theorem YAt.below {w w' : World} {g o B : Nat} {y : Rep} {u : Vs} (h : YAt w g o y u) (hb : Below B w w') (hg : g < B) : YAt w' g o y u :=
  ⟨by rw [hb.cell (p := ⟨g, _, none⟩) hg]; exact h.c0, by rw [hb.cell (p := ⟨g, _, none⟩) hg]; exact h.c1, by rw [hb.cell (p := ⟨g, _, none⟩) hg]; exact h.c2, by rw [hb.cell (p := ⟨g, _, none⟩) hg]; exact h.c3,
    by rw [hb.cell (p := ⟨g, _, none⟩) hg]; exact h.c4, by rw [hb.cell (p := ⟨g, _, none⟩) hg]; exact h.c5, by rw [hb.cell (p := ⟨g, _, none⟩) hg]; exact h.c6, by rw [hb.cell (p := ⟨g, _, none⟩) hg]; exact h.c7, by rw [hb.cell (p := ⟨g, _, none⟩) hg]; exact h.c8⟩
theorem YAt.blk {w : World} {g : Nat} {y : Rep} {u : Vs} {t : TypeId} (h : Blk w g t #[.int .i64 y.kd, .bool y.fd, .string y.sp, .string y.wi, u.p, u.e, .string y.fi, u.l, .bool y.mo]) : YAt w g 0 y u :=
  ⟨by rw [h.cell]; rfl, by rw [h.cell]; rfl, by rw [h.cell]; rfl, by rw [h.cell]; rfl, by rw [h.cell]; rfl, by rw [h.cell]; rfl, by rw [h.cell]; rfl, by rw [h.cell]; rfl, by rw [h.cell]; rfl⟩
theorem RepsW.form {w : World} {v : Value} {R : List Rep} {V : List Vs} (h : RepsW w v R V) : ∃ a cap, v = .slice a R.length cap ∧ R.length ≤ cap ∧ cap ≤ maxLen := h.s.form
theorem RepsW.at {w : World} {a : Option Addr} {n cap : Nat} {R : List Rep} {V : List Vs} (h : RepsW w (.slice a n cap) R V) (h0 : 0 < R.length) :
    ∃ g off, a = some ⟨g, off, none⟩ ∧ g < w.heap.size ∧ ∀ (k : Nat) (hk : k < R.length), ∃ u, V[k]? = some u ∧ YAt w g (off + k * 9) R[k] u ∧ RepW w u R[k] := by
  obtain ⟨_, g, off, ha, hg, hq⟩ := h.s.at h0
  refine ⟨g, off, ha, hg, fun k hk => ?_⟩
  have hv : V[k]? = some (V[k]'(by rw [h.n]; exact hk)) := List.getElem?_eq_getElem _
  have hr : R[k]? = some R[k] := List.getElem?_eq_getElem hk
  have hc : ∀ j x, j < 9 → (yC R[k] (V[k]'(by rw [h.n]; exact hk)))[j]? = some x → w.cell? ⟨g, off + k * 9 + j, none⟩ = some x := fun j x hj hx => by
    rw [Nat.add_assoc]
    exact hq _ _ (by rw [rC_at R V k _ _ j hr hv hj]; exact hx)
  exact ⟨_, hv, ⟨hc 0 _ (by omega) rfl, hc 1 _ (by omega) rfl, hc 2 _ (by omega) rfl, hc 3 _ (by omega) rfl, hc 4 _ (by omega) rfl, hc 5 _ (by omega) rfl, hc 6 _ (by omega) rfl, hc 7 _ (by omega) rfl, hc 8 _ (by omega) rfl⟩, h.y k _ _ hr hv⟩
set_option maxRecDepth 100000 in
set_option maxHeartbeats 2000000 in
theorem all_yes (R : List Rep) (V U : List Vs) (v u : Value) (w : World) (hv : RepsW w v R V) (hu : RepsW w u R U) :
    Calls Tryd.prog 11 #[v, u] w fun e w' => e = .returned (.bool true) ∧ Below w.heap.size w w' := by
  obtain ⟨a0, cap0, rfl, hcap, hcm⟩ := hv.form
  obtain ⟨a1, cap1, rfl, hcap1, hcm1⟩ := hu.form
  have HX := Lib.hid hv
  have HX1 := Lib.hid hu
  unfold maxLen at hcm hcm1
  have hne : ((R.length : Int) != (R.length : Int)) = false := by simp
  clear hv hu
  go_enter Tryd.func11, Tryd.ntmps11
  go_wp2_with fail
  go_loopw [5] (fun i wr => ∃ k : Nat, k ≤ R.length ∧ i = .int .i64 k ∧ Below w.heap.size w wr) (fun i _ => R.length - (intOf i).toNat)
  case atStart => exact ⟨0, Nat.zero_le _, rfl, Below.refl _ _⟩
  case round =>
    obtain ⟨k, hk, rfl, hbel⟩ := hrel
    by_cases hlt : k < R.length
    · obtain ⟨g, off, rfl, hg, hq⟩ := HX.out.at (by omega)
      obtain ⟨g1, off1, rfl, hg1, hq1⟩ := HX1.out.at (by omega)
      obtain ⟨x, _, hx, hxw⟩ := hq k hlt
      obtain ⟨z, _, hz, hzw⟩ := hq1 k hlt
      have hxk := hx.below hbel hg
      have hzk := hz.below hbel hg1
      have HR := Lib.hid (replies_yes R[k] x z wr.drew ((hxw.below hbel).below (Below.refl _ _).drew) ((hzw.below hbel).below (Below.refl _ _).drew))
      generalize R[k] = y at *
      have HXK := Lib.hid hxk
      have HZK := Lib.hid hzk
      have hx1 : (k : Int) < (R.length : Int) := by omega
      have hx0 : (0 : Int) ≤ (k : Int) := by omega
      clear hq hq1 hx hz hxw hzw hxk hzk
      go_wp2_with fail
      refine still_tail 8 (by kernel_rfl) (by kernel_rfl) fun W hW => ?_
      simp only [List.take_succ_cons, List.take_zero, List.drop_succ_cons, List.drop_zero]
      obtain ⟨q0, q1, q2, q3, q4, q5, q6, q7, q8⟩ := HXK.out.below (below_at_drew hW _) (Nat.lt_of_lt_of_le hg hbel.size)
      obtain ⟨p0, p1, p2, p3, p4, p5, p6, p7, p8⟩ := HZK.out.below (below_at_drew hW _) (Nat.lt_of_lt_of_le hg1 hbel.size)
      have HR2 := Lib.hid (by have h := HR.out; rw [← hW.out] at h; exact h)
      have hbW := hbel.trans (below_at_drew hW _)
      unfold yA at HR2
      clear HXK HZK HR
      repeat still_step
      refine wpStill_nil ?_
      go_wp2_with fail
      refine HR2.out.mono ?_
      rintro e w2 ⟨rfl, hb2⟩
      have hbel2 := bnx hbW hb2
      clear q0 q1 q2 q3 q4 q5 q6 q7 q8 p0 p1 p2 p3 p4 p5 p6 p7 p8
      go_wp2_with fail
      go_roundw
      case rel => exact ⟨k + 1, by omega, by go_num, hbel2⟩
      case measure => simp [intOf]; omega
    · go_wp2
      go_ret
      exact ⟨rfl, hbel⟩
set_option maxRecDepth 100000 in
set_option maxHeartbeats 2000000 in
theorem results_yes (kd co te li : Int) (R : List Rep) (V U : List Vs) (v u : Value) (w : World) (hv : RepsW w v R V) (hu : RepsW w u R U) :
    Calls Tryd.prog 6 #[.agg #[.int .i64 kd, .int .i64 co, .int .i64 te, .int .i64 li, v], .agg #[.int .i64 kd, .int .i64 co, .int .i64 te, .int .i64 li, u]] w fun e w' => e = .returned (.bool true) ∧ Below w.heap.size w w' := by
  have H1 := Lib.hid (fun w' (h : Below w.heap.size w w') => all_yes R V U v u w' (hv.below h) (hu.below h))
  have e0 : (kd != kd) = false := by simp
  have e1 : (co != co) = false := by simp
  have e2 : (te != te) = false := by simp
  have e3 : (li != li) = false := by simp
  clear hv hu
  go_enter Tryd.func6, Tryd.ntmps6
  go_wp2_with fail
  refine (H1.out _ (bal (bal (Below.refl _ _) _) _)).mono ?_
  rintro e w1 ⟨rfl, hb1⟩
  have hg1 := bnx (bal (bal (Below.refl w.heap.size w) _) _) hb1
  clear hb1
  go_wp2_with fail
  go_ret
  exact ⟨rfl, hg1⟩
end Go.Proofs.YtmcijdpbjhcimaaDoor.Rn
