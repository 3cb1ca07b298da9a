/- The document's Whole; the laws' comparison of two lists of records. -/
import Derived.Test.YtndclkphglpknaaDoorWw
import Derived.Test.YtndclkphglpknaaDoorSs
namespace Go.Proofs.YtndclkphglpknaaDoor.Lg
open Go.RowKit Mm
abbrev Ky := Nat × Nat × List UInt8
def kC (k : Ky) : List Value := [.int .i64 k.1, .int .i64 k.2.1, .string (str k.2.2)]
def ksC (ks : List Ky) : List Value := ks.flatMap kC
def keyA (r : RA) : Ky := (r.sq, r.kd, r.tx)
theorem rasC_key (rs : List RA) : rasC rs = ksC (rs.map keyA) := by simp [rasC, ksC, List.flatMap_map]; rfl
theorem ksC_len (ks : List Ky) : (ksC ks).length = ks.length * 3 := by
  induction ks with
  | nil => rfl
  | cons r rs ih => simp only [ksC, List.flatMap_cons, List.length_append, List.length_cons] at ih ⊢; rw [ih]; simp [kC]; omega
theorem ksC_at (ks : List Ky) : ∀ j k, ks[j]? = some k → (ksC ks)[j * 3]? = some (.int .i64 k.1) ∧ (ksC ks)[j * 3 + 1]? = some (.int .i64 k.2.1) ∧ (ksC ks)[j * 3 + 2]? = some (.string (str k.2.2)) := by
  induction ks with
  | nil => intro j r h; cases h
  | cons x rs ih =>
    intro j r h
    cases j with
    | zero => cases h; exact ⟨rfl, rfl, rfl⟩
    | succ j =>
      obtain ⟨h0, h1, h2⟩ := ih j r (by simpa using h)
      refine ⟨?_, ?_, ?_⟩
      · rw [show (j + 1) * 3 = j * 3 + 3 by omega]; exact h0
      · rw [show (j + 1) * 3 + 1 = j * 3 + 1 + 3 by omega]; exact h1
      · rw [show (j + 1) * 3 + 2 = j * 3 + 2 + 3 by omega]; exact h2
theorem ksC_take (ks : List Ky) (k : Nat) : (ksC ks).take (k * 3) = ksC (ks.take k) := by
  induction ks generalizing k with
  | nil => simp [ksC]
  | cons x rs ih =>
    cases k with
    | zero => simp [ksC]
    | succ k =>
      have := ih k
      simp only [ksC, List.flatMap_cons, List.take_succ_cons] at this ⊢
      rw [show (k + 1) * 3 = (kC x).length + k * 3 by simp [kC]; omega, List.take_length_add_append, this]
theorem rec_neq (a b : Int) (s : ByteArray) (w : World) : (binOp .neq 40 (.agg #[.int .i64 a, .int .i64 b, .string s]) (.agg #[.int .i64 a, .int .i64 b, .string s])).run Tryd.prog w = .ok (.bool false) w := by
  rw [run_neq_struct]
  simp [go_sem]
set_option maxRecDepth 100000 in
set_option maxHeartbeats 2000000 in
theorem records_yes (ks : List Ky) (v u : Value) (w : World) (hv : SeesS w v 3 ks.length (ksC ks)) (hu : SeesS w u 3 ks.length (ksC ks)) :
    Calls Tryd.prog 9 #[v, u] w fun e w' => e = .returned (.bool true) ∧ Below w.heap.size w w' := by
  obtain ⟨a0, cap0, rfl, hcap, hcm⟩ := hv.form
  obtain ⟨a1, cap1, rfl, hcap1, hcm1⟩ := hu.form
  have HX := Lib.hid hv
  have HX1 := Lib.hid hu
  unfold maxLen at hcm hcm1
  have hne : ((ks.length : Int) != (ks.length : Int)) = false := by simp
  clear hv hu
  go_enter Tryd.func9, Tryd.ntmps9
  go_wp2
  go_loopw [5] (fun i wr => ∃ k : Nat, k ≤ ks.length ∧ i = .int .i64 k ∧ Below w.heap.size w wr) (fun i _ => ks.length - (intOf i).toNat)
  case atStart => exact ⟨0, Nat.zero_le _, rfl, Below.refl _ _⟩
  case round =>
    obtain ⟨k, hk, rfl, hbel⟩ := hrel
    by_cases hlt : k < ks.length
    · obtain ⟨_, g, off, rfl, hg, hq⟩ := HX.out.at (by omega)
      obtain ⟨_, g1, off1, rfl, hg1, hq1⟩ := HX1.out.at (by omega)
      have kat := ksC_at ks k ks[k] (by simp [hlt])
      have q0 := hq _ _ kat.1
      have q1 := hq _ _ kat.2.1
      have q2 := hq _ _ kat.2.2
      have p0 := hq1 _ _ kat.1
      have p1 := hq1 _ _ kat.2.1
      have p2 := hq1 _ _ kat.2.2
      rw [← hbel.cell (p := ⟨g, off + k * 3, none⟩) hg] at q0
      rw [← hbel.cell (p := ⟨g, off + (k * 3 + 1), none⟩) hg, ← Nat.add_assoc] at q1
      rw [← hbel.cell (p := ⟨g, off + (k * 3 + 2), none⟩) hg, ← Nat.add_assoc] at q2
      rw [← hbel.cell (p := ⟨g1, off1 + k * 3, none⟩) hg1] at p0
      rw [← hbel.cell (p := ⟨g1, off1 + (k * 3 + 1), none⟩) hg1, ← Nat.add_assoc] at p1
      rw [← hbel.cell (p := ⟨g1, off1 + (k * 3 + 2), none⟩) hg1, ← Nat.add_assoc] at p2
      generalize ks[k] = f at *
      obtain ⟨x, y, z⟩ := f
      have hqq := rec_neq x y (str z)
      simp only at q0 q1 q2 p0 p1 p2
      clear hq hq1 kat
      go_wp2
      go_quiet (fail)
      go_wp2
      go_roundw
      case rel => exact ⟨k + 1, by omega, by go_num, below_drewN hbel _⟩
      case measure => simp [intOf]; omega
    · go_wp2
      go_ret
      exact ⟨rfl, hbel⟩
theorem app_rec {B : Nat} {v : Value} {m : Nat} {L : List Ky} {w : World} {k : Ky} {ops : Array Oper} {rest : List Oper} {op : Oper} {a : Act} {Q : Exit → Act → World → Prop} {s x : Operand}
    (hown : w.ownsRow B 40 3 v m (ksC L)) (hgd : op.guard = none) (ho : op.op = .call { callee := .builtin .append, args := #[s, x], argTypes := #[24, 24] })
    (hs : a.eval s = v) (hx : a.eval x = .slice (some ⟨w.heap.size, 0, none⟩) 1 1) (hn : (m + 1) * 32 ≤ 140737488355328) (hB : B ≤ w.heap.size)
    (h : ∀ v' w', w'.ownsRow B 40 3 v' (m + 1) (ksC (L ++ [k])) → Below B w w' → w.heap.size ≤ w'.heap.size → (w.alloc (.cells #[.int .i64 k.1, .int .i64 k.2.1, .string (str k.2.2)] 40)).grownBy w' v.ownBlock → wpList Tryd.prog ops Q rest (a.put op.dst v') w') : wpList Tryd.prog ops Q (op :: rest) a (w.alloc (.cells #[.int .i64 k.1, .int .i64 k.2.1, .string (str k.2.2)] 40)) := by
  obtain ⟨i0, hi, hz0, hz1, hz2⟩ := info_parts info_rec
  refine wpList_append_own _ hgd s x 24 ho B 40 i0 _ 3 32 Tryd.underlying24 hi hz0 hz1 hz2 rfl (by decide) v m _ hs (hown.alloc _) ⟨w.heap.size, 0, none⟩ 1 1 (kC k) hx rfl (cells_new _ #[.int .i64 k.1, .int .i64 k.2.1, .string (str k.2.2)] _)
    (by simp [kC, Value.oneCell']) (by simp only [maxLen]; omega) (by omega) (by simp; omega) ?_
  intro v' w1 hown' hg _
  have h1 : Below B w (w.alloc (.cells #[.int .i64 k.1, .int .i64 k.2.1, .string (str k.2.2)] 40)) := (Below.refl _ _).alloc hB _
  refine h v' w1 (by rw [show ksC (L ++ [k]) = ksC L ++ kC k by simp [ksC]]; exact hown') (h1.grown hg (by simp; omega) (fun k hk => (hown.lt k hk).1)) (Nat.le_trans (by simp) hg.size) hg
set_option maxRecDepth 100000 in
set_option maxHeartbeats 4000000 in
theorem rwhole_any (l : List UInt8) (hl : l.length ≤ 1000000) (v : Value) (w : World) (hS : Sees w v (bytesV l)) :
    Calls Tryd.prog 5 #[v] w fun e w' => ∃ u, e = .returned (.tuple #[u, .int .i64 (whE l), .int .i64 (codeOf l (whE l))]) ∧ w'.ownsRow w.heap.size 40 3 u (whl l).length (ksC ((whl l).map keyA)) ∧ Below w.heap.size w w' := by
  have HS := Lib.hid hS
  obtain ⟨a0, cap0, rfl, hN, hcap, hcm, hx⟩ := hS
  have hbl := bytesV_len l
  rw [hbl] at HS hcap ⊢
  unfold maxLen at hcm
  have hNL := whl_len l
  clear hx hN hbl
  go_enter Tryd.func5, Tryd.ntmps5
  go_wp2
  go_loopw [5, 6] (fun u p wr => ∃ (pre : List RA) (q : Nat), p = .int .i64 q ∧ whl l = pre ++ recs l q (pre.length + 1) ∧ whE l = endOf q (recs l q (pre.length + 1)) ∧ q ≤ l.length ∧ pre.length ≤ q ∧ Below w.heap.size w wr ∧ wr.ownsRow w.heap.size 40 3 u pre.length (ksC (pre.map keyA))) (fun _ p _ => l.length - (intOf p).toNat)
  case atStart => exact ⟨[], 0, rfl, rfl, rfl, Nat.zero_le _, by simp, Below.refl _ _, World.ownsRow_nil _ _ _ _⟩
  case round =>
    obtain ⟨pre, q, rfl, hwh, hen, hq, hpl, hbel, hown⟩ := hrel
    have HWH := Lib.hid hwh
    have HEN := Lib.hid hen
    have HO := Lib.hid hown
    obtain ⟨au, cu, hu⟩ := own_len hown
    subst hu
    clear hwh hen hown
    have HEX := Lib.hid (show ∀ (h : ¬ nextOk l q (pre.length + 1)), pre = whl l ∧ whE l = q from fun h => by
      have h1 := recs_no h
      refine ⟨by rw [HWH.out, h1, List.append_nil], by rw [HEN.out, h1]; rfl⟩)
    by_cases hqe : q = l.length
    · have hnx : ¬ nextOk l q (pre.length + 1) := fun h => by have := nextOk_len h; omega
      obtain ⟨e1, e2⟩ := HEX.out hnx
      have HC := Lib.hid (show codeOf l (whE l) = 0 from by unfold codeOf; rw [e2, if_pos hqe])
      have hee : ((q : Int) == (l.length : Int)) = true := by rw [hqe]; simp
      have HE1 := Lib.hid e1
      have HE2 := Lib.hid e2
      clear hnx e1 e2 hqe
      go_wp2
      refine bodyPost_ret (v := .tuple #[.slice au pre.length cu, .int .i64 q, .int .i64 0]) (by simp [results, Tryd.results5, go_sem]) rfl ⟨_, by rw [HC.out, HE2.out], by rw [← HE1.out]; exact HO.out, hbel⟩
    · have hee : ((q : Int) == (l.length : Int)) = false := by rw [beq_eq_false_iff_ne]; omega
      have HRD := Lib.hid (rread_any l (.slice a0 l.length cap0) q wr (HS.out.below hbel))
      by_cases h0 : rdE (l.drop q) = 0
      · have hv := readV_ok (l := l) (k := q) hq h0
        have HRD2 := Lib.hid (by have := HRD.out; rw [hv] at this; exact this)
        clear hv HRD
        by_cases hsq : n4 (l.drop q) 4 = pre.length + 1
        · have hnx : nextOk l q (pre.length + 1) := ⟨hl, h0, hsq⟩
          obtain ⟨r, hr, hrp, hrs, hrk, hrt, hrl, hss⟩ := recs_yes hnx
          have hlen := nextOk_len hnx
          have HRD3 := Lib.hid (by have := HRD2.out; rw [← hrs, ← hrk, ← hrt, ← hrl] at this; exact this)
          rw [← hrl] at hr hlen
          have hsb : ((r.sq : Int) != (pre.length : Int) + 1) = false := by rw [hss]; simp
          have HR := Lib.hid hr
          have HP := Lib.hid hrp
          have hL1 := hlen.1
          have hL2 := r.ht
          clear hr hrp hrs hrk hrt hrl hss hsq hnx hlen h0 HRD2 hqe
          go_upto_region 10 with (go_at_call 13; refine HRD3.out.mono ?_; rintro e w1 ⟨rfl, hb1⟩)
          have hX0 := Blk.new w1 40 #[.int .i64 (r.sq : Int), .int .i64 (r.kd : Int), .string (str r.tx)]
          have hb10 : Below wr.heap.size wr (w1.alloc (.cells #[.int .i64 (r.sq : Int), .int .i64 (r.kd : Int), .string (str r.tx)] 40)) := bal hb1 _
          generalize hW1 : World.alloc w1 _ = W1 at *
          have HO1 := Lib.hid (own_below HO.out hb10 (Nat.le_refl _))
          have hbw1 : Below w.heap.size w W1 := bnx hbel hb10
          have hcX := hX0.cell
          clear hW1 HO hb10
          go_wp2_with (at_builtin; refine app_rec (k := keyA r) HO1.out rfl rfl rfl rfl (by omega) hbw1.size ?_; intro v1 w2 hown2 hb2 hs2 _)
          go_roundw
          case rel => exact ⟨pre ++ [r], q + r.tx.length + 20, by go_num, by rw [HWH.out, HR.out]; simp, by rw [HEN.out, HR.out]; simp [endOf, HP.out], by omega, by rw [List.length_append]; simp; omega, hbw1.trans hb2, by rw [List.length_append, List.map_append]; exact hown2⟩
          case measure => simp [intOf]; omega
        · have hnx : ¬ nextOk l q (pre.length + 1) := fun h => hsq h.2.2
          obtain ⟨e1, e2⟩ := HEX.out hnx
          have HC := Lib.hid (show codeOf l (whE l) = 192 from by unfold codeOf; rw [e2, if_neg hqe, if_pos h0])
          have hsb : ((n4 (l.drop q) 4 : Int) != (pre.length : Int) + 1) = true := by rw [bne_iff_ne]; omega
          have HE1 := Lib.hid e1
          have HE2 := Lib.hid e2
          clear hnx e1 e2 hqe hsq h0
          go_wp2_with (go_at_call 13; refine HRD2.out.mono ?_; rintro e w1 ⟨rfl, hb1⟩; have hcX := (Blk.new w1 40 #[.int .i64 (n4 (l.drop q) 4 : Int), .int .i64 ((bt (l.drop q) 2).toNat : Int), .string (str (rdT (l.drop q)))]).cell)
          have hb2 := bal hb1 (.cells #[.int .i64 (n4 (l.drop q) 4 : Int), .int .i64 ((bt (l.drop q) 2).toNat : Int), .string (str (rdT (l.drop q)))] 40)
          refine bodyPost_ret (v := .tuple #[.slice au pre.length cu, .int .i64 q, .int .i64 192]) (by simp [results, Tryd.results5, go_sem]) rfl ⟨_, by rw [HC.out, HE2.out], by rw [← HE1.out]; exact own_below HO.out hb2 (Nat.le_refl _), bnx hbel hb2⟩
      · have hnx : ¬ nextOk l q (pre.length + 1) := fun h => h0 h.2.1
        obtain ⟨e1, e2⟩ := HEX.out hnx
        have HC := Lib.hid (show codeOf l (whE l) = rdE (l.drop q) from by unfold codeOf; rw [e2, if_neg hqe, if_neg h0])
        have hv := readV_err (l := l) (k := q) hq rfl h0
        have HRD2 := Lib.hid (by have := HRD.out; rw [hv] at this; exact this)
        have hne : (rdE (l.drop q) != 0) = true := by rw [bne_iff_ne]; exact h0
        have HE1 := Lib.hid e1
        have HE2 := Lib.hid e2
        clear hv HRD hnx e1 e2 hqe h0
        go_wp2_with (go_at_call 13; refine HRD2.out.mono ?_; rintro e w1 ⟨rfl, hb1⟩)
        have hb2 := bal hb1 (.cells #[.int .i64 0, .int .i64 0, .string (str [])] 40)
        refine bodyPost_ret (v := .tuple #[.slice au pre.length cu, .int .i64 q, .int .i64 (rdE (l.drop q))]) (by simp [results, Tryd.results5, go_sem]) rfl ⟨_, by rw [HC.out, HE2.out], by rw [← HE1.out]; exact own_below HO.out hb2 (Nat.le_refl _), bnx hbel hb2⟩
end Go.Proofs.YtndclkphglpknaaDoor.Lg
