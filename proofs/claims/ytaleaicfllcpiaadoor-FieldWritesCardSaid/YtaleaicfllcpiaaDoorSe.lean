/- Sets that a statement makes for itself. -/
import Derived.Test.YtaleaicfllcpiaaDoorWl
import Derived.Test.YtaleaicfllcpiaaDoorHe
import Derived.Deep.RegionHeld3
import Derived.Deep.AppendLies
namespace Go.Proofs.YtaleaicfllcpiaaDoor.Fl
open Go.RowKit Mm Law
set_option linter.unusedVariables false
set_option linter.unusedSimpArgs false
set_option linter.unusedSectionVars false
theorem info_setD : (Tryd.prog.info? 49).map (fun i => (i.zero, i.size, i.bytes)) = some (some (.agg #[.string ⟨#[]⟩, .int .i64 0]), 2, 24) := by kernel_rfl
set_option maxRecDepth 100000 in
theorem step_app_set {B : Nat} {v : Value} {m : Nat} {L : List Fld} {w : World} {s0 : ByteArray} {b0 : Int} {ops : Array Oper} {o : Oper} {a : Act} {K : Act → World → Prop} {Q : Exit → Act → World → Prop} {E : Prop} (s x : Operand)
    (hown : w.ownsRow B 49 2 v m (fcells L)) (hgd : o.guard = none) (ho : o.op = .call { callee := .builtin .append, args := #[s, x], argTypes := #[43, 43] })
    (hs : a.eval s = v) (hx : a.eval x = .slice (some ⟨w.heap.size, 0, none⟩) 1 1) (hn : (m + 1) * 24 ≤ 140737488355328) (hB : B ≤ w.heap.size)
    (h : ∀ v' w', w'.ownsRow B 49 2 v' (m + 1) (fcells (L ++ [(s0, b0)])) → Below B w w' → K (a.put o.dst v') w') :
    if Region.wanted o (yielded ops a.tmps) = true then Oper.wp Tryd.prog o a (w.alloc (.cells #[.string s0, .int .i64 b0] 49)).drew K Q else E := by
  obtain ⟨i0, hi, hz0, hz1, hz2⟩ := info_parts info_setD
  have hown2 : (w.alloc (.cells #[.string s0, .int .i64 b0] 49)).drew.ownsRow B 49 2 v m (fcells L) := hown.alloc _
  refine step_append_lies _ hgd s x 43 ho B 49 i0 _ 2 24 Tryd.underlying43 hi hz0 hz1 hz2 rfl (by decide) v m _ hs hown2 ⟨w.heap.size, 0, none⟩ 1 1 [.string s0, .int .i64 b0] hx rfl (cells_new w #[.string s0, .int .i64 b0] _)
    (by simp [Value.oneCell']) (by decide) (by simp only [maxLen]; omega) (by omega) (by show B ≤ (w.alloc _).heap.size; simp; omega) _ rfl ?_
  intro g cap w1 hown' hg _ _
  refine h _ w1 (by rw [fcells_snoc]; exact hown') ?_
  have h1 : Below B w (w.alloc (.cells #[.string s0, .int .i64 b0] 49)).drew := ((Below.refl _ _).alloc hB _).drew
  exact h1.grown hg (by show B ≤ (w.alloc _).heap.size; simp; omega) (fun k hk => (hown.lt k hk).1)
theorem name_beq (a b : ByteArray) : ∃ c : Bool, (a.toList == b.toList) = c ∧ (c = true ↔ a = b) := by
  refine ⟨_, rfl, ?_⟩
  rw [beq_iff_eq, ByteArray.toList_eq, ByteArray.toList_eq]
  exact ⟨fun h => ByteArray.ext (Array.ext' h), fun h => by rw [h]⟩
theorem tw_step {S : List Fld} {nm : ByteArray} {j : Nat} {f c : Bool} (hj : j < S.length) (h : f = true ↔ ∃ i, ∃ hi : i < S.length, i < j ∧ S[i].1 = nm) (hc : c = true ↔ S[j].1 = nm) : (f || c) = true ↔ ∃ i, ∃ hi : i < S.length, i < j + 1 ∧ S[i].1 = nm := by
  rw [Bool.or_eq_true, h, hc]
  constructor
  · rintro (⟨i, hi, h1, h2⟩ | h1)
    · exact ⟨i, hi, by omega, h2⟩
    · exact ⟨j, hj, by omega, h1⟩
  · rintro ⟨i, hi, h1, h2⟩
    rcases Nat.lt_succ_iff_lt_or_eq.1 h1 with h | h
    · exact .inl ⟨i, hi, h, h2⟩
    · subst h; exact .inr h2
theorem tw_all {S : List Fld} {nm : ByteArray} {f : Bool} (h : f = true ↔ ∃ i, ∃ hi : i < S.length, i < S.length ∧ S[i].1 = nm) : f = true ↔ ∃ g ∈ S, g.1 = nm := by
  rw [h]
  constructor
  · rintro ⟨i, hi, _, h2⟩; exact ⟨S[i], List.getElem_mem hi, h2⟩
  · rintro ⟨g, hg, h2⟩
    obtain ⟨i, hi, rfl⟩ := List.getElem_of_mem hg
    exact ⟨i, hi, hi, h2⟩
theorem pow_bS {B : Nat} (h : B ≤ 32) : 1 ≤ (2 : Int) ^ B ∧ (2 : Int) ^ B ≤ 4294967296 := by
  have h1 : 0 < 2 ^ B := Nat.pow_pos (by decide)
  have h2 := pow_33 h
  rw [pow_int]
  omega
def SetPre (l S : List Fld) : Prop := (∀ j, (hj : j < S.length) → ∃ k, ∃ hk : k < l.length, S[j].1 = l[k].1 ∧ 0 ≤ S[j].2 ∧ S[j].2 < ((2 ^ bitsAt l k : Nat) : Int)) ∧ ∀ j, (hj : j < S.length) → ¬ ∃ g ∈ S.take j, g.1 = S[j].1
theorem setPre_nil (l : List Fld) : SetPre l [] := ⟨fun j hj => absurd hj (by simp), fun j hj => absurd hj (by simp)⟩
theorem setPre_snoc {l S : List Fld} (h : SetPre l S) {k : Nat} (hk : k < l.length) {z : Int} (h0 : 0 ≤ z) (h1 : z < ((2 ^ bitsAt l k : Nat) : Int)) (hno : ¬ ∃ g ∈ S, g.1 = l[k].1) : SetPre l (S ++ [(l[k].1, z)]) := by
  constructor
  · intro j hj
    rw [List.length_append, List.length_singleton] at hj
    rcases Nat.lt_or_ge j S.length with h2 | h2
    · rw [List.getElem_append_left h2]
      exact h.1 j h2
    · have : j = S.length := by omega
      subst this
      rw [List.getElem_append_right (Nat.le_refl _)]
      simp only [Nat.sub_self, List.getElem_cons_zero]
      exact ⟨k, hk, rfl, h0, h1⟩
  · intro j hj
    rw [List.length_append, List.length_singleton] at hj
    rcases Nat.lt_or_ge j S.length with h2 | h2
    · rw [List.getElem_append_left h2, List.take_append_of_le_length (by omega)]
      exact h.2 j h2
    · have : j = S.length := by omega
      subst this
      rw [List.getElem_append_right (Nat.le_refl _), List.take_left' rfl]
      simp only [Nat.sub_self, List.getElem_cons_zero]
      exact hno
theorem fld_own {w : World} {B : Nat} {e : TypeId} {u : Value} {S : List Fld} {n : Nat} (h : w.ownsRow B e 2 u n (fcells S)) {j : Nat} (hj : j < S.length) (hn : 0 < n) : ∃ g cap, u = .slice (some ⟨g, 0, none⟩) n cap ∧ B ≤ g ∧ g < w.heap.size ∧ w.cell? ⟨g, j * 2, none⟩ = some (.string S[j].1) ∧ w.cell? ⟨g, j * 2 + 1, none⟩ = some (.int .i64 S[j].2) := by
  obtain ⟨g, cap, hv, _, hB, hg, hq⟩ := own_at h hn
  obtain ⟨h1, h2⟩ := fcells_at S j S[j] (by simp [hj])
  exact ⟨g, cap, hv, hB, hg, hq _ _ h1, hq _ _ h2⟩
set_option maxRecDepth 100000 in
set_option maxHeartbeats 8000000 in
theorem sets_any (l : List Fld) (hl : Lay l) (v : Value) (ws : List Int) (u : Value) (xs : List Int) (x : Value) (w : World) (hv : SeesF w v l)
    (hX : SeesS w u 1 ws.length (inC ws)) (hXw : ∀ z ∈ ws, (Lit.int .i64 z).wf = true) (hY : SeesS w x 1 xs.length (inC xs)) (hYw : ∀ z ∈ xs, (Lit.int .i64 z).wf = true) :
    Calls Tryd.prog 21 #[v, u, x] w fun e w' => ∃ S r, SetOk l S ∧ e = .returned r ∧ w'.ownsRow w.heap.size 49 2 r S.length (fcells S) ∧ Below w.heap.size w w' := by
  have HX := Lib.hid hX
  have HXW := Lib.hid hXw
  have HY := Lib.hid hY
  have HYW := Lib.hid hYw
  have HL := Lib.hid hl
  have hl0 := hl.1
  have hl8 := hl.2.1
  obtain ⟨a0, cap0, rfl, hcap, hcm, hx, _⟩ := hv
  have HF := Lib.hid hx
  obtain ⟨a1, cap1, rfl, hcap1, hcm1⟩ := hX.form
  obtain ⟨a2, cap2, rfl, hcap2, hcm2⟩ := hY.form
  unfold maxLen at hcm hcm1 hcm2
  have mixed : Tryd.prog.follows Departure.mixedOrders = true := by kernel_rfl
  clear hX hXw hY hYw hx hl
  go_enter Tryd.func21, Tryd.ntmps21
  go_wp2_with fail
  go_loopw [7, 8] (fun m i wr => ∃ (q : Nat) (S : List Fld), q ≤ 12 ∧ S.length ≤ q ∧ SetPre l S ∧ i = .int .i64 (q : Int) ∧ wr.ownsRow w.heap.size 49 2 m S.length (fcells S) ∧ Below w.heap.size w wr) (fun _ i _ => 12 - (intOf i).toNat)
  case atStart => exact ⟨0, [], by omega, Nat.le_refl _, setPre_nil l, rfl, World.ownsRow_nil _ _ _ _, Below.refl _ _⟩
  case round =>
    obtain ⟨q, S, hq12, hSq, hpre, rfl, hown, hbel⟩ := hrel
    have HPRE := Lib.hid hpre
    have HOW := Lib.hid hown
    clear hpre hown
    by_cases hc : q < ws.length ∧ q < xs.length ∧ q < 12
    · obtain ⟨h1, h2, h3⟩ := hc
      obtain ⟨_, g1, o1, rfl, hg1, hq1⟩ := HX.out.at (by omega)
      obtain ⟨_, g2, o2, rfl, hg2, hq2⟩ := HY.out.at (by omega)
      have p1 := hq1 _ _ (inC_at ws q ws[q] (by simp [h1]))
      have p2 := hq2 _ _ (inC_at xs q xs[q] (by simp [h2]))
      rw [← hbel.cell (p := ⟨g1, o1 + q, none⟩) hg1] at p1
      rw [← hbel.cell (p := ⟨g2, o2 + q, none⟩) hg2] at p2
      have hw1 := HXW.out ws[q] (List.getElem_mem h1)
      have hw2 := HYW.out xs[q] (List.getElem_mem h2)
      generalize ws[q] = z1 at *
      generalize xs[q] = z2 at *
      have HN1 := Lib.hid (fun w => near_det z1 (l.length : Int) hw1 (by omega) (by omega) w)
      obtain ⟨k, hkz⟩ := Int.eq_ofNat_of_zero_le (nearI_bd (n := z1) (m := (l.length : Int)) (by omega)).1
      have hk : k < l.length := by have := (nearI_bd (n := z1) (m := (l.length : Int)) (by omega)).2; omega
      rw [hkz] at HN1
      obtain ⟨gf, of_, rfl, hgf, hqf⟩ : ∃ g off, a0 = some ⟨g, off, none⟩ ∧ g < w.heap.size ∧ ∀ j f, l[j]? = some f → w.cell? ⟨g, off + j * 2, none⟩ = some (.string f.1) ∧ w.cell? ⟨g, off + (j * 2 + 1), none⟩ = some (.int .i64 f.2) := by
        rcases HF.out with h0 | h0
        · rw [h0] at hl0; simp at hl0
        · exact h0
      have f0 := (hqf k l[k] (by simp [hk])).1
      have f1 := (hqf k l[k] (by simp [hk])).2
      rw [← hbel.cell (p := ⟨gf, of_ + k * 2, none⟩) hgf] at f0
      rw [← hbel.cell (p := ⟨gf, of_ + (k * 2 + 1), none⟩) hgf] at f1
      rw [← Nat.add_assoc] at f1
      have hbk := bitsAt_get HL.out.wide hk
      rw [← hbk.1] at f1
      have HSN := Lib.hid (fun (z : Int) (h0 : 0 ≤ z) (h1 : z < ((2 ^ bitsAt l k : Nat) : Int)) (hno : ¬ ∃ g ∈ S, g.1 = l[k].1) => setPre_snoc HPRE.out hk h0 h1 hno)
      generalize bitsAt l k = B at *
      generalize l[k].1 = nm at *
      have hB32 : B ≤ 32 := hbk.2.2
      have y0 : (0 : Int) ≤ (q : Int) := by omega
      have y1 : (q : Int) < (ws.length : Int) := by omega
      have y2 : (q : Int) < (xs.length : Int) := by omega
      have y3 : (q : Int) < 12 := by omega
      have hln : ¬ (l.length : Int) = 0 := by omega
      clear hq1 hq2 hqf hbk hkz hw1
      go_wp2_with fail
      refine (HN1.out _).mono ?_
      rintro e w2 ⟨rfl, rfl⟩
      have x0 : (0 : Int) ≤ (k : Int) := by omega
      have x1 : (k : Int) < (l.length : Int) := by omega
      go_wp2_with fail
      go_loopw [10, 11] (fun f i wr' => ∃ (j : Nat) (b : Bool), j ≤ S.length ∧ i = .int .i64 (j : Int) ∧ f = .bool b ∧ (b = true ↔ ∃ i, ∃ hi : i < S.length, i < j ∧ S[i].1 = nm) ∧ Below w2.heap.size w2 wr') (fun _ i _ => S.length - (intOf i).toNat)
      case atStart => exact ⟨0, false, Nat.zero_le _, rfl, rfl, by simp, Below.refl _ _⟩
      case round =>
        obtain ⟨j, b, hj, rfl, rfl, hb, hbel3⟩ := hrel
        have HBB := Lib.hid hb
        clear hb
        by_cases hjt : j < S.length
        · obtain ⟨gs, cs, rfl, _, hgs, s0, s1⟩ := fld_own HOW.out hjt (by omega)
          rw [← hbel3.cell (p := ⟨gs, j * 2, none⟩) hgs] at s0
          have f0' := f0
          rw [← hbel3.cell (p := ⟨gf, of_ + k * 2, none⟩) (Nat.lt_of_lt_of_le hgf hbel.size)] at f0'
          obtain ⟨c, hc1, hc2⟩ := name_beq S[j].1 nm
          have HST := Lib.hid (tw_step hjt HBB.out hc2)
          generalize S[j].1 = sn at *
          have v0 : (0 : Int) ≤ (j : Int) := by omega
          have v1 : (j : Int) < (S.length : Int) := by omega
          clear s1 hc2
          cases b with
          | true =>
            go_wp2
            go_region_o
            go_wp2
            go_roundw
            case rel => exact ⟨j + 1, true, by omega, by go_num, rfl, by have := HST.out; simpa using this, hbel3.drew⟩
            case measure => simp [intOf]; omega
          | false =>
            go_wp2
            go_region_o
            go_wp2
            go_roundw
            case rel => exact ⟨j + 1, c, by omega, by go_num, by first | rfl | simp [hc1], by have := HST.out; simpa using this, hbel3.drew⟩
            case measure => simp [intOf]; omega
        · have hjS : j = S.length := by omega
          have HTW := Lib.hid (tw_all (S := S) (nm := nm) (f := b) (by have := HBB.out; rw [hjS] at this; exact this))
          have v1 : ¬ (j : Int) < (S.length : Int) := by omega
          obtain ⟨asl, csl, rfl⟩ := own_len HOW.out
          have HOW3 := Lib.hid (own_below HOW.out hbel3 (Nat.le_refl _))
          have HB3 := Lib.hid (bnx hbel hbel3)
          clear hjS HBB
          cases b with
          | true =>
            go_wp2_with fail
            go_roundw
            case rel => exact ⟨q + 1, S, by omega, by omega, HPRE.out, by go_num, HOW3.out, HB3.out⟩
            case measure => simp [intOf]; omega
          | false =>
            obtain ⟨t1, t2⟩ := pow_bS hB32
            rw [← pow_int] at HSN
            generalize hT : (2 : Int) ^ B = T at *
            have HN2 := Lib.hid (fun w => near_det z2 T hw2 t1 t2 w)
            have HNB := Lib.hid (nearI_bd (n := z2) t1)
            have HNZ := Lib.hid (HSN.out (nearI z2 T) HNB.out.1 HNB.out.2 (fun h => absurd (HTW.out.2 h) (by simp)))
            have hBi : (B : Int) ≤ 32 := by omega
            have hB0 : (0 : Int) ≤ (B : Int) := by omega
            generalize nearI z2 T = r at *
            have g0 := f0
            have g1' := f1
            have g2' := p2
            rw [← hbel3.cell (p := ⟨gf, of_ + k * 2, none⟩) (Nat.lt_of_lt_of_le hgf hbel.size)] at g0
            rw [← hbel3.cell (p := ⟨gf, of_ + k * 2 + 1, none⟩) (Nat.lt_of_lt_of_le hgf hbel.size)] at g1'
            rw [← hbel3.cell (p := ⟨g2, o2 + q, none⟩) (Nat.lt_of_lt_of_le hg2 hbel.size)] at g2'
            have hwt : IntKind.i64.wrap T = T := IntWalk.i64_in _ (by omega)
            have hlq : S.length + 1 ≤ 13 := by omega
            clear p1 p2 f0 f1 hw2 HTW HSN
            go_upto_region 12 with fail
            have hK0 : wr.drew.cell? ⟨gf, of_ + k * 2, none⟩ = some (.string nm) ∧ wr.drew.cell? ⟨gf, of_ + k * 2 + 1, none⟩ = some (.int .i64 (B : Int)) ∧ wr.drew.cell? ⟨g2, o2 + q, none⟩ = some (.int .i64 z2) ∧ Below w.heap.size w wr.drew := ⟨g0, g1', g2', HB3.out.drew⟩
            have hgg : gf < wr.heap.size ∧ g2 < wr.heap.size := ⟨Nat.lt_of_lt_of_le hgf HB3.out.size, Nat.lt_of_lt_of_le hg2 HB3.out.size⟩
            have hbA := (bal (Below.refl wr.heap.size wr) (.cells #[.string nm, .int .i64 r] 49)).drew
            have hK1 : (wr.alloc (.cells #[.string nm, .int .i64 r] 49)).drew.cell? ⟨gf, of_ + k * 2, none⟩ = some (.string nm) ∧ (wr.alloc (.cells #[.string nm, .int .i64 r] 49)).drew.cell? ⟨gf, of_ + k * 2 + 1, none⟩ = some (.int .i64 (B : Int)) ∧ (wr.alloc (.cells #[.string nm, .int .i64 r] 49)).drew.cell? ⟨g2, o2 + q, none⟩ = some (.int .i64 z2) ∧ Below w.heap.size w (wr.alloc (.cells #[.string nm, .int .i64 r] 49)).drew :=
              ⟨by rw [hbA.cell (p := ⟨gf, of_ + k * 2, none⟩) hgg.1]; exact g0, by rw [hbA.cell (p := ⟨gf, of_ + k * 2 + 1, none⟩) hgg.1]; exact g1', by rw [hbA.cell (p := ⟨g2, o2 + q, none⟩) hgg.2]; exact g2', (bal HB3.out _).drew⟩
            go_region_held3 (fun w' => w'.cell? ⟨gf, of_ + k * 2, none⟩ = some (.string nm) ∧ w'.cell? ⟨gf, of_ + k * 2 + 1, none⟩ = some (.int .i64 (B : Int)) ∧ w'.cell? ⟨g2, o2 + q, none⟩ = some (.int .i64 z2) ∧ Below w.heap.size w w')
              (with_reducible (first | assumption | exact hK0 | exact hK1 | exact hK4))
              (first | (go_at_call 11; refine (HN2.out _).mono ?_; rintro e w9 ⟨rfl, rfl⟩) | (refine step_app_set (s0 := nm) (b0 := r) (.tmp 57) (.tmp 75) HOW3.out (by rfl) (by rfl) (by rfl) (by rfl) (by omega) HB3.out.size ?_; intro v1 w6 hown6 hb6; have hK4 : w6.cell? ⟨gf, of_ + k * 2, none⟩ = some (.string nm) ∧ w6.cell? ⟨gf, of_ + k * 2 + 1, none⟩ = some (.int .i64 (B : Int)) ∧ w6.cell? ⟨g2, o2 + q, none⟩ = some (.int .i64 z2) ∧ Below w.heap.size w w6 := ⟨by rw [hb6.cell (p := ⟨gf, of_ + k * 2, none⟩) hgf]; exact g0, by rw [hb6.cell (p := ⟨gf, of_ + k * 2 + 1, none⟩) hgf]; exact g1', by rw [hb6.cell (p := ⟨g2, o2 + q, none⟩) hg2]; exact g2', HB3.out.trans hb6⟩))
            go_wp2_with fail
            go_roundw
            case rel => exact ⟨q + 1, S ++ [(nm, r)], by omega, by rw [List.length_append, List.length_singleton]; omega, HNZ.out, by go_num, by rw [List.length_append, List.length_singleton]; exact hown6, HB3.out.trans hb6⟩
            case measure => simp [intOf]; omega
    · obtain ⟨asl, csl, rfl⟩ := own_len HOW.out
      have HS := Lib.hid (show SetOk l S from ⟨by omega, HPRE.out.1, HPRE.out.2⟩)
      by_cases h1 : (q : Int) < (ws.length : Int)
      · by_cases h2 : (q : Int) < (xs.length : Int)
        · have h3 : ¬ (q : Int) < 12 := fun h3 => hc ⟨by omega, by omega, by omega⟩
          clear hc
          go_wp2_with fail
          go_ret
          exact ⟨S, HS.out, _, rfl, HOW.out, hbel⟩
        · clear hc
          go_wp2_with fail
          go_ret
          exact ⟨S, HS.out, _, rfl, HOW.out, hbel⟩
      · clear hc
        go_wp2_with fail
        go_ret
        exact ⟨S, HS.out, _, rfl, HOW.out, hbel⟩
end Go.Proofs.YtaleaicfllcpiaaDoor.Fl
