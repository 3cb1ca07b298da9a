/- FieldOwn: roomy. -/
import Derived.Test.YtlakglphjhoodaaDoorOc
import Derived.Test.YtlakglphjhoodaaDoorFN
import Derived.BigRegion
namespace Go.Proofs.YtlakglphjhoodaaDoor.Fl
open Go.RowKit Mm Law
set_option linter.unusedSimpArgs false
set_option linter.unusedSectionVars false
set_option linter.unusedVariables false
theorem and1_gen (x : Int) : ∃ m : Nat, m ≤ 1 ∧ bits .and .i64 x 1 = (m : Int) := by
  have e : bits .and .i64 x 1 = IntKind.i64.wrap ((BitVec.ofInt 64 x &&& BitVec.ofInt 64 (1 : Int)).toNat : Int) := rfl
  have e2 : (BitVec.ofInt 64 (1 : Int)).toNat = 1 := by decide
  rw [BitVec.toNat_and, e2, Nat.and_one_is_mod] at e
  exact ⟨_, by have := Nat.mod_lt (BitVec.ofInt 64 x).toNat (show 0 < 2 by decide); omega, e.trans (IntWalk.i64_in _ (by have := Nat.mod_lt (BitVec.ofInt 64 x).toNat (show 0 < 2 by decide); omega))⟩
/-- the two sets that roomy makes: refused just if there is one field alone -/
theorem word_two {l : List Fld} (hl : Lay l) {a b : Nat} (ha : a ≤ 1) (hb : b ≤ 1) (hn : l.length - 1 < l.length) (h0 : 0 < l.length) :
    ((wdA l [(l[l.length - 1].1, (a : Int)), (l[0].1, (b : Int))]).1 = 0 ↔ l.length ≠ 1) := by
  have low : ∀ {k c : Nat}, k < l.length → c ≤ 1 → (c : Int) < ((2 ^ bitsAt l k : Nat) : Int) := fun {k c} hk hc => by
    have h1 := (bitsAt_get hl.wide hk).2.1
    have h2 : 2 ^ 1 ≤ 2 ^ bitsAt l k := Nat.pow_le_pow_right (by decide) h1
    omega
  by_cases h1 : l.length = 1
  · have e0 : l.length - 1 = 0 := by omega
    have hi : idxF l l[0].1 = 0 := lay_idx hl h0
    refine ⟨fun h => ?_, fun h => absurd h1 h⟩
    rw [wd_go (by simp) (by rw [lay_chk hl])] at h
    have hb0 : badW l [] (l[l.length - 1].1, (a : Int)) = 0 := bad_0 (by simp only [e0]; rw [hi]; exact h0) (by simp) (by
      simp only [bitN, e0]
      rw [hi]
      have := low h0 ha
      have := top_pow (bitsAt l 0)
      omega)
    have hb1 : badW l [(l[l.length - 1].1, (a : Int))] (l[0].1, (b : Int)) = 45 := bad_45 (by simp only; rw [hi]; exact h0) ⟨_, List.mem_singleton.2 rfl, by simp only [e0]⟩
    have s0 := wd_ok (l := l) (S := [(l[l.length - 1].1, (a : Int)), (l[0].1, (b : Int))]) (W := List.replicate (widN l) 120) (k := 0) (by simp) hb0
    have s1 := wd_bad (l := l) (S := [(l[l.length - 1].1, (a : Int)), (l[0].1, (b : Int))]) (W := stepW l (List.replicate (widN l) 120) (l[l.length - 1].1, (a : Int))) (k := 1) (by simp) (by show badW l [(l[l.length - 1].1, (a : Int))] (l[0].1, (b : Int)) ≠ 0; rw [hb1]; decide)
    simp only [List.take_zero, List.drop_zero] at s0
    rw [s0] at h
    have s1' := s1.symm.trans rfl |>.symm
    rw [show wdR l (List.take (0 + 1) [(l[l.length - 1].1, (a : Int)), (l[0].1, (b : Int))]) (List.drop (0 + 1) [(l[l.length - 1].1, (a : Int)), (l[0].1, (b : Int))]) (stepW l (List.replicate (widN l) 120) [(l[l.length - 1].1, (a : Int)), (l[0].1, (b : Int))][0]) = _ from s1] at h
    simp only at h
    rw [show badW l (List.take 1 [(l[l.length - 1].1, (a : Int)), (l[0].1, (b : Int))]) [(l[l.length - 1].1, (a : Int)), (l[0].1, (b : Int))][1] = 45 from hb1] at h
    exact absurd h (by decide)
  · refine ⟨fun _ => h1, fun _ => ?_⟩
    rw [wd_word hl ⟨by simp, fun j hj => ?_, fun j hj => ?_⟩]
    · have : j = 0 ∨ j = 1 := by simp at hj; omega
      rcases this with rfl | rfl
      · exact ⟨l.length - 1, hn, rfl, Int.natCast_nonneg _, low hn ha⟩
      · exact ⟨0, h0, rfl, Int.natCast_nonneg _, low h0 hb⟩
    · have : j = 0 ∨ j = 1 := by simp at hj; omega
      rcases this with rfl | rfl
      · simp
      · simp only [List.take_succ_cons, List.take_zero, List.mem_singleton]
        rintro ⟨g, rfl, hg⟩
        have := lay_name hl hn h0 hg
        omega
theorem pack_zero {l : List Fld} (hl : Lay l) : pkE l (List.replicate l.length 0) = 0 := by
  refine (pk_ok (by rw [lay_chk hl]) List.length_replicate fun k hk => ?_).1
  unfold tooB
  have e : valAt (List.replicate l.length 0) k = 0 := by unfold valAt; simp [List.getD_eq_getElem?_getD, hk]
  rw [e]
  omega
theorem info_inV : (Tryd.prog.info? 3).map (fun i => (i.zero, i.size, i.bytes)) = some (some (.int .i64 0), 1, 8) := by kernel_rfl
theorem make_vals (n : Nat) (k : Int) (hk : k = (n : Int)) (h : n ≤ 1000) : ∀ w : World, (Instr.makeSlice 22 (.int .i64 k) (.int .i64 k)).run Tryd.prog w =
    .ok (.slice (some ⟨w.heap.size, 0, none⟩) n n) (w.alloc (.cells (madeCells #[.int .i64 0] n) 3)) := fun w => by
  obtain ⟨i0, hi, hz0, hz1, hz2⟩ := info_parts info_inV
  subst hk
  have h := run_make (P := Tryd.prog) w 22 3 i0 _ Tryd.underlying22 hi hz0 .i64 .i64 (n : Int) (n : Int) (by omega) (Int.le_refl _) (by rw [hz2]; omega) (by omega)
  simpa [hz1, Value.cells] using h
theorem vals_at {n j : Nat} (h : j < n) : (madeCells #[.int .i64 0] n : Array Value)[j]? = some (.int .i64 0) := by
  rw [← Array.getElem?_toList, toList_madeCells_one, List.getElem?_replicate, if_pos h]
theorem vals_low {n j : Nat} (h : j < n) : ((madeCells #[.int .i64 0] (n + 1) : Array Value).setIfInBounds n (.int .i64 77))[j]? = some (.int .i64 0) := by
  rw [Array.getElem?_setIfInBounds_ne (by omega)]
  exact vals_at (by omega)
theorem vals_top {n : Nat} : ((madeCells #[.int .i64 0] (n + 1) : Array Value).setIfInBounds n (.int .i64 77))[n]? = some (.int .i64 77) := by
  rw [Array.getElem?_setIfInBounds_self_of_lt (by rw [size_madeCells]; omega)]
theorem vals_see {X : World} {g n : Nat} (hnn : n ≤ 1000) (h : Blk X g 3 ((madeCells #[.int .i64 0] (n + 1)).setIfInBounds n (.int .i64 77))) (h0 : 0 < n) : SeesS X (.slice (some ⟨g, 0, none⟩) n (n + 1)) 1 n (inC (List.replicate n 0)) := by
  refine ⟨_, n + 1, rfl, (fun h => by cases h), by omega, by unfold maxLen; omega, by simp [inC], .inr ⟨g, 0, rfl, h.lt, fun j u hj => ?_⟩⟩
  have hl := (List.getElem?_eq_some_iff.1 hj).1
  have hl2 : j < n := by simpa [inC] using hl
  rw [Nat.zero_add, h.cell, vals_low hl2]
  have : (inC (List.replicate n 0))[j]? = some (.int .i64 0) := by simp [inC, hl2]
  rw [this] at hj
  exact hj
theorem sets_see {X : World} {g a b : Nat} {n1 n0 : ByteArray} {r0 r1 r2 r3 : Value} (h : Blk X g 60 #[.string n1, .int .i64 (a : Int), .string n0, .int .i64 (b : Int), r0, r1, r2, r3]) :
    ∀ j f, [(n1, (a : Int)), (n0, (b : Int))][j]? = some f → X.cell? ⟨g, 0 + j * 2, none⟩ = some (.string f.1) ∧ X.cell? ⟨g, 0 + (j * 2 + 1), none⟩ = some (.int .i64 f.2) := by
  intro j f hf
  have hj : j = 0 ∨ j = 1 := by have := (List.getElem?_eq_some_iff.1 hf).1; simp at this; omega
  rcases hj with rfl | rfl
  · cases hf; exact ⟨h.cell 0, h.cell 1⟩
  · cases hf; exact ⟨h.cell 2, h.cell 3⟩
theorem sets_wf {a b : Nat} {n1 n0 : ByteArray} (h1 : n1.size ≤ maxLen) (h0 : n0.size ≤ maxLen) (ha : a ≤ 1) (hb : b ≤ 1) : ∀ f ∈ [(n1, (a : Int)), (n0, (b : Int))], f.1.size ≤ maxLen ∧ (Lit.int .i64 f.2).wf = true := by
  intro f hf
  simp only [List.mem_cons, List.not_mem_nil, or_false] at hf
  rcases hf with rfl | rfl
  · exact ⟨h1, wf_nat (by omega)⟩
  · exact ⟨h0, wf_nat (by omega)⟩
theorem set_eql (n : ByteArray) (x : Int) : ∀ W : World, (binOp .eql 60 (.agg #[.string n, .int .i64 x]) (.agg #[.string n, .int .i64 x])).run Tryd.prog W = .ok (.bool true) W := fun W => by
  rw [run_eql_struct]
  simp [go_sem]
theorem two_way {n : Nat} (E : Int) (h : E = 0 ↔ n ≠ 1) : ((E == 0) = true ∧ ((n : Int) == 1) = false) ∨ ((E == 0) = false ∧ ((n : Int) == 1) = true) := by
  by_cases hn : n = 1
  · exact .inr ⟨beq_eq_false_iff_ne.2 (fun e => h.1 e hn), by rw [hn]; rfl⟩
  · exact .inl ⟨by rw [h.2 hn]; rfl, beq_eq_false_iff_ne.2 (by omega)⟩
set_option maxRecDepth 100000 in
theorem make_sets (u : World) : (Instr.makeSlice 58 (.int .i64 0) (.int .i64 4)).run Tryd.prog u = .ok (.slice (some ⟨u.heap.size, 0, none⟩) 0 4) (u.alloc (.cells #[.string ⟨#[]⟩, .int .i64 0, .string ⟨#[]⟩, .int .i64 0, .string ⟨#[]⟩, .int .i64 0, .string ⟨#[]⟩, .int .i64 0] 60)) := by kernel_rfl
set_option maxRecDepth 100000 in
set_option maxHeartbeats 16000000 in
theorem roomy_any (l : List Fld) (hl : Lay l) (v : Value) (o : StepV) (ho : o.wf) (w : World) (hv : SeesF w v l) :
    Calls Tryd.prog 8 #[v, o.val] w fun e w' => e = .returned (.bool true) ∧ Below w.heap.size w w' := by
  obtain ⟨kd, A, B, C, s⟩ := o
  have HV := Lib.hid hv
  have HL := Lib.hid hl
  have h0 := hl.1
  have hl8 := hl.2.1
  have hn : l.length - 1 < l.length := by omega
  obtain ⟨a, ha, hA⟩ := and1_gen A
  obtain ⟨b, hb, hB⟩ := and1_gen B
  have HWD := Lib.hid (word_two hl ha hb hn h0)
  obtain ⟨a0, cap0, rfl, hcap, hcm, hx, hwf⟩ := hv
  have HNM := Lib.hid (show l[l.length - 1].1.size ≤ maxLen ∧ l[0].1.size ≤ maxLen from ⟨(hwf _ (List.getElem_mem hn)).1, (hwf _ (List.getElem_mem h0)).1⟩)
  have HAB := Lib.hid (show a ≤ 1 ∧ b ≤ 1 from ⟨ha, hb⟩)
  have hEB := wdA_form l [(l[l.length - 1].1, (a : Int)), (l[0].1, (b : Int))]
  clear hwf
  obtain ⟨g, off, rfl, hg, hq⟩ : ∃ g off, a0 = some ⟨g, off, none⟩ ∧ g < w.heap.size ∧ ∀ j f, l[j]? = some f → w.cell? ⟨g, off + j * 2, none⟩ = some (.string f.1) ∧ w.cell? ⟨g, off + (j * 2 + 1), none⟩ = some (.int .i64 f.2) := by
    rcases hx with h0' | h0'
    · rw [h0'] at h0; simp at h0
    · exact h0'
  have f0 := (hq (l.length - 1) _ (List.getElem?_eq_getElem hn)).1
  have f1 := (hq 0 _ (List.getElem?_eq_getElem h0)).1
  generalize l[l.length - 1].1 = n1 at *
  generalize l[0].1 = n0 at *
  rw [Nat.zero_mul, Nat.add_zero] at f1
  obtain ⟨N, hN⟩ : ∃ N, l.length = N + 1 := ⟨l.length - 1, by omega⟩
  have hNi : (l.length : Int) - 1 = (N : Int) := by omega
  rw [show l.length - 1 = N by omega] at f0
  have x1 : (0 : Int) ≤ (N : Int) := by omega
  have x2 : (N : Int) < (l.length : Int) := by omega
  have x3 : (0 : Int) < (l.length : Int) := by omega
  have HN := Lib.hid hN
  unfold maxLen at hcm
  clear hx hq hn hN
  show Calls Tryd.prog 8 #[.slice (some ⟨g, off, none⟩) l.length cap0, .agg #[.int .i64 kd, .int .i64 A, .int .i64 B, .int .i64 C, .string s]] w fun e w' => e = .returned (.bool true) ∧ Below w.heap.size w w'
  go_enter Tryd.func8, Tryd.ntmps8
  go_wp2_with fail
  have FF := Lib.hid (show w.cell? ⟨g, off + N * 2, none⟩ = some (.string n1) ∧ w.cell? ⟨g, off, none⟩ = some (.string n0) from ⟨f0, f1⟩)
  have TWO := Lib.hid (fun E h => two_way (n := l.length) E h)
  have HBX := Lib.hid (Blk.new w 30 #[.int .i64 kd, .int .i64 A, .int .i64 B, .int .i64 C, .string s])
  have HB1 : Hid (Below w.heap.size w (w.alloc (.cells #[.int .i64 kd, .int .i64 A, .int .i64 B, .int .i64 C, .string s] 30))) := Lib.hid (bal (Below.refl _ _) _)
  have HG := Lib.hid hg
  rw [← HB1.out.cell (p := ⟨g, off + N * 2, none⟩) hg] at f0
  rw [← HB1.out.cell (p := ⟨g, off, none⟩) hg] at f1
  have hgl := HBX.out.lt
  have hg1 : g < (w.alloc (.cells #[.int .i64 kd, .int .i64 A, .int .i64 B, .int .i64 C, .string s] 30)).heap.size := Nat.lt_of_lt_of_le hg HB1.out.size
  generalize w.alloc (.cells #[.int .i64 kd, .int .i64 A, .int .i64 B, .int .i64 C, .string s] 30) = W1 at *
  generalize hg0 : w.heap.size = g0 at HBX hgl ⊢
  have e1 := HBX.out.cell 1
  have e2 := HBX.out.cell 2
  have hmk := make_sets
  go_region
  · as_aux_lemma =>
    have HBS : Hid (Blk (((W1.alloc (.cells #[.string n1, .int .i64 (a : Int), .string n0, .int .i64 (b : Int), .string ⟨#[114, 111, 111, 109]⟩, .int .i64 77, .string ⟨#[]⟩, .int .i64 0] 60)).alloc (.cells #[.string n1, .int .i64 (a : Int), .string n0, .int .i64 (b : Int), .string ⟨#[114, 111, 111, 109]⟩, .int .i64 77] 60)).drew) (W1.heap.size) 60 #[.string n1, .int .i64 (a : Int), .string n0, .int .i64 (b : Int), .string ⟨#[114, 111, 111, 109]⟩, .int .i64 77, .string ⟨#[]⟩, .int .i64 0]) := Lib.hid (((Blk.new W1 60 #[.string n1, .int .i64 (a : Int), .string n0, .int .i64 (b : Int), .string ⟨#[114, 111, 111, 109]⟩, .int .i64 77, .string ⟨#[]⟩, .int .i64 0]).alloc (.cells #[.string n1, .int .i64 (a : Int), .string n0, .int .i64 (b : Int), .string ⟨#[114, 111, 111, 109]⟩, .int .i64 77] 60)).drew)
    have HBX2 : Hid (Blk (((W1.alloc (.cells #[.string n1, .int .i64 (a : Int), .string n0, .int .i64 (b : Int), .string ⟨#[114, 111, 111, 109]⟩, .int .i64 77, .string ⟨#[]⟩, .int .i64 0] 60)).alloc (.cells #[.string n1, .int .i64 (a : Int), .string n0, .int .i64 (b : Int), .string ⟨#[114, 111, 111, 109]⟩, .int .i64 77] 60)).drew) g0 30 #[.int .i64 kd, .int .i64 A, .int .i64 B, .int .i64 C, .string s]) := Lib.hid (((HBX.out.alloc _).alloc _).drew)
    have HB2 : Hid (Below w.heap.size w (((W1.alloc (.cells #[.string n1, .int .i64 (a : Int), .string n0, .int .i64 (b : Int), .string ⟨#[114, 111, 111, 109]⟩, .int .i64 77, .string ⟨#[]⟩, .int .i64 0] 60)).alloc (.cells #[.string n1, .int .i64 (a : Int), .string n0, .int .i64 (b : Int), .string ⟨#[114, 111, 111, 109]⟩, .int .i64 77] 60)).drew)) := Lib.hid (HB1.out.trans ((bal (bal (Below.refl _ _) _) _).drew.mono HB1.out.size))
    generalize (((W1.alloc (.cells #[.string n1, .int .i64 (a : Int), .string n0, .int .i64 (b : Int), .string ⟨#[114, 111, 111, 109]⟩, .int .i64 77, .string ⟨#[]⟩, .int .i64 0] 60)).alloc (.cells #[.string n1, .int .i64 (a : Int), .string n0, .int .i64 (b : Int), .string ⟨#[114, 111, 111, 109]⟩, .int .i64 77] 60)).drew) = W2 at *
    generalize hgS : W1.heap.size = gS at *
    clear e1 e2 hmk hgS f0 f1 hgl hg1
    have hmk2 := make_vals (l.length + 1) ((l.length : Int) + 1) (by omega) (by omega)
    go_upto_region 3 with fail
    have HV0 := Lib.hid (Blk.new W2 3 (madeCells #[.int .i64 0] (l.length + 1)))
    have HB3 : Hid (Below w.heap.size w (W2.alloc (.cells (madeCells #[.int .i64 0] (l.length + 1)) 3))) := Lib.hid (bal HB2.out _)
    have HBS3 := Lib.hid (HBS.out.alloc (.cells (madeCells #[.int .i64 0] (l.length + 1)) 3))
    have HBX3 := Lib.hid (HBX2.out.alloc (.cells (madeCells #[.int .i64 0] (l.length + 1)) 3))
    have HGV := Lib.hid (show gS < W2.heap.size ∧ g0 < W2.heap.size ∧ w.heap.size ≤ W2.heap.size from ⟨HBS.out.lt, HBX2.out.lt, HB2.out.size⟩)
    generalize W2.alloc (.cells (madeCells #[.int .i64 0] (l.length + 1)) 3) = W3 at *
    generalize hgV : W2.heap.size = gV at HV0 HGV ⊢
    have c0 := HV0.out.cell l.length
    rw [vals_at (by omega)] at c0
    have c1 := HV0.out.frozen l.length
    have c2 := HV0.out.lt
    clear hmk2
    go_upto_region 4 with fail
    have HV4 := Lib.hid (HV0.out.set_ l.length (.int .i64 77))
    have HBS4 := Lib.hid (HBS3.out.far (p := ⟨gV, l.length, none⟩) (by have := HGV.out.1; simp; omega) (.int .i64 77))
    have HBX4 := Lib.hid (HBX3.out.far (p := ⟨gV, l.length, none⟩) (by have := HGV.out.2.1; simp; omega) (.int .i64 77))
    have HB4 := Lib.hid (HB3.out.setCell (p := ⟨gV, l.length, none⟩) (by have := HGV.out.2.2; simp; omega) (.int .i64 77))
    generalize W3.setCell ⟨gV, l.length, none⟩ (.int .i64 77) = W4 at *
    clear c0 c1 c2
    have HSS : Hid (SeesF W4 (.slice (some ⟨gS, 0, none⟩) 2 4) [(n1, (a : Int)), (n0, (b : Int))]) := Lib.hid ⟨_, 4, rfl, by simp, by decide, .inr ⟨gS, 0, rfl, HBS4.out.lt, sets_see HBS4.out⟩, sets_wf HNM.out.1 HNM.out.2 HAB.out.1 HAB.out.2⟩
    have hWD := word_any l _ _ _ W4 (HV.out.below HB4.out) HSS.out
    unfold WdAns at hWD
    generalize (wdA l [(n1, (a : Int)), (n0, (b : Int))]).2 = wt at *
    generalize (wdA l [(n1, (a : Int)), (n0, (b : Int))]).1 = E at *
    have HWA := Lib.hid hWD
    clear hWD
    go_wp2_with fail
    refine (HWA.out).mono ?_
    rintro e W5 ⟨rfl, hb5⟩
    have HV5 := Lib.hid (HV4.out.below hb5 HV4.out.lt)
    have HBS5 := Lib.hid (HBS4.out.below hb5 HBS4.out.lt)
    have HBX5 := Lib.hid (HBX4.out.below hb5 HBX4.out.lt)
    have HB5 := Lib.hid (bnx HB4.out hb5)
    clear hb5 HWA HSS HV4 HBS4 HBX4 HB4
    have HPS : Hid (SeesS W5 (.slice (some ⟨gV, 0, none⟩) l.length (l.length + 1)) 1 l.length (inC (List.replicate l.length 0))) := Lib.hid (vals_see (by omega) HV5.out (by omega))
    have hPK := pack_any l (List.replicate l.length 0) (.slice (some ⟨g, off, none⟩) l.length cap0) (.slice (some ⟨gV, 0, none⟩) l.length (l.length + 1)) W5 (HV.out.below HB5.out) (by rw [List.length_replicate]; exact HPS.out) (by intro z hz; rw [List.eq_of_mem_replicate hz]; rfl)
    unfold PkAns at hPK
    rw [pack_zero HL.out] at hPK
    generalize pkS l (List.replicate l.length 0) = pt at *
    have HPA := Lib.hid hPK
    clear hPK
    go_wp2_with fail
    refine (HPA.out).mono ?_
    rintro e W6 ⟨rfl, hb6⟩
    have HV6 := Lib.hid (HV5.out.below hb6 HV5.out.lt)
    have HBS6 := Lib.hid (HBS5.out.below hb6 HBS5.out.lt)
    have HBX6 := Lib.hid (HBX5.out.below hb6 HBX5.out.lt)
    have HB6 := Lib.hid (bnx HB5.out hb6)
    clear hb6 HPA HPS HV5 HBS5 HBX5 HB5
    go_upto_region 6 with fail
    have s0 := HBS6.out.cell 0
    have s1 := HBS6.out.cell 1
    have s2 := HBS6.out.cell 2
    have s3 := HBS6.out.cell 3
    have sl := HBS6.out.lt
    have z1 := HBX6.out.cell 1
    have z2 := HBX6.out.cell 2
    have zl := HBX6.out.lt
    have f0 := FF.out.1
    have f1 := FF.out.2
    rw [← HB6.out.cell (p := ⟨g, off + N * 2, none⟩) HG.out] at f0
    rw [← HB6.out.cell (p := ⟨g, off, none⟩) HG.out] at f1
    have fl := Nat.lt_of_lt_of_le HG.out HB6.out.size
    have q1 := set_eql n1 (a : Int)
    have q2 := set_eql n0 (b : Int)
    go_quiet (fail)
    clear s0 s1 s2 s3 sl z1 z2 zl f0 f1 fl q1 q2
    obtain ⟨W7, hW7⟩ : ∃ W7, W7 = W6.drewN nq := ⟨_, rfl⟩
    have HV7 : Hid (Blk W7 gV 3 _) := Lib.hid (by rw [hW7]; exact HV6.out.drewN _)
    have HBS7 : Hid (Blk W7 gS 60 _) := Lib.hid (by rw [hW7]; exact HBS6.out.drewN _)
    have HB7 : Hid (Below w.heap.size w W7) := Lib.hid (by rw [hW7]; exact below_drewN HB6.out _)
    rw [← hW7]
    clear hW7
    go_wp2_with fail
    go_loopw [11, 12] (fun ok i wx => ∃ j : Nat, j ≤ l.length ∧ ok = .bool true ∧ i = .int .i64 (j : Int) ∧ wx = W7) (fun _ i _ => l.length - (intOf i).toNat)
    case atStart => exact ⟨0, Nat.zero_le _, rfl, rfl, rfl⟩
    case round =>
      obtain ⟨j, hj, rfl, rfl, rfl⟩ := hrel
      by_cases hlt : j < l.length
      · have i1 : (0 : Int) ≤ (j : Int) := by omega
        have i2 : (j : Int) < (l.length : Int) := by omega
        have i3 : (j : Int) < (l.length : Int) + 1 := by omega
        have c0 := HV7.out.cell j
        rw [vals_low hlt] at c0
        have c2 := HV7.out.lt
        go_wp2_with fail
        go_roundw
        case rel => exact ⟨j + 1, by omega, rfl, by go_num, by first | rfl | trivial⟩
        case measure => simp [intOf]; omega
      · have hnj : ¬ (j : Int) < (l.length : Int) := by omega
        have HNE := Lib.hid (fun w => num_any E w hEB)
        have HN0 := Lib.hid (fun w => num_any 0 w (by decide))
        rcases TWO.out E HWD.out with ⟨hx, hy⟩ | ⟨hx, hy⟩
        all_goals go_upto_region 12 with fail
        all_goals have s4 := HBS7.out.cell 4
        all_goals have s5 := HBS7.out.cell 5
        all_goals have sl := HBS7.out.lt
        all_goals have c0 := HV7.out.cell l.length
        all_goals rw [vals_top] at c0
        all_goals have c2 := HV7.out.lt
        all_goals have i4 : (0 : Int) ≤ (l.length : Int) := by omega
        all_goals have i5 : (l.length : Int) < (l.length : Int) + 1 := by omega
        all_goals clear hnj
        all_goals go_wp2_with fail
        all_goals refine (HNE.out _).mono ?_
        all_goals rintro e x3 ⟨rfl, rfl⟩
        all_goals go_wp2_with fail
        all_goals refine (HN0.out _).mono ?_
        all_goals rintro e x4 ⟨rfl, rfl⟩
        all_goals go_wp2_with fail
        all_goals go_ret
        all_goals exact ⟨rfl, HB7.out⟩
  · as_aux_lemma =>
    have HBS : Hid (Blk (((W1.alloc (.cells #[.string n1, .int .i64 (a : Int), .string n0, .int .i64 (b : Int), .string ⟨#[114, 111, 111, 109]⟩, .int .i64 77] 60)).alloc (.cells #[.string n1, .int .i64 (a : Int), .string n0, .int .i64 (b : Int), .string ⟨#[114, 111, 111, 109]⟩, .int .i64 77, .string ⟨#[]⟩, .int .i64 0] 60)).drew) (W1.heap.size + 1) 60 #[.string n1, .int .i64 (a : Int), .string n0, .int .i64 (b : Int), .string ⟨#[114, 111, 111, 109]⟩, .int .i64 77, .string ⟨#[]⟩, .int .i64 0]) := Lib.hid ((by have := Blk.new (W1.alloc (.cells #[.string n1, .int .i64 (a : Int), .string n0, .int .i64 (b : Int), .string ⟨#[114, 111, 111, 109]⟩, .int .i64 77] 60)) 60 #[.string n1, .int .i64 (a : Int), .string n0, .int .i64 (b : Int), .string ⟨#[114, 111, 111, 109]⟩, .int .i64 77, .string ⟨#[]⟩, .int .i64 0]; simpa using this : Blk ((W1.alloc (.cells #[.string n1, .int .i64 (a : Int), .string n0, .int .i64 (b : Int), .string ⟨#[114, 111, 111, 109]⟩, .int .i64 77] 60)).alloc (.cells #[.string n1, .int .i64 (a : Int), .string n0, .int .i64 (b : Int), .string ⟨#[114, 111, 111, 109]⟩, .int .i64 77, .string ⟨#[]⟩, .int .i64 0] 60)) (W1.heap.size + 1) 60 #[.string n1, .int .i64 (a : Int), .string n0, .int .i64 (b : Int), .string ⟨#[114, 111, 111, 109]⟩, .int .i64 77, .string ⟨#[]⟩, .int .i64 0]).drew)
    have HBX2 : Hid (Blk (((W1.alloc (.cells #[.string n1, .int .i64 (a : Int), .string n0, .int .i64 (b : Int), .string ⟨#[114, 111, 111, 109]⟩, .int .i64 77] 60)).alloc (.cells #[.string n1, .int .i64 (a : Int), .string n0, .int .i64 (b : Int), .string ⟨#[114, 111, 111, 109]⟩, .int .i64 77, .string ⟨#[]⟩, .int .i64 0] 60)).drew) g0 30 #[.int .i64 kd, .int .i64 A, .int .i64 B, .int .i64 C, .string s]) := Lib.hid (((HBX.out.alloc _).alloc _).drew)
    have HB2 : Hid (Below w.heap.size w (((W1.alloc (.cells #[.string n1, .int .i64 (a : Int), .string n0, .int .i64 (b : Int), .string ⟨#[114, 111, 111, 109]⟩, .int .i64 77] 60)).alloc (.cells #[.string n1, .int .i64 (a : Int), .string n0, .int .i64 (b : Int), .string ⟨#[114, 111, 111, 109]⟩, .int .i64 77, .string ⟨#[]⟩, .int .i64 0] 60)).drew)) := Lib.hid (HB1.out.trans ((bal (bal (Below.refl _ _) _) _).drew.mono HB1.out.size))
    generalize (((W1.alloc (.cells #[.string n1, .int .i64 (a : Int), .string n0, .int .i64 (b : Int), .string ⟨#[114, 111, 111, 109]⟩, .int .i64 77] 60)).alloc (.cells #[.string n1, .int .i64 (a : Int), .string n0, .int .i64 (b : Int), .string ⟨#[114, 111, 111, 109]⟩, .int .i64 77, .string ⟨#[]⟩, .int .i64 0] 60)).drew) = W2 at *
    generalize hgS : W1.heap.size + 1 = gS at *
    clear e1 e2 hmk hgS f0 f1 hgl hg1
    have hmk2 := make_vals (l.length + 1) ((l.length : Int) + 1) (by omega) (by omega)
    go_upto_region 3 with fail
    have HV0 := Lib.hid (Blk.new W2 3 (madeCells #[.int .i64 0] (l.length + 1)))
    have HB3 : Hid (Below w.heap.size w (W2.alloc (.cells (madeCells #[.int .i64 0] (l.length + 1)) 3))) := Lib.hid (bal HB2.out _)
    have HBS3 := Lib.hid (HBS.out.alloc (.cells (madeCells #[.int .i64 0] (l.length + 1)) 3))
    have HBX3 := Lib.hid (HBX2.out.alloc (.cells (madeCells #[.int .i64 0] (l.length + 1)) 3))
    have HGV := Lib.hid (show gS < W2.heap.size ∧ g0 < W2.heap.size ∧ w.heap.size ≤ W2.heap.size from ⟨HBS.out.lt, HBX2.out.lt, HB2.out.size⟩)
    generalize W2.alloc (.cells (madeCells #[.int .i64 0] (l.length + 1)) 3) = W3 at *
    generalize hgV : W2.heap.size = gV at HV0 HGV ⊢
    have c0 := HV0.out.cell l.length
    rw [vals_at (by omega)] at c0
    have c1 := HV0.out.frozen l.length
    have c2 := HV0.out.lt
    clear hmk2
    go_upto_region 4 with fail
    have HV4 := Lib.hid (HV0.out.set_ l.length (.int .i64 77))
    have HBS4 := Lib.hid (HBS3.out.far (p := ⟨gV, l.length, none⟩) (by have := HGV.out.1; simp; omega) (.int .i64 77))
    have HBX4 := Lib.hid (HBX3.out.far (p := ⟨gV, l.length, none⟩) (by have := HGV.out.2.1; simp; omega) (.int .i64 77))
    have HB4 := Lib.hid (HB3.out.setCell (p := ⟨gV, l.length, none⟩) (by have := HGV.out.2.2; simp; omega) (.int .i64 77))
    generalize W3.setCell ⟨gV, l.length, none⟩ (.int .i64 77) = W4 at *
    clear c0 c1 c2
    have HSS : Hid (SeesF W4 (.slice (some ⟨gS, 0, none⟩) 2 4) [(n1, (a : Int)), (n0, (b : Int))]) := Lib.hid ⟨_, 4, rfl, by simp, by decide, .inr ⟨gS, 0, rfl, HBS4.out.lt, sets_see HBS4.out⟩, sets_wf HNM.out.1 HNM.out.2 HAB.out.1 HAB.out.2⟩
    have hWD := word_any l _ _ _ W4 (HV.out.below HB4.out) HSS.out
    unfold WdAns at hWD
    generalize (wdA l [(n1, (a : Int)), (n0, (b : Int))]).2 = wt at *
    generalize (wdA l [(n1, (a : Int)), (n0, (b : Int))]).1 = E at *
    have HWA := Lib.hid hWD
    clear hWD
    go_wp2_with fail
    refine (HWA.out).mono ?_
    rintro e W5 ⟨rfl, hb5⟩
    have HV5 := Lib.hid (HV4.out.below hb5 HV4.out.lt)
    have HBS5 := Lib.hid (HBS4.out.below hb5 HBS4.out.lt)
    have HBX5 := Lib.hid (HBX4.out.below hb5 HBX4.out.lt)
    have HB5 := Lib.hid (bnx HB4.out hb5)
    clear hb5 HWA HSS HV4 HBS4 HBX4 HB4
    have HPS : Hid (SeesS W5 (.slice (some ⟨gV, 0, none⟩) l.length (l.length + 1)) 1 l.length (inC (List.replicate l.length 0))) := Lib.hid (vals_see (by omega) HV5.out (by omega))
    have hPK := pack_any l (List.replicate l.length 0) (.slice (some ⟨g, off, none⟩) l.length cap0) (.slice (some ⟨gV, 0, none⟩) l.length (l.length + 1)) W5 (HV.out.below HB5.out) (by rw [List.length_replicate]; exact HPS.out) (by intro z hz; rw [List.eq_of_mem_replicate hz]; rfl)
    unfold PkAns at hPK
    rw [pack_zero HL.out] at hPK
    generalize pkS l (List.replicate l.length 0) = pt at *
    have HPA := Lib.hid hPK
    clear hPK
    go_wp2_with fail
    refine (HPA.out).mono ?_
    rintro e W6 ⟨rfl, hb6⟩
    have HV6 := Lib.hid (HV5.out.below hb6 HV5.out.lt)
    have HBS6 := Lib.hid (HBS5.out.below hb6 HBS5.out.lt)
    have HBX6 := Lib.hid (HBX5.out.below hb6 HBX5.out.lt)
    have HB6 := Lib.hid (bnx HB5.out hb6)
    clear hb6 HPA HPS HV5 HBS5 HBX5 HB5
    go_upto_region 6 with fail
    have s0 := HBS6.out.cell 0
    have s1 := HBS6.out.cell 1
    have s2 := HBS6.out.cell 2
    have s3 := HBS6.out.cell 3
    have sl := HBS6.out.lt
    have z1 := HBX6.out.cell 1
    have z2 := HBX6.out.cell 2
    have zl := HBX6.out.lt
    have f0 := FF.out.1
    have f1 := FF.out.2
    rw [← HB6.out.cell (p := ⟨g, off + N * 2, none⟩) HG.out] at f0
    rw [← HB6.out.cell (p := ⟨g, off, none⟩) HG.out] at f1
    have fl := Nat.lt_of_lt_of_le HG.out HB6.out.size
    have q1 := set_eql n1 (a : Int)
    have q2 := set_eql n0 (b : Int)
    go_quiet (fail)
    clear s0 s1 s2 s3 sl z1 z2 zl f0 f1 fl q1 q2
    obtain ⟨W7, hW7⟩ : ∃ W7, W7 = W6.drewN nq := ⟨_, rfl⟩
    have HV7 : Hid (Blk W7 gV 3 _) := Lib.hid (by rw [hW7]; exact HV6.out.drewN _)
    have HBS7 : Hid (Blk W7 gS 60 _) := Lib.hid (by rw [hW7]; exact HBS6.out.drewN _)
    have HB7 : Hid (Below w.heap.size w W7) := Lib.hid (by rw [hW7]; exact below_drewN HB6.out _)
    rw [← hW7]
    clear hW7
    go_wp2_with fail
    go_loopw [11, 12] (fun ok i wx => ∃ j : Nat, j ≤ l.length ∧ ok = .bool true ∧ i = .int .i64 (j : Int) ∧ wx = W7) (fun _ i _ => l.length - (intOf i).toNat)
    case atStart => exact ⟨0, Nat.zero_le _, rfl, rfl, rfl⟩
    case round =>
      obtain ⟨j, hj, rfl, rfl, rfl⟩ := hrel
      by_cases hlt : j < l.length
      · have i1 : (0 : Int) ≤ (j : Int) := by omega
        have i2 : (j : Int) < (l.length : Int) := by omega
        have i3 : (j : Int) < (l.length : Int) + 1 := by omega
        have c0 := HV7.out.cell j
        rw [vals_low hlt] at c0
        have c2 := HV7.out.lt
        go_wp2_with fail
        go_roundw
        case rel => exact ⟨j + 1, by omega, rfl, by go_num, by first | rfl | trivial⟩
        case measure => simp [intOf]; omega
      · have hnj : ¬ (j : Int) < (l.length : Int) := by omega
        have HNE := Lib.hid (fun w => num_any E w hEB)
        have HN0 := Lib.hid (fun w => num_any 0 w (by decide))
        rcases TWO.out E HWD.out with ⟨hx, hy⟩ | ⟨hx, hy⟩
        all_goals go_upto_region 12 with fail
        all_goals have s4 := HBS7.out.cell 4
        all_goals have s5 := HBS7.out.cell 5
        all_goals have sl := HBS7.out.lt
        all_goals have c0 := HV7.out.cell l.length
        all_goals rw [vals_top] at c0
        all_goals have c2 := HV7.out.lt
        all_goals have i4 : (0 : Int) ≤ (l.length : Int) := by omega
        all_goals have i5 : (l.length : Int) < (l.length : Int) + 1 := by omega
        all_goals clear hnj
        all_goals go_wp2_with fail
        all_goals refine (HNE.out _).mono ?_
        all_goals rintro e x3 ⟨rfl, rfl⟩
        all_goals go_wp2_with fail
        all_goals refine (HN0.out _).mono ?_
        all_goals rintro e x4 ⟨rfl, rfl⟩
        all_goals go_wp2_with fail
        all_goals go_ret
        all_goals exact ⟨rfl, HB7.out⟩
end Go.Proofs.YtlakglphjhoodaaDoor.Fl
