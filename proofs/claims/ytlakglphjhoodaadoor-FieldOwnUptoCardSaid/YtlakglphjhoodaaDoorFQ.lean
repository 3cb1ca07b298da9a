/- Merged for FieldOwn -/
import Derived.Test.YtlakglphjhoodaaDoorFL
import Derived.Test.YtlakglphjhoodaaDoorFK
import Derived.RegionTactic
namespace Go.Proofs.YtlakglphjhoodaaDoor.Fl
open Go.RowKit Mm Law
set_option linter.unusedSimpArgs false
set_option linter.unusedSectionVars false
set_option linter.unusedVariables false
def TAns (w : World) (b : Nat) (nm : ByteArray) (e : Ending) (w' : World) : Prop := ∃ T, e = .returned T.val ∧ Good b T ∧ T.nm = nm ∧ Below w.heap.size w w'
theorem t_ans {w : World} {b : Nat} {nm : ByteArray} {T : Tst} (h : Good b T) (h2 : T.nm = nm) {w' : World} (hb : Below w.heap.size w w') : TAns w b nm (.returned T.val) w' := ⟨T, rfl, h, h2, hb⟩
theorem cut_low {L m b : Nat} (hL : L ≤ topN b) : L / 2 ^ m * 2 ^ m ≤ topN b ∧ L / 2 ^ m * 2 ^ m % 2 ^ m = 0 := ⟨Nat.le_trans (Nat.div_mul_le_self _ _) hL, Nat.mul_mod_left _ _⟩
set_option maxRecDepth 100000 in
set_option maxHeartbeats 16000000 in
theorem tst_A (l : List Fld) (v : Value) (k b : Nat) (hk : k < l.length) (hb : b ≤ 32) (hbk : l[k].2 = (b : Int)) (op form lo hi n : Int) (hw1 : (Lit.int .i64 op).wf = true) (hw2 : (Lit.int .i64 form).wf = true) (hw3 : (Lit.int .i64 lo).wf = true) (hw4 : (Lit.int .i64 hi).wf = true) (hw5 : (Lit.int .i64 n).wf = true) (s : ByteArray) (hsm : s.size ≤ maxLen) (w : World) (hv : SeesF w v l)
    (A F : Int) (hA : 1 + nearI op 6 = A) (hF : 1 + nearI form 4 = F) (L U : Nat) (hL : nearI lo (2 ^ b) = (L : Int)) (hU : nearI hi (2 ^ b) = (U : Int)) (hA3 : 2 < A) :
    Calls Tryd.prog 17 #[v, .int .i64 (k : Int), .int .i64 op, .int .i64 form, .int .i64 lo, .int .i64 hi, .int .i64 n, .string s] w (TAns w b l[k].1) := by
  obtain ⟨a0, cap0, rfl, hcap, hcm, hx, _⟩ := hv
  obtain ⟨g, off, rfl, hg, hq⟩ : ∃ g off, a0 = some ⟨g, off, none⟩ ∧ g < w.heap.size ∧ ∀ j f, l[j]? = some f → w.cell? ⟨g, off + j * 2, none⟩ = some (.string f.1) ∧ w.cell? ⟨g, off + (j * 2 + 1), none⟩ = some (.int .i64 f.2) := by
    rcases hx with h0 | h0
    · rw [h0] at hk; simp at hk
    · exact h0
  unfold maxLen at hcm
  have f0 := (hq k l[k] (by simp [hk])).1
  have f1 := (hq k l[k] (by simp [hk])).2
  rw [hbk, ← Nat.add_assoc] at f1
  have n1 := nearI_bd (n := op) (m := 6) (by decide)
  have n2 := nearI_bd (n := form) (m := 4) (by decide)
  have H1 := Lib.hid (fun w => near_det op 6 hw1 (by decide) (by decide) w)
  have H2 := Lib.hid (fun w => near_det form 4 hw2 (by decide) (by decide) w)
  generalize nearI op 6 = r1 at *
  generalize nearI form 4 = r2 at *
  generalize l[k].1 = nm at *
  have x0 : (0 : Int) ≤ (k : Int) := by omega
  have x1 : (k : Int) < (l.length : Int) := by omega
  have y1 : IntKind.i64.wrap (1 + r1) = A := by rw [hA]; exact IntWalk.i64_in _ (by omega)
  have y2 : IntKind.i64.wrap (1 + r2) = F := by rw [hF]; exact IntWalk.i64_in _ (by omega)
  have hAb : 1 ≤ A ∧ A ≤ 6 := by omega
  obtain ⟨t1, t2⟩ := pow_bS hb
  have b3 := nearI_bd (n := lo) t1
  have b4 := nearI_bd (n := hi) t1
  have htb := top_lt b hb
  have hLt : L ≤ topN b := by have := b3.2; rw [hL, pow_int] at this; omega
  have hUt : U ≤ topN b := by have := b4.2; rw [hU, pow_int] at this; omega
  have hL32 : L ≤ 4294967296 := by omega
  generalize hT : (2 : Int) ^ b = T at *
  have H3 := Lib.hid (fun w => near_det lo T hw3 t1 t2 w)
  have H4 := Lib.hid (fun w => near_det hi T hw4 t1 t2 w)
  rw [hL] at H3
  rw [hU] at H4
  have hwt : IntKind.i64.wrap T = T := IntWalk.i64_in _ (by omega)
  have hb0 : (0 : Int) ≤ (b : Int) := by omega
  have hb1 : (b : Int) ≤ 32 := by omega
  have hab1 := hAb.1
  have hab2 := hAb.2
  clear hq hbk hA hF n1 n2 hL hU b3 b4 htb hAb
  go_enter Tryd.func17, Tryd.ntmps17
  go_wp2_with fail
  have hK0 : (w.alloc (.cells #[.string ⟨#[]⟩, .int .i64 0, .int .i64 0, .int .i64 0, .int .i64 0, .int .i64 0, .string ⟨#[]⟩] 51)).drew.cell? ⟨g, off + k * 2, none⟩ = some (.string nm) ∧ Below w.heap.size w (w.alloc (.cells #[.string ⟨#[]⟩, .int .i64 0, .int .i64 0, .int .i64 0, .int .i64 0, .int .i64 0, .string ⟨#[]⟩] 51)).drew := ⟨((bal (Below.refl w.heap.size w) _).drew.cell (p := ⟨g, off + k * 2, none⟩) hg).trans f0, (bal (Below.refl _ _) _).drew⟩
  have hK1 : ((w.alloc (.cells #[.string ⟨#[]⟩, .int .i64 0, .int .i64 0, .int .i64 0, .int .i64 0, .int .i64 0, .string ⟨#[]⟩] 51)).alloc (.cells #[.string ⟨#[]⟩, .int .i64 0, .int .i64 0, .int .i64 0, .int .i64 0, .int .i64 0, .string ⟨#[]⟩] 51)).drew.cell? ⟨g, off + k * 2, none⟩ = some (.string nm) ∧ Below w.heap.size w ((w.alloc (.cells #[.string ⟨#[]⟩, .int .i64 0, .int .i64 0, .int .i64 0, .int .i64 0, .int .i64 0, .string ⟨#[]⟩] 51)).alloc (.cells #[.string ⟨#[]⟩, .int .i64 0, .int .i64 0, .int .i64 0, .int .i64 0, .int .i64 0, .string ⟨#[]⟩] 51)).drew := ⟨((bal (bal (Below.refl w.heap.size w) _) _).drew.cell (p := ⟨g, off + k * 2, none⟩) hg).trans f0, (bal (bal (Below.refl _ _) _) _).drew⟩
  have hK2 : ((w.alloc (.cells #[.string ⟨#[]⟩, .int .i64 0, .int .i64 0, .int .i64 0, .int .i64 0, .int .i64 0, .string ⟨#[]⟩] 51)).alloc (.cells #[.string nm, .int .i64 A, .int .i64 F, .int .i64 0, .int .i64 0, .int .i64 0, .string ⟨#[]⟩] 51)).drew.cell? ⟨g, off + k * 2, none⟩ = some (.string nm) ∧ Below w.heap.size w ((w.alloc (.cells #[.string ⟨#[]⟩, .int .i64 0, .int .i64 0, .int .i64 0, .int .i64 0, .int .i64 0, .string ⟨#[]⟩] 51)).alloc (.cells #[.string nm, .int .i64 A, .int .i64 F, .int .i64 0, .int .i64 0, .int .i64 0, .string ⟨#[]⟩] 51)).drew := ⟨((bal (bal (Below.refl w.heap.size w) _) _).drew.cell (p := ⟨g, off + k * 2, none⟩) hg).trans f0, (bal (bal (Below.refl _ _) _) _).drew⟩
  go_region_held3 (fun w' => w'.cell? ⟨g, off + k * 2, none⟩ = some (.string nm) ∧ Below w.heap.size w w')
    (with_reducible (first | assumption | exact hK0 | exact hK1 | exact hK2 | fail))
    (first | (go_at_call 14; (with_reducible refine (H1.out _).mono ?_); rintro e w9 ⟨rfl, rfl⟩) | (go_at_call 14; (with_reducible refine (H2.out _).mono ?_); rintro e w8 ⟨rfl, rfl⟩) | fail)
  all_goals clear hK0 hK1 hK2
  all_goals go_wp2_with fail
  all_goals refine (H3.out _).mono ?_
  all_goals rintro e w7 ⟨rfl, rfl⟩
  all_goals go_wp2_with fail
  all_goals refine (H4.out _).mono ?_
  all_goals rintro e w6 ⟨rfl, rfl⟩
  all_goals go_wp2_with fail
  all_goals refine bodyPost_ret (v := .agg #[.string nm, .int .i64 A, .int .i64 1, .int .i64 (L : Int), .int .i64 0, .int .i64 0, .string ⟨#[]⟩]) (by simp [results, Tryd.results17, go_sem]) rfl (t_ans (T := ⟨nm, A, 1, (L : Int), 0, 0, ⟨#[]⟩⟩) (.num nm A L (by omega) (by omega) hLt) rfl (bal (bal (Below.refl _ _) _) _).drew)
set_option maxRecDepth 100000 in
set_option maxHeartbeats 16000000 in
theorem tst_B1 (l : List Fld) (v : Value) (k b : Nat) (hk : k < l.length) (hb : b ≤ 32) (hbk : l[k].2 = (b : Int)) (op form lo hi n : Int) (hw1 : (Lit.int .i64 op).wf = true) (hw2 : (Lit.int .i64 form).wf = true) (hw3 : (Lit.int .i64 lo).wf = true) (hw4 : (Lit.int .i64 hi).wf = true) (hw5 : (Lit.int .i64 n).wf = true) (s : ByteArray) (hsm : s.size ≤ maxLen) (w : World) (hv : SeesF w v l)
    (A F : Int) (hA : 1 + nearI op 6 = A) (hF : 1 + nearI form 4 = 1) (L U : Nat) (hL : nearI lo (2 ^ b) = (L : Int)) (hU : nearI hi (2 ^ b) = (U : Int)) (hA3 : A ≤ 2) :
    Calls Tryd.prog 17 #[v, .int .i64 (k : Int), .int .i64 op, .int .i64 form, .int .i64 lo, .int .i64 hi, .int .i64 n, .string s] w (TAns w b l[k].1) := by
  obtain ⟨a0, cap0, rfl, hcap, hcm, hx, _⟩ := hv
  obtain ⟨g, off, rfl, hg, hq⟩ : ∃ g off, a0 = some ⟨g, off, none⟩ ∧ g < w.heap.size ∧ ∀ j f, l[j]? = some f → w.cell? ⟨g, off + j * 2, none⟩ = some (.string f.1) ∧ w.cell? ⟨g, off + (j * 2 + 1), none⟩ = some (.int .i64 f.2) := by
    rcases hx with h0 | h0
    · rw [h0] at hk; simp at hk
    · exact h0
  unfold maxLen at hcm
  have f0 := (hq k l[k] (by simp [hk])).1
  have f1 := (hq k l[k] (by simp [hk])).2
  rw [hbk, ← Nat.add_assoc] at f1
  have n1 := nearI_bd (n := op) (m := 6) (by decide)
  have n2 := nearI_bd (n := form) (m := 4) (by decide)
  have H1 := Lib.hid (fun w => near_det op 6 hw1 (by decide) (by decide) w)
  have H2 := Lib.hid (fun w => near_det form 4 hw2 (by decide) (by decide) w)
  generalize nearI op 6 = r1 at *
  generalize nearI form 4 = r2 at *
  generalize l[k].1 = nm at *
  have x0 : (0 : Int) ≤ (k : Int) := by omega
  have x1 : (k : Int) < (l.length : Int) := by omega
  have y1 : IntKind.i64.wrap (1 + r1) = A := by rw [hA]; exact IntWalk.i64_in _ (by omega)
  have y2 : IntKind.i64.wrap (1 + r2) = 1 := by rw [hF]; exact IntWalk.i64_in _ (by omega)
  have hAb : 1 ≤ A ∧ A ≤ 6 := by omega
  obtain ⟨t1, t2⟩ := pow_bS hb
  have b3 := nearI_bd (n := lo) t1
  have b4 := nearI_bd (n := hi) t1
  have htb := top_lt b hb
  have hLt : L ≤ topN b := by have := b3.2; rw [hL, pow_int] at this; omega
  have hUt : U ≤ topN b := by have := b4.2; rw [hU, pow_int] at this; omega
  have hL32 : L ≤ 4294967296 := by omega
  generalize hT : (2 : Int) ^ b = T at *
  have H3 := Lib.hid (fun w => near_det lo T hw3 t1 t2 w)
  have H4 := Lib.hid (fun w => near_det hi T hw4 t1 t2 w)
  rw [hL] at H3
  rw [hU] at H4
  have hwt : IntKind.i64.wrap T = T := IntWalk.i64_in _ (by omega)
  have hb0 : (0 : Int) ≤ (b : Int) := by omega
  have hb1 : (b : Int) ≤ 32 := by omega
  have hab1 := hAb.1
  have hab2 := hAb.2
  clear hq hbk hA hF n1 n2 hL hU b3 b4 htb hAb
  go_enter Tryd.func17, Tryd.ntmps17
  go_wp2_with fail
  have hK0 : (w.alloc (.cells #[.string ⟨#[]⟩, .int .i64 0, .int .i64 0, .int .i64 0, .int .i64 0, .int .i64 0, .string ⟨#[]⟩] 51)).drew.cell? ⟨g, off + k * 2, none⟩ = some (.string nm) ∧ Below w.heap.size w (w.alloc (.cells #[.string ⟨#[]⟩, .int .i64 0, .int .i64 0, .int .i64 0, .int .i64 0, .int .i64 0, .string ⟨#[]⟩] 51)).drew := ⟨((bal (Below.refl w.heap.size w) _).drew.cell (p := ⟨g, off + k * 2, none⟩) hg).trans f0, (bal (Below.refl _ _) _).drew⟩
  have hK1 : ((w.alloc (.cells #[.string ⟨#[]⟩, .int .i64 0, .int .i64 0, .int .i64 0, .int .i64 0, .int .i64 0, .string ⟨#[]⟩] 51)).alloc (.cells #[.string ⟨#[]⟩, .int .i64 0, .int .i64 0, .int .i64 0, .int .i64 0, .int .i64 0, .string ⟨#[]⟩] 51)).drew.cell? ⟨g, off + k * 2, none⟩ = some (.string nm) ∧ Below w.heap.size w ((w.alloc (.cells #[.string ⟨#[]⟩, .int .i64 0, .int .i64 0, .int .i64 0, .int .i64 0, .int .i64 0, .string ⟨#[]⟩] 51)).alloc (.cells #[.string ⟨#[]⟩, .int .i64 0, .int .i64 0, .int .i64 0, .int .i64 0, .int .i64 0, .string ⟨#[]⟩] 51)).drew := ⟨((bal (bal (Below.refl w.heap.size w) _) _).drew.cell (p := ⟨g, off + k * 2, none⟩) hg).trans f0, (bal (bal (Below.refl _ _) _) _).drew⟩
  have hK2 : ((w.alloc (.cells #[.string ⟨#[]⟩, .int .i64 0, .int .i64 0, .int .i64 0, .int .i64 0, .int .i64 0, .string ⟨#[]⟩] 51)).alloc (.cells #[.string nm, .int .i64 A, .int .i64 1, .int .i64 0, .int .i64 0, .int .i64 0, .string ⟨#[]⟩] 51)).drew.cell? ⟨g, off + k * 2, none⟩ = some (.string nm) ∧ Below w.heap.size w ((w.alloc (.cells #[.string ⟨#[]⟩, .int .i64 0, .int .i64 0, .int .i64 0, .int .i64 0, .int .i64 0, .string ⟨#[]⟩] 51)).alloc (.cells #[.string nm, .int .i64 A, .int .i64 1, .int .i64 0, .int .i64 0, .int .i64 0, .string ⟨#[]⟩] 51)).drew := ⟨((bal (bal (Below.refl w.heap.size w) _) _).drew.cell (p := ⟨g, off + k * 2, none⟩) hg).trans f0, (bal (bal (Below.refl _ _) _) _).drew⟩
  go_region_held3 (fun w' => w'.cell? ⟨g, off + k * 2, none⟩ = some (.string nm) ∧ Below w.heap.size w w')
    (with_reducible (first | assumption | exact hK0 | exact hK1 | exact hK2 | fail))
    (first | (go_at_call 14; (with_reducible refine (H1.out _).mono ?_); rintro e w9 ⟨rfl, rfl⟩) | (go_at_call 14; (with_reducible refine (H2.out _).mono ?_); rintro e w8 ⟨rfl, rfl⟩) | fail)
  all_goals clear hK0 hK1 hK2
  all_goals go_wp2_with fail
  all_goals refine (H3.out _).mono ?_
  all_goals rintro e w7 ⟨rfl, rfl⟩
  all_goals go_wp2_with fail
  all_goals refine (H4.out _).mono ?_
  all_goals rintro e w6 ⟨rfl, rfl⟩
  all_goals go_wp2_with fail
  all_goals refine bodyPost_ret (v := .agg #[.string nm, .int .i64 A, .int .i64 1, .int .i64 (L : Int), .int .i64 0, .int .i64 0, .string ⟨#[]⟩]) (by simp [results, Tryd.results17, go_sem]) rfl (t_ans (T := ⟨nm, A, 1, (L : Int), 0, 0, ⟨#[]⟩⟩) (.num nm A L (by omega) (by omega) hLt) rfl (bal (bal (Below.refl _ _) _) _).drew)
set_option maxRecDepth 100000 in
set_option maxHeartbeats 16000000 in
theorem tst_B3 (l : List Fld) (v : Value) (k b : Nat) (hk : k < l.length) (hb : b ≤ 32) (hbk : l[k].2 = (b : Int)) (op form lo hi n : Int) (hw1 : (Lit.int .i64 op).wf = true) (hw2 : (Lit.int .i64 form).wf = true) (hw3 : (Lit.int .i64 lo).wf = true) (hw4 : (Lit.int .i64 hi).wf = true) (hw5 : (Lit.int .i64 n).wf = true) (s : ByteArray) (hsm : s.size ≤ maxLen) (w : World) (hv : SeesF w v l)
    (A F : Int) (hA : 1 + nearI op 6 = A) (hF : 1 + nearI form 4 = 3) (L U : Nat) (hL : nearI lo (2 ^ b) = (L : Int)) (hU : nearI hi (2 ^ b) = (U : Int)) (hA3 : A ≤ 2) (hLU : L ≤ U) :
    Calls Tryd.prog 17 #[v, .int .i64 (k : Int), .int .i64 op, .int .i64 form, .int .i64 lo, .int .i64 hi, .int .i64 n, .string s] w (TAns w b l[k].1) := by
  obtain ⟨a0, cap0, rfl, hcap, hcm, hx, _⟩ := hv
  obtain ⟨g, off, rfl, hg, hq⟩ : ∃ g off, a0 = some ⟨g, off, none⟩ ∧ g < w.heap.size ∧ ∀ j f, l[j]? = some f → w.cell? ⟨g, off + j * 2, none⟩ = some (.string f.1) ∧ w.cell? ⟨g, off + (j * 2 + 1), none⟩ = some (.int .i64 f.2) := by
    rcases hx with h0 | h0
    · rw [h0] at hk; simp at hk
    · exact h0
  unfold maxLen at hcm
  have f0 := (hq k l[k] (by simp [hk])).1
  have f1 := (hq k l[k] (by simp [hk])).2
  rw [hbk, ← Nat.add_assoc] at f1
  have n1 := nearI_bd (n := op) (m := 6) (by decide)
  have n2 := nearI_bd (n := form) (m := 4) (by decide)
  have H1 := Lib.hid (fun w => near_det op 6 hw1 (by decide) (by decide) w)
  have H2 := Lib.hid (fun w => near_det form 4 hw2 (by decide) (by decide) w)
  generalize nearI op 6 = r1 at *
  generalize nearI form 4 = r2 at *
  generalize l[k].1 = nm at *
  have x0 : (0 : Int) ≤ (k : Int) := by omega
  have x1 : (k : Int) < (l.length : Int) := by omega
  have y1 : IntKind.i64.wrap (1 + r1) = A := by rw [hA]; exact IntWalk.i64_in _ (by omega)
  have y2 : IntKind.i64.wrap (1 + r2) = 3 := by rw [hF]; exact IntWalk.i64_in _ (by omega)
  have hAb : 1 ≤ A ∧ A ≤ 6 := by omega
  obtain ⟨t1, t2⟩ := pow_bS hb
  have b3 := nearI_bd (n := lo) t1
  have b4 := nearI_bd (n := hi) t1
  have htb := top_lt b hb
  have hLt : L ≤ topN b := by have := b3.2; rw [hL, pow_int] at this; omega
  have hUt : U ≤ topN b := by have := b4.2; rw [hU, pow_int] at this; omega
  have hL32 : L ≤ 4294967296 := by omega
  generalize hT : (2 : Int) ^ b = T at *
  have H3 := Lib.hid (fun w => near_det lo T hw3 t1 t2 w)
  have H4 := Lib.hid (fun w => near_det hi T hw4 t1 t2 w)
  rw [hL] at H3
  rw [hU] at H4
  have hwt : IntKind.i64.wrap T = T := IntWalk.i64_in _ (by omega)
  have hb0 : (0 : Int) ≤ (b : Int) := by omega
  have hb1 : (b : Int) ≤ 32 := by omega
  have hab1 := hAb.1
  have hab2 := hAb.2
  clear hq hbk hA hF n1 n2 hL hU b3 b4 htb hAb
  go_enter Tryd.func17, Tryd.ntmps17
  go_wp2_with fail
  have hK0 : (w.alloc (.cells #[.string ⟨#[]⟩, .int .i64 0, .int .i64 0, .int .i64 0, .int .i64 0, .int .i64 0, .string ⟨#[]⟩] 51)).drew.cell? ⟨g, off + k * 2, none⟩ = some (.string nm) ∧ Below w.heap.size w (w.alloc (.cells #[.string ⟨#[]⟩, .int .i64 0, .int .i64 0, .int .i64 0, .int .i64 0, .int .i64 0, .string ⟨#[]⟩] 51)).drew := ⟨((bal (Below.refl w.heap.size w) _).drew.cell (p := ⟨g, off + k * 2, none⟩) hg).trans f0, (bal (Below.refl _ _) _).drew⟩
  have hK1 : ((w.alloc (.cells #[.string ⟨#[]⟩, .int .i64 0, .int .i64 0, .int .i64 0, .int .i64 0, .int .i64 0, .string ⟨#[]⟩] 51)).alloc (.cells #[.string ⟨#[]⟩, .int .i64 0, .int .i64 0, .int .i64 0, .int .i64 0, .int .i64 0, .string ⟨#[]⟩] 51)).drew.cell? ⟨g, off + k * 2, none⟩ = some (.string nm) ∧ Below w.heap.size w ((w.alloc (.cells #[.string ⟨#[]⟩, .int .i64 0, .int .i64 0, .int .i64 0, .int .i64 0, .int .i64 0, .string ⟨#[]⟩] 51)).alloc (.cells #[.string ⟨#[]⟩, .int .i64 0, .int .i64 0, .int .i64 0, .int .i64 0, .int .i64 0, .string ⟨#[]⟩] 51)).drew := ⟨((bal (bal (Below.refl w.heap.size w) _) _).drew.cell (p := ⟨g, off + k * 2, none⟩) hg).trans f0, (bal (bal (Below.refl _ _) _) _).drew⟩
  have hK2 : ((w.alloc (.cells #[.string ⟨#[]⟩, .int .i64 0, .int .i64 0, .int .i64 0, .int .i64 0, .int .i64 0, .string ⟨#[]⟩] 51)).alloc (.cells #[.string nm, .int .i64 A, .int .i64 3, .int .i64 0, .int .i64 0, .int .i64 0, .string ⟨#[]⟩] 51)).drew.cell? ⟨g, off + k * 2, none⟩ = some (.string nm) ∧ Below w.heap.size w ((w.alloc (.cells #[.string ⟨#[]⟩, .int .i64 0, .int .i64 0, .int .i64 0, .int .i64 0, .int .i64 0, .string ⟨#[]⟩] 51)).alloc (.cells #[.string nm, .int .i64 A, .int .i64 3, .int .i64 0, .int .i64 0, .int .i64 0, .string ⟨#[]⟩] 51)).drew := ⟨((bal (bal (Below.refl w.heap.size w) _) _).drew.cell (p := ⟨g, off + k * 2, none⟩) hg).trans f0, (bal (bal (Below.refl _ _) _) _).drew⟩
  go_region_held3 (fun w' => w'.cell? ⟨g, off + k * 2, none⟩ = some (.string nm) ∧ Below w.heap.size w w')
    (with_reducible (first | assumption | exact hK0 | exact hK1 | exact hK2 | fail))
    (first | (go_at_call 14; (with_reducible refine (H1.out _).mono ?_); rintro e w9 ⟨rfl, rfl⟩) | (go_at_call 14; (with_reducible refine (H2.out _).mono ?_); rintro e w8 ⟨rfl, rfl⟩) | fail)
  all_goals clear hK0 hK1 hK2
  all_goals go_wp2_with fail
  all_goals refine (H3.out _).mono ?_
  all_goals rintro e w7 ⟨rfl, rfl⟩
  all_goals go_wp2_with fail
  all_goals refine (H4.out _).mono ?_
  all_goals rintro e w6 ⟨rfl, rfl⟩
  all_goals go_wp2_with fail
  all_goals refine bodyPost_ret (v := .agg #[.string nm, .int .i64 A, .int .i64 3, .int .i64 (L : Int), .int .i64 (U : Int), .int .i64 0, .string ⟨#[]⟩]) (by simp [results, Tryd.results17, go_sem]) rfl (t_ans (T := ⟨nm, A, 3, (L : Int), (U : Int), 0, ⟨#[]⟩⟩) (.rng nm A L U (by omega) hLU hUt) rfl (bal (bal (Below.refl _ _) _) _).drew)
set_option maxRecDepth 100000 in
set_option maxHeartbeats 16000000 in
theorem tst_B3s (l : List Fld) (v : Value) (k b : Nat) (hk : k < l.length) (hb : b ≤ 32) (hbk : l[k].2 = (b : Int)) (op form lo hi n : Int) (hw1 : (Lit.int .i64 op).wf = true) (hw2 : (Lit.int .i64 form).wf = true) (hw3 : (Lit.int .i64 lo).wf = true) (hw4 : (Lit.int .i64 hi).wf = true) (hw5 : (Lit.int .i64 n).wf = true) (s : ByteArray) (hsm : s.size ≤ maxLen) (w : World) (hv : SeesF w v l)
    (A F : Int) (hA : 1 + nearI op 6 = A) (hF : 1 + nearI form 4 = 3) (L U : Nat) (hL : nearI lo (2 ^ b) = (L : Int)) (hU : nearI hi (2 ^ b) = (U : Int)) (hA3 : A ≤ 2) (hLU : U < L) :
    Calls Tryd.prog 17 #[v, .int .i64 (k : Int), .int .i64 op, .int .i64 form, .int .i64 lo, .int .i64 hi, .int .i64 n, .string s] w (TAns w b l[k].1) := by
  obtain ⟨a0, cap0, rfl, hcap, hcm, hx, _⟩ := hv
  obtain ⟨g, off, rfl, hg, hq⟩ : ∃ g off, a0 = some ⟨g, off, none⟩ ∧ g < w.heap.size ∧ ∀ j f, l[j]? = some f → w.cell? ⟨g, off + j * 2, none⟩ = some (.string f.1) ∧ w.cell? ⟨g, off + (j * 2 + 1), none⟩ = some (.int .i64 f.2) := by
    rcases hx with h0 | h0
    · rw [h0] at hk; simp at hk
    · exact h0
  unfold maxLen at hcm
  have f0 := (hq k l[k] (by simp [hk])).1
  have f1 := (hq k l[k] (by simp [hk])).2
  rw [hbk, ← Nat.add_assoc] at f1
  have n1 := nearI_bd (n := op) (m := 6) (by decide)
  have n2 := nearI_bd (n := form) (m := 4) (by decide)
  have H1 := Lib.hid (fun w => near_det op 6 hw1 (by decide) (by decide) w)
  have H2 := Lib.hid (fun w => near_det form 4 hw2 (by decide) (by decide) w)
  generalize nearI op 6 = r1 at *
  generalize nearI form 4 = r2 at *
  generalize l[k].1 = nm at *
  have x0 : (0 : Int) ≤ (k : Int) := by omega
  have x1 : (k : Int) < (l.length : Int) := by omega
  have y1 : IntKind.i64.wrap (1 + r1) = A := by rw [hA]; exact IntWalk.i64_in _ (by omega)
  have y2 : IntKind.i64.wrap (1 + r2) = 3 := by rw [hF]; exact IntWalk.i64_in _ (by omega)
  have hAb : 1 ≤ A ∧ A ≤ 6 := by omega
  obtain ⟨t1, t2⟩ := pow_bS hb
  have b3 := nearI_bd (n := lo) t1
  have b4 := nearI_bd (n := hi) t1
  have htb := top_lt b hb
  have hLt : L ≤ topN b := by have := b3.2; rw [hL, pow_int] at this; omega
  have hUt : U ≤ topN b := by have := b4.2; rw [hU, pow_int] at this; omega
  have hL32 : L ≤ 4294967296 := by omega
  generalize hT : (2 : Int) ^ b = T at *
  have H3 := Lib.hid (fun w => near_det lo T hw3 t1 t2 w)
  have H4 := Lib.hid (fun w => near_det hi T hw4 t1 t2 w)
  rw [hL] at H3
  rw [hU] at H4
  have hwt : IntKind.i64.wrap T = T := IntWalk.i64_in _ (by omega)
  have hb0 : (0 : Int) ≤ (b : Int) := by omega
  have hb1 : (b : Int) ≤ 32 := by omega
  have hab1 := hAb.1
  have hab2 := hAb.2
  clear hq hbk hA hF n1 n2 hL hU b3 b4 htb hAb
  go_enter Tryd.func17, Tryd.ntmps17
  go_wp2_with fail
  have hK0 : (w.alloc (.cells #[.string ⟨#[]⟩, .int .i64 0, .int .i64 0, .int .i64 0, .int .i64 0, .int .i64 0, .string ⟨#[]⟩] 51)).drew.cell? ⟨g, off + k * 2, none⟩ = some (.string nm) ∧ Below w.heap.size w (w.alloc (.cells #[.string ⟨#[]⟩, .int .i64 0, .int .i64 0, .int .i64 0, .int .i64 0, .int .i64 0, .string ⟨#[]⟩] 51)).drew := ⟨((bal (Below.refl w.heap.size w) _).drew.cell (p := ⟨g, off + k * 2, none⟩) hg).trans f0, (bal (Below.refl _ _) _).drew⟩
  have hK1 : ((w.alloc (.cells #[.string ⟨#[]⟩, .int .i64 0, .int .i64 0, .int .i64 0, .int .i64 0, .int .i64 0, .string ⟨#[]⟩] 51)).alloc (.cells #[.string ⟨#[]⟩, .int .i64 0, .int .i64 0, .int .i64 0, .int .i64 0, .int .i64 0, .string ⟨#[]⟩] 51)).drew.cell? ⟨g, off + k * 2, none⟩ = some (.string nm) ∧ Below w.heap.size w ((w.alloc (.cells #[.string ⟨#[]⟩, .int .i64 0, .int .i64 0, .int .i64 0, .int .i64 0, .int .i64 0, .string ⟨#[]⟩] 51)).alloc (.cells #[.string ⟨#[]⟩, .int .i64 0, .int .i64 0, .int .i64 0, .int .i64 0, .int .i64 0, .string ⟨#[]⟩] 51)).drew := ⟨((bal (bal (Below.refl w.heap.size w) _) _).drew.cell (p := ⟨g, off + k * 2, none⟩) hg).trans f0, (bal (bal (Below.refl _ _) _) _).drew⟩
  have hK2 : ((w.alloc (.cells #[.string ⟨#[]⟩, .int .i64 0, .int .i64 0, .int .i64 0, .int .i64 0, .int .i64 0, .string ⟨#[]⟩] 51)).alloc (.cells #[.string nm, .int .i64 A, .int .i64 3, .int .i64 0, .int .i64 0, .int .i64 0, .string ⟨#[]⟩] 51)).drew.cell? ⟨g, off + k * 2, none⟩ = some (.string nm) ∧ Below w.heap.size w ((w.alloc (.cells #[.string ⟨#[]⟩, .int .i64 0, .int .i64 0, .int .i64 0, .int .i64 0, .int .i64 0, .string ⟨#[]⟩] 51)).alloc (.cells #[.string nm, .int .i64 A, .int .i64 3, .int .i64 0, .int .i64 0, .int .i64 0, .string ⟨#[]⟩] 51)).drew := ⟨((bal (bal (Below.refl w.heap.size w) _) _).drew.cell (p := ⟨g, off + k * 2, none⟩) hg).trans f0, (bal (bal (Below.refl _ _) _) _).drew⟩
  go_region_held3 (fun w' => w'.cell? ⟨g, off + k * 2, none⟩ = some (.string nm) ∧ Below w.heap.size w w')
    (with_reducible (first | assumption | exact hK0 | exact hK1 | exact hK2 | fail))
    (first | (go_at_call 14; (with_reducible refine (H1.out _).mono ?_); rintro e w9 ⟨rfl, rfl⟩) | (go_at_call 14; (with_reducible refine (H2.out _).mono ?_); rintro e w8 ⟨rfl, rfl⟩) | fail)
  all_goals clear hK0 hK1 hK2
  all_goals go_wp2_with fail
  all_goals refine (H3.out _).mono ?_
  all_goals rintro e w7 ⟨rfl, rfl⟩
  all_goals go_wp2_with fail
  all_goals refine (H4.out _).mono ?_
  all_goals rintro e w6 ⟨rfl, rfl⟩
  all_goals go_wp2_with fail
  all_goals refine bodyPost_ret (v := .agg #[.string nm, .int .i64 A, .int .i64 3, .int .i64 (U : Int), .int .i64 (L : Int), .int .i64 0, .string ⟨#[]⟩]) (by simp [results, Tryd.results17, go_sem]) rfl (t_ans (T := ⟨nm, A, 3, (U : Int), (L : Int), 0, ⟨#[]⟩⟩) (.rng nm A U L (by omega) (by omega) hLt) rfl (bal (bal (Below.refl _ _) _) _).drew)
set_option maxRecDepth 100000 in
set_option maxHeartbeats 16000000 in
theorem tst_B2 (l : List Fld) (v : Value) (k b : Nat) (hk : k < l.length) (hb : b ≤ 32) (hbk : l[k].2 = (b : Int)) (op form lo hi n : Int) (hw1 : (Lit.int .i64 op).wf = true) (hw2 : (Lit.int .i64 form).wf = true) (hw3 : (Lit.int .i64 lo).wf = true) (hw4 : (Lit.int .i64 hi).wf = true) (hw5 : (Lit.int .i64 n).wf = true) (s : ByteArray) (hsm : s.size ≤ maxLen) (w : World) (hv : SeesF w v l)
    (A F : Int) (hA : 1 + nearI op 6 = A) (hF : 1 + nearI form 4 = 2) (L U : Nat) (hL : nearI lo (2 ^ b) = (L : Int)) (hU : nearI hi (2 ^ b) = (U : Int)) (hA3 : A ≤ 2) (N : Nat) (hN : nearI n ((b : Int) + 1) = (N : Int)) :
    Calls Tryd.prog 17 #[v, .int .i64 (k : Int), .int .i64 op, .int .i64 form, .int .i64 lo, .int .i64 hi, .int .i64 n, .string s] w (TAns w b l[k].1) := by
  obtain ⟨a0, cap0, rfl, hcap, hcm, hx, _⟩ := hv
  obtain ⟨g, off, rfl, hg, hq⟩ : ∃ g off, a0 = some ⟨g, off, none⟩ ∧ g < w.heap.size ∧ ∀ j f, l[j]? = some f → w.cell? ⟨g, off + j * 2, none⟩ = some (.string f.1) ∧ w.cell? ⟨g, off + (j * 2 + 1), none⟩ = some (.int .i64 f.2) := by
    rcases hx with h0 | h0
    · rw [h0] at hk; simp at hk
    · exact h0
  unfold maxLen at hcm
  have f0 := (hq k l[k] (by simp [hk])).1
  have f1 := (hq k l[k] (by simp [hk])).2
  rw [hbk, ← Nat.add_assoc] at f1
  have n1 := nearI_bd (n := op) (m := 6) (by decide)
  have n2 := nearI_bd (n := form) (m := 4) (by decide)
  have H1 := Lib.hid (fun w => near_det op 6 hw1 (by decide) (by decide) w)
  have H2 := Lib.hid (fun w => near_det form 4 hw2 (by decide) (by decide) w)
  generalize nearI op 6 = r1 at *
  generalize nearI form 4 = r2 at *
  generalize l[k].1 = nm at *
  have x0 : (0 : Int) ≤ (k : Int) := by omega
  have x1 : (k : Int) < (l.length : Int) := by omega
  have y1 : IntKind.i64.wrap (1 + r1) = A := by rw [hA]; exact IntWalk.i64_in _ (by omega)
  have y2 : IntKind.i64.wrap (1 + r2) = 2 := by rw [hF]; exact IntWalk.i64_in _ (by omega)
  have hAb : 1 ≤ A ∧ A ≤ 6 := by omega
  obtain ⟨t1, t2⟩ := pow_bS hb
  have b3 := nearI_bd (n := lo) t1
  have b4 := nearI_bd (n := hi) t1
  have htb := top_lt b hb
  have hLt : L ≤ topN b := by have := b3.2; rw [hL, pow_int] at this; omega
  have hUt : U ≤ topN b := by have := b4.2; rw [hU, pow_int] at this; omega
  have hL32 : L ≤ 4294967296 := by omega
  generalize hT : (2 : Int) ^ b = T at *
  have H3 := Lib.hid (fun w => near_det lo T hw3 t1 t2 w)
  have H4 := Lib.hid (fun w => near_det hi T hw4 t1 t2 w)
  rw [hL] at H3
  rw [hU] at H4
  have hwt : IntKind.i64.wrap T = T := IntWalk.i64_in _ (by omega)
  have hb0 : (0 : Int) ≤ (b : Int) := by omega
  have hb1 : (b : Int) ≤ 32 := by omega
  have hab1 := hAb.1
  have hab2 := hAb.2
  have H5 := Lib.hid (fun w => near_det n ((b : Int) + 1) hw5 (by omega) (by omega) w)
  have b5 := nearI_bd (n := n) (m := (b : Int) + 1) (by omega)
  rw [hN] at H5 b5
  have hNb : N ≤ b := by omega
  have hw6 : IntKind.i64.wrap ((b : Int) + 1) = (b : Int) + 1 := IntWalk.i64_in _ (by omega)
  have hw7 : IntKind.i64.wrap ((b : Int) - (N : Int)) = (b : Int) - (N : Int) := IntWalk.i64_in _ (by omega)
  have hz1 : (0 : Int) ≤ (b : Int) - (N : Int) := by omega
  have hz2 : ((b : Int) - (N : Int)).toNat = b - N := by omega
  have mixed : Tryd.prog.follows Departure.mixedOrders = true := by kernel_rfl
  have HWR := Lib.hid (show wrap64 ((L : Int) / 2 ^ (b - N) * 2 ^ (b - N)) = ((L / 2 ^ (b - N) * 2 ^ (b - N) : Nat) : Int) from by have h := Nat.div_mul_le_self L (2 ^ (b - N)); rw [pow_int, ← Int.natCast_ediv, ← Int.natCast_mul]; exact IntWalk.wrap64_in _ ⟨by omega, by omega⟩)
  clear b5 hN
  clear hq hbk hA hF n1 n2 hL hU b3 b4 htb hAb
  go_enter Tryd.func17, Tryd.ntmps17
  go_wp2_with fail
  have hK0 : (w.alloc (.cells #[.string ⟨#[]⟩, .int .i64 0, .int .i64 0, .int .i64 0, .int .i64 0, .int .i64 0, .string ⟨#[]⟩] 51)).drew.cell? ⟨g, off + k * 2, none⟩ = some (.string nm) ∧ Below w.heap.size w (w.alloc (.cells #[.string ⟨#[]⟩, .int .i64 0, .int .i64 0, .int .i64 0, .int .i64 0, .int .i64 0, .string ⟨#[]⟩] 51)).drew := ⟨((bal (Below.refl w.heap.size w) _).drew.cell (p := ⟨g, off + k * 2, none⟩) hg).trans f0, (bal (Below.refl _ _) _).drew⟩
  have hK1 : ((w.alloc (.cells #[.string ⟨#[]⟩, .int .i64 0, .int .i64 0, .int .i64 0, .int .i64 0, .int .i64 0, .string ⟨#[]⟩] 51)).alloc (.cells #[.string ⟨#[]⟩, .int .i64 0, .int .i64 0, .int .i64 0, .int .i64 0, .int .i64 0, .string ⟨#[]⟩] 51)).drew.cell? ⟨g, off + k * 2, none⟩ = some (.string nm) ∧ Below w.heap.size w ((w.alloc (.cells #[.string ⟨#[]⟩, .int .i64 0, .int .i64 0, .int .i64 0, .int .i64 0, .int .i64 0, .string ⟨#[]⟩] 51)).alloc (.cells #[.string ⟨#[]⟩, .int .i64 0, .int .i64 0, .int .i64 0, .int .i64 0, .int .i64 0, .string ⟨#[]⟩] 51)).drew := ⟨((bal (bal (Below.refl w.heap.size w) _) _).drew.cell (p := ⟨g, off + k * 2, none⟩) hg).trans f0, (bal (bal (Below.refl _ _) _) _).drew⟩
  have hK2 : ((w.alloc (.cells #[.string ⟨#[]⟩, .int .i64 0, .int .i64 0, .int .i64 0, .int .i64 0, .int .i64 0, .string ⟨#[]⟩] 51)).alloc (.cells #[.string nm, .int .i64 A, .int .i64 2, .int .i64 0, .int .i64 0, .int .i64 0, .string ⟨#[]⟩] 51)).drew.cell? ⟨g, off + k * 2, none⟩ = some (.string nm) ∧ Below w.heap.size w ((w.alloc (.cells #[.string ⟨#[]⟩, .int .i64 0, .int .i64 0, .int .i64 0, .int .i64 0, .int .i64 0, .string ⟨#[]⟩] 51)).alloc (.cells #[.string nm, .int .i64 A, .int .i64 2, .int .i64 0, .int .i64 0, .int .i64 0, .string ⟨#[]⟩] 51)).drew := ⟨((bal (bal (Below.refl w.heap.size w) _) _).drew.cell (p := ⟨g, off + k * 2, none⟩) hg).trans f0, (bal (bal (Below.refl _ _) _) _).drew⟩
  go_region_held3 (fun w' => w'.cell? ⟨g, off + k * 2, none⟩ = some (.string nm) ∧ Below w.heap.size w w')
    (with_reducible (first | assumption | exact hK0 | exact hK1 | exact hK2 | fail))
    (first | (go_at_call 14; (with_reducible refine (H1.out _).mono ?_); rintro e w9 ⟨rfl, rfl⟩) | (go_at_call 14; (with_reducible refine (H2.out _).mono ?_); rintro e w8 ⟨rfl, rfl⟩) | fail)
  all_goals clear hK0 hK1 hK2
  all_goals go_wp2_with fail
  all_goals refine (H3.out _).mono ?_
  all_goals rintro e w7 ⟨rfl, rfl⟩
  all_goals go_wp2_with fail
  all_goals refine (H4.out _).mono ?_
  all_goals rintro e w6 ⟨rfl, rfl⟩
  all_goals go_wp2_with fail
  all_goals refine (H5.out _).mono ?_
  all_goals rintro e w5 ⟨rfl, rfl⟩
  all_goals go_wp2_with fail
  all_goals refine still_tail 12 mixed (by kernel_rfl) fun W hW => ?_
  all_goals simp only [List.take_succ_cons, List.take_zero, List.drop_succ_cons, List.drop_zero]
  all_goals have e5 : W.cell? ⟨w.heap.size + 1, 5, none⟩ = some (.int .i64 (N : Int)) := by rw [hW.out]; simp
  all_goals repeat still_step
  all_goals refine wpStill_nil ?_
  all_goals have hW2 := hW.out
  all_goals subst hW2
  all_goals clear hW e5
  all_goals go_wp2_with fail
  all_goals rw [HWR.out]
  all_goals refine bodyPost_ret (v := .agg #[.string nm, .int .i64 A, .int .i64 2, .int .i64 ((L / 2 ^ (b - N) * 2 ^ (b - N) : Nat) : Int), .int .i64 0, .int .i64 (N : Int), .string ⟨#[]⟩]) (by simp [results, Tryd.results17, go_sem]) rfl (t_ans (T := ⟨nm, A, 2, ((L / 2 ^ (b - N) * 2 ^ (b - N) : Nat) : Int), 0, (N : Int), ⟨#[]⟩⟩) (.pre nm A _ N (by omega) (cut_low hLt).1 hNb (cut_low hLt).2) rfl (bal (bal (Below.refl _ _) _) _).drew.drew)
set_option maxRecDepth 100000 in
set_option maxHeartbeats 16000000 in
theorem tst_B4 (l : List Fld) (v : Value) (k b : Nat) (hk : k < l.length) (hb : b ≤ 32) (hbk : l[k].2 = (b : Int)) (op form lo hi n : Int) (hw1 : (Lit.int .i64 op).wf = true) (hw2 : (Lit.int .i64 form).wf = true) (hw3 : (Lit.int .i64 lo).wf = true) (hw4 : (Lit.int .i64 hi).wf = true) (hw5 : (Lit.int .i64 n).wf = true) (s : ByteArray) (hsm : s.size ≤ maxLen) (w : World) (hv : SeesF w v l)
    (A F : Int) (hA : 1 + nearI op 6 = A) (hF : 1 + nearI form 4 = 4) (L U : Nat) (hL : nearI lo (2 ^ b) = (L : Int)) (hU : nearI hi (2 ^ b) = (U : Int)) (hA3 : A ≤ 2) :
    Calls Tryd.prog 17 #[v, .int .i64 (k : Int), .int .i64 op, .int .i64 form, .int .i64 lo, .int .i64 hi, .int .i64 n, .string s] w (TAns w b l[k].1) := by
  obtain ⟨a0, cap0, rfl, hcap, hcm, hx, _⟩ := hv
  obtain ⟨g, off, rfl, hg, hq⟩ : ∃ g off, a0 = some ⟨g, off, none⟩ ∧ g < w.heap.size ∧ ∀ j f, l[j]? = some f → w.cell? ⟨g, off + j * 2, none⟩ = some (.string f.1) ∧ w.cell? ⟨g, off + (j * 2 + 1), none⟩ = some (.int .i64 f.2) := by
    rcases hx with h0 | h0
    · rw [h0] at hk; simp at hk
    · exact h0
  unfold maxLen at hcm
  have f0 := (hq k l[k] (by simp [hk])).1
  have f1 := (hq k l[k] (by simp [hk])).2
  rw [hbk, ← Nat.add_assoc] at f1
  have n1 := nearI_bd (n := op) (m := 6) (by decide)
  have n2 := nearI_bd (n := form) (m := 4) (by decide)
  have H1 := Lib.hid (fun w => near_det op 6 hw1 (by decide) (by decide) w)
  have H2 := Lib.hid (fun w => near_det form 4 hw2 (by decide) (by decide) w)
  generalize nearI op 6 = r1 at *
  generalize nearI form 4 = r2 at *
  generalize l[k].1 = nm at *
  have x0 : (0 : Int) ≤ (k : Int) := by omega
  have x1 : (k : Int) < (l.length : Int) := by omega
  have y1 : IntKind.i64.wrap (1 + r1) = A := by rw [hA]; exact IntWalk.i64_in _ (by omega)
  have y2 : IntKind.i64.wrap (1 + r2) = 4 := by rw [hF]; exact IntWalk.i64_in _ (by omega)
  have hAb : 1 ≤ A ∧ A ≤ 6 := by omega
  obtain ⟨t1, t2⟩ := pow_bS hb
  have b3 := nearI_bd (n := lo) t1
  have b4 := nearI_bd (n := hi) t1
  have htb := top_lt b hb
  have hLt : L ≤ topN b := by have := b3.2; rw [hL, pow_int] at this; omega
  have hUt : U ≤ topN b := by have := b4.2; rw [hU, pow_int] at this; omega
  have hL32 : L ≤ 4294967296 := by omega
  generalize hT : (2 : Int) ^ b = T at *
  have H3 := Lib.hid (fun w => near_det lo T hw3 t1 t2 w)
  have H4 := Lib.hid (fun w => near_det hi T hw4 t1 t2 w)
  rw [hL] at H3
  rw [hU] at H4
  have hwt : IntKind.i64.wrap T = T := IntWalk.i64_in _ (by omega)
  have hb0 : (0 : Int) ≤ (b : Int) := by omega
  have hb1 : (b : Int) ≤ 32 := by omega
  have hab1 := hAb.1
  have hab2 := hAb.2
  have HPT := Lib.hid (fun w => pattern_any s hsm b hb w)
  have HPF := Lib.hid (patT_form s.data.toList b)
  have HPS := Lib.hid (show (str (patT s.data.toList b)).size = b from by rw [str_size, patT_len])
  generalize patT s.data.toList b = pt at *
  clear hq hbk hA hF n1 n2 hL hU b3 b4 htb hAb
  go_enter Tryd.func17, Tryd.ntmps17
  go_wp2_with fail
  have hK0 : (w.alloc (.cells #[.string ⟨#[]⟩, .int .i64 0, .int .i64 0, .int .i64 0, .int .i64 0, .int .i64 0, .string ⟨#[]⟩] 51)).drew.cell? ⟨g, off + k * 2, none⟩ = some (.string nm) ∧ Below w.heap.size w (w.alloc (.cells #[.string ⟨#[]⟩, .int .i64 0, .int .i64 0, .int .i64 0, .int .i64 0, .int .i64 0, .string ⟨#[]⟩] 51)).drew := ⟨((bal (Below.refl w.heap.size w) _).drew.cell (p := ⟨g, off + k * 2, none⟩) hg).trans f0, (bal (Below.refl _ _) _).drew⟩
  have hK1 : ((w.alloc (.cells #[.string ⟨#[]⟩, .int .i64 0, .int .i64 0, .int .i64 0, .int .i64 0, .int .i64 0, .string ⟨#[]⟩] 51)).alloc (.cells #[.string ⟨#[]⟩, .int .i64 0, .int .i64 0, .int .i64 0, .int .i64 0, .int .i64 0, .string ⟨#[]⟩] 51)).drew.cell? ⟨g, off + k * 2, none⟩ = some (.string nm) ∧ Below w.heap.size w ((w.alloc (.cells #[.string ⟨#[]⟩, .int .i64 0, .int .i64 0, .int .i64 0, .int .i64 0, .int .i64 0, .string ⟨#[]⟩] 51)).alloc (.cells #[.string ⟨#[]⟩, .int .i64 0, .int .i64 0, .int .i64 0, .int .i64 0, .int .i64 0, .string ⟨#[]⟩] 51)).drew := ⟨((bal (bal (Below.refl w.heap.size w) _) _).drew.cell (p := ⟨g, off + k * 2, none⟩) hg).trans f0, (bal (bal (Below.refl _ _) _) _).drew⟩
  have hK2 : ((w.alloc (.cells #[.string ⟨#[]⟩, .int .i64 0, .int .i64 0, .int .i64 0, .int .i64 0, .int .i64 0, .string ⟨#[]⟩] 51)).alloc (.cells #[.string nm, .int .i64 A, .int .i64 4, .int .i64 0, .int .i64 0, .int .i64 0, .string ⟨#[]⟩] 51)).drew.cell? ⟨g, off + k * 2, none⟩ = some (.string nm) ∧ Below w.heap.size w ((w.alloc (.cells #[.string ⟨#[]⟩, .int .i64 0, .int .i64 0, .int .i64 0, .int .i64 0, .int .i64 0, .string ⟨#[]⟩] 51)).alloc (.cells #[.string nm, .int .i64 A, .int .i64 4, .int .i64 0, .int .i64 0, .int .i64 0, .string ⟨#[]⟩] 51)).drew := ⟨((bal (bal (Below.refl w.heap.size w) _) _).drew.cell (p := ⟨g, off + k * 2, none⟩) hg).trans f0, (bal (bal (Below.refl _ _) _) _).drew⟩
  go_region_held3 (fun w' => w'.cell? ⟨g, off + k * 2, none⟩ = some (.string nm) ∧ Below w.heap.size w w')
    (with_reducible (first | assumption | exact hK0 | exact hK1 | exact hK2 | fail))
    (first | (go_at_call 14; (with_reducible refine (H1.out _).mono ?_); rintro e w9 ⟨rfl, rfl⟩) | (go_at_call 14; (with_reducible refine (H2.out _).mono ?_); rintro e w8 ⟨rfl, rfl⟩) | fail)
  all_goals clear hK0 hK1 hK2
  all_goals go_wp2_with fail
  all_goals refine (H3.out _).mono ?_
  all_goals rintro e w7 ⟨rfl, rfl⟩
  all_goals go_wp2_with fail
  all_goals refine (H4.out _).mono ?_
  all_goals rintro e w6 ⟨rfl, rfl⟩
  all_goals go_wp2_with fail
  all_goals refine (HPT.out _).mono ?_
  all_goals rintro e w5 ⟨rfl, hb5⟩
  all_goals have hB5 := (Blk.new (w.alloc (.cells #[.string ⟨#[]⟩, .int .i64 0, .int .i64 0, .int .i64 0, .int .i64 0, .int .i64 0, .string ⟨#[]⟩] 51)) 51 #[.string nm, .int .i64 A, .int .i64 4, .int .i64 0, .int .i64 0, .int .i64 0, .string ⟨#[]⟩]).drew.below hb5 (by simp)
  all_goals have hA5 := ((Blk.new w 51 #[.string ⟨#[]⟩, .int .i64 0, .int .i64 0, .int .i64 0, .int .i64 0, .int .i64 0, .string ⟨#[]⟩]).alloc (.cells #[.string nm, .int .i64 A, .int .i64 4, .int .i64 0, .int .i64 0, .int .i64 0, .string ⟨#[]⟩] 51)).drew.below hb5 (by simp; omega)
  all_goals have hg5 := bnx (bal (bal (Below.refl w.heap.size w) (.cells #[.string ⟨#[]⟩, .int .i64 0, .int .i64 0, .int .i64 0, .int .i64 0, .int .i64 0, .string ⟨#[]⟩] 51)) (.cells #[.string nm, .int .i64 A, .int .i64 4, .int .i64 0, .int .i64 0, .int .i64 0, .string ⟨#[]⟩] 51)).drew hb5
  all_goals simp only [World.size_alloc] at hB5
  all_goals have hsz5 : w.heap.size + 1 < w5.heap.size := hB5.lt
  all_goals have cb := hB5.cell
  all_goals have ca := hA5.cell
  all_goals have fb := hB5.frozen
  all_goals have fa := hA5.frozen
  all_goals clear hb5
  all_goals go_wp2_with fail
  all_goals have h7 := (((((((hA5.far (p := ⟨w.heap.size + 1, 6, none⟩) (by simp) (.string (str pt))).set_ 0 (.string nm)).set_ 1 (.int .i64 A)).set_ 2 (.int .i64 4)).set_ 3 (.int .i64 0)).set_ 4 (.int .i64 0)).set_ 5 (.int .i64 0)).set_ 6 (.string (str pt))
  all_goals have hg7 := (((((((hg5.setCell (p := ⟨w.heap.size + 1, 6, none⟩) (by simp) (.string (str pt))).setCell (p := ⟨w.heap.size, 0, none⟩) (Nat.le_refl _) (.string nm)).setCell (p := ⟨w.heap.size, 1, none⟩) (Nat.le_refl _) (.int .i64 A)).setCell (p := ⟨w.heap.size, 2, none⟩) (Nat.le_refl _) (.int .i64 4)).setCell (p := ⟨w.heap.size, 3, none⟩) (Nat.le_refl _) (.int .i64 0)).setCell (p := ⟨w.heap.size, 4, none⟩) (Nat.le_refl _) (.int .i64 0)).setCell (p := ⟨w.heap.size, 5, none⟩) (Nat.le_refl _) (.int .i64 0)).setCell (p := ⟨w.heap.size, 6, none⟩) (Nat.le_refl _) (.string (str pt))
  all_goals generalize hW7 : World.setCell _ ⟨w.heap.size, 6, none⟩ (.string (str pt)) = W7 at *
  all_goals have z0 := h7.cell 0
  all_goals have z1 := h7.cell 1
  all_goals have z2 := h7.cell 2
  all_goals have z3 := h7.cell 3
  all_goals have z4 := h7.cell 4
  all_goals have z5 := h7.cell 5
  all_goals have z6 := h7.cell 6
  all_goals clear hW7 ca cb fa fb
  all_goals refine bodyPost_ret (v := .agg #[.string nm, .int .i64 A, .int .i64 4, .int .i64 0, .int .i64 0, .int .i64 0, .string (str pt)]) (by simp [results, Tryd.results17, go_sem, z0, z1, z2, z3, z4, z5, z6]) rfl (t_ans (T := ⟨nm, A, 4, 0, 0, 0, str pt⟩) (.pat nm A (str pt) (by omega) HPS.out (by rw [str_list]; exact HPF.out)) rfl hg7)
theorem test_any (l : List Fld) (v : Value) (k b : Nat) (hk : k < l.length) (hb : b ≤ 32) (hbk : l[k].2 = (b : Int)) (op form lo hi n : Int) (hw1 : (Lit.int .i64 op).wf = true) (hw2 : (Lit.int .i64 form).wf = true) (hw3 : (Lit.int .i64 lo).wf = true) (hw4 : (Lit.int .i64 hi).wf = true) (hw5 : (Lit.int .i64 n).wf = true) (s : ByteArray) (hsm : s.size ≤ maxLen) (w : World) (hv : SeesF w v l) :
    Calls Tryd.prog 17 #[v, .int .i64 (k : Int), .int .i64 op, .int .i64 form, .int .i64 lo, .int .i64 hi, .int .i64 n, .string s] w (TAns w b l[k].1) := by
  have n2 := nearI_bd (n := form) (m := 4) (by decide)
  obtain ⟨t1, t2⟩ := pow_bS hb
  obtain ⟨L, hL⟩ := Int.eq_ofNat_of_zero_le (nearI_bd (n := lo) t1).1
  obtain ⟨U, hU⟩ := Int.eq_ofNat_of_zero_le (nearI_bd (n := hi) t1).1
  obtain ⟨N, hN⟩ := Int.eq_ofNat_of_zero_le (nearI_bd (n := n) (m := (b : Int) + 1) (by omega)).1
  by_cases hA : 2 < 1 + nearI op 6
  · exact tst_A l v k b hk hb hbk op form lo hi n hw1 hw2 hw3 hw4 hw5 s hsm w hv _ _ rfl rfl L U hL hU hA
  · have hA2 : 1 + nearI op 6 ≤ 2 := by omega
    have hf : 1 + nearI form 4 = 1 ∨ 1 + nearI form 4 = 2 ∨ 1 + nearI form 4 = 3 ∨ 1 + nearI form 4 = 4 := by omega
    rcases hf with hF | hF | hF | hF
    · exact tst_B1 l v k b hk hb hbk op form lo hi n hw1 hw2 hw3 hw4 hw5 s hsm w hv _ 0 rfl hF L U hL hU hA2
    · exact tst_B2 l v k b hk hb hbk op form lo hi n hw1 hw2 hw3 hw4 hw5 s hsm w hv _ 0 rfl hF L U hL hU hA2 N hN
    · by_cases hLU : L ≤ U
      · exact tst_B3 l v k b hk hb hbk op form lo hi n hw1 hw2 hw3 hw4 hw5 s hsm w hv _ 0 rfl hF L U hL hU hA2 hLU
      · exact tst_B3s l v k b hk hb hbk op form lo hi n hw1 hw2 hw3 hw4 hw5 s hsm w hv _ 0 rfl hF L U hL hU hA2 (by omega)
    · exact tst_B4 l v k b hk hb hbk op form lo hi n hw1 hw2 hw3 hw4 hw5 s hsm w hv _ 0 rfl hF L U hL hU hA2
end Go.Proofs.YtlakglphjhoodaaDoor.Fl
