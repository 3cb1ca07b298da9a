/- Merged for FieldOwn -/
import Derived.Test.YtlakglphjhoodaaDoorFE
import Derived.Test.YtlakglphjhoodaaDoorFF
import Derived.Test.YtlakglphjhoodaaDoorQB
import Derived.BigQuiet
import Derived.Deep.QuietTactic
namespace Go.Proofs.YtlakglphjhoodaaDoor.Fl
open Go.RowKit Mm Law
set_option linter.unusedSimpArgs false
set_option linter.unusedSectionVars false
structure Tst where
  nm : ByteArray
  op : Int
  fo : Int
  lo : Int
  hi : Int
  ln : Int
  pt : ByteArray
def Tst.cs (T : Tst) : Array Value := #[.string T.nm, .int .i64 T.op, .int .i64 T.fo, .int .i64 T.lo, .int .i64 T.hi, .int .i64 T.ln, .string T.pt]
def Tst.val (T : Tst) : Value := .agg T.cs
def badForm (T : Tst) : Prop := T.op < 1 ∨ 6 < T.op ∨ T.fo < 1 ∨ 4 < T.fo ∨ (2 < T.op ∧ T.fo ≠ 1)
def badUse (T : Tst) : Prop := (T.fo = 4 ∧ T.lo ≠ 0) ∨ (T.fo ≠ 3 ∧ T.hi ≠ 0) ∨ (T.fo ≠ 2 ∧ T.ln ≠ 0) ∨ (T.fo ≠ 4 ∧ T.pt ≠ ⟨#[]⟩)
def badVal (T : Tst) (b : Nat) : Prop := T.lo < 0 ∨ (topN b : Int) < T.lo ∨ T.hi < 0 ∨ (topN b : Int) < T.hi ∨ T.ln < 0 ∨ (b : Int) < T.ln
def badPre (T : Tst) (b : Nat) : Prop := T.fo = 2 ∧ T.lo.toNat % 2 ^ (b - T.ln.toNat) ≠ 0
def badRng (T : Tst) : Prop := T.fo = 3 ∧ T.hi < T.lo
def badPat (T : Tst) (b : Nat) : Prop := T.fo = 4 ∧ ¬ (T.pt.size = b ∧ ∀ x ∈ T.pt.data.toList, x ∈ dShow)
open Classical in
noncomputable def fitE (T : Tst) (b : Nat) : Int := if badForm T then 47 else if badUse T then 47 else if badVal T b then 42 else if badPre T b then 42 else if badRng T then 43 else if badPat T b then 44 else 0
theorem fit_form {T : Tst} {b : Nat} (h : badForm T) : fitE T b = 47 := by unfold fitE; rw [if_pos h]
theorem fit_use {T : Tst} {b : Nat} (h : badUse T) : fitE T b = 47 := by
  unfold fitE
  by_cases h0 : badForm T
  · rw [if_pos h0]
  · rw [if_neg h0, if_pos h]
theorem fit_val {T : Tst} {b : Nat} (h0 : ¬ badForm T) (h1 : ¬ badUse T) (h : badVal T b) : fitE T b = 42 := by
  unfold fitE; rw [if_neg h0, if_neg h1, if_pos h]
theorem fit_pre {T : Tst} {b : Nat} (h0 : ¬ badForm T) (h1 : ¬ badUse T) (h2 : ¬ badVal T b) (h : badPre T b) : fitE T b = 42 := by
  unfold fitE; rw [if_neg h0, if_neg h1, if_neg h2, if_pos h]
theorem fit_rng {T : Tst} {b : Nat} (h0 : ¬ badForm T) (h1 : ¬ badUse T) (h2 : ¬ badVal T b) (h3 : ¬ badPre T b) (h : badRng T) : fitE T b = 43 := by
  unfold fitE; rw [if_neg h0, if_neg h1, if_neg h2, if_neg h3, if_pos h]
theorem fit_pat {T : Tst} {b : Nat} (h0 : ¬ badForm T) (h1 : ¬ badUse T) (h2 : ¬ badVal T b) (h3 : ¬ badPre T b) (h4 : ¬ badRng T) (h : badPat T b) : fitE T b = 44 := by
  unfold fitE; rw [if_neg h0, if_neg h1, if_neg h2, if_neg h3, if_neg h4, if_pos h]
theorem fit_ok {T : Tst} {b : Nat} (h0 : ¬ badForm T) (h1 : ¬ badUse T) (h2 : ¬ badVal T b) (h3 : ¬ badPre T b) (h4 : ¬ badRng T) (h5 : ¬ badPat T b) : fitE T b = 0 := by
  unfold fitE; rw [if_neg h0, if_neg h1, if_neg h2, if_neg h3, if_neg h4, if_neg h5]
theorem fit_bd (T : Tst) (b : Nat) : 0 ≤ fitE T b ∧ fitE T b ≤ 47 := by
  unfold fitE
  repeat' split
  all_goals omega
end Go.Proofs.YtlakglphjhoodaaDoor.Fl

namespace Go.Proofs.YtlakglphjhoodaaDoor.Fl
open Go.RowKit Mm Law
set_option linter.unusedVariables false
theorem quiet_again {P : Program} {f : FuncId} {args : Array Value} {w : World} {m n : Nat} {v : Value} (h : Calls P f args (w.drewN (m + n)) fun e w' => e = .returned v ∧ w' = w.drewN (m + n)) :
    Calls P f args (w.drewN (m + n)) fun e w'' => e = .returned v ∧ ∃ k, w'' = w.drewN (m + k) := h.mono fun _ _ ⟨he, hm⟩ => ⟨he, n, hm⟩
def b3x : ByteArray := ⟨#[48, 49, 120]⟩
def useB : Nat → Nat → Bool := fun f j => (f == 1 && j == 0) || (f == 2 && (j == 0 || j == 2)) || (f == 3 && (j == 0 || j == 1)) || (f == 4 && j == 3)
def Used (w : World) : Prop := 0 < w.heap.size ∧ ∀ f j, 1 ≤ f → f ≤ 4 → j < 4 → w.cell? ⟨0, f * 4 + j, none⟩ = some (.bool (useB f j))
theorem Used.below {w w' : World} (h : Used w) (hb : Below w.heap.size w w') : Used w' :=
  ⟨Nat.lt_of_lt_of_le h.1 hb.size, fun f j h1 h2 h3 => by rw [hb.cell (p := ⟨0, f * 4 + j, none⟩) h.1]; exact h.2 f j h1 h2 h3⟩
def FitAns (w : World) (T : Tst) (b : Nat) (e : Ending) (w' : World) : Prop := e = .returned (.int .i64 (fitE T b)) ∧ Below w.heap.size w w'
theorem fit_ans {w : World} {T : Tst} {b : Nat} {c : Int} (h : fitE T b = c) {w' : World} (hb : Below w.heap.size w w') : FitAns w T b (.returned (.int .i64 c)) w' := by
  unfold FitAns; rw [h]; exact ⟨rfl, hb⟩
set_option maxRecDepth 100000 in
set_option maxHeartbeats 8000000 in
theorem fit_a1 (nm : ByteArray) (op fo lo hi ln : Int) (pt : ByteArray) (b : Nat) (hb : b ≤ 32) (h : op < 1) (w : World) (hu : Used w) :
    Calls Tryd.prog 29 #[.agg #[.string nm, .int .i64 op, .int .i64 fo, .int .i64 lo, .int .i64 hi, .int .i64 ln, .string pt], .int .i64 (b : Int)] w (FitAns w ⟨nm, op, fo, lo, hi, ln, pt⟩ b) := by
  have HE := Lib.hid (show fitE ⟨nm, op, fo, lo, hi, ln, pt⟩ b = 47 from fit_form (.inl h))
  have HT := Lib.hid (fun n (h : n ≤ 33) w => (top_any n h w).mono (fun _ _ x => And.intro x.1 x.2.symm))
  clear hu
  go_enter Tryd.func29, Tryd.ntmps29
  go_wp2_with fail
  go_ret
  exact fit_ans HE.out (bal (Below.refl _ _) _)
set_option maxRecDepth 100000 in
set_option maxHeartbeats 8000000 in
theorem fit_a2 (nm : ByteArray) (op fo lo hi ln : Int) (pt : ByteArray) (b : Nat) (hb : b ≤ 32) (h : 6 < op) (w : World) (hu : Used w) :
    Calls Tryd.prog 29 #[.agg #[.string nm, .int .i64 op, .int .i64 fo, .int .i64 lo, .int .i64 hi, .int .i64 ln, .string pt], .int .i64 (b : Int)] w (FitAns w ⟨nm, op, fo, lo, hi, ln, pt⟩ b) := by
  have HE := Lib.hid (show fitE ⟨nm, op, fo, lo, hi, ln, pt⟩ b = 47 from fit_form (.inr (.inl h)))
  have HT := Lib.hid (fun n (h : n ≤ 33) w => (top_any n h w).mono (fun _ _ x => And.intro x.1 x.2.symm))
  clear hu
  go_enter Tryd.func29, Tryd.ntmps29
  go_wp2_with fail
  go_ret
  exact fit_ans HE.out (bal (Below.refl _ _) _)
set_option maxRecDepth 100000 in
set_option maxHeartbeats 8000000 in
theorem fit_a3 (nm : ByteArray) (op fo lo hi ln : Int) (pt : ByteArray) (b : Nat) (hb : b ≤ 32) (h0 : 1 ≤ op) (h1 : op ≤ 6) (h : fo < 1) (w : World) (hu : Used w) :
    Calls Tryd.prog 29 #[.agg #[.string nm, .int .i64 op, .int .i64 fo, .int .i64 lo, .int .i64 hi, .int .i64 ln, .string pt], .int .i64 (b : Int)] w (FitAns w ⟨nm, op, fo, lo, hi, ln, pt⟩ b) := by
  have HE := Lib.hid (show fitE ⟨nm, op, fo, lo, hi, ln, pt⟩ b = 47 from fit_form (.inr (.inr (.inl h))))
  have HT := Lib.hid (fun n (h : n ≤ 33) w => (top_any n h w).mono (fun _ _ x => And.intro x.1 x.2.symm))
  clear hu
  go_enter Tryd.func29, Tryd.ntmps29
  go_wp2_with fail
  go_ret
  exact fit_ans HE.out (bal (Below.refl _ _) _)
set_option maxRecDepth 100000 in
set_option maxHeartbeats 8000000 in
theorem fit_a4 (nm : ByteArray) (op fo lo hi ln : Int) (pt : ByteArray) (b : Nat) (hb : b ≤ 32) (h0 : 1 ≤ op) (h1 : op ≤ 6) (h : 4 < fo) (w : World) (hu : Used w) :
    Calls Tryd.prog 29 #[.agg #[.string nm, .int .i64 op, .int .i64 fo, .int .i64 lo, .int .i64 hi, .int .i64 ln, .string pt], .int .i64 (b : Int)] w (FitAns w ⟨nm, op, fo, lo, hi, ln, pt⟩ b) := by
  have HE := Lib.hid (show fitE ⟨nm, op, fo, lo, hi, ln, pt⟩ b = 47 from fit_form (.inr (.inr (.inr (.inl h)))))
  have HT := Lib.hid (fun n (h : n ≤ 33) w => (top_any n h w).mono (fun _ _ x => And.intro x.1 x.2.symm))
  clear hu
  go_enter Tryd.func29, Tryd.ntmps29
  go_wp2_with fail
  go_ret
  exact fit_ans HE.out (bal (Below.refl _ _) _)
set_option maxRecDepth 100000 in
set_option maxHeartbeats 8000000 in
theorem fit_a5 (nm : ByteArray) (op fo lo hi ln : Int) (pt : ByteArray) (b : Nat) (hb : b ≤ 32) (h0 : 2 < op) (h1 : op ≤ 6) (h2 : 1 ≤ fo) (h3 : fo ≤ 4) (h : (fo != 1) = true) (w : World) (hu : Used w) :
    Calls Tryd.prog 29 #[.agg #[.string nm, .int .i64 op, .int .i64 fo, .int .i64 lo, .int .i64 hi, .int .i64 ln, .string pt], .int .i64 (b : Int)] w (FitAns w ⟨nm, op, fo, lo, hi, ln, pt⟩ b) := by
  have HE := Lib.hid (show fitE ⟨nm, op, fo, lo, hi, ln, pt⟩ b = 47 from fit_form (.inr (.inr (.inr (.inr ⟨h0, by simpa using h⟩)))))
  have HT := Lib.hid (fun n (h : n ≤ 33) w => (top_any n h w).mono (fun _ _ x => And.intro x.1 x.2.symm))
  clear hu
  go_enter Tryd.func29, Tryd.ntmps29
  go_wp2_with fail
  go_ret
  exact fit_ans HE.out (bal (Below.refl _ _) _)
set_option maxRecDepth 100000 in
set_option maxHeartbeats 8000000 in
theorem fit_f1a (nm : ByteArray) (op : Int) (lo : Nat) (b : Nat) (hb : b ≤ 32) (h0 : 1 ≤ op) (h1 : op ≤ 2) (hlo : lo ≤ topN b) (w : World) (hu : Used w) :
    Calls Tryd.prog 29 #[.agg #[.string nm, .int .i64 op, .int .i64 1, .int .i64 (lo : Int), .int .i64 0, .int .i64 0, .string ⟨#[]⟩], .int .i64 (b : Int)] w (FitAns w ⟨nm, op, 1, (lo : Int), 0, 0, ⟨#[]⟩⟩ b) := by
  have HE := Lib.hid (show fitE ⟨nm, op, 1, (lo : Int), 0, 0, ⟨#[]⟩⟩ b = 0 from fit_ok (by unfold badForm; simp; try omega) (by unfold badUse; simp) (by unfold badVal; simp; try omega) (by unfold badPre; simp) (by unfold badRng; simp) (by unfold badPat; simp))
  have hz := hu.1
  have c0 : w.cell? ⟨0, 4, none⟩ = some (.bool true) := hu.2 1 0 (by decide) (by decide) (by decide)
  have c1 : w.cell? ⟨0, 5, none⟩ = some (.bool false) := hu.2 1 1 (by decide) (by decide) (by decide)
  have c2 : w.cell? ⟨0, 6, none⟩ = some (.bool false) := hu.2 1 2 (by decide) (by decide) (by decide)
  have c3 : w.cell? ⟨0, 7, none⟩ = some (.bool false) := hu.2 1 3 (by decide) (by decide) (by decide)
  have HT := Lib.hid (fun n (h : n ≤ 33) w => (top_any n h w).mono (fun _ _ x => And.intro x.1 x.2.symm))
  have d68710 : decide ((lo : Int) < 0) = false := decide_eq_false (by omega)
  have d27619 : decide (topN b < lo) = false := decide_eq_false (by omega)
  have d74032 : decide ((topN b : Int) < 0) = false := decide_eq_false (by omega)
  have d52974 : decide ((b : Int) < 0) = false := decide_eq_false (by omega)
  clear hu
  go_enter Tryd.func29, Tryd.ntmps29
  go_wp2_with fail
  go_quiet ((go_at_call 25; exact Calls.quiet_of_same (HT.out _ (by omega) _)))
  go_wp2_with fail
  go_quiet ((go_at_call 25; exact quiet_again (HT.out _ (by omega) _)))
  go_wp2_with fail
  go_ret
  exact fit_ans HE.out (below_drewN (bal (bal (Below.refl _ _) _) _) _)
set_option maxRecDepth 100000 in
set_option maxHeartbeats 8000000 in
theorem fit_f1a_lo (nm : ByteArray) (op : Int) (lo : Int) (b : Nat) (hb : b ≤ 32) (h0 : 1 ≤ op) (h1 : op ≤ 2) (hlo : lo < 0) (w : World) (hu : Used w) :
    Calls Tryd.prog 29 #[.agg #[.string nm, .int .i64 op, .int .i64 1, .int .i64 lo, .int .i64 0, .int .i64 0, .string ⟨#[]⟩], .int .i64 (b : Int)] w (FitAns w ⟨nm, op, 1, lo, 0, 0, ⟨#[]⟩⟩ b) := by
  have HE := Lib.hid (show fitE ⟨nm, op, 1, lo, 0, 0, ⟨#[]⟩⟩ b = 42 from fit_val (by unfold badForm; simp; try omega) (by unfold badUse; simp) (.inl hlo))
  have hz := hu.1
  have c0 : w.cell? ⟨0, 4, none⟩ = some (.bool true) := hu.2 1 0 (by decide) (by decide) (by decide)
  have c1 : w.cell? ⟨0, 5, none⟩ = some (.bool false) := hu.2 1 1 (by decide) (by decide) (by decide)
  have c2 : w.cell? ⟨0, 6, none⟩ = some (.bool false) := hu.2 1 2 (by decide) (by decide) (by decide)
  have c3 : w.cell? ⟨0, 7, none⟩ = some (.bool false) := hu.2 1 3 (by decide) (by decide) (by decide)
  have HT := Lib.hid (fun n (h : n ≤ 33) w => (top_any n h w).mono (fun _ _ x => And.intro x.1 x.2.symm))
  have d61297 : decide (lo < 0) = true := decide_eq_true (by omega)
  clear hu
  go_enter Tryd.func29, Tryd.ntmps29
  go_wp2_with fail
  go_quiet ((go_at_call 25; exact Calls.quiet_of_same (HT.out _ (by omega) _)))
  go_wp2_with fail
  go_ret
  exact fit_ans HE.out (below_drewN (bal (bal (Below.refl _ _) _) _) _)
set_option maxRecDepth 100000 in
set_option maxHeartbeats 8000000 in
theorem fit_f1a_hi (nm : ByteArray) (op : Int) (lo : Nat) (b : Nat) (hb : b ≤ 32) (h0 : 1 ≤ op) (h1 : op ≤ 2) (hlo : topN b < lo) (w : World) (hu : Used w) :
    Calls Tryd.prog 29 #[.agg #[.string nm, .int .i64 op, .int .i64 1, .int .i64 (lo : Int), .int .i64 0, .int .i64 0, .string ⟨#[]⟩], .int .i64 (b : Int)] w (FitAns w ⟨nm, op, 1, (lo : Int), 0, 0, ⟨#[]⟩⟩ b) := by
  have HE := Lib.hid (show fitE ⟨nm, op, 1, (lo : Int), 0, 0, ⟨#[]⟩⟩ b = 42 from fit_val (by unfold badForm; simp; try omega) (by unfold badUse; simp) (.inr (.inl (Int.ofNat_lt.2 hlo))))
  have hz := hu.1
  have c0 : w.cell? ⟨0, 4, none⟩ = some (.bool true) := hu.2 1 0 (by decide) (by decide) (by decide)
  have c1 : w.cell? ⟨0, 5, none⟩ = some (.bool false) := hu.2 1 1 (by decide) (by decide) (by decide)
  have c2 : w.cell? ⟨0, 6, none⟩ = some (.bool false) := hu.2 1 2 (by decide) (by decide) (by decide)
  have c3 : w.cell? ⟨0, 7, none⟩ = some (.bool false) := hu.2 1 3 (by decide) (by decide) (by decide)
  have HT := Lib.hid (fun n (h : n ≤ 33) w => (top_any n h w).mono (fun _ _ x => And.intro x.1 x.2.symm))
  have d68710 : decide ((lo : Int) < 0) = false := decide_eq_false (by omega)
  have d27619 : decide (topN b < lo) = true := decide_eq_true (by omega)
  clear hu
  go_enter Tryd.func29, Tryd.ntmps29
  go_wp2_with fail
  go_quiet ((go_at_call 25; exact Calls.quiet_of_same (HT.out _ (by omega) _)))
  go_wp2_with fail
  go_ret
  exact fit_ans HE.out (below_drewN (bal (bal (Below.refl _ _) _) _) _)
set_option maxRecDepth 100000 in
set_option maxHeartbeats 8000000 in
theorem fit_f1a_u1 (nm : ByteArray) (op lo hi ln : Int) (pt : ByteArray) (b : Nat) (hb : b ≤ 32) (h0 : 1 ≤ op) (h1 : op ≤ 2) (h : (hi != 0) = true) (w : World) (hu : Used w) :
    Calls Tryd.prog 29 #[.agg #[.string nm, .int .i64 op, .int .i64 1, .int .i64 lo, .int .i64 hi, .int .i64 ln, .string pt], .int .i64 (b : Int)] w (FitAns w ⟨nm, op, 1, lo, hi, ln, pt⟩ b) := by
  have HE := Lib.hid (show fitE ⟨nm, op, 1, lo, hi, ln, pt⟩ b = 47 from fit_use (by unfold badUse; simp at h ⊢; simp [h]))
  have hz := hu.1
  have c0 : w.cell? ⟨0, 4, none⟩ = some (.bool true) := hu.2 1 0 (by decide) (by decide) (by decide)
  have c1 : w.cell? ⟨0, 5, none⟩ = some (.bool false) := hu.2 1 1 (by decide) (by decide) (by decide)
  have c2 : w.cell? ⟨0, 6, none⟩ = some (.bool false) := hu.2 1 2 (by decide) (by decide) (by decide)
  have c3 : w.cell? ⟨0, 7, none⟩ = some (.bool false) := hu.2 1 3 (by decide) (by decide) (by decide)
  have HT := Lib.hid (fun n (h : n ≤ 33) w => (top_any n h w).mono (fun _ _ x => And.intro x.1 x.2.symm))
  clear hu
  go_enter Tryd.func29, Tryd.ntmps29
  go_wp2_with fail
  go_ret
  exact fit_ans HE.out (bal (bal (Below.refl _ _) _) _)
set_option maxRecDepth 100000 in
set_option maxHeartbeats 8000000 in
theorem fit_f1a_u2 (nm : ByteArray) (op lo ln : Int) (pt : ByteArray) (b : Nat) (hb : b ≤ 32) (h0 : 1 ≤ op) (h1 : op ≤ 2) (h : (ln != 0) = true) (w : World) (hu : Used w) :
    Calls Tryd.prog 29 #[.agg #[.string nm, .int .i64 op, .int .i64 1, .int .i64 lo, .int .i64 0, .int .i64 ln, .string pt], .int .i64 (b : Int)] w (FitAns w ⟨nm, op, 1, lo, 0, ln, pt⟩ b) := by
  have HE := Lib.hid (show fitE ⟨nm, op, 1, lo, 0, ln, pt⟩ b = 47 from fit_use (by unfold badUse; simp at h ⊢; simp [h]))
  have hz := hu.1
  have c0 : w.cell? ⟨0, 4, none⟩ = some (.bool true) := hu.2 1 0 (by decide) (by decide) (by decide)
  have c1 : w.cell? ⟨0, 5, none⟩ = some (.bool false) := hu.2 1 1 (by decide) (by decide) (by decide)
  have c2 : w.cell? ⟨0, 6, none⟩ = some (.bool false) := hu.2 1 2 (by decide) (by decide) (by decide)
  have c3 : w.cell? ⟨0, 7, none⟩ = some (.bool false) := hu.2 1 3 (by decide) (by decide) (by decide)
  have HT := Lib.hid (fun n (h : n ≤ 33) w => (top_any n h w).mono (fun _ _ x => And.intro x.1 x.2.symm))
  clear hu
  go_enter Tryd.func29, Tryd.ntmps29
  go_wp2_with fail
  go_ret
  exact fit_ans HE.out (bal (bal (Below.refl _ _) _) _)
set_option maxRecDepth 100000 in
set_option maxHeartbeats 8000000 in
theorem fit_f1a_u3 (nm : ByteArray) (op lo : Int) (pt : ByteArray) (b : Nat) (hb : b ≤ 32) (h0 : 1 ≤ op) (h1 : op ≤ 2) (h : pt.toList.isEmpty = false) (w : World) (hu : Used w) :
    Calls Tryd.prog 29 #[.agg #[.string nm, .int .i64 op, .int .i64 1, .int .i64 lo, .int .i64 0, .int .i64 0, .string pt], .int .i64 (b : Int)] w (FitAns w ⟨nm, op, 1, lo, 0, 0, pt⟩ b) := by
  have HE := Lib.hid (show fitE ⟨nm, op, 1, lo, 0, 0, pt⟩ b = 47 from fit_use (.inr (.inr (.inr ⟨(by decide : (1 : Int) ≠ 4), fun (e : pt = ⟨#[]⟩) => by rw [e] at h; simp at h⟩))))
  have hz := hu.1
  have c0 : w.cell? ⟨0, 4, none⟩ = some (.bool true) := hu.2 1 0 (by decide) (by decide) (by decide)
  have c1 : w.cell? ⟨0, 5, none⟩ = some (.bool false) := hu.2 1 1 (by decide) (by decide) (by decide)
  have c2 : w.cell? ⟨0, 6, none⟩ = some (.bool false) := hu.2 1 2 (by decide) (by decide) (by decide)
  have c3 : w.cell? ⟨0, 7, none⟩ = some (.bool false) := hu.2 1 3 (by decide) (by decide) (by decide)
  have HT := Lib.hid (fun n (h : n ≤ 33) w => (top_any n h w).mono (fun _ _ x => And.intro x.1 x.2.symm))
  clear hu
  go_enter Tryd.func29, Tryd.ntmps29
  go_wp2_with fail
  go_ret
  exact fit_ans HE.out (bal (bal (Below.refl _ _) _) _)
set_option maxRecDepth 100000 in
set_option maxHeartbeats 8000000 in
theorem fit_f1b (nm : ByteArray) (op : Int) (lo : Nat) (b : Nat) (hb : b ≤ 32) (h0 : 2 < op) (h1 : op ≤ 6) (hlo : lo ≤ topN b) (w : World) (hu : Used w) :
    Calls Tryd.prog 29 #[.agg #[.string nm, .int .i64 op, .int .i64 1, .int .i64 (lo : Int), .int .i64 0, .int .i64 0, .string ⟨#[]⟩], .int .i64 (b : Int)] w (FitAns w ⟨nm, op, 1, (lo : Int), 0, 0, ⟨#[]⟩⟩ b) := by
  have HE := Lib.hid (show fitE ⟨nm, op, 1, (lo : Int), 0, 0, ⟨#[]⟩⟩ b = 0 from fit_ok (by unfold badForm; simp; try omega) (by unfold badUse; simp) (by unfold badVal; simp; try omega) (by unfold badPre; simp) (by unfold badRng; simp) (by unfold badPat; simp))
  have hz := hu.1
  have c0 : w.cell? ⟨0, 4, none⟩ = some (.bool true) := hu.2 1 0 (by decide) (by decide) (by decide)
  have c1 : w.cell? ⟨0, 5, none⟩ = some (.bool false) := hu.2 1 1 (by decide) (by decide) (by decide)
  have c2 : w.cell? ⟨0, 6, none⟩ = some (.bool false) := hu.2 1 2 (by decide) (by decide) (by decide)
  have c3 : w.cell? ⟨0, 7, none⟩ = some (.bool false) := hu.2 1 3 (by decide) (by decide) (by decide)
  have HT := Lib.hid (fun n (h : n ≤ 33) w => (top_any n h w).mono (fun _ _ x => And.intro x.1 x.2.symm))
  have d68710 : decide ((lo : Int) < 0) = false := decide_eq_false (by omega)
  have d27619 : decide (topN b < lo) = false := decide_eq_false (by omega)
  have d74032 : decide ((topN b : Int) < 0) = false := decide_eq_false (by omega)
  have d52974 : decide ((b : Int) < 0) = false := decide_eq_false (by omega)
  clear hu
  go_enter Tryd.func29, Tryd.ntmps29
  go_wp2_with fail
  go_quiet ((go_at_call 25; exact Calls.quiet_of_same (HT.out _ (by omega) _)))
  go_wp2_with fail
  go_quiet ((go_at_call 25; exact quiet_again (HT.out _ (by omega) _)))
  go_wp2_with fail
  go_ret
  exact fit_ans HE.out (below_drewN (bal (bal (Below.refl _ _) _) _) _)
set_option maxRecDepth 100000 in
set_option maxHeartbeats 8000000 in
theorem fit_f1b_lo (nm : ByteArray) (op : Int) (lo : Int) (b : Nat) (hb : b ≤ 32) (h0 : 2 < op) (h1 : op ≤ 6) (hlo : lo < 0) (w : World) (hu : Used w) :
    Calls Tryd.prog 29 #[.agg #[.string nm, .int .i64 op, .int .i64 1, .int .i64 lo, .int .i64 0, .int .i64 0, .string ⟨#[]⟩], .int .i64 (b : Int)] w (FitAns w ⟨nm, op, 1, lo, 0, 0, ⟨#[]⟩⟩ b) := by
  have HE := Lib.hid (show fitE ⟨nm, op, 1, lo, 0, 0, ⟨#[]⟩⟩ b = 42 from fit_val (by unfold badForm; simp; try omega) (by unfold badUse; simp) (.inl hlo))
  have hz := hu.1
  have c0 : w.cell? ⟨0, 4, none⟩ = some (.bool true) := hu.2 1 0 (by decide) (by decide) (by decide)
  have c1 : w.cell? ⟨0, 5, none⟩ = some (.bool false) := hu.2 1 1 (by decide) (by decide) (by decide)
  have c2 : w.cell? ⟨0, 6, none⟩ = some (.bool false) := hu.2 1 2 (by decide) (by decide) (by decide)
  have c3 : w.cell? ⟨0, 7, none⟩ = some (.bool false) := hu.2 1 3 (by decide) (by decide) (by decide)
  have HT := Lib.hid (fun n (h : n ≤ 33) w => (top_any n h w).mono (fun _ _ x => And.intro x.1 x.2.symm))
  have d61297 : decide (lo < 0) = true := decide_eq_true (by omega)
  clear hu
  go_enter Tryd.func29, Tryd.ntmps29
  go_wp2_with fail
  go_quiet ((go_at_call 25; exact Calls.quiet_of_same (HT.out _ (by omega) _)))
  go_wp2_with fail
  go_ret
  exact fit_ans HE.out (below_drewN (bal (bal (Below.refl _ _) _) _) _)
set_option maxRecDepth 100000 in
set_option maxHeartbeats 8000000 in
theorem fit_f1b_hi (nm : ByteArray) (op : Int) (lo : Nat) (b : Nat) (hb : b ≤ 32) (h0 : 2 < op) (h1 : op ≤ 6) (hlo : topN b < lo) (w : World) (hu : Used w) :
    Calls Tryd.prog 29 #[.agg #[.string nm, .int .i64 op, .int .i64 1, .int .i64 (lo : Int), .int .i64 0, .int .i64 0, .string ⟨#[]⟩], .int .i64 (b : Int)] w (FitAns w ⟨nm, op, 1, (lo : Int), 0, 0, ⟨#[]⟩⟩ b) := by
  have HE := Lib.hid (show fitE ⟨nm, op, 1, (lo : Int), 0, 0, ⟨#[]⟩⟩ b = 42 from fit_val (by unfold badForm; simp; try omega) (by unfold badUse; simp) (.inr (.inl (Int.ofNat_lt.2 hlo))))
  have hz := hu.1
  have c0 : w.cell? ⟨0, 4, none⟩ = some (.bool true) := hu.2 1 0 (by decide) (by decide) (by decide)
  have c1 : w.cell? ⟨0, 5, none⟩ = some (.bool false) := hu.2 1 1 (by decide) (by decide) (by decide)
  have c2 : w.cell? ⟨0, 6, none⟩ = some (.bool false) := hu.2 1 2 (by decide) (by decide) (by decide)
  have c3 : w.cell? ⟨0, 7, none⟩ = some (.bool false) := hu.2 1 3 (by decide) (by decide) (by decide)
  have HT := Lib.hid (fun n (h : n ≤ 33) w => (top_any n h w).mono (fun _ _ x => And.intro x.1 x.2.symm))
  have d68710 : decide ((lo : Int) < 0) = false := decide_eq_false (by omega)
  have d27619 : decide (topN b < lo) = true := decide_eq_true (by omega)
  clear hu
  go_enter Tryd.func29, Tryd.ntmps29
  go_wp2_with fail
  go_quiet ((go_at_call 25; exact Calls.quiet_of_same (HT.out _ (by omega) _)))
  go_wp2_with fail
  go_ret
  exact fit_ans HE.out (below_drewN (bal (bal (Below.refl _ _) _) _) _)
set_option maxRecDepth 100000 in
set_option maxHeartbeats 8000000 in
theorem fit_f1b_u1 (nm : ByteArray) (op lo hi ln : Int) (pt : ByteArray) (b : Nat) (hb : b ≤ 32) (h0 : 2 < op) (h1 : op ≤ 6) (h : (hi != 0) = true) (w : World) (hu : Used w) :
    Calls Tryd.prog 29 #[.agg #[.string nm, .int .i64 op, .int .i64 1, .int .i64 lo, .int .i64 hi, .int .i64 ln, .string pt], .int .i64 (b : Int)] w (FitAns w ⟨nm, op, 1, lo, hi, ln, pt⟩ b) := by
  have HE := Lib.hid (show fitE ⟨nm, op, 1, lo, hi, ln, pt⟩ b = 47 from fit_use (by unfold badUse; simp at h ⊢; simp [h]))
  have hz := hu.1
  have c0 : w.cell? ⟨0, 4, none⟩ = some (.bool true) := hu.2 1 0 (by decide) (by decide) (by decide)
  have c1 : w.cell? ⟨0, 5, none⟩ = some (.bool false) := hu.2 1 1 (by decide) (by decide) (by decide)
  have c2 : w.cell? ⟨0, 6, none⟩ = some (.bool false) := hu.2 1 2 (by decide) (by decide) (by decide)
  have c3 : w.cell? ⟨0, 7, none⟩ = some (.bool false) := hu.2 1 3 (by decide) (by decide) (by decide)
  have HT := Lib.hid (fun n (h : n ≤ 33) w => (top_any n h w).mono (fun _ _ x => And.intro x.1 x.2.symm))
  clear hu
  go_enter Tryd.func29, Tryd.ntmps29
  go_wp2_with fail
  go_ret
  exact fit_ans HE.out (bal (bal (Below.refl _ _) _) _)
set_option maxRecDepth 100000 in
set_option maxHeartbeats 8000000 in
theorem fit_f1b_u2 (nm : ByteArray) (op lo ln : Int) (pt : ByteArray) (b : Nat) (hb : b ≤ 32) (h0 : 2 < op) (h1 : op ≤ 6) (h : (ln != 0) = true) (w : World) (hu : Used w) :
    Calls Tryd.prog 29 #[.agg #[.string nm, .int .i64 op, .int .i64 1, .int .i64 lo, .int .i64 0, .int .i64 ln, .string pt], .int .i64 (b : Int)] w (FitAns w ⟨nm, op, 1, lo, 0, ln, pt⟩ b) := by
  have HE := Lib.hid (show fitE ⟨nm, op, 1, lo, 0, ln, pt⟩ b = 47 from fit_use (by unfold badUse; simp at h ⊢; simp [h]))
  have hz := hu.1
  have c0 : w.cell? ⟨0, 4, none⟩ = some (.bool true) := hu.2 1 0 (by decide) (by decide) (by decide)
  have c1 : w.cell? ⟨0, 5, none⟩ = some (.bool false) := hu.2 1 1 (by decide) (by decide) (by decide)
  have c2 : w.cell? ⟨0, 6, none⟩ = some (.bool false) := hu.2 1 2 (by decide) (by decide) (by decide)
  have c3 : w.cell? ⟨0, 7, none⟩ = some (.bool false) := hu.2 1 3 (by decide) (by decide) (by decide)
  have HT := Lib.hid (fun n (h : n ≤ 33) w => (top_any n h w).mono (fun _ _ x => And.intro x.1 x.2.symm))
  clear hu
  go_enter Tryd.func29, Tryd.ntmps29
  go_wp2_with fail
  go_ret
  exact fit_ans HE.out (bal (bal (Below.refl _ _) _) _)
set_option maxRecDepth 100000 in
set_option maxHeartbeats 8000000 in
theorem fit_f1b_u3 (nm : ByteArray) (op lo : Int) (pt : ByteArray) (b : Nat) (hb : b ≤ 32) (h0 : 2 < op) (h1 : op ≤ 6) (h : pt.toList.isEmpty = false) (w : World) (hu : Used w) :
    Calls Tryd.prog 29 #[.agg #[.string nm, .int .i64 op, .int .i64 1, .int .i64 lo, .int .i64 0, .int .i64 0, .string pt], .int .i64 (b : Int)] w (FitAns w ⟨nm, op, 1, lo, 0, 0, pt⟩ b) := by
  have HE := Lib.hid (show fitE ⟨nm, op, 1, lo, 0, 0, pt⟩ b = 47 from fit_use (.inr (.inr (.inr ⟨(by decide : (1 : Int) ≠ 4), fun (e : pt = ⟨#[]⟩) => by rw [e] at h; simp at h⟩))))
  have hz := hu.1
  have c0 : w.cell? ⟨0, 4, none⟩ = some (.bool true) := hu.2 1 0 (by decide) (by decide) (by decide)
  have c1 : w.cell? ⟨0, 5, none⟩ = some (.bool false) := hu.2 1 1 (by decide) (by decide) (by decide)
  have c2 : w.cell? ⟨0, 6, none⟩ = some (.bool false) := hu.2 1 2 (by decide) (by decide) (by decide)
  have c3 : w.cell? ⟨0, 7, none⟩ = some (.bool false) := hu.2 1 3 (by decide) (by decide) (by decide)
  have HT := Lib.hid (fun n (h : n ≤ 33) w => (top_any n h w).mono (fun _ _ x => And.intro x.1 x.2.symm))
  clear hu
  go_enter Tryd.func29, Tryd.ntmps29
  go_wp2_with fail
  go_ret
  exact fit_ans HE.out (bal (bal (Below.refl _ _) _) _)
end Go.Proofs.YtlakglphjhoodaaDoor.Fl

namespace Go.Proofs.YtlakglphjhoodaaDoor.Fl
open Go.RowKit Mm Law
set_option linter.unusedVariables false
set_option maxRecDepth 100000 in
set_option maxHeartbeats 8000000 in
theorem fit_f2_u1 (nm : ByteArray) (op lo hi ln : Int) (pt : ByteArray) (b : Nat) (hb : b ≤ 32) (h0 : 1 ≤ op) (h1 : op ≤ 2) (h : (hi != 0) = true) (w : World) (hu : Used w) :
    Calls Tryd.prog 29 #[.agg #[.string nm, .int .i64 op, .int .i64 2, .int .i64 lo, .int .i64 hi, .int .i64 ln, .string pt], .int .i64 (b : Int)] w (FitAns w ⟨nm, op, 2, lo, hi, ln, pt⟩ b) := by
  have HE := Lib.hid (show fitE ⟨nm, op, 2, lo, hi, ln, pt⟩ b = 47 from fit_use (by unfold badUse; simp at h ⊢; simp [h]))
  have hz := hu.1
  have c0 : w.cell? ⟨0, 8, none⟩ = some (.bool true) := hu.2 2 0 (by decide) (by decide) (by decide)
  have c1 : w.cell? ⟨0, 9, none⟩ = some (.bool false) := hu.2 2 1 (by decide) (by decide) (by decide)
  have c2 : w.cell? ⟨0, 10, none⟩ = some (.bool true) := hu.2 2 2 (by decide) (by decide) (by decide)
  have c3 : w.cell? ⟨0, 11, none⟩ = some (.bool false) := hu.2 2 3 (by decide) (by decide) (by decide)
  have HT := Lib.hid (fun n (h : n ≤ 33) w => (top_any n h w).mono (fun _ _ x => And.intro x.1 x.2.symm))
  clear hu
  go_enter Tryd.func29, Tryd.ntmps29
  go_wp2_with fail
  go_ret
  exact fit_ans HE.out (bal (bal (Below.refl _ _) _) _)
set_option maxRecDepth 100000 in
set_option maxHeartbeats 8000000 in
theorem fit_f2_u3 (nm : ByteArray) (op lo ln : Int) (pt : ByteArray) (b : Nat) (hb : b ≤ 32) (h0 : 1 ≤ op) (h1 : op ≤ 2) (h : pt.toList.isEmpty = false) (w : World) (hu : Used w) :
    Calls Tryd.prog 29 #[.agg #[.string nm, .int .i64 op, .int .i64 2, .int .i64 lo, .int .i64 0, .int .i64 ln, .string pt], .int .i64 (b : Int)] w (FitAns w ⟨nm, op, 2, lo, 0, ln, pt⟩ b) := by
  have HE := Lib.hid (show fitE ⟨nm, op, 2, lo, 0, ln, pt⟩ b = 47 from fit_use (.inr (.inr (.inr ⟨(by decide : (2 : Int) ≠ 4), fun (e : pt = ⟨#[]⟩) => by rw [e] at h; simp at h⟩))))
  have hz := hu.1
  have c0 : w.cell? ⟨0, 8, none⟩ = some (.bool true) := hu.2 2 0 (by decide) (by decide) (by decide)
  have c1 : w.cell? ⟨0, 9, none⟩ = some (.bool false) := hu.2 2 1 (by decide) (by decide) (by decide)
  have c2 : w.cell? ⟨0, 10, none⟩ = some (.bool true) := hu.2 2 2 (by decide) (by decide) (by decide)
  have c3 : w.cell? ⟨0, 11, none⟩ = some (.bool false) := hu.2 2 3 (by decide) (by decide) (by decide)
  have HT := Lib.hid (fun n (h : n ≤ 33) w => (top_any n h w).mono (fun _ _ x => And.intro x.1 x.2.symm))
  clear hu
  go_enter Tryd.func29, Tryd.ntmps29
  go_wp2_with fail
  go_ret
  exact fit_ans HE.out (bal (bal (Below.refl _ _) _) _)
set_option maxRecDepth 100000 in
set_option maxHeartbeats 8000000 in
theorem fit_f2_l1 (nm : ByteArray) (op lo ln : Int) (b : Nat) (hb : b ≤ 32) (h0 : 1 ≤ op) (h1 : op ≤ 2) (hlo : lo < 0) (w : World) (hu : Used w) :
    Calls Tryd.prog 29 #[.agg #[.string nm, .int .i64 op, .int .i64 2, .int .i64 lo, .int .i64 0, .int .i64 ln, .string ⟨#[]⟩], .int .i64 (b : Int)] w (FitAns w ⟨nm, op, 2, lo, 0, ln, ⟨#[]⟩⟩ b) := by
  have HE := Lib.hid (show fitE ⟨nm, op, 2, lo, 0, ln, ⟨#[]⟩⟩ b = 42 from fit_val (by unfold badForm; simp; try omega) (by unfold badUse; simp) (.inl hlo))
  have hz := hu.1
  have c0 : w.cell? ⟨0, 8, none⟩ = some (.bool true) := hu.2 2 0 (by decide) (by decide) (by decide)
  have c1 : w.cell? ⟨0, 9, none⟩ = some (.bool false) := hu.2 2 1 (by decide) (by decide) (by decide)
  have c2 : w.cell? ⟨0, 10, none⟩ = some (.bool true) := hu.2 2 2 (by decide) (by decide) (by decide)
  have c3 : w.cell? ⟨0, 11, none⟩ = some (.bool false) := hu.2 2 3 (by decide) (by decide) (by decide)
  have HT := Lib.hid (fun n (h : n ≤ 33) w => (top_any n h w).mono (fun _ _ x => And.intro x.1 x.2.symm))
  have d61297 : decide (lo < 0) = true := decide_eq_true (by omega)
  clear hu
  go_enter Tryd.func29, Tryd.ntmps29
  go_wp2_with fail
  go_quiet ((go_at_call 25; exact Calls.quiet_of_same (HT.out _ (by omega) _)))
  go_wp2_with fail
  go_ret
  exact fit_ans HE.out (below_drewN (bal (bal (Below.refl _ _) _) _) _)
set_option maxRecDepth 100000 in
set_option maxHeartbeats 8000000 in
theorem fit_f2_l2 (nm : ByteArray) (op ln : Int) (lo : Nat) (b : Nat) (hb : b ≤ 32) (h0 : 1 ≤ op) (h1 : op ≤ 2) (hlo : topN b < lo) (w : World) (hu : Used w) :
    Calls Tryd.prog 29 #[.agg #[.string nm, .int .i64 op, .int .i64 2, .int .i64 (lo : Int), .int .i64 0, .int .i64 ln, .string ⟨#[]⟩], .int .i64 (b : Int)] w (FitAns w ⟨nm, op, 2, (lo : Int), 0, ln, ⟨#[]⟩⟩ b) := by
  have HE := Lib.hid (show fitE ⟨nm, op, 2, (lo : Int), 0, ln, ⟨#[]⟩⟩ b = 42 from fit_val (by unfold badForm; simp; try omega) (by unfold badUse; simp) (.inr (.inl (Int.ofNat_lt.2 hlo))))
  have hz := hu.1
  have c0 : w.cell? ⟨0, 8, none⟩ = some (.bool true) := hu.2 2 0 (by decide) (by decide) (by decide)
  have c1 : w.cell? ⟨0, 9, none⟩ = some (.bool false) := hu.2 2 1 (by decide) (by decide) (by decide)
  have c2 : w.cell? ⟨0, 10, none⟩ = some (.bool true) := hu.2 2 2 (by decide) (by decide) (by decide)
  have c3 : w.cell? ⟨0, 11, none⟩ = some (.bool false) := hu.2 2 3 (by decide) (by decide) (by decide)
  have HT := Lib.hid (fun n (h : n ≤ 33) w => (top_any n h w).mono (fun _ _ x => And.intro x.1 x.2.symm))
  have d68710 : decide ((lo : Int) < 0) = false := decide_eq_false (by omega)
  have d27619 : decide (topN b < lo) = true := decide_eq_true (by omega)
  clear hu
  go_enter Tryd.func29, Tryd.ntmps29
  go_wp2_with fail
  go_quiet ((go_at_call 25; exact Calls.quiet_of_same (HT.out _ (by omega) _)))
  go_wp2_with fail
  go_ret
  exact fit_ans HE.out (below_drewN (bal (bal (Below.refl _ _) _) _) _)
set_option maxRecDepth 100000 in
set_option maxHeartbeats 8000000 in
theorem fit_f2_n1 (nm : ByteArray) (op ln : Int) (lo : Nat) (b : Nat) (hb : b ≤ 32) (h0 : 1 ≤ op) (h1 : op ≤ 2) (hlo : lo ≤ topN b) (hln : ln < 0) (w : World) (hu : Used w) :
    Calls Tryd.prog 29 #[.agg #[.string nm, .int .i64 op, .int .i64 2, .int .i64 (lo : Int), .int .i64 0, .int .i64 ln, .string ⟨#[]⟩], .int .i64 (b : Int)] w (FitAns w ⟨nm, op, 2, (lo : Int), 0, ln, ⟨#[]⟩⟩ b) := by
  have HE := Lib.hid (show fitE ⟨nm, op, 2, (lo : Int), 0, ln, ⟨#[]⟩⟩ b = 42 from fit_val (by unfold badForm; simp; try omega) (by unfold badUse; simp) (.inr (.inr (.inr (.inr (.inl hln))))))
  have hz := hu.1
  have c0 : w.cell? ⟨0, 8, none⟩ = some (.bool true) := hu.2 2 0 (by decide) (by decide) (by decide)
  have c1 : w.cell? ⟨0, 9, none⟩ = some (.bool false) := hu.2 2 1 (by decide) (by decide) (by decide)
  have c2 : w.cell? ⟨0, 10, none⟩ = some (.bool true) := hu.2 2 2 (by decide) (by decide) (by decide)
  have c3 : w.cell? ⟨0, 11, none⟩ = some (.bool false) := hu.2 2 3 (by decide) (by decide) (by decide)
  have HT := Lib.hid (fun n (h : n ≤ 33) w => (top_any n h w).mono (fun _ _ x => And.intro x.1 x.2.symm))
  have d68710 : decide ((lo : Int) < 0) = false := decide_eq_false (by omega)
  have d27619 : decide (topN b < lo) = false := decide_eq_false (by omega)
  have d74032 : decide ((topN b : Int) < 0) = false := decide_eq_false (by omega)
  have d30864 : decide (ln < 0) = true := decide_eq_true (by omega)
  clear hu
  go_enter Tryd.func29, Tryd.ntmps29
  go_wp2_with fail
  go_quiet ((go_at_call 25; exact Calls.quiet_of_same (HT.out _ (by omega) _)))
  go_wp2_with fail
  go_ret
  exact fit_ans HE.out (below_drewN (bal (bal (Below.refl _ _) _) _) _)
set_option maxRecDepth 100000 in
set_option maxHeartbeats 8000000 in
theorem fit_f2_n2 (nm : ByteArray) (op : Int) (lo ln : Nat) (b : Nat) (hb : b ≤ 32) (h0 : 1 ≤ op) (h1 : op ≤ 2) (hlo : lo ≤ topN b) (hln : b < ln) (w : World) (hu : Used w) :
    Calls Tryd.prog 29 #[.agg #[.string nm, .int .i64 op, .int .i64 2, .int .i64 (lo : Int), .int .i64 0, .int .i64 (ln : Int), .string ⟨#[]⟩], .int .i64 (b : Int)] w (FitAns w ⟨nm, op, 2, (lo : Int), 0, (ln : Int), ⟨#[]⟩⟩ b) := by
  have HE := Lib.hid (show fitE ⟨nm, op, 2, (lo : Int), 0, (ln : Int), ⟨#[]⟩⟩ b = 42 from fit_val (by unfold badForm; simp; try omega) (by unfold badUse; simp) (.inr (.inr (.inr (.inr (.inr (Int.ofNat_lt.2 hln)))))))
  have hz := hu.1
  have c0 : w.cell? ⟨0, 8, none⟩ = some (.bool true) := hu.2 2 0 (by decide) (by decide) (by decide)
  have c1 : w.cell? ⟨0, 9, none⟩ = some (.bool false) := hu.2 2 1 (by decide) (by decide) (by decide)
  have c2 : w.cell? ⟨0, 10, none⟩ = some (.bool true) := hu.2 2 2 (by decide) (by decide) (by decide)
  have c3 : w.cell? ⟨0, 11, none⟩ = some (.bool false) := hu.2 2 3 (by decide) (by decide) (by decide)
  have HT := Lib.hid (fun n (h : n ≤ 33) w => (top_any n h w).mono (fun _ _ x => And.intro x.1 x.2.symm))
  have d68710 : decide ((lo : Int) < 0) = false := decide_eq_false (by omega)
  have d27619 : decide (topN b < lo) = false := decide_eq_false (by omega)
  have d74032 : decide ((topN b : Int) < 0) = false := decide_eq_false (by omega)
  have d3609 : decide ((ln : Int) < 0) = false := decide_eq_false (by omega)
  have d68574 : decide (b < ln) = true := decide_eq_true (by omega)
  clear hu
  go_enter Tryd.func29, Tryd.ntmps29
  go_wp2_with fail
  go_quiet ((go_at_call 25; exact Calls.quiet_of_same (HT.out _ (by omega) _)))
  go_wp2_with fail
  go_ret
  exact fit_ans HE.out (below_drewN (bal (bal (Below.refl _ _) _) _) _)
set_option maxRecDepth 100000 in
set_option maxHeartbeats 8000000 in
theorem fit_f2_p (nm : ByteArray) (op : Int) (lo ln : Nat) (b : Nat) (hb : b ≤ 32) (h0 : 1 ≤ op) (h1 : op ≤ 2) (hlo : lo ≤ topN b) (hln : ln ≤ b) (hp : lo % 2 ^ (b - ln) ≠ 0) (w : World) (hu : Used w) :
    Calls Tryd.prog 29 #[.agg #[.string nm, .int .i64 op, .int .i64 2, .int .i64 (lo : Int), .int .i64 0, .int .i64 (ln : Int), .string ⟨#[]⟩], .int .i64 (b : Int)] w (FitAns w ⟨nm, op, 2, (lo : Int), 0, (ln : Int), ⟨#[]⟩⟩ b) := by
  have HE := Lib.hid (show fitE ⟨nm, op, 2, (lo : Int), 0, (ln : Int), ⟨#[]⟩⟩ b = 42 from fit_pre (by unfold badForm; simp; try omega) (by unfold badUse; simp) (by unfold badVal; simp; try omega) ⟨rfl, by simpa using hp⟩)
  have hz := hu.1
  have c0 : w.cell? ⟨0, 8, none⟩ = some (.bool true) := hu.2 2 0 (by decide) (by decide) (by decide)
  have c1 : w.cell? ⟨0, 9, none⟩ = some (.bool false) := hu.2 2 1 (by decide) (by decide) (by decide)
  have c2 : w.cell? ⟨0, 10, none⟩ = some (.bool true) := hu.2 2 2 (by decide) (by decide) (by decide)
  have c3 : w.cell? ⟨0, 11, none⟩ = some (.bool false) := hu.2 2 3 (by decide) (by decide) (by decide)
  have HT := Lib.hid (fun n (h : n ≤ 33) w => (top_any n h w).mono (fun _ _ x => And.intro x.1 x.2.symm))
  have d68710 : decide ((lo : Int) < 0) = false := decide_eq_false (by omega)
  have d27619 : decide (topN b < lo) = false := decide_eq_false (by omega)
  have d3609 : decide ((ln : Int) < 0) = false := decide_eq_false (by omega)
  have d68574 : decide (b < ln) = false := decide_eq_false (by omega)
  have d74032 : decide ((topN b : Int) < 0) = false := decide_eq_false (by omega)
  have htb := top_lt b hb
  have ha : bits .and .i64 (lo : Int) (topN (b - ln) : Int) = ((lo % 2 ^ (b - ln) : Nat) : Int) := and_top lo (b - ln) (by omega) (by omega)
  have HT2 := Lib.hid (fun w => (show Calls Tryd.prog 25 #[.int .i64 ((b : Int) - (ln : Int))] w fun e w' => e = .returned (.int .i64 (topN (b - ln) : Int)) ∧ w' = w from by have h := (top_any (b - ln) (by omega) w).mono (fun _ _ x => And.intro x.1 x.2.symm); rw [show ((b - ln : Nat) : Int) = (b : Int) - (ln : Int) from by omega] at h; exact h))
  have hw1 : IntKind.i64.wrap ((b : Int) - (ln : Int)) = (b : Int) - (ln : Int) := IntWalk.i64_in _ (by omega)
  have hq : (((lo % 2 ^ (b - ln) : Nat) : Int) != 0) = true := by rw [bne_iff_ne]; omega
  generalize lo % 2 ^ (b - ln) = R at *
  clear htb hp
  clear hu
  go_enter Tryd.func29, Tryd.ntmps29
  go_wp2_with fail
  go_quiet ((go_at_call 25; exact Calls.quiet_of_same (HT.out _ (by omega) _)))
  go_wp2_with fail
  go_quiet ((go_at_call 25; exact quiet_again (HT2.out _)))
  go_wp2_with fail
  go_ret
  first | exact fit_ans HE.out (below_drewN (bal (bal (Below.refl _ _) _) _) _) | exact fit_ans HE.out (below_drewN (below_drewN (bal (bal (Below.refl _ _) _) _) _) _)
set_option maxRecDepth 100000 in
set_option maxHeartbeats 8000000 in
theorem fit_f2 (nm : ByteArray) (op : Int) (lo ln : Nat) (b : Nat) (hb : b ≤ 32) (h0 : 1 ≤ op) (h1 : op ≤ 2) (hlo : lo ≤ topN b) (hln : ln ≤ b) (hp : lo % 2 ^ (b - ln) = 0) (w : World) (hu : Used w) :
    Calls Tryd.prog 29 #[.agg #[.string nm, .int .i64 op, .int .i64 2, .int .i64 (lo : Int), .int .i64 0, .int .i64 (ln : Int), .string ⟨#[]⟩], .int .i64 (b : Int)] w (FitAns w ⟨nm, op, 2, (lo : Int), 0, (ln : Int), ⟨#[]⟩⟩ b) := by
  have HE := Lib.hid (show fitE ⟨nm, op, 2, (lo : Int), 0, (ln : Int), ⟨#[]⟩⟩ b = 0 from fit_ok (by unfold badForm; simp; try omega) (by unfold badUse; simp) (by unfold badVal; simp; try omega) (by unfold badPre; simp [hp]) (by unfold badRng; simp) (by unfold badPat; simp))
  have hz := hu.1
  have c0 : w.cell? ⟨0, 8, none⟩ = some (.bool true) := hu.2 2 0 (by decide) (by decide) (by decide)
  have c1 : w.cell? ⟨0, 9, none⟩ = some (.bool false) := hu.2 2 1 (by decide) (by decide) (by decide)
  have c2 : w.cell? ⟨0, 10, none⟩ = some (.bool true) := hu.2 2 2 (by decide) (by decide) (by decide)
  have c3 : w.cell? ⟨0, 11, none⟩ = some (.bool false) := hu.2 2 3 (by decide) (by decide) (by decide)
  have HT := Lib.hid (fun n (h : n ≤ 33) w => (top_any n h w).mono (fun _ _ x => And.intro x.1 x.2.symm))
  have d68710 : decide ((lo : Int) < 0) = false := decide_eq_false (by omega)
  have d27619 : decide (topN b < lo) = false := decide_eq_false (by omega)
  have d3609 : decide ((ln : Int) < 0) = false := decide_eq_false (by omega)
  have d68574 : decide (b < ln) = false := decide_eq_false (by omega)
  have d74032 : decide ((topN b : Int) < 0) = false := decide_eq_false (by omega)
  have htb := top_lt b hb
  have ha : bits .and .i64 (lo : Int) (topN (b - ln) : Int) = ((lo % 2 ^ (b - ln) : Nat) : Int) := and_top lo (b - ln) (by omega) (by omega)
  have HT2 := Lib.hid (fun w => (show Calls Tryd.prog 25 #[.int .i64 ((b : Int) - (ln : Int))] w fun e w' => e = .returned (.int .i64 (topN (b - ln) : Int)) ∧ w' = w from by have h := (top_any (b - ln) (by omega) w).mono (fun _ _ x => And.intro x.1 x.2.symm); rw [show ((b - ln : Nat) : Int) = (b : Int) - (ln : Int) from by omega] at h; exact h))
  have hw1 : IntKind.i64.wrap ((b : Int) - (ln : Int)) = (b : Int) - (ln : Int) := IntWalk.i64_in _ (by omega)
  rw [hp] at ha
  clear htb hp
  clear hu
  go_enter Tryd.func29, Tryd.ntmps29
  go_wp2_with fail
  go_quiet ((go_at_call 25; exact Calls.quiet_of_same (HT.out _ (by omega) _)))
  go_wp2_with fail
  go_quiet ((go_at_call 25; exact quiet_again (HT2.out _)))
  go_wp2_with fail
  go_ret
  first | exact fit_ans HE.out (below_drewN (bal (bal (Below.refl _ _) _) _) _) | exact fit_ans HE.out (below_drewN (below_drewN (bal (bal (Below.refl _ _) _) _) _) _)
set_option maxRecDepth 100000 in
set_option maxHeartbeats 8000000 in
theorem fit_f3_u1 (nm : ByteArray) (op lo hi ln : Int) (pt : ByteArray) (b : Nat) (hb : b ≤ 32) (h0 : 1 ≤ op) (h1 : op ≤ 2) (h : (ln != 0) = true) (w : World) (hu : Used w) :
    Calls Tryd.prog 29 #[.agg #[.string nm, .int .i64 op, .int .i64 3, .int .i64 lo, .int .i64 hi, .int .i64 ln, .string pt], .int .i64 (b : Int)] w (FitAns w ⟨nm, op, 3, lo, hi, ln, pt⟩ b) := by
  have HE := Lib.hid (show fitE ⟨nm, op, 3, lo, hi, ln, pt⟩ b = 47 from fit_use (by unfold badUse; simp at h ⊢; simp [h]))
  have hz := hu.1
  have c0 : w.cell? ⟨0, 12, none⟩ = some (.bool true) := hu.2 3 0 (by decide) (by decide) (by decide)
  have c1 : w.cell? ⟨0, 13, none⟩ = some (.bool true) := hu.2 3 1 (by decide) (by decide) (by decide)
  have c2 : w.cell? ⟨0, 14, none⟩ = some (.bool false) := hu.2 3 2 (by decide) (by decide) (by decide)
  have c3 : w.cell? ⟨0, 15, none⟩ = some (.bool false) := hu.2 3 3 (by decide) (by decide) (by decide)
  have HT := Lib.hid (fun n (h : n ≤ 33) w => (top_any n h w).mono (fun _ _ x => And.intro x.1 x.2.symm))
  clear hu
  go_enter Tryd.func29, Tryd.ntmps29
  go_wp2_with fail
  go_ret
  exact fit_ans HE.out (bal (bal (Below.refl _ _) _) _)
set_option maxRecDepth 100000 in
set_option maxHeartbeats 8000000 in
theorem fit_f3_u3 (nm : ByteArray) (op lo hi : Int) (pt : ByteArray) (b : Nat) (hb : b ≤ 32) (h0 : 1 ≤ op) (h1 : op ≤ 2) (h : pt.toList.isEmpty = false) (w : World) (hu : Used w) :
    Calls Tryd.prog 29 #[.agg #[.string nm, .int .i64 op, .int .i64 3, .int .i64 lo, .int .i64 hi, .int .i64 0, .string pt], .int .i64 (b : Int)] w (FitAns w ⟨nm, op, 3, lo, hi, 0, pt⟩ b) := by
  have HE := Lib.hid (show fitE ⟨nm, op, 3, lo, hi, 0, pt⟩ b = 47 from fit_use (.inr (.inr (.inr ⟨(by decide : (3 : Int) ≠ 4), fun (e : pt = ⟨#[]⟩) => by rw [e] at h; simp at h⟩))))
  have hz := hu.1
  have c0 : w.cell? ⟨0, 12, none⟩ = some (.bool true) := hu.2 3 0 (by decide) (by decide) (by decide)
  have c1 : w.cell? ⟨0, 13, none⟩ = some (.bool true) := hu.2 3 1 (by decide) (by decide) (by decide)
  have c2 : w.cell? ⟨0, 14, none⟩ = some (.bool false) := hu.2 3 2 (by decide) (by decide) (by decide)
  have c3 : w.cell? ⟨0, 15, none⟩ = some (.bool false) := hu.2 3 3 (by decide) (by decide) (by decide)
  have HT := Lib.hid (fun n (h : n ≤ 33) w => (top_any n h w).mono (fun _ _ x => And.intro x.1 x.2.symm))
  clear hu
  go_enter Tryd.func29, Tryd.ntmps29
  go_wp2_with fail
  go_ret
  exact fit_ans HE.out (bal (bal (Below.refl _ _) _) _)
set_option maxRecDepth 100000 in
set_option maxHeartbeats 8000000 in
theorem fit_f3_l1 (nm : ByteArray) (op lo hi : Int) (b : Nat) (hb : b ≤ 32) (h0 : 1 ≤ op) (h1 : op ≤ 2) (hlo : lo < 0) (w : World) (hu : Used w) :
    Calls Tryd.prog 29 #[.agg #[.string nm, .int .i64 op, .int .i64 3, .int .i64 lo, .int .i64 hi, .int .i64 0, .string ⟨#[]⟩], .int .i64 (b : Int)] w (FitAns w ⟨nm, op, 3, lo, hi, 0, ⟨#[]⟩⟩ b) := by
  have HE := Lib.hid (show fitE ⟨nm, op, 3, lo, hi, 0, ⟨#[]⟩⟩ b = 42 from fit_val (by unfold badForm; simp; try omega) (by unfold badUse; simp) (.inl hlo))
  have hz := hu.1
  have c0 : w.cell? ⟨0, 12, none⟩ = some (.bool true) := hu.2 3 0 (by decide) (by decide) (by decide)
  have c1 : w.cell? ⟨0, 13, none⟩ = some (.bool true) := hu.2 3 1 (by decide) (by decide) (by decide)
  have c2 : w.cell? ⟨0, 14, none⟩ = some (.bool false) := hu.2 3 2 (by decide) (by decide) (by decide)
  have c3 : w.cell? ⟨0, 15, none⟩ = some (.bool false) := hu.2 3 3 (by decide) (by decide) (by decide)
  have HT := Lib.hid (fun n (h : n ≤ 33) w => (top_any n h w).mono (fun _ _ x => And.intro x.1 x.2.symm))
  have d61297 : decide (lo < 0) = true := decide_eq_true (by omega)
  clear hu
  go_enter Tryd.func29, Tryd.ntmps29
  go_wp2_with fail
  go_quiet ((go_at_call 25; exact Calls.quiet_of_same (HT.out _ (by omega) _)))
  go_wp2_with fail
  go_ret
  exact fit_ans HE.out (below_drewN (bal (bal (Below.refl _ _) _) _) _)
set_option maxRecDepth 100000 in
set_option maxHeartbeats 8000000 in
theorem fit_f3_l2 (nm : ByteArray) (op hi : Int) (lo : Nat) (b : Nat) (hb : b ≤ 32) (h0 : 1 ≤ op) (h1 : op ≤ 2) (hlo : topN b < lo) (w : World) (hu : Used w) :
    Calls Tryd.prog 29 #[.agg #[.string nm, .int .i64 op, .int .i64 3, .int .i64 (lo : Int), .int .i64 hi, .int .i64 0, .string ⟨#[]⟩], .int .i64 (b : Int)] w (FitAns w ⟨nm, op, 3, (lo : Int), hi, 0, ⟨#[]⟩⟩ b) := by
  have HE := Lib.hid (show fitE ⟨nm, op, 3, (lo : Int), hi, 0, ⟨#[]⟩⟩ b = 42 from fit_val (by unfold badForm; simp; try omega) (by unfold badUse; simp) (.inr (.inl (Int.ofNat_lt.2 hlo))))
  have hz := hu.1
  have c0 : w.cell? ⟨0, 12, none⟩ = some (.bool true) := hu.2 3 0 (by decide) (by decide) (by decide)
  have c1 : w.cell? ⟨0, 13, none⟩ = some (.bool true) := hu.2 3 1 (by decide) (by decide) (by decide)
  have c2 : w.cell? ⟨0, 14, none⟩ = some (.bool false) := hu.2 3 2 (by decide) (by decide) (by decide)
  have c3 : w.cell? ⟨0, 15, none⟩ = some (.bool false) := hu.2 3 3 (by decide) (by decide) (by decide)
  have HT := Lib.hid (fun n (h : n ≤ 33) w => (top_any n h w).mono (fun _ _ x => And.intro x.1 x.2.symm))
  have d68710 : decide ((lo : Int) < 0) = false := decide_eq_false (by omega)
  have d27619 : decide (topN b < lo) = true := decide_eq_true (by omega)
  clear hu
  go_enter Tryd.func29, Tryd.ntmps29
  go_wp2_with fail
  go_quiet ((go_at_call 25; exact Calls.quiet_of_same (HT.out _ (by omega) _)))
  go_wp2_with fail
  go_ret
  exact fit_ans HE.out (below_drewN (bal (bal (Below.refl _ _) _) _) _)
set_option maxRecDepth 100000 in
set_option maxHeartbeats 8000000 in
theorem fit_f3_n1 (nm : ByteArray) (op hi : Int) (lo : Nat) (b : Nat) (hb : b ≤ 32) (h0 : 1 ≤ op) (h1 : op ≤ 2) (hlo : lo ≤ topN b) (hhi : hi < 0) (w : World) (hu : Used w) :
    Calls Tryd.prog 29 #[.agg #[.string nm, .int .i64 op, .int .i64 3, .int .i64 (lo : Int), .int .i64 hi, .int .i64 0, .string ⟨#[]⟩], .int .i64 (b : Int)] w (FitAns w ⟨nm, op, 3, (lo : Int), hi, 0, ⟨#[]⟩⟩ b) := by
  have HE := Lib.hid (show fitE ⟨nm, op, 3, (lo : Int), hi, 0, ⟨#[]⟩⟩ b = 42 from fit_val (by unfold badForm; simp; try omega) (by unfold badUse; simp) (.inr (.inr (.inl hhi))))
  have hz := hu.1
  have c0 : w.cell? ⟨0, 12, none⟩ = some (.bool true) := hu.2 3 0 (by decide) (by decide) (by decide)
  have c1 : w.cell? ⟨0, 13, none⟩ = some (.bool true) := hu.2 3 1 (by decide) (by decide) (by decide)
  have c2 : w.cell? ⟨0, 14, none⟩ = some (.bool false) := hu.2 3 2 (by decide) (by decide) (by decide)
  have c3 : w.cell? ⟨0, 15, none⟩ = some (.bool false) := hu.2 3 3 (by decide) (by decide) (by decide)
  have HT := Lib.hid (fun n (h : n ≤ 33) w => (top_any n h w).mono (fun _ _ x => And.intro x.1 x.2.symm))
  have d68710 : decide ((lo : Int) < 0) = false := decide_eq_false (by omega)
  have d27619 : decide (topN b < lo) = false := decide_eq_false (by omega)
  have d16085 : decide (hi < 0) = true := decide_eq_true (by omega)
  clear hu
  go_enter Tryd.func29, Tryd.ntmps29
  go_wp2_with fail
  go_quiet ((go_at_call 25; exact Calls.quiet_of_same (HT.out _ (by omega) _)))
  go_wp2_with fail
  go_ret
  exact fit_ans HE.out (below_drewN (bal (bal (Below.refl _ _) _) _) _)
set_option maxRecDepth 100000 in
set_option maxHeartbeats 8000000 in
theorem fit_f3_n2 (nm : ByteArray) (op : Int) (lo hi : Nat) (b : Nat) (hb : b ≤ 32) (h0 : 1 ≤ op) (h1 : op ≤ 2) (hlo : lo ≤ topN b) (hhi : topN b < hi) (w : World) (hu : Used w) :
    Calls Tryd.prog 29 #[.agg #[.string nm, .int .i64 op, .int .i64 3, .int .i64 (lo : Int), .int .i64 (hi : Int), .int .i64 0, .string ⟨#[]⟩], .int .i64 (b : Int)] w (FitAns w ⟨nm, op, 3, (lo : Int), (hi : Int), 0, ⟨#[]⟩⟩ b) := by
  have HE := Lib.hid (show fitE ⟨nm, op, 3, (lo : Int), (hi : Int), 0, ⟨#[]⟩⟩ b = 42 from fit_val (by unfold badForm; simp; try omega) (by unfold badUse; simp) (.inr (.inr (.inr (.inl (Int.ofNat_lt.2 hhi))))))
  have hz := hu.1
  have c0 : w.cell? ⟨0, 12, none⟩ = some (.bool true) := hu.2 3 0 (by decide) (by decide) (by decide)
  have c1 : w.cell? ⟨0, 13, none⟩ = some (.bool true) := hu.2 3 1 (by decide) (by decide) (by decide)
  have c2 : w.cell? ⟨0, 14, none⟩ = some (.bool false) := hu.2 3 2 (by decide) (by decide) (by decide)
  have c3 : w.cell? ⟨0, 15, none⟩ = some (.bool false) := hu.2 3 3 (by decide) (by decide) (by decide)
  have HT := Lib.hid (fun n (h : n ≤ 33) w => (top_any n h w).mono (fun _ _ x => And.intro x.1 x.2.symm))
  have d68710 : decide ((lo : Int) < 0) = false := decide_eq_false (by omega)
  have d27619 : decide (topN b < lo) = false := decide_eq_false (by omega)
  have d9814 : decide ((hi : Int) < 0) = false := decide_eq_false (by omega)
  have d26811 : decide (topN b < hi) = true := decide_eq_true (by omega)
  clear hu
  go_enter Tryd.func29, Tryd.ntmps29
  go_wp2_with fail
  go_quiet ((go_at_call 25; exact Calls.quiet_of_same (HT.out _ (by omega) _)))
  go_wp2_with fail
  go_ret
  exact fit_ans HE.out (below_drewN (bal (bal (Below.refl _ _) _) _) _)
set_option maxRecDepth 100000 in
set_option maxHeartbeats 8000000 in
theorem fit_f3_r (nm : ByteArray) (op : Int) (lo hi : Nat) (b : Nat) (hb : b ≤ 32) (h0 : 1 ≤ op) (h1 : op ≤ 2) (hlo : lo ≤ topN b) (hhi : hi ≤ topN b) (hr : hi < lo) (w : World) (hu : Used w) :
    Calls Tryd.prog 29 #[.agg #[.string nm, .int .i64 op, .int .i64 3, .int .i64 (lo : Int), .int .i64 (hi : Int), .int .i64 0, .string ⟨#[]⟩], .int .i64 (b : Int)] w (FitAns w ⟨nm, op, 3, (lo : Int), (hi : Int), 0, ⟨#[]⟩⟩ b) := by
  have HE := Lib.hid (show fitE ⟨nm, op, 3, (lo : Int), (hi : Int), 0, ⟨#[]⟩⟩ b = 43 from fit_rng (by unfold badForm; simp; try omega) (by unfold badUse; simp) (by unfold badVal; simp; try omega) (by unfold badPre; simp) ⟨rfl, Int.ofNat_lt.2 hr⟩)
  have hz := hu.1
  have c0 : w.cell? ⟨0, 12, none⟩ = some (.bool true) := hu.2 3 0 (by decide) (by decide) (by decide)
  have c1 : w.cell? ⟨0, 13, none⟩ = some (.bool true) := hu.2 3 1 (by decide) (by decide) (by decide)
  have c2 : w.cell? ⟨0, 14, none⟩ = some (.bool false) := hu.2 3 2 (by decide) (by decide) (by decide)
  have c3 : w.cell? ⟨0, 15, none⟩ = some (.bool false) := hu.2 3 3 (by decide) (by decide) (by decide)
  have HT := Lib.hid (fun n (h : n ≤ 33) w => (top_any n h w).mono (fun _ _ x => And.intro x.1 x.2.symm))
  have d68710 : decide ((lo : Int) < 0) = false := decide_eq_false (by omega)
  have d27619 : decide (topN b < lo) = false := decide_eq_false (by omega)
  have d9814 : decide ((hi : Int) < 0) = false := decide_eq_false (by omega)
  have d26811 : decide (topN b < hi) = false := decide_eq_false (by omega)
  have d52974 : decide ((b : Int) < 0) = false := decide_eq_false (by omega)
  clear hu
  go_enter Tryd.func29, Tryd.ntmps29
  go_wp2_with fail
  go_quiet ((go_at_call 25; exact Calls.quiet_of_same (HT.out _ (by omega) _)))
  go_wp2_with fail
  go_quiet ((go_at_call 25; exact quiet_again (HT.out _ (by omega) _)))
  go_wp2_with fail
  go_ret
  exact fit_ans HE.out (below_drewN (bal (bal (Below.refl _ _) _) _) _)
set_option maxRecDepth 100000 in
set_option maxHeartbeats 8000000 in
theorem fit_f3 (nm : ByteArray) (op : Int) (lo hi : Nat) (b : Nat) (hb : b ≤ 32) (h0 : 1 ≤ op) (h1 : op ≤ 2) (hlo : lo ≤ topN b) (hhi : hi ≤ topN b) (hr : lo ≤ hi) (w : World) (hu : Used w) :
    Calls Tryd.prog 29 #[.agg #[.string nm, .int .i64 op, .int .i64 3, .int .i64 (lo : Int), .int .i64 (hi : Int), .int .i64 0, .string ⟨#[]⟩], .int .i64 (b : Int)] w (FitAns w ⟨nm, op, 3, (lo : Int), (hi : Int), 0, ⟨#[]⟩⟩ b) := by
  have HE := Lib.hid (show fitE ⟨nm, op, 3, (lo : Int), (hi : Int), 0, ⟨#[]⟩⟩ b = 0 from fit_ok (by unfold badForm; simp; try omega) (by unfold badUse; simp) (by unfold badVal; simp; try omega) (by unfold badPre; simp) (by unfold badRng; simp; omega) (by unfold badPat; simp))
  have hz := hu.1
  have c0 : w.cell? ⟨0, 12, none⟩ = some (.bool true) := hu.2 3 0 (by decide) (by decide) (by decide)
  have c1 : w.cell? ⟨0, 13, none⟩ = some (.bool true) := hu.2 3 1 (by decide) (by decide) (by decide)
  have c2 : w.cell? ⟨0, 14, none⟩ = some (.bool false) := hu.2 3 2 (by decide) (by decide) (by decide)
  have c3 : w.cell? ⟨0, 15, none⟩ = some (.bool false) := hu.2 3 3 (by decide) (by decide) (by decide)
  have HT := Lib.hid (fun n (h : n ≤ 33) w => (top_any n h w).mono (fun _ _ x => And.intro x.1 x.2.symm))
  have d68710 : decide ((lo : Int) < 0) = false := decide_eq_false (by omega)
  have d27619 : decide (topN b < lo) = false := decide_eq_false (by omega)
  have d9814 : decide ((hi : Int) < 0) = false := decide_eq_false (by omega)
  have d26811 : decide (topN b < hi) = false := decide_eq_false (by omega)
  have d52974 : decide ((b : Int) < 0) = false := decide_eq_false (by omega)
  clear hu
  go_enter Tryd.func29, Tryd.ntmps29
  go_wp2_with fail
  go_quiet ((go_at_call 25; exact Calls.quiet_of_same (HT.out _ (by omega) _)))
  go_wp2_with fail
  go_quiet ((go_at_call 25; exact quiet_again (HT.out _ (by omega) _)))
  go_wp2_with fail
  go_ret
  exact fit_ans HE.out (below_drewN (bal (bal (Below.refl _ _) _) _) _)
set_option maxRecDepth 100000 in
set_option maxHeartbeats 8000000 in
theorem fit_f4_u0 (nm : ByteArray) (op lo hi ln : Int) (pt : ByteArray) (b : Nat) (hb : b ≤ 32) (h0 : 1 ≤ op) (h1 : op ≤ 2) (h : (lo != 0) = true) (w : World) (hu : Used w) :
    Calls Tryd.prog 29 #[.agg #[.string nm, .int .i64 op, .int .i64 4, .int .i64 lo, .int .i64 hi, .int .i64 ln, .string pt], .int .i64 (b : Int)] w (FitAns w ⟨nm, op, 4, lo, hi, ln, pt⟩ b) := by
  have HE := Lib.hid (show fitE ⟨nm, op, 4, lo, hi, ln, pt⟩ b = 47 from fit_use (by unfold badUse; simp at h ⊢; simp [h]))
  have hz := hu.1
  have c0 : w.cell? ⟨0, 16, none⟩ = some (.bool false) := hu.2 4 0 (by decide) (by decide) (by decide)
  have c1 : w.cell? ⟨0, 17, none⟩ = some (.bool false) := hu.2 4 1 (by decide) (by decide) (by decide)
  have c2 : w.cell? ⟨0, 18, none⟩ = some (.bool false) := hu.2 4 2 (by decide) (by decide) (by decide)
  have c3 : w.cell? ⟨0, 19, none⟩ = some (.bool true) := hu.2 4 3 (by decide) (by decide) (by decide)
  have HT := Lib.hid (fun n (h : n ≤ 33) w => (top_any n h w).mono (fun _ _ x => And.intro x.1 x.2.symm))
  clear hu
  go_enter Tryd.func29, Tryd.ntmps29
  go_wp2_with fail
  go_ret
  exact fit_ans HE.out (bal (bal (Below.refl _ _) _) _)
set_option maxRecDepth 100000 in
set_option maxHeartbeats 8000000 in
theorem fit_f4_u1 (nm : ByteArray) (op hi ln : Int) (pt : ByteArray) (b : Nat) (hb : b ≤ 32) (h0 : 1 ≤ op) (h1 : op ≤ 2) (h : (hi != 0) = true) (w : World) (hu : Used w) :
    Calls Tryd.prog 29 #[.agg #[.string nm, .int .i64 op, .int .i64 4, .int .i64 0, .int .i64 hi, .int .i64 ln, .string pt], .int .i64 (b : Int)] w (FitAns w ⟨nm, op, 4, 0, hi, ln, pt⟩ b) := by
  have HE := Lib.hid (show fitE ⟨nm, op, 4, 0, hi, ln, pt⟩ b = 47 from fit_use (by unfold badUse; simp at h ⊢; simp [h]))
  have hz := hu.1
  have c0 : w.cell? ⟨0, 16, none⟩ = some (.bool false) := hu.2 4 0 (by decide) (by decide) (by decide)
  have c1 : w.cell? ⟨0, 17, none⟩ = some (.bool false) := hu.2 4 1 (by decide) (by decide) (by decide)
  have c2 : w.cell? ⟨0, 18, none⟩ = some (.bool false) := hu.2 4 2 (by decide) (by decide) (by decide)
  have c3 : w.cell? ⟨0, 19, none⟩ = some (.bool true) := hu.2 4 3 (by decide) (by decide) (by decide)
  have HT := Lib.hid (fun n (h : n ≤ 33) w => (top_any n h w).mono (fun _ _ x => And.intro x.1 x.2.symm))
  clear hu
  go_enter Tryd.func29, Tryd.ntmps29
  go_wp2_with fail
  go_ret
  exact fit_ans HE.out (bal (bal (Below.refl _ _) _) _)
set_option maxRecDepth 100000 in
set_option maxHeartbeats 8000000 in
theorem fit_f4_u2 (nm : ByteArray) (op ln : Int) (pt : ByteArray) (b : Nat) (hb : b ≤ 32) (h0 : 1 ≤ op) (h1 : op ≤ 2) (h : (ln != 0) = true) (w : World) (hu : Used w) :
    Calls Tryd.prog 29 #[.agg #[.string nm, .int .i64 op, .int .i64 4, .int .i64 0, .int .i64 0, .int .i64 ln, .string pt], .int .i64 (b : Int)] w (FitAns w ⟨nm, op, 4, 0, 0, ln, pt⟩ b) := by
  have HE := Lib.hid (show fitE ⟨nm, op, 4, 0, 0, ln, pt⟩ b = 47 from fit_use (by unfold badUse; simp at h ⊢; simp [h]))
  have hz := hu.1
  have c0 : w.cell? ⟨0, 16, none⟩ = some (.bool false) := hu.2 4 0 (by decide) (by decide) (by decide)
  have c1 : w.cell? ⟨0, 17, none⟩ = some (.bool false) := hu.2 4 1 (by decide) (by decide) (by decide)
  have c2 : w.cell? ⟨0, 18, none⟩ = some (.bool false) := hu.2 4 2 (by decide) (by decide) (by decide)
  have c3 : w.cell? ⟨0, 19, none⟩ = some (.bool true) := hu.2 4 3 (by decide) (by decide) (by decide)
  have HT := Lib.hid (fun n (h : n ≤ 33) w => (top_any n h w).mono (fun _ _ x => And.intro x.1 x.2.symm))
  clear hu
  go_enter Tryd.func29, Tryd.ntmps29
  go_wp2_with fail
  go_ret
  exact fit_ans HE.out (bal (bal (Below.refl _ _) _) _)
set_option maxRecDepth 100000 in
set_option maxHeartbeats 8000000 in
theorem fit_f4_s (nm : ByteArray) (op : Int) (pt : ByteArray) (b : Nat) (hb : b ≤ 32) (h0 : 1 ≤ op) (h1 : op ≤ 2) (hpm : pt.size ≤ maxLen) (hs : pt.size ≠ b) (w : World) (hu : Used w) :
    Calls Tryd.prog 29 #[.agg #[.string nm, .int .i64 op, .int .i64 4, .int .i64 0, .int .i64 0, .int .i64 0, .string pt], .int .i64 (b : Int)] w (FitAns w ⟨nm, op, 4, 0, 0, 0, pt⟩ b) := by
  have HE := Lib.hid (show fitE ⟨nm, op, 4, 0, 0, 0, pt⟩ b = 44 from fit_pat (by unfold badForm; simp; try omega) (by unfold badUse; simp) (by unfold badVal; simp; try omega) (by unfold badPre; simp) (by unfold badRng; simp) ⟨rfl, fun h => hs h.1⟩)
  have hz := hu.1
  have c0 : w.cell? ⟨0, 16, none⟩ = some (.bool false) := hu.2 4 0 (by decide) (by decide) (by decide)
  have c1 : w.cell? ⟨0, 17, none⟩ = some (.bool false) := hu.2 4 1 (by decide) (by decide) (by decide)
  have c2 : w.cell? ⟨0, 18, none⟩ = some (.bool false) := hu.2 4 2 (by decide) (by decide) (by decide)
  have c3 : w.cell? ⟨0, 19, none⟩ = some (.bool true) := hu.2 4 3 (by decide) (by decide) (by decide)
  have HT := Lib.hid (fun n (h : n ≤ 33) w => (top_any n h w).mono (fun _ _ x => And.intro x.1 x.2.symm))
  have d74032 : decide ((topN b : Int) < 0) = false := decide_eq_false (by omega)
  have d52974 : decide ((b : Int) < 0) = false := decide_eq_false (by omega)
  have hne : ((pt.size : Int) != (b : Int)) = true := by rw [bne_iff_ne]; omega
  unfold maxLen at hpm
  clear hs
  clear hu
  go_enter Tryd.func29, Tryd.ntmps29
  go_wp2_with fail
  go_quiet ((go_at_call 25; exact Calls.quiet_of_same (HT.out _ (by omega) _)))
  go_wp2_with fail
  go_quiet ((go_at_call 25; exact quiet_again (HT.out _ (by omega) _)))
  go_wp2_with fail
  go_ret
  exact fit_ans HE.out (below_drewN (bal (bal (Below.refl _ _) _) _) _)
set_option maxRecDepth 100000 in
set_option maxHeartbeats 8000000 in
theorem fit_f4_t (nm : ByteArray) (op : Int) (pt : ByteArray) (b : Nat) (hb : b ≤ 32) (h0 : 1 ≤ op) (h1 : op ≤ 2) (hs : pt.size = b) (hd : ¬ ∀ x ∈ pt.data.toList, x ∈ dShow) (w : World) (hu : Used w) :
    Calls Tryd.prog 29 #[.agg #[.string nm, .int .i64 op, .int .i64 4, .int .i64 0, .int .i64 0, .int .i64 0, .string pt], .int .i64 (b : Int)] w (FitAns w ⟨nm, op, 4, 0, 0, 0, pt⟩ b) := by
  have HE := Lib.hid (show fitE ⟨nm, op, 4, 0, 0, 0, pt⟩ b = 44 from fit_pat (by unfold badForm; simp; try omega) (by unfold badUse; simp) (by unfold badVal; simp; try omega) (by unfold badPre; simp) (by unfold badRng; simp) ⟨rfl, fun h => hd h.2⟩)
  have hz := hu.1
  have c0 : w.cell? ⟨0, 16, none⟩ = some (.bool false) := hu.2 4 0 (by decide) (by decide) (by decide)
  have c1 : w.cell? ⟨0, 17, none⟩ = some (.bool false) := hu.2 4 1 (by decide) (by decide) (by decide)
  have c2 : w.cell? ⟨0, 18, none⟩ = some (.bool false) := hu.2 4 2 (by decide) (by decide) (by decide)
  have c3 : w.cell? ⟨0, 19, none⟩ = some (.bool true) := hu.2 4 3 (by decide) (by decide) (by decide)
  have HT := Lib.hid (fun n (h : n ≤ 33) w => (top_any n h w).mono (fun _ _ x => And.intro x.1 x.2.symm))
  have d74032 : decide ((topN b : Int) < 0) = false := decide_eq_false (by omega)
  have d52974 : decide ((b : Int) < 0) = false := decide_eq_false (by omega)
  have hne : ((pt.size : Int) != (b : Int)) = false := by rw [hs]; simp
  have HTR := Lib.hid (fun w => trim_any pt b3x w (by omega) (by decide) (Go.Proofs.ascii_of_all (by decide)))
  have htr : Lib.trimS pt.data.toList b3x.data.toList ≠ [] := fun h => hd ((trims_nil pt.data.toList b3x.data.toList).1 h)
  have hne2 : (⟨(Lib.trimS pt.data.toList b3x.data.toList).toArray⟩ : ByteArray).toList.isEmpty = false := emp_not (by simpa using htr)
  generalize (⟨(Lib.trimS pt.data.toList b3x.data.toList).toArray⟩ : ByteArray) = tr at *
  clear hd htr hs
  clear hu
  go_enter Tryd.func29, Tryd.ntmps29
  go_wp2_with fail
  go_quiet ((go_at_call 25; exact Calls.quiet_of_same (HT.out _ (by omega) _)))
  go_wp2_with fail
  go_quiet ((go_at_call 25; exact quiet_again (HT.out _ (by omega) _)))
  go_wp2_with fail
  refine (HTR.out _).mono ?_
  rintro e w1 ⟨rfl, hb1⟩
  go_wp2_with fail
  go_ret
  exact fit_ans HE.out (bnx (below_drewN (bal (bal (Below.refl _ _) _) _) _) hb1)
set_option maxRecDepth 100000 in
set_option maxHeartbeats 8000000 in
theorem fit_f4 (nm : ByteArray) (op : Int) (pt : ByteArray) (b : Nat) (hb : b ≤ 32) (h0 : 1 ≤ op) (h1 : op ≤ 2) (hs : pt.size = b) (hd : ∀ x ∈ pt.data.toList, x ∈ dShow) (w : World) (hu : Used w) :
    Calls Tryd.prog 29 #[.agg #[.string nm, .int .i64 op, .int .i64 4, .int .i64 0, .int .i64 0, .int .i64 0, .string pt], .int .i64 (b : Int)] w (FitAns w ⟨nm, op, 4, 0, 0, 0, pt⟩ b) := by
  have HE := Lib.hid (show fitE ⟨nm, op, 4, 0, 0, 0, pt⟩ b = 0 from fit_ok (by unfold badForm; simp; try omega) (by unfold badUse; simp) (by unfold badVal; simp; try omega) (by unfold badPre; simp) (by unfold badRng; simp) (fun h => h.2 ⟨hs, hd⟩))
  have hz := hu.1
  have c0 : w.cell? ⟨0, 16, none⟩ = some (.bool false) := hu.2 4 0 (by decide) (by decide) (by decide)
  have c1 : w.cell? ⟨0, 17, none⟩ = some (.bool false) := hu.2 4 1 (by decide) (by decide) (by decide)
  have c2 : w.cell? ⟨0, 18, none⟩ = some (.bool false) := hu.2 4 2 (by decide) (by decide) (by decide)
  have c3 : w.cell? ⟨0, 19, none⟩ = some (.bool true) := hu.2 4 3 (by decide) (by decide) (by decide)
  have HT := Lib.hid (fun n (h : n ≤ 33) w => (top_any n h w).mono (fun _ _ x => And.intro x.1 x.2.symm))
  have d74032 : decide ((topN b : Int) < 0) = false := decide_eq_false (by omega)
  have d52974 : decide ((b : Int) < 0) = false := decide_eq_false (by omega)
  have hne : ((pt.size : Int) != (b : Int)) = false := by rw [hs]; simp
  have HTR := Lib.hid (fun w => trim_any pt b3x w (by omega) (by decide) (Go.Proofs.ascii_of_all (by decide)))
  have h2 := HTR.out
  rw [(trims_nil pt.data.toList b3x.data.toList).2 hd] at h2
  clear HTR
  have HTR := Lib.hid h2
  clear hd hs h2
  clear hu
  go_enter Tryd.func29, Tryd.ntmps29
  go_wp2_with fail
  go_quiet ((go_at_call 25; exact Calls.quiet_of_same (HT.out _ (by omega) _)))
  go_wp2_with fail
  go_quiet ((go_at_call 25; exact quiet_again (HT.out _ (by omega) _)))
  go_wp2_with fail
  refine (HTR.out _).mono ?_
  rintro e w1 ⟨rfl, hb1⟩
  go_wp2_with fail
  go_ret
  exact fit_ans HE.out (bnx (below_drewN (bal (bal (Below.refl _ _) _) _) _) hb1)
theorem ne_true {a c : Int} (h : ¬ a = c) : (a != c) = true := by simpa using h
theorem pt_ne {pt : ByteArray} (h : ¬ pt = ⟨#[]⟩) : pt.toList.isEmpty = false := emp_not fun e => h (ByteArray.ext (Array.ext' e))
theorem fit_any (T : Tst) (b : Nat) (hb : b ≤ 32) (hpm : T.pt.size ≤ maxLen) (w : World) (hu : Used w) : Calls Tryd.prog 29 #[T.val, .int .i64 (b : Int)] w (FitAns w T b) := by
  obtain ⟨nm, op, fo, lo, hi, ln, pt⟩ := T
  show Calls Tryd.prog 29 #[.agg #[.string nm, .int .i64 op, .int .i64 fo, .int .i64 lo, .int .i64 hi, .int .i64 ln, .string pt], .int .i64 (b : Int)] w _
  by_cases a1 : op < 1
  · exact fit_a1 nm op fo lo hi ln pt b hb a1 w hu
  by_cases a2 : 6 < op
  · exact fit_a2 nm op fo lo hi ln pt b hb a2 w hu
  by_cases a3 : fo < 1
  · exact fit_a3 nm op fo lo hi ln pt b hb (by omega) (by omega) a3 w hu
  by_cases a4 : 4 < fo
  · exact fit_a4 nm op fo lo hi ln pt b hb (by omega) (by omega) a4 w hu
  by_cases a5 : 2 < op ∧ ¬ fo = 1
  · exact fit_a5 nm op fo lo hi ln pt b hb a5.1 (by omega) (by omega) (by omega) (ne_true a5.2) w hu
  have hf : fo = 1 ∨ fo = 2 ∨ fo = 3 ∨ fo = 4 := by omega
  rcases hf with rfl | rfl | rfl | rfl
  · by_cases ho : op ≤ 2
    · by_cases b1 : hi = 0
      · subst b1
        by_cases b2 : ln = 0
        · subst b2
          by_cases b3 : pt = ⟨#[]⟩
          · subst b3
            rcases Int.lt_or_le lo 0 with h | h
            · exact fit_f1a_lo nm op lo b hb (by omega) ho h w hu
            · obtain ⟨lo, rfl⟩ := Int.eq_ofNat_of_zero_le h
              by_cases b4 : lo ≤ topN b
              · exact fit_f1a nm op lo b hb (by omega) ho b4 w hu
              · exact fit_f1a_hi nm op lo b hb (by omega) ho (by omega) w hu
          · exact fit_f1a_u3 nm op lo pt b hb (by omega) ho (pt_ne b3) w hu
        · exact fit_f1a_u2 nm op lo ln pt b hb (by omega) ho (ne_true b2) w hu
      · exact fit_f1a_u1 nm op lo hi ln pt b hb (by omega) ho (ne_true b1) w hu
    · by_cases b1 : hi = 0
      · subst b1
        by_cases b2 : ln = 0
        · subst b2
          by_cases b3 : pt = ⟨#[]⟩
          · subst b3
            rcases Int.lt_or_le lo 0 with h | h
            · exact fit_f1b_lo nm op lo b hb (by omega) (by omega) h w hu
            · obtain ⟨lo, rfl⟩ := Int.eq_ofNat_of_zero_le h
              by_cases b4 : lo ≤ topN b
              · exact fit_f1b nm op lo b hb (by omega) (by omega) b4 w hu
              · exact fit_f1b_hi nm op lo b hb (by omega) (by omega) (by omega) w hu
          · exact fit_f1b_u3 nm op lo pt b hb (by omega) (by omega) (pt_ne b3) w hu
        · exact fit_f1b_u2 nm op lo ln pt b hb (by omega) (by omega) (ne_true b2) w hu
      · exact fit_f1b_u1 nm op lo hi ln pt b hb (by omega) (by omega) (ne_true b1) w hu
  · by_cases b1 : hi = 0
    · subst b1
      by_cases b3 : pt = ⟨#[]⟩
      · subst b3
        rcases Int.lt_or_le lo 0 with h | h
        · exact fit_f2_l1 nm op lo ln b hb (by omega) (by omega) h w hu
        · obtain ⟨lo, rfl⟩ := Int.eq_ofNat_of_zero_le h
          by_cases b4 : lo ≤ topN b
          · rcases Int.lt_or_le ln 0 with h | h
            · exact fit_f2_n1 nm op ln lo b hb (by omega) (by omega) b4 h w hu
            · obtain ⟨ln, rfl⟩ := Int.eq_ofNat_of_zero_le h
              by_cases b5 : ln ≤ b
              · by_cases b6 : lo % 2 ^ (b - ln) = 0
                · exact fit_f2 nm op lo ln b hb (by omega) (by omega) b4 b5 b6 w hu
                · exact fit_f2_p nm op lo ln b hb (by omega) (by omega) b4 b5 b6 w hu
              · exact fit_f2_n2 nm op lo ln b hb (by omega) (by omega) b4 (by omega) w hu
          · exact fit_f2_l2 nm op ln lo b hb (by omega) (by omega) (by omega) w hu
      · exact fit_f2_u3 nm op lo ln pt b hb (by omega) (by omega) (pt_ne b3) w hu
    · exact fit_f2_u1 nm op lo hi ln pt b hb (by omega) (by omega) (ne_true b1) w hu
  · by_cases b1 : ln = 0
    · subst b1
      by_cases b3 : pt = ⟨#[]⟩
      · subst b3
        rcases Int.lt_or_le lo 0 with h | h
        · exact fit_f3_l1 nm op lo hi b hb (by omega) (by omega) h w hu
        · obtain ⟨lo, rfl⟩ := Int.eq_ofNat_of_zero_le h
          by_cases b4 : lo ≤ topN b
          · rcases Int.lt_or_le hi 0 with h | h
            · exact fit_f3_n1 nm op hi lo b hb (by omega) (by omega) b4 h w hu
            · obtain ⟨hi, rfl⟩ := Int.eq_ofNat_of_zero_le h
              by_cases b5 : hi ≤ topN b
              · by_cases b6 : lo ≤ hi
                · exact fit_f3 nm op lo hi b hb (by omega) (by omega) b4 b5 b6 w hu
                · exact fit_f3_r nm op lo hi b hb (by omega) (by omega) b4 b5 (by omega) w hu
              · exact fit_f3_n2 nm op lo hi b hb (by omega) (by omega) b4 (by omega) w hu
          · exact fit_f3_l2 nm op hi lo b hb (by omega) (by omega) (by omega) w hu
      · exact fit_f3_u3 nm op lo hi pt b hb (by omega) (by omega) (pt_ne b3) w hu
    · exact fit_f3_u1 nm op lo hi ln pt b hb (by omega) (by omega) (ne_true b1) w hu
  · by_cases b0 : lo = 0
    · subst b0
      by_cases b1 : hi = 0
      · subst b1
        by_cases b2 : ln = 0
        · subst b2
          by_cases b3 : pt.size = b
          · by_cases b4 : ∀ x ∈ pt.data.toList, x ∈ dShow
            · exact fit_f4 nm op pt b hb (by omega) (by omega) b3 b4 w hu
            · exact fit_f4_t nm op pt b hb (by omega) (by omega) b3 b4 w hu
          · exact fit_f4_s nm op pt b hb (by omega) (by omega) hpm b3 w hu
        · exact fit_f4_u2 nm op ln pt b hb (by omega) (by omega) (ne_true b2) w hu
      · exact fit_f4_u1 nm op hi ln pt b hb (by omega) (by omega) (ne_true b1) w hu
    · exact fit_f4_u0 nm op lo hi ln pt b hb (by omega) (by omega) (ne_true b0) w hu
end Go.Proofs.YtlakglphjhoodaaDoor.Fl
