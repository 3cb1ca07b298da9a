/- The program's fit. -/
import Derived.Test.YtaleaicfllcpiaaDoorFt
import Derived.BigQuiet
import Derived.Deep.QuietTactic
namespace Go.Proofs.YtaleaicfllcpiaaDoor.Fl
open Go.RowKit Mm Law
set_option linter.unusedSimpArgs false
set_option linter.unusedSectionVars false
set_option linter.unusedVariables false
theorem quiet_again {P : Program} {f : FuncId} {args : Array Value} {w : World} {m n : Nat} {v : Value} (h : Calls P f args (w.drewN (m + n)) fun e w' => e = .returned v ∧ w' = w.drewN (m + n)) :
    Calls P f args (w.drewN (m + n)) fun e w'' => e = .returned v ∧ ∃ k, w'' = w.drewN (m + k) := h.mono fun _ _ ⟨he, hm⟩ => ⟨he, n, hm⟩
def b3x : ByteArray := ⟨#[48, 49, 120]⟩
def useB : Nat → Nat → Bool := fun f j => (f == 1 && j == 0) || (f == 2 && (j == 0 || j == 2)) || (f == 3 && (j == 0 || j == 1)) || (f == 4 && j == 3)
def Used (w : World) : Prop := 0 < w.heap.size ∧ ∀ f j, 1 ≤ f → f ≤ 4 → j < 4 → w.cell? ⟨0, f * 4 + j, none⟩ = some (.bool (useB f j))
theorem Used.below {w w' : World} (h : Used w) (hb : Below w.heap.size w w') : Used w' :=
  ⟨Nat.lt_of_lt_of_le h.1 hb.size, fun f j h1 h2 h3 => by rw [hb.cell (p := ⟨0, f * 4 + j, none⟩) h.1]; exact h.2 f j h1 h2 h3⟩
def FitAns (w : World) (T : Tst) (b : Nat) (e : Ending) (w' : World) : Prop := e = .returned (.int .i64 (fitE T b)) ∧ Below w.heap.size w w'
theorem fit_ans {w : World} {T : Tst} {b : Nat} {c : Int} (h : fitE T b = c) {w' : World} (hb : Below w.heap.size w w') : FitAns w T b (.returned (.int .i64 c)) w' := by
  unfold FitAns; rw [h]; exact ⟨rfl, hb⟩
set_option maxRecDepth 100000 in
set_option maxHeartbeats 8000000 in
theorem fit_a1 (nm : ByteArray) (op fo lo hi ln : Int) (pt : ByteArray) (b : Nat) (hb : b ≤ 32) (h : op < 1) (w : World) (hu : Used w) :
    Calls Tryd.prog 57 #[.agg #[.string nm, .int .i64 op, .int .i64 fo, .int .i64 lo, .int .i64 hi, .int .i64 ln, .string pt], .int .i64 (b : Int)] w (FitAns w ⟨nm, op, fo, lo, hi, ln, pt⟩ b) := by
  have HE := Lib.hid (show fitE ⟨nm, op, fo, lo, hi, ln, pt⟩ b = 47 from fit_form (.inl h))
  have HT := Lib.hid (fun n (h : n ≤ 33) w => (top_any n h w).mono (fun _ _ x => And.intro x.1 x.2.symm))
  clear hu
  go_enter Tryd.func57, Tryd.ntmps57
  go_wp2_with fail
  go_ret
  exact fit_ans HE.out (bal (Below.refl _ _) _)
set_option maxRecDepth 100000 in
set_option maxHeartbeats 8000000 in
theorem fit_a2 (nm : ByteArray) (op fo lo hi ln : Int) (pt : ByteArray) (b : Nat) (hb : b ≤ 32) (h : 6 < op) (w : World) (hu : Used w) :
    Calls Tryd.prog 57 #[.agg #[.string nm, .int .i64 op, .int .i64 fo, .int .i64 lo, .int .i64 hi, .int .i64 ln, .string pt], .int .i64 (b : Int)] w (FitAns w ⟨nm, op, fo, lo, hi, ln, pt⟩ b) := by
  have HE := Lib.hid (show fitE ⟨nm, op, fo, lo, hi, ln, pt⟩ b = 47 from fit_form (.inr (.inl h)))
  have HT := Lib.hid (fun n (h : n ≤ 33) w => (top_any n h w).mono (fun _ _ x => And.intro x.1 x.2.symm))
  clear hu
  go_enter Tryd.func57, Tryd.ntmps57
  go_wp2_with fail
  go_ret
  exact fit_ans HE.out (bal (Below.refl _ _) _)
set_option maxRecDepth 100000 in
set_option maxHeartbeats 8000000 in
theorem fit_a3 (nm : ByteArray) (op fo lo hi ln : Int) (pt : ByteArray) (b : Nat) (hb : b ≤ 32) (h0 : 1 ≤ op) (h1 : op ≤ 6) (h : fo < 1) (w : World) (hu : Used w) :
    Calls Tryd.prog 57 #[.agg #[.string nm, .int .i64 op, .int .i64 fo, .int .i64 lo, .int .i64 hi, .int .i64 ln, .string pt], .int .i64 (b : Int)] w (FitAns w ⟨nm, op, fo, lo, hi, ln, pt⟩ b) := by
  have HE := Lib.hid (show fitE ⟨nm, op, fo, lo, hi, ln, pt⟩ b = 47 from fit_form (.inr (.inr (.inl h))))
  have HT := Lib.hid (fun n (h : n ≤ 33) w => (top_any n h w).mono (fun _ _ x => And.intro x.1 x.2.symm))
  clear hu
  go_enter Tryd.func57, Tryd.ntmps57
  go_wp2_with fail
  go_ret
  exact fit_ans HE.out (bal (Below.refl _ _) _)
set_option maxRecDepth 100000 in
set_option maxHeartbeats 8000000 in
theorem fit_a4 (nm : ByteArray) (op fo lo hi ln : Int) (pt : ByteArray) (b : Nat) (hb : b ≤ 32) (h0 : 1 ≤ op) (h1 : op ≤ 6) (h : 4 < fo) (w : World) (hu : Used w) :
    Calls Tryd.prog 57 #[.agg #[.string nm, .int .i64 op, .int .i64 fo, .int .i64 lo, .int .i64 hi, .int .i64 ln, .string pt], .int .i64 (b : Int)] w (FitAns w ⟨nm, op, fo, lo, hi, ln, pt⟩ b) := by
  have HE := Lib.hid (show fitE ⟨nm, op, fo, lo, hi, ln, pt⟩ b = 47 from fit_form (.inr (.inr (.inr (.inl h)))))
  have HT := Lib.hid (fun n (h : n ≤ 33) w => (top_any n h w).mono (fun _ _ x => And.intro x.1 x.2.symm))
  clear hu
  go_enter Tryd.func57, Tryd.ntmps57
  go_wp2_with fail
  go_ret
  exact fit_ans HE.out (bal (Below.refl _ _) _)
set_option maxRecDepth 100000 in
set_option maxHeartbeats 8000000 in
theorem fit_a5 (nm : ByteArray) (op fo lo hi ln : Int) (pt : ByteArray) (b : Nat) (hb : b ≤ 32) (h0 : 2 < op) (h1 : op ≤ 6) (h2 : 1 ≤ fo) (h3 : fo ≤ 4) (h : (fo != 1) = true) (w : World) (hu : Used w) :
    Calls Tryd.prog 57 #[.agg #[.string nm, .int .i64 op, .int .i64 fo, .int .i64 lo, .int .i64 hi, .int .i64 ln, .string pt], .int .i64 (b : Int)] w (FitAns w ⟨nm, op, fo, lo, hi, ln, pt⟩ b) := by
  have HE := Lib.hid (show fitE ⟨nm, op, fo, lo, hi, ln, pt⟩ b = 47 from fit_form (.inr (.inr (.inr (.inr ⟨h0, by simpa using h⟩)))))
  have HT := Lib.hid (fun n (h : n ≤ 33) w => (top_any n h w).mono (fun _ _ x => And.intro x.1 x.2.symm))
  clear hu
  go_enter Tryd.func57, Tryd.ntmps57
  go_wp2_with fail
  go_ret
  exact fit_ans HE.out (bal (Below.refl _ _) _)
set_option maxRecDepth 100000 in
set_option maxHeartbeats 8000000 in
theorem fit_f1a (nm : ByteArray) (op : Int) (lo : Nat) (b : Nat) (hb : b ≤ 32) (h0 : 1 ≤ op) (h1 : op ≤ 2) (hlo : lo ≤ topN b) (w : World) (hu : Used w) :
    Calls Tryd.prog 57 #[.agg #[.string nm, .int .i64 op, .int .i64 1, .int .i64 (lo : Int), .int .i64 0, .int .i64 0, .string ⟨#[]⟩], .int .i64 (b : Int)] w (FitAns w ⟨nm, op, 1, (lo : Int), 0, 0, ⟨#[]⟩⟩ b) := by
  have HE := Lib.hid (show fitE ⟨nm, op, 1, (lo : Int), 0, 0, ⟨#[]⟩⟩ b = 0 from fit_ok (by unfold badForm; simp; try omega) (by unfold badUse; simp) (by unfold badVal; simp; try omega) (by unfold badPre; simp) (by unfold badRng; simp) (by unfold badPat; simp))
  have hz := hu.1
  have c0 : w.cell? ⟨0, 4, none⟩ = some (.bool true) := hu.2 1 0 (by decide) (by decide) (by decide)
  have c1 : w.cell? ⟨0, 5, none⟩ = some (.bool false) := hu.2 1 1 (by decide) (by decide) (by decide)
  have c2 : w.cell? ⟨0, 6, none⟩ = some (.bool false) := hu.2 1 2 (by decide) (by decide) (by decide)
  have c3 : w.cell? ⟨0, 7, none⟩ = some (.bool false) := hu.2 1 3 (by decide) (by decide) (by decide)
  have HT := Lib.hid (fun n (h : n ≤ 33) w => (top_any n h w).mono (fun _ _ x => And.intro x.1 x.2.symm))
  have d68710 : decide ((lo : Int) < 0) = false := decide_eq_false (by omega)
  have d27619 : decide (topN b < lo) = false := decide_eq_false (by omega)
  have d74032 : decide ((topN b : Int) < 0) = false := decide_eq_false (by omega)
  have d52974 : decide ((b : Int) < 0) = false := decide_eq_false (by omega)
  clear hu
  go_enter Tryd.func57, Tryd.ntmps57
  go_wp2_with fail
  go_quiet ((go_at_call 39; exact Calls.quiet_of_same (HT.out _ (by omega) _)))
  go_wp2_with fail
  go_quiet ((go_at_call 39; exact quiet_again (HT.out _ (by omega) _)))
  go_wp2_with fail
  go_ret
  exact fit_ans HE.out (below_drewN (bal (bal (Below.refl _ _) _) _) _)
set_option maxRecDepth 100000 in
set_option maxHeartbeats 8000000 in
theorem fit_f1a_lo (nm : ByteArray) (op : Int) (lo : Int) (b : Nat) (hb : b ≤ 32) (h0 : 1 ≤ op) (h1 : op ≤ 2) (hlo : lo < 0) (w : World) (hu : Used w) :
    Calls Tryd.prog 57 #[.agg #[.string nm, .int .i64 op, .int .i64 1, .int .i64 lo, .int .i64 0, .int .i64 0, .string ⟨#[]⟩], .int .i64 (b : Int)] w (FitAns w ⟨nm, op, 1, lo, 0, 0, ⟨#[]⟩⟩ b) := by
  have HE := Lib.hid (show fitE ⟨nm, op, 1, lo, 0, 0, ⟨#[]⟩⟩ b = 42 from fit_val (by unfold badForm; simp; try omega) (by unfold badUse; simp) (.inl hlo))
  have hz := hu.1
  have c0 : w.cell? ⟨0, 4, none⟩ = some (.bool true) := hu.2 1 0 (by decide) (by decide) (by decide)
  have c1 : w.cell? ⟨0, 5, none⟩ = some (.bool false) := hu.2 1 1 (by decide) (by decide) (by decide)
  have c2 : w.cell? ⟨0, 6, none⟩ = some (.bool false) := hu.2 1 2 (by decide) (by decide) (by decide)
  have c3 : w.cell? ⟨0, 7, none⟩ = some (.bool false) := hu.2 1 3 (by decide) (by decide) (by decide)
  have HT := Lib.hid (fun n (h : n ≤ 33) w => (top_any n h w).mono (fun _ _ x => And.intro x.1 x.2.symm))
  have d61297 : decide (lo < 0) = true := decide_eq_true (by omega)
  clear hu
  go_enter Tryd.func57, Tryd.ntmps57
  go_wp2_with fail
  go_quiet ((go_at_call 39; exact Calls.quiet_of_same (HT.out _ (by omega) _)))
  go_wp2_with fail
  go_ret
  exact fit_ans HE.out (below_drewN (bal (bal (Below.refl _ _) _) _) _)
set_option maxRecDepth 100000 in
set_option maxHeartbeats 8000000 in
theorem fit_f1a_hi (nm : ByteArray) (op : Int) (lo : Nat) (b : Nat) (hb : b ≤ 32) (h0 : 1 ≤ op) (h1 : op ≤ 2) (hlo : topN b < lo) (w : World) (hu : Used w) :
    Calls Tryd.prog 57 #[.agg #[.string nm, .int .i64 op, .int .i64 1, .int .i64 (lo : Int), .int .i64 0, .int .i64 0, .string ⟨#[]⟩], .int .i64 (b : Int)] w (FitAns w ⟨nm, op, 1, (lo : Int), 0, 0, ⟨#[]⟩⟩ b) := by
  have HE := Lib.hid (show fitE ⟨nm, op, 1, (lo : Int), 0, 0, ⟨#[]⟩⟩ b = 42 from fit_val (by unfold badForm; simp; try omega) (by unfold badUse; simp) (.inr (.inl (Int.ofNat_lt.2 hlo))))
  have hz := hu.1
  have c0 : w.cell? ⟨0, 4, none⟩ = some (.bool true) := hu.2 1 0 (by decide) (by decide) (by decide)
  have c1 : w.cell? ⟨0, 5, none⟩ = some (.bool false) := hu.2 1 1 (by decide) (by decide) (by decide)
  have c2 : w.cell? ⟨0, 6, none⟩ = some (.bool false) := hu.2 1 2 (by decide) (by decide) (by decide)
  have c3 : w.cell? ⟨0, 7, none⟩ = some (.bool false) := hu.2 1 3 (by decide) (by decide) (by decide)
  have HT := Lib.hid (fun n (h : n ≤ 33) w => (top_any n h w).mono (fun _ _ x => And.intro x.1 x.2.symm))
  have d68710 : decide ((lo : Int) < 0) = false := decide_eq_false (by omega)
  have d27619 : decide (topN b < lo) = true := decide_eq_true (by omega)
  clear hu
  go_enter Tryd.func57, Tryd.ntmps57
  go_wp2_with fail
  go_quiet ((go_at_call 39; exact Calls.quiet_of_same (HT.out _ (by omega) _)))
  go_wp2_with fail
  go_ret
  exact fit_ans HE.out (below_drewN (bal (bal (Below.refl _ _) _) _) _)
set_option maxRecDepth 100000 in
set_option maxHeartbeats 8000000 in
theorem fit_f1a_u1 (nm : ByteArray) (op lo hi ln : Int) (pt : ByteArray) (b : Nat) (hb : b ≤ 32) (h0 : 1 ≤ op) (h1 : op ≤ 2) (h : (hi != 0) = true) (w : World) (hu : Used w) :
    Calls Tryd.prog 57 #[.agg #[.string nm, .int .i64 op, .int .i64 1, .int .i64 lo, .int .i64 hi, .int .i64 ln, .string pt], .int .i64 (b : Int)] w (FitAns w ⟨nm, op, 1, lo, hi, ln, pt⟩ b) := by
  have HE := Lib.hid (show fitE ⟨nm, op, 1, lo, hi, ln, pt⟩ b = 47 from fit_use (by unfold badUse; simp at h ⊢; simp [h]))
  have hz := hu.1
  have c0 : w.cell? ⟨0, 4, none⟩ = some (.bool true) := hu.2 1 0 (by decide) (by decide) (by decide)
  have c1 : w.cell? ⟨0, 5, none⟩ = some (.bool false) := hu.2 1 1 (by decide) (by decide) (by decide)
  have c2 : w.cell? ⟨0, 6, none⟩ = some (.bool false) := hu.2 1 2 (by decide) (by decide) (by decide)
  have c3 : w.cell? ⟨0, 7, none⟩ = some (.bool false) := hu.2 1 3 (by decide) (by decide) (by decide)
  have HT := Lib.hid (fun n (h : n ≤ 33) w => (top_any n h w).mono (fun _ _ x => And.intro x.1 x.2.symm))
  clear hu
  go_enter Tryd.func57, Tryd.ntmps57
  go_wp2_with fail
  go_ret
  exact fit_ans HE.out (bal (bal (Below.refl _ _) _) _)
set_option maxRecDepth 100000 in
set_option maxHeartbeats 8000000 in
theorem fit_f1a_u2 (nm : ByteArray) (op lo ln : Int) (pt : ByteArray) (b : Nat) (hb : b ≤ 32) (h0 : 1 ≤ op) (h1 : op ≤ 2) (h : (ln != 0) = true) (w : World) (hu : Used w) :
    Calls Tryd.prog 57 #[.agg #[.string nm, .int .i64 op, .int .i64 1, .int .i64 lo, .int .i64 0, .int .i64 ln, .string pt], .int .i64 (b : Int)] w (FitAns w ⟨nm, op, 1, lo, 0, ln, pt⟩ b) := by
  have HE := Lib.hid (show fitE ⟨nm, op, 1, lo, 0, ln, pt⟩ b = 47 from fit_use (by unfold badUse; simp at h ⊢; simp [h]))
  have hz := hu.1
  have c0 : w.cell? ⟨0, 4, none⟩ = some (.bool true) := hu.2 1 0 (by decide) (by decide) (by decide)
  have c1 : w.cell? ⟨0, 5, none⟩ = some (.bool false) := hu.2 1 1 (by decide) (by decide) (by decide)
  have c2 : w.cell? ⟨0, 6, none⟩ = some (.bool false) := hu.2 1 2 (by decide) (by decide) (by decide)
  have c3 : w.cell? ⟨0, 7, none⟩ = some (.bool false) := hu.2 1 3 (by decide) (by decide) (by decide)
  have HT := Lib.hid (fun n (h : n ≤ 33) w => (top_any n h w).mono (fun _ _ x => And.intro x.1 x.2.symm))
  clear hu
  go_enter Tryd.func57, Tryd.ntmps57
  go_wp2_with fail
  go_ret
  exact fit_ans HE.out (bal (bal (Below.refl _ _) _) _)
set_option maxRecDepth 100000 in
set_option maxHeartbeats 8000000 in
theorem fit_f1a_u3 (nm : ByteArray) (op lo : Int) (pt : ByteArray) (b : Nat) (hb : b ≤ 32) (h0 : 1 ≤ op) (h1 : op ≤ 2) (h : pt.toList.isEmpty = false) (w : World) (hu : Used w) :
    Calls Tryd.prog 57 #[.agg #[.string nm, .int .i64 op, .int .i64 1, .int .i64 lo, .int .i64 0, .int .i64 0, .string pt], .int .i64 (b : Int)] w (FitAns w ⟨nm, op, 1, lo, 0, 0, pt⟩ b) := by
  have HE := Lib.hid (show fitE ⟨nm, op, 1, lo, 0, 0, pt⟩ b = 47 from fit_use (.inr (.inr (.inr ⟨(by decide : (1 : Int) ≠ 4), fun (e : pt = ⟨#[]⟩) => by rw [e] at h; simp at h⟩))))
  have hz := hu.1
  have c0 : w.cell? ⟨0, 4, none⟩ = some (.bool true) := hu.2 1 0 (by decide) (by decide) (by decide)
  have c1 : w.cell? ⟨0, 5, none⟩ = some (.bool false) := hu.2 1 1 (by decide) (by decide) (by decide)
  have c2 : w.cell? ⟨0, 6, none⟩ = some (.bool false) := hu.2 1 2 (by decide) (by decide) (by decide)
  have c3 : w.cell? ⟨0, 7, none⟩ = some (.bool false) := hu.2 1 3 (by decide) (by decide) (by decide)
  have HT := Lib.hid (fun n (h : n ≤ 33) w => (top_any n h w).mono (fun _ _ x => And.intro x.1 x.2.symm))
  clear hu
  go_enter Tryd.func57, Tryd.ntmps57
  go_wp2_with fail
  go_ret
  exact fit_ans HE.out (bal (bal (Below.refl _ _) _) _)
set_option maxRecDepth 100000 in
set_option maxHeartbeats 8000000 in
theorem fit_f1b (nm : ByteArray) (op : Int) (lo : Nat) (b : Nat) (hb : b ≤ 32) (h0 : 2 < op) (h1 : op ≤ 6) (hlo : lo ≤ topN b) (w : World) (hu : Used w) :
    Calls Tryd.prog 57 #[.agg #[.string nm, .int .i64 op, .int .i64 1, .int .i64 (lo : Int), .int .i64 0, .int .i64 0, .string ⟨#[]⟩], .int .i64 (b : Int)] w (FitAns w ⟨nm, op, 1, (lo : Int), 0, 0, ⟨#[]⟩⟩ b) := by
  have HE := Lib.hid (show fitE ⟨nm, op, 1, (lo : Int), 0, 0, ⟨#[]⟩⟩ b = 0 from fit_ok (by unfold badForm; simp; try omega) (by unfold badUse; simp) (by unfold badVal; simp; try omega) (by unfold badPre; simp) (by unfold badRng; simp) (by unfold badPat; simp))
  have hz := hu.1
  have c0 : w.cell? ⟨0, 4, none⟩ = some (.bool true) := hu.2 1 0 (by decide) (by decide) (by decide)
  have c1 : w.cell? ⟨0, 5, none⟩ = some (.bool false) := hu.2 1 1 (by decide) (by decide) (by decide)
  have c2 : w.cell? ⟨0, 6, none⟩ = some (.bool false) := hu.2 1 2 (by decide) (by decide) (by decide)
  have c3 : w.cell? ⟨0, 7, none⟩ = some (.bool false) := hu.2 1 3 (by decide) (by decide) (by decide)
  have HT := Lib.hid (fun n (h : n ≤ 33) w => (top_any n h w).mono (fun _ _ x => And.intro x.1 x.2.symm))
  have d68710 : decide ((lo : Int) < 0) = false := decide_eq_false (by omega)
  have d27619 : decide (topN b < lo) = false := decide_eq_false (by omega)
  have d74032 : decide ((topN b : Int) < 0) = false := decide_eq_false (by omega)
  have d52974 : decide ((b : Int) < 0) = false := decide_eq_false (by omega)
  clear hu
  go_enter Tryd.func57, Tryd.ntmps57
  go_wp2_with fail
  go_quiet ((go_at_call 39; exact Calls.quiet_of_same (HT.out _ (by omega) _)))
  go_wp2_with fail
  go_quiet ((go_at_call 39; exact quiet_again (HT.out _ (by omega) _)))
  go_wp2_with fail
  go_ret
  exact fit_ans HE.out (below_drewN (bal (bal (Below.refl _ _) _) _) _)
set_option maxRecDepth 100000 in
set_option maxHeartbeats 8000000 in
theorem fit_f1b_lo (nm : ByteArray) (op : Int) (lo : Int) (b : Nat) (hb : b ≤ 32) (h0 : 2 < op) (h1 : op ≤ 6) (hlo : lo < 0) (w : World) (hu : Used w) :
    Calls Tryd.prog 57 #[.agg #[.string nm, .int .i64 op, .int .i64 1, .int .i64 lo, .int .i64 0, .int .i64 0, .string ⟨#[]⟩], .int .i64 (b : Int)] w (FitAns w ⟨nm, op, 1, lo, 0, 0, ⟨#[]⟩⟩ b) := by
  have HE := Lib.hid (show fitE ⟨nm, op, 1, lo, 0, 0, ⟨#[]⟩⟩ b = 42 from fit_val (by unfold badForm; simp; try omega) (by unfold badUse; simp) (.inl hlo))
  have hz := hu.1
  have c0 : w.cell? ⟨0, 4, none⟩ = some (.bool true) := hu.2 1 0 (by decide) (by decide) (by decide)
  have c1 : w.cell? ⟨0, 5, none⟩ = some (.bool false) := hu.2 1 1 (by decide) (by decide) (by decide)
  have c2 : w.cell? ⟨0, 6, none⟩ = some (.bool false) := hu.2 1 2 (by decide) (by decide) (by decide)
  have c3 : w.cell? ⟨0, 7, none⟩ = some (.bool false) := hu.2 1 3 (by decide) (by decide) (by decide)
  have HT := Lib.hid (fun n (h : n ≤ 33) w => (top_any n h w).mono (fun _ _ x => And.intro x.1 x.2.symm))
  have d61297 : decide (lo < 0) = true := decide_eq_true (by omega)
  clear hu
  go_enter Tryd.func57, Tryd.ntmps57
  go_wp2_with fail
  go_quiet ((go_at_call 39; exact Calls.quiet_of_same (HT.out _ (by omega) _)))
  go_wp2_with fail
  go_ret
  exact fit_ans HE.out (below_drewN (bal (bal (Below.refl _ _) _) _) _)
set_option maxRecDepth 100000 in
set_option maxHeartbeats 8000000 in
theorem fit_f1b_hi (nm : ByteArray) (op : Int) (lo : Nat) (b : Nat) (hb : b ≤ 32) (h0 : 2 < op) (h1 : op ≤ 6) (hlo : topN b < lo) (w : World) (hu : Used w) :
    Calls Tryd.prog 57 #[.agg #[.string nm, .int .i64 op, .int .i64 1, .int .i64 (lo : Int), .int .i64 0, .int .i64 0, .string ⟨#[]⟩], .int .i64 (b : Int)] w (FitAns w ⟨nm, op, 1, (lo : Int), 0, 0, ⟨#[]⟩⟩ b) := by
  have HE := Lib.hid (show fitE ⟨nm, op, 1, (lo : Int), 0, 0, ⟨#[]⟩⟩ b = 42 from fit_val (by unfold badForm; simp; try omega) (by unfold badUse; simp) (.inr (.inl (Int.ofNat_lt.2 hlo))))
  have hz := hu.1
  have c0 : w.cell? ⟨0, 4, none⟩ = some (.bool true) := hu.2 1 0 (by decide) (by decide) (by decide)
  have c1 : w.cell? ⟨0, 5, none⟩ = some (.bool false) := hu.2 1 1 (by decide) (by decide) (by decide)
  have c2 : w.cell? ⟨0, 6, none⟩ = some (.bool false) := hu.2 1 2 (by decide) (by decide) (by decide)
  have c3 : w.cell? ⟨0, 7, none⟩ = some (.bool false) := hu.2 1 3 (by decide) (by decide) (by decide)
  have HT := Lib.hid (fun n (h : n ≤ 33) w => (top_any n h w).mono (fun _ _ x => And.intro x.1 x.2.symm))
  have d68710 : decide ((lo : Int) < 0) = false := decide_eq_false (by omega)
  have d27619 : decide (topN b < lo) = true := decide_eq_true (by omega)
  clear hu
  go_enter Tryd.func57, Tryd.ntmps57
  go_wp2_with fail
  go_quiet ((go_at_call 39; exact Calls.quiet_of_same (HT.out _ (by omega) _)))
  go_wp2_with fail
  go_ret
  exact fit_ans HE.out (below_drewN (bal (bal (Below.refl _ _) _) _) _)
set_option maxRecDepth 100000 in
set_option maxHeartbeats 8000000 in
theorem fit_f1b_u1 (nm : ByteArray) (op lo hi ln : Int) (pt : ByteArray) (b : Nat) (hb : b ≤ 32) (h0 : 2 < op) (h1 : op ≤ 6) (h : (hi != 0) = true) (w : World) (hu : Used w) :
    Calls Tryd.prog 57 #[.agg #[.string nm, .int .i64 op, .int .i64 1, .int .i64 lo, .int .i64 hi, .int .i64 ln, .string pt], .int .i64 (b : Int)] w (FitAns w ⟨nm, op, 1, lo, hi, ln, pt⟩ b) := by
  have HE := Lib.hid (show fitE ⟨nm, op, 1, lo, hi, ln, pt⟩ b = 47 from fit_use (by unfold badUse; simp at h ⊢; simp [h]))
  have hz := hu.1
  have c0 : w.cell? ⟨0, 4, none⟩ = some (.bool true) := hu.2 1 0 (by decide) (by decide) (by decide)
  have c1 : w.cell? ⟨0, 5, none⟩ = some (.bool false) := hu.2 1 1 (by decide) (by decide) (by decide)
  have c2 : w.cell? ⟨0, 6, none⟩ = some (.bool false) := hu.2 1 2 (by decide) (by decide) (by decide)
  have c3 : w.cell? ⟨0, 7, none⟩ = some (.bool false) := hu.2 1 3 (by decide) (by decide) (by decide)
  have HT := Lib.hid (fun n (h : n ≤ 33) w => (top_any n h w).mono (fun _ _ x => And.intro x.1 x.2.symm))
  clear hu
  go_enter Tryd.func57, Tryd.ntmps57
  go_wp2_with fail
  go_ret
  exact fit_ans HE.out (bal (bal (Below.refl _ _) _) _)
set_option maxRecDepth 100000 in
set_option maxHeartbeats 8000000 in
theorem fit_f1b_u2 (nm : ByteArray) (op lo ln : Int) (pt : ByteArray) (b : Nat) (hb : b ≤ 32) (h0 : 2 < op) (h1 : op ≤ 6) (h : (ln != 0) = true) (w : World) (hu : Used w) :
    Calls Tryd.prog 57 #[.agg #[.string nm, .int .i64 op, .int .i64 1, .int .i64 lo, .int .i64 0, .int .i64 ln, .string pt], .int .i64 (b : Int)] w (FitAns w ⟨nm, op, 1, lo, 0, ln, pt⟩ b) := by
  have HE := Lib.hid (show fitE ⟨nm, op, 1, lo, 0, ln, pt⟩ b = 47 from fit_use (by unfold badUse; simp at h ⊢; simp [h]))
  have hz := hu.1
  have c0 : w.cell? ⟨0, 4, none⟩ = some (.bool true) := hu.2 1 0 (by decide) (by decide) (by decide)
  have c1 : w.cell? ⟨0, 5, none⟩ = some (.bool false) := hu.2 1 1 (by decide) (by decide) (by decide)
  have c2 : w.cell? ⟨0, 6, none⟩ = some (.bool false) := hu.2 1 2 (by decide) (by decide) (by decide)
  have c3 : w.cell? ⟨0, 7, none⟩ = some (.bool false) := hu.2 1 3 (by decide) (by decide) (by decide)
  have HT := Lib.hid (fun n (h : n ≤ 33) w => (top_any n h w).mono (fun _ _ x => And.intro x.1 x.2.symm))
  clear hu
  go_enter Tryd.func57, Tryd.ntmps57
  go_wp2_with fail
  go_ret
  exact fit_ans HE.out (bal (bal (Below.refl _ _) _) _)
set_option maxRecDepth 100000 in
set_option maxHeartbeats 8000000 in
theorem fit_f1b_u3 (nm : ByteArray) (op lo : Int) (pt : ByteArray) (b : Nat) (hb : b ≤ 32) (h0 : 2 < op) (h1 : op ≤ 6) (h : pt.toList.isEmpty = false) (w : World) (hu : Used w) :
    Calls Tryd.prog 57 #[.agg #[.string nm, .int .i64 op, .int .i64 1, .int .i64 lo, .int .i64 0, .int .i64 0, .string pt], .int .i64 (b : Int)] w (FitAns w ⟨nm, op, 1, lo, 0, 0, pt⟩ b) := by
  have HE := Lib.hid (show fitE ⟨nm, op, 1, lo, 0, 0, pt⟩ b = 47 from fit_use (.inr (.inr (.inr ⟨(by decide : (1 : Int) ≠ 4), fun (e : pt = ⟨#[]⟩) => by rw [e] at h; simp at h⟩))))
  have hz := hu.1
  have c0 : w.cell? ⟨0, 4, none⟩ = some (.bool true) := hu.2 1 0 (by decide) (by decide) (by decide)
  have c1 : w.cell? ⟨0, 5, none⟩ = some (.bool false) := hu.2 1 1 (by decide) (by decide) (by decide)
  have c2 : w.cell? ⟨0, 6, none⟩ = some (.bool false) := hu.2 1 2 (by decide) (by decide) (by decide)
  have c3 : w.cell? ⟨0, 7, none⟩ = some (.bool false) := hu.2 1 3 (by decide) (by decide) (by decide)
  have HT := Lib.hid (fun n (h : n ≤ 33) w => (top_any n h w).mono (fun _ _ x => And.intro x.1 x.2.symm))
  clear hu
  go_enter Tryd.func57, Tryd.ntmps57
  go_wp2_with fail
  go_ret
  exact fit_ans HE.out (bal (bal (Below.refl _ _) _) _)
end Go.Proofs.YtaleaicfllcpiaaDoor.Fl
