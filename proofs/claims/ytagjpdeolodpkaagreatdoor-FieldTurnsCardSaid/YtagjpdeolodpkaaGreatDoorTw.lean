/- What Unpack tells are numbers of Go's int. -/
import Derived.Test.YtagjpdeolodpkaaGreatDoorUy
namespace Go.Proofs.YtagjpdeolodpkaaGreatDoor.Fl
open Go.RowKit Mm Law
set_option linter.unusedVariables false
set_option linter.unusedSimpArgs false
set_option linter.unusedSectionVars false
theorem unT_wf {l : List Fld} (hw : Wide l) (H : List UInt8) : ∀ k, k ≤ l.length → ∀ z ∈ unT l H k, (Lit.int .i64 z).wf = true := by
  intro k
  induction k with
  | zero => intro _ z hz; exact absurd hz (by simp [unT])
  | succ k ih =>
    intro hk z hz
    rw [show unT l H (k + 1) = unT l H k ++ [(numB (fldB l H k) : Int)] from rfl] at hz
    rcases List.mem_append.1 hz with h | h
    · exact ih (by omega) z h
    · have hz2 : z = (numB (fldB l H k) : Int) := by simpa using h
      subst hz2
      have hb := (bitsAt_get hw (show k < l.length by omega)).2.2
      have hl : (fldB l H k).length ≤ 32 := by unfold fldB; rw [List.length_take]; omega
      have h1 := numB_lt _ _ (rfl : (fldB l H k).length = (fldB l H k).length)
      have h2 := pow_33 hl
      have h3 : (2 : Nat) ^ 32 = 4294967296 := by decide
      exact WalkArith.wf_i64 (by omega)
theorem unV_wf (l : List Fld) (H : List UInt8) : ∀ z ∈ unV l H, (Lit.int .i64 z).wf = true := by
  unfold unV
  split
  · rename_i h
    by_cases hc : (chk l).1 = 0
    · exact unT_wf (chk_zero hc).2.2 H l.length (Nat.le_refl _)
    · exact absurd ((un_chk rfl hc).1.symm.trans h) hc
  · intro z hz; exact absurd hz (by simp)
end Go.Proofs.YtagjpdeolodpkaaGreatDoor.Fl
