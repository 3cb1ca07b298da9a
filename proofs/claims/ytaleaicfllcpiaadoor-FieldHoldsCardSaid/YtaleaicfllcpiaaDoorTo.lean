/- top, in the program and in the document. -/
import Derived.Test.YtaleaicfllcpiaaDoorGr
import Derived.Test.YtaleaicfllcpiaaDoorCe
namespace Go.Proofs.YtaleaicfllcpiaaDoor.Fl
open Go.RowKit Mm Law
set_option linter.unusedVariables false
set_option linter.unusedSimpArgs false
set_option linter.unusedSectionVars false
def topN (n : Nat) : Nat := 2 ^ n - 1
theorem topN_pos (n : Nat) : 0 < 2 ^ n := Nat.pow_pos (by decide)
theorem pow_int (n : Nat) : (2 : Int) ^ n = ((2 ^ n : Nat) : Int) := by simp
theorem pow_33 {n m : Nat} (h : n ≤ m) : 2 ^ n ≤ 2 ^ m := Nat.pow_le_pow_right (by decide) h
theorem topN_int (n : Nat) : (topN n : Int) = (2 : Int) ^ n - 1 := by
  have := topN_pos n
  rw [pow_int]
  unfold topN
  omega
theorem pow_bd (n : Nat) (h : n ≤ 33) : 0 < (2 : Int) ^ n ∧ (2 : Int) ^ n ≤ 8589934592 := by
  have h1 := topN_pos n
  have h2 := pow_33 h
  rw [pow_int]
  have h3 : (2 : Nat) ^ 33 = 8589934592 := by decide
  omega
theorem ret_i {a b : Int} (h : a = b) : Ending.returned (.int .i64 a) = .returned (.int .i64 b) := by rw [h]
theorem top_any (n : Nat) (h : n ≤ 33) (w : World) : Calls Tryd.prog 39 #[.int .i64 (n : Int)] w fun e w' => e = .returned (.int .i64 (topN n : Int)) ∧ w = w' := by
  obtain ⟨p0, p1⟩ := pow_bd n h
  go_enter Tryd.func39, Tryd.ntmps39
  go_wp2
  go_ret
  exact ⟨ret_i (topN_int n).symm, rfl⟩
theorem rtop_any (n : Nat) (h : n ≤ 33) (w : World) : Calls Tryd.prog 85 #[.int .i64 (n : Int)] w fun e w' => e = .returned (.int .i64 (topN n : Int)) ∧ w = w' := by
  obtain ⟨p0, p1⟩ := pow_bd n h
  go_enter Tryd.func85, Tryd.ntmps85
  go_wp2
  go_ret
  exact ⟨ret_i (topN_int n).symm, rfl⟩
end Go.Proofs.YtaleaicfllcpiaaDoor.Fl
