/- Patterns: the reference's reader: letters, digits, runs. -/
import Derived.Test.YtlbkacabcfeaiaaQr
namespace Go.Proofs.Ytlbkacabcfeaiaa.Tl
open Go.RowKit Mm
set_option linter.unusedVariables false
theorem u8_le (a b : UInt8) : (decide (a ≤ b) : Bool) = decide ((a.toNat : Int) ≤ (b.toNat : Int)) := by
  rw [decide_eq_decide, UInt8.le_iff_toNat_le]
  omega
theorem u8_beq (a b : UInt8) : (a == b) = ((a.toNat : Int) == (b.toNat : Int)) := by
  rw [Bool.eq_iff_iff, beq_iff_eq, beq_iff_eq]
  constructor
  · rintro rfl; rfl
  · intro h
    have h2 : a.toNat = b.toNat := by omega
    rw [← UInt8.ofNat_toNat (x := a), ← UInt8.ofNat_toNat (x := b), h2]
theorem letter_num (c : UInt8) : isLetter c = ((((c.toNat : Int) == 95) || (decide (97 ≤ (c.toNat : Int)) && decide ((c.toNat : Int) ≤ 122))) || (decide (65 ≤ (c.toNat : Int)) && decide ((c.toNat : Int) ≤ 90))) := by
  unfold isLetter
  rw [u8_beq, u8_le, u8_le, u8_le, u8_le]
  rfl
theorem digit_num (c : UInt8) : isDigit c = (decide (48 ≤ (c.toNat : Int)) && decide ((c.toNat : Int) ≤ 57)) := by
  unfold isDigit
  rw [u8_le, u8_le]
  rfl
set_option maxRecDepth 100000 in
set_option maxHeartbeats 4000000 in
theorem rletter_any (c : UInt8) (w : World) : Calls Try.prog 47 #[.int .u8 (c.toNat : Int)] w fun e w' => e = .returned (.bool (isLetter c)) ∧ w = w' := by
  rw [letter_num]
  have hb := c.toNat_lt
  generalize hn : (c.toNat : Int) = n at *
  have hn0 : 0 ≤ n := by omega
  clear hn hb
  go_enter Try.func47, Try.ntmps47
  go_wp2_with fail
  all_goals
    go_ret
    refine ⟨congrArg (fun b => Ending.returned (Value.bool b)) ?_, rfl⟩
    first
      | rfl
      | (rw [Bool.eq_iff_iff]
         simp only [Bool.or_eq_true, Bool.and_eq_true, decide_eq_true_eq, beq_iff_eq, Bool.false_eq_true, eq_self, true_iff, false_iff]
         omega)
set_option maxRecDepth 100000 in
set_option maxHeartbeats 4000000 in
theorem rdigit_any (c : UInt8) (w : World) : Calls Try.prog 51 #[.int .u8 (c.toNat : Int)] w fun e w' => e = .returned (.bool (isDigit c)) ∧ w = w' := by
  rw [digit_num]
  have hb := c.toNat_lt
  generalize hn : (c.toNat : Int) = n at *
  have hn0 : 0 ≤ n := by omega
  clear hn hb
  go_enter Try.func51, Try.ntmps51
  go_wp2_with fail
  all_goals
    go_ret
    refine ⟨congrArg (fun b => Ending.returned (Value.bool b)) ?_, rfl⟩
    first
      | rfl
      | (rw [Bool.eq_iff_iff]
         simp only [Bool.or_eq_true, Bool.and_eq_true, decide_eq_true_eq, beq_iff_eq, Bool.false_eq_true, eq_self, true_iff, false_iff]
         omega)
end Go.Proofs.Ytlbkacabcfeaiaa.Tl
