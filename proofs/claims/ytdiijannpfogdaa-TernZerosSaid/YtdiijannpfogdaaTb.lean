/- Plain lemmas, no program in sight: words of 64 bits as functions on places. -/
import Derived.WalkKit
namespace Go.Proofs.Ytdiijannpfogdaa.Tn
def wb (f : Nat → Bool) (b : Nat) : Nat → Nat
  | 0 => 0
  | n + 1 => wb f b n + (if f (b + n) then 2 ^ n else 0)
theorem wb_lt (f : Nat → Bool) (b n : Nat) : wb f b n < 2 ^ n := by
  induction n with
  | zero => simp [wb]
  | succ n ih => simp only [wb, Nat.pow_succ]; split <;> omega
theorem wb_bit (f : Nat → Bool) (b n j : Nat) : (wb f b n).testBit j = (decide (j < n) && f (b + j)) := by
  induction n with
  | zero => simp [wb]
  | succ n ih =>
    have hlt := wb_lt f b n
    simp only [wb]
    by_cases hf : f (b + n) = true
    · rw [if_pos hf, Nat.add_comm]
      rcases Nat.lt_trichotomy j n with h | h | h
      · rw [Nat.testBit_two_pow_add_gt h, ih]; simp [h, Nat.lt_succ_of_lt h]
      · subst h; rw [Nat.testBit_two_pow_add_eq, ih]; simp [hf]
      · have : (2 ^ n + wb f b n).testBit j = false := Nat.testBit_lt_two_pow (by
          have : 2 ^ (n+1) ≤ 2 ^ j := Nat.pow_le_pow_right (by omega) (by omega)
          rw [Nat.pow_succ] at this; omega)
        have h2 : ¬ j < n + 1 := by omega
        rw [this]; simp [h2]
    · rw [if_neg hf, Nat.add_zero, ih]
      rcases Nat.lt_trichotomy j n with h | h | h
      · simp [h, Nat.lt_succ_of_lt h]
      · subst h; simp; simpa using hf
      · have h1 : ¬ j < n := by omega
        have h2 : ¬ j < n + 1 := by omega
        simp [h1, h2]
def wd (f : Nat → Bool) (k : Nat) : Nat := wb f (64 * k) 64
theorem wd_lt (f : Nat → Bool) (k : Nat) : wd f k < 18446744073709551616 := wb_lt f _ 64
theorem wd_bit (f : Nat → Bool) (k j : Nat) : (wd f k).testBit j = (decide (j < 64) && f (64 * k + j)) := wb_bit f _ 64 j
theorem eq_wd {x : Nat} {f : Nat → Bool} {k : Nat} (h : ∀ j, x.testBit j = (decide (j < 64) && f (64 * k + j))) : x = wd f k :=
  Nat.eq_of_testBit_eq fun j => by rw [h, wd_bit]
theorem wd_congr {f g : Nat → Bool} {k : Nat} (h : ∀ j, j < 64 → f (64 * k + j) = g (64 * k + j)) : wd f k = wd g k :=
  eq_wd fun j => by rw [wd_bit]; by_cases hj : j < 64 <;> simp [hj, h]
theorem wd_inj {f g : Nat → Bool} {k : Nat} (h : wd f k = wd g k) : ∀ j, j < 64 → f (64 * k + j) = g (64 * k + j) := fun j hj => by
  have := congrArg (·.testBit j) h
  simpa [wd_bit, hj] using this
theorem wd_or (f g : Nat → Bool) (k : Nat) : wd f k ||| wd g k = wd (fun i => f i || g i) k :=
  eq_wd fun j => by rw [Nat.testBit_or, wd_bit, wd_bit]; cases decide (j < 64) <;> simp
theorem wd_and (f g : Nat → Bool) (k : Nat) : wd f k &&& wd g k = wd (fun i => f i && g i) k :=
  eq_wd fun j => by rw [Nat.testBit_and, wd_bit, wd_bit]; cases decide (j < 64) <;> simp
theorem wd_xor (f g : Nat → Bool) (k : Nat) : wd f k ^^^ wd g k = wd (fun i => f i ^^ g i) k :=
  eq_wd fun j => by rw [Nat.testBit_xor, wd_bit, wd_bit]; cases decide (j < 64) <;> simp
theorem not_bit (x j : Nat) (hx : x < 2 ^ 64) : (18446744073709551615 - x).testBit j = (decide (j < 64) && !x.testBit j) := by
  have := Nat.testBit_two_pow_sub_succ (x := x) (n := 64) hx j
  simpa using this
theorem wd_andNot (f g : Nat → Bool) (k : Nat) : wd f k &&& (18446744073709551615 - wd g k) = wd (fun i => f i && !g i) k :=
  eq_wd fun j => by rw [Nat.testBit_and, not_bit _ _ (wd_lt g k), wd_bit, wd_bit]; cases decide (j < 64) <;> simp
theorem wd_zero (k : Nat) : wd (fun _ => false) k = 0 := (eq_wd (x := 0) fun j => by simp).symm
theorem wd_eq_zero {f : Nat → Bool} {k : Nat} : wd f k = 0 ↔ ∀ j, j < 64 → f (64 * k + j) = false := by
  rw [← wd_zero k]
  exact ⟨fun h j hj => wd_inj h j hj, fun h => wd_congr h⟩
/-- One bit more. -/
def put (f : Nat → Bool) (i : Nat) : Nat → Bool := fun j => f j || decide (j = i)
def drop (f : Nat → Bool) (i : Nat) : Nat → Bool := fun j => f j && !decide (j = i)
theorem two_pow_wd (i : Nat) : 2 ^ (i % 64) = wd (fun j => decide (j = i)) (i / 64) :=
  eq_wd fun j => by
    rw [Nat.testBit_two_pow]
    by_cases h : i % 64 = j
    · have h1 : j < 64 := by omega
      have h2 : 64 * (i / 64) + j = i := by omega
      simp [h, h1, h2]
    · have h2 : ¬ (64 * (i / 64) + j = i ∧ j < 64) := by omega
      by_cases h3 : j < 64
      · have h4 : ¬ 64 * (i / 64) + j = i := fun e => h2 ⟨e, h3⟩
        simp [h, h3, h4]
      · simp [h, h3]
theorem put_wd (f : Nat → Bool) (i : Nat) : wd f (i / 64) ||| 2 ^ (i % 64) = wd (put f i) (i / 64) := by
  rw [two_pow_wd, wd_or]; rfl
theorem put_wd_ne (f : Nat → Bool) (i k : Nat) (h : k ≠ i / 64) : wd (put f i) k = wd f k :=
  wd_congr fun j hj => by
    have : ¬ 64 * k + j = i := by omega
    simp [put, this]
theorem drop_wd (f : Nat → Bool) (i : Nat) : wd f (i / 64) &&& (18446744073709551615 - 2 ^ (i % 64)) = wd (drop f i) (i / 64) := by
  rw [two_pow_wd, wd_andNot]; rfl
theorem drop_wd_ne (f : Nat → Bool) (i k : Nat) (h : k ≠ i / 64) : wd (drop f i) k = wd f k :=
  wd_congr fun j hj => by
    have : ¬ 64 * k + j = i := by omega
    simp [drop, this]
theorem at_wd (f : Nat → Bool) (i : Nat) : (wd f (i / 64)).testBit (i % 64) = f i := by
  rw [wd_bit]
  have h1 : i % 64 < 64 := by omega
  have h2 : 64 * (i / 64) + i % 64 = i := by omega
  simp [h1, h2]
theorem shr_bit (x n : Nat) : ((x / 2 ^ n &&& 1 : Nat) == 1) = x.testBit n := by
  rw [← Nat.shiftRight_eq_div_pow, Nat.testBit]
  have h : (x >>> n &&& 1) = 0 ∨ (x >>> n &&& 1) = 1 := by
    rw [Nat.and_one_is_mod]; omega
  rw [Nat.and_comm 1]
  rcases h with h | h <;> simp [h]
end Go.Proofs.Ytdiijannpfogdaa.Tn
