/- Plain law of the check sum: four steps of the register by the table are four single steps; a byte laid on at once is its bits laid on one by one. No program in sight. -/
import Derived.WalkKit
namespace Go.Proofs.YtndclkphglpknaaDoor.Lg
def poly : Nat := 2197175160
/-- one step of the register -/
def st (x : Nat) : Nat := (x / 2) ^^^ (if x % 2 = 1 then poly else 0)
theorem xor_div (x y : Nat) : (x ^^^ y) / 2 = (x / 2) ^^^ (y / 2) := by
  apply Nat.eq_of_testBit_eq
  intro i
  simp only [Nat.testBit_xor, Nat.testBit_div_two]
theorem xor_mod (x y : Nat) : (x ^^^ y) % 2 = (x % 2) ^^^ (y % 2) := by
  have h := Nat.xor_mod_two_pow (a := x) (b := y) (n := 1)
  simpa using h
theorem st_xor (x y : Nat) : st (x ^^^ y) = st x ^^^ st y := by
  unfold st
  rw [xor_div, xor_mod]
  have h1 : x % 2 = 0 ∨ x % 2 = 1 := by omega
  have h2 : y % 2 = 0 ∨ y % 2 = 1 := by omega
  have ac : ∀ a b c d : Nat, (a ^^^ b) ^^^ (c ^^^ d) = (a ^^^ c) ^^^ (b ^^^ d) := fun a b c d => by
    rw [Nat.xor_assoc, Nat.xor_assoc, ← Nat.xor_assoc b c d, Nat.xor_comm b c, Nat.xor_assoc c b d]
  rcases h1 with h1 | h1 <;> rcases h2 with h2 | h2 <;> simp only [h1, h2]
  · simp
  · rw [ac]; simp
  · rw [ac]; simp
  · rw [ac]; simp
theorem st_double (y : Nat) : st (2 * y) = y := by
  unfold st
  have h1 : 2 * y / 2 = y := by omega
  have h2 : ¬ (2 * y % 2 = 1) := by omega
  rw [h1, if_neg h2, Nat.xor_zero]
theorem st_lt {x : Nat} (h : x < 4294967296) : st x < 4294967296 := by
  unfold st
  refine Nat.xor_lt_two_pow (n := 32) (by omega) ?_
  split
  · decide
  · decide
def st4 (x : Nat) : Nat := st (st (st (st x)))
theorem st4_xor (x y : Nat) : st4 (x ^^^ y) = st4 x ^^^ st4 y := by unfold st4; rw [st_xor, st_xor, st_xor, st_xor]
theorem st4_hi (y : Nat) : st4 (16 * y) = y := by
  unfold st4
  rw [show 16 * y = 2 * (2 * (2 * (2 * y))) by omega, st_double, st_double, st_double, st_double]
def tab : List Nat := [0, 274646895, 549293790, 820201905, 1098587580, 1361435347, 1640403810, 1905808397, 2197175160, 2460548119, 2722870694, 2987750089, 3280807620, 3553878443, 3811616794, 4084100981]
theorem st_split (x : Nat) : x = (x % 16) ^^^ (16 * (x / 16)) := by
  apply Nat.eq_of_testBit_eq
  intro i
  have h16 : (16 : Nat) = 2 ^ 4 := rfl
  rw [Nat.testBit_xor, h16, Nat.testBit_mod_two_pow, Nat.testBit_two_pow_mul, Nat.testBit_div_two_pow]
  by_cases h : i < 4
  · have h2 : ¬ 4 ≤ i := by omega
    simp [h, h2]
  · have h2 : 4 ≤ i := by omega
    have h4 : i - 4 + 4 = i := by omega
    simp [h, h2, h4]
def T (i : Nat) : Nat := tab.getD i 0
theorem tab_st4 : ∀ i, i < 16 → T i = st4 i := by decide
theorem T_lt : ∀ i, i < 16 → T i < 4294967296 := by decide
theorem nib (x : Nat) : (x / 16) ^^^ T (x % 16) = st4 x := by
  rw [tab_st4 _ (by omega)]
  conv => rhs; rw [st_split x, st4_xor, st4_hi]
  rw [Nat.xor_comm]
theorem nib_lt {x : Nat} (h : x < 4294967296) : st4 x < 4294967296 := st_lt (st_lt (st_lt (st_lt h)))
theorem xor_lt32 {x y : Nat} (h : x < 4294967296) (k : y < 4294967296) : x ^^^ y < 4294967296 := Nat.xor_lt_two_pow (n := 32) h k
/-- a byte laid on -/
def step (r b : Nat) : Nat := st4 (st4 (r ^^^ b))
theorem step_lt {r b : Nat} (h : r < 4294967296) (k : b < 256) : step r b < 4294967296 := nib_lt (nib_lt (xor_lt32 h (by omega)))
/-- k bits of it -/
def bitsN (r b : Nat) : Nat → Nat
  | 0 => r
  | k + 1 => st (bitsN r b k ^^^ (b / 2 ^ k % 2))
theorem bitsN_lt {r b : Nat} (h : r < 4294967296) (k : Nat) : bitsN r b k < 4294967296 := by
  induction k with
  | zero => exact h
  | succ k ih => exact st_lt (xor_lt32 ih (by omega))
def stN (x : Nat) : Nat → Nat
  | 0 => x
  | k + 1 => st (stN x k)
theorem half_split (y : Nat) : y = (y % 2) ^^^ (2 * (y / 2)) := by
  apply Nat.eq_of_testBit_eq
  intro i
  have h2 : (2 : Nat) = 2 ^ 1 := rfl
  rw [Nat.testBit_xor, h2, Nat.testBit_mod_two_pow, Nat.testBit_two_pow_mul, Nat.testBit_div_two_pow]
  by_cases h : i < 1
  · have h3 : ¬ 1 ≤ i := by omega
    simp [h, h3]
  · have h3 : 1 ≤ i := by omega
    have h4 : i - 1 + 1 = i := by omega
    simp [h, h3, h4]
theorem bits_all (r b : Nat) : ∀ k, stN (r ^^^ b) k = bitsN r b k ^^^ (b / 2 ^ k) := by
  intro k
  induction k with
  | zero => simp [stN, bitsN]
  | succ k ih =>
    have e : b / 2 ^ (k + 1) = b / 2 ^ k / 2 := by rw [Nat.pow_succ, Nat.div_div_eq_div_mul]
    simp only [stN, bitsN]
    rw [ih, e]
    generalize b / 2 ^ k = y
    conv => lhs; rw [half_split y, ← Nat.xor_assoc, st_xor, st_double]
theorem byte_bits {r b : Nat} (h : b < 256) : bitsN r b 8 = step r b := by
  have h1 := bits_all r b 8
  have h2 : b / 2 ^ 8 = 0 := Nat.div_eq_of_lt h
  rw [h2, Nat.xor_zero] at h1
  rw [← h1]; rfl
theorem bit_step (x i : Nat) (h : i < 2) : st (x ^^^ i) = (x / 2) ^^^ (if i ≠ x % 2 then poly else 0) := by
  unfold st
  rw [xor_div, xor_mod]
  have hi : i = 0 ∨ i = 1 := by omega
  have hx : x % 2 = 0 ∨ x % 2 = 1 := by omega
  rcases hi with rfl | rfl <;> rcases hx with hx | hx <;> simp [hx]
/-- the register behind bytes -/
def reg (l : List UInt8) : Nat := l.foldl (fun r b => step r b.toNat) 4294967295
theorem reg_snoc (l : List UInt8) (k : Nat) (h : k < l.length) : reg (l.take (k + 1)) = step (reg (l.take k)) l[k].toNat := by
  unfold reg
  rw [List.take_succ_eq_append_getElem h, List.foldl_append]; rfl
theorem reg_lt (l : List UInt8) : reg l < 4294967296 := by
  unfold reg
  have key : ∀ (l : List UInt8) (r : Nat), r < 4294967296 → l.foldl (fun r b => step r b.toNat) r < 4294967296 := by
    intro l
    induction l with
    | nil => intro r h; exact h
    | cons b l ih => intro r h; exact ih _ (step_lt h (by have := b.toNat_lt; omega))
  exact key l _ (by decide)
/-- the check sum -/
def crc (l : List UInt8) : Nat := 4294967295 - reg l
theorem crc_lt (l : List UInt8) : crc l < 4294967296 := by unfold crc; omega
theorem crc_xor (l : List UInt8) : reg l ^^^ 4294967295 = crc l := by
  have h := reg_lt l
  unfold crc
  apply Nat.eq_of_testBit_eq
  intro i
  have h1 : (4294967295 - reg l).testBit i = (decide (i < 32) && !(reg l).testBit i) := by
    have := Nat.testBit_two_pow_sub_succ (x := reg l) (n := 32) h i
    simpa using this
  have h2 : (4294967295 : Nat).testBit i = decide (i < 32) := by
    have := Nat.testBit_two_pow_sub_one (n := 32) (i := i)
    simpa using this
  rw [Nat.testBit_xor, h1, h2]
  by_cases hi : i < 32
  · simp [hi]
  · have : (reg l).testBit i = false := Nat.testBit_lt_two_pow (Nat.lt_of_lt_of_le h (Nat.pow_le_pow_right (n := 2) (by omega) (show 32 ≤ i by omega)))
    simp [hi, this]
end Go.Proofs.YtndclkphglpknaaDoor.Lg
