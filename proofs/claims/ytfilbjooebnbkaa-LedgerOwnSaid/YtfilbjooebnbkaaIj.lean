/- Plain law of the check sum: bytes of which one is another one have another sum. No program in sight. -/
import Derived.Test.YtfilbjooebnbkaaCr
namespace Go.Proofs.Ytfilbjooebnbkaa.Lg
theorem xor_can {a b c : Nat} (h : a ^^^ c = b ^^^ c) : a = b := by
  have h2 := congrArg (· ^^^ c) h
  simpa [Nat.xor_assoc] using h2
theorem xor_can_l {a b c : Nat} (h : c ^^^ a = c ^^^ b) : a = b := by
  rw [Nat.xor_comm c a, Nat.xor_comm c b] at h
  exact xor_can h
theorem st_top {x : Nat} (h : x < 4294967296) : (st x).testBit 31 = decide (x % 2 = 1) := by
  unfold st
  rw [Nat.testBit_xor]
  have h1 : (x / 2).testBit 31 = false := Nat.testBit_lt_two_pow (by omega)
  rw [h1]
  by_cases hx : x % 2 = 1
  · rw [if_pos hx, decide_eq_true hx]
    decide
  · rw [if_neg hx, decide_eq_false hx]
    simp
theorem st_inj {x y : Nat} (hx : x < 4294967296) (hy : y < 4294967296) (h : st x = st y) : x = y := by
  have e := congrArg (fun z => z.testBit 31) h
  simp only [st_top hx, st_top hy] at e
  have hp : x % 2 = y % 2 := by
    by_cases a : x % 2 = 1 <;> by_cases b : y % 2 = 1 <;> simp [a, b] at e <;> omega
  unfold st at h
  rw [hp] at h
  have := xor_can h
  omega
theorem st4_inj {x y : Nat} (hx : x < 4294967296) (hy : y < 4294967296) (h : st4 x = st4 y) : x = y := by
  unfold st4 at h
  exact st_inj hx hy (st_inj (st_lt hx) (st_lt hy) (st_inj (st_lt (st_lt hx)) (st_lt (st_lt hy)) (st_inj (st_lt (st_lt (st_lt hx))) (st_lt (st_lt (st_lt hy))) h)))
theorem step_inj {x y : Nat} (hx : x < 4294967296) (hy : y < 4294967296) (h : st4 (st4 x) = st4 (st4 y)) : x = y :=
  st4_inj hx hy (st4_inj (nib_lt hx) (nib_lt hy) h)
theorem step_inj_r {r s b : Nat} (hr : r < 4294967296) (hs : s < 4294967296) (hb : b < 256) (h : step r b = step s b) : r = s := by
  unfold step at h
  exact xor_can (step_inj (xor_lt32 hr (by omega)) (xor_lt32 hs (by omega)) h)
theorem step_inj_b {r a b : Nat} (hr : r < 4294967296) (ha : a < 256) (hb : b < 256) (h : step r a = step r b) : a = b := by
  unfold step at h
  exact xor_can_l (step_inj (xor_lt32 hr (by omega)) (xor_lt32 hr (by omega)) h)
def regF (r : Nat) (l : List UInt8) : Nat := l.foldl (fun r b => step r b.toNat) r
theorem regF_inj (l : List UInt8) : ∀ {r s : Nat}, r < 4294967296 → s < 4294967296 → regF r l = regF s l → r = s := by
  induction l with
  | nil => intro r s _ _ h; exact h
  | cons b l ih =>
    intro r s hr hs h
    have hb : b.toNat < 256 := b.toNat_lt
    exact step_inj_r hr hs hb (ih (step_lt hr hb) (step_lt hs hb) h)
theorem reg_app (a c : List UInt8) : reg (a ++ c) = regF (reg a) c := by
  unfold reg regF
  rw [List.foldl_append]
/-- one byte that is another one: another sum -/
theorem crc_ne (a c : List UInt8) (x y : UInt8) (h : x ≠ y) : crc (a ++ x :: c) ≠ crc (a ++ y :: c) := by
  intro e
  have h1 := reg_lt (a ++ x :: c)
  have h2 := reg_lt (a ++ y :: c)
  have e2 : reg (a ++ x :: c) = reg (a ++ y :: c) := by unfold crc at e; omega
  rw [reg_app, reg_app] at e2
  have hx : x.toNat < 256 := x.toNat_lt
  have hy : y.toNat < 256 := y.toNat_lt
  have e3 : step (reg a) x.toNat = step (reg a) y.toNat := regF_inj c (step_lt (reg_lt a) hx) (step_lt (reg_lt a) hy) e2
  exact h (UInt8.toNat_inj.1 (step_inj_b (reg_lt a) hx hy e3))
theorem crc_set (l : List UInt8) (p : Nat) (hp : p < l.length) (y : UInt8) (h : y ≠ l[p]) : crc (l.set p y) ≠ crc l := by
  have e1 : l = l.take p ++ l[p] :: l.drop (p + 1) := by
    rw [← List.drop_eq_getElem_cons hp, List.take_append_drop]
  have e2 : l.set p y = l.take p ++ y :: l.drop (p + 1) := List.set_eq_take_append_cons_drop ..  |>.trans (by rw [if_pos hp])
  rw [e2]
  conv => rhs; rw [e1]
  exact crc_ne _ _ _ _ h
end Go.Proofs.Ytfilbjooebnbkaa.Lg
