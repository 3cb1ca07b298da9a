import Derived.Test.YtdiijannpfogdaaRows
import Derived.Test.YtdiijannpfogdaaTb
import Derived.WalkKit
import Derived.BigQuiet
import Derived.BigRegion
import Derived.Deep.QuietTactic
import Derived.Handy
import Derived.Lib.Hide
namespace Go.Proofs.Ytdiijannpfogdaa.Tn
open Go.RowKit

theorem bit_i (x n : Nat) (hx : x < 18446744073709551616) : (bits .and .u64 ((x : Int) / 2 ^ n) 1 == 1) = x.testBit n := by
  have e : ((x : Int) / 2 ^ n) = ((x / 2 ^ n : Nat) : Int) := by simp
  have hlt : x / 2 ^ n < 18446744073709551616 := Nat.lt_of_le_of_lt (Nat.div_le_self ..) hx
  have h2 := u64_and_nat (x / 2 ^ n) 1 hlt (by omega)
  rw [e]
  rw [show (1 : Int) = ((1 : Nat) : Int) from rfl, h2, ← shr_bit]
  rw [Bool.eq_iff_iff]; simp; omega

set_option maxHeartbeats 400000 in
theorem at_any (b off i x : Nat) (w : World) (hi : i < 256) (hx : x < 18446744073709551616) (hc : w.cell? ⟨b, off + i / 64, none⟩ = some (.int .u64 (x : Int))) :
    Calls Try.prog 68 #[.pointer (some ⟨b, off, none⟩), .int .i64 (i : Int)] w fun e w' => e = .returned (.bool (x.testBit (i % 64))) ∧ w = w' := by
  go_enter Try.func68, Try.ntmps68
  go_wp2
  go_ret
  exact ⟨by rw [bit_i x _ hx]; rfl, rfl⟩

theorem or_i (x n : Nat) (hn : n < 64) (hx : x < 18446744073709551616) : bits .or .u64 (x : Int) (IntKind.u64.wrap (2 ^ n)) = ((x ||| 2 ^ n : Nat) : Int) := by
  have hlt : (2 : Nat) ^ n < 18446744073709551616 := Nat.pow_lt_pow_of_lt (by omega) (show n < 64 from hn)
  have e : IntKind.u64.wrap ((2 : Int) ^ n) = ((2 ^ n : Nat) : Int) := by
    rw [show ((2 : Int) ^ n) = ((2 ^ n : Nat) : Int) by simp]
    generalize 2 ^ n = p at hlt
    exact IntWalk.u64_in _ ⟨by omega, by omega⟩
  rw [e]
  exact u64_or_nat x (2 ^ n) hx hlt
theorem andNot_i (x n : Nat) (hn : n < 64) (hx : x < 18446744073709551616) : bits .andNot .u64 (x : Int) (IntKind.u64.wrap (2 ^ n)) = ((x &&& (18446744073709551615 - 2 ^ n) : Nat) : Int) := by
  have hlt : (2 : Nat) ^ n < 18446744073709551616 := Nat.pow_lt_pow_of_lt (by omega) (show n < 64 from hn)
  have e : IntKind.u64.wrap ((2 : Int) ^ n) = ((2 ^ n : Nat) : Int) := by
    rw [show ((2 : Int) ^ n) = ((2 ^ n : Nat) : Int) by simp]
    generalize 2 ^ n = p at hlt
    exact IntWalk.u64_in _ ⟨by omega, by omega⟩
  rw [e]
  exact u64_andNot_nat x (2 ^ n) hx hlt

set_option maxHeartbeats 400000 in
theorem put_any (b off i x : Nat) (w : World) (hi : i < 256) (hx : x < 18446744073709551616) (hc : w.cell? ⟨b, off + i / 64, none⟩ = some (.int .u64 (x : Int)))
   (hf : w.frozen? ⟨b, off + i / 64, none⟩ = false) :
    Calls Try.prog 65 #[.pointer (some ⟨b, off, none⟩), .int .i64 (i : Int)] w fun e w' => e = .returned (.tuple #[]) ∧ (w.setCell ⟨b, off + i / 64, none⟩ (.int .u64 ((x ||| 2 ^ (i % 64) : Nat) : Int))).drew = w' := by
  have e1 : IntKind.i64.wrap ((i : Int) / 64) = (i : Int) / 64 := IntWalk.i64_in _ (by omega)
  have e2 : IntKind.i64.wrap ((i : Int) % 64) = (i : Int) % 64 := IntWalk.i64_in _ (by omega)
  have e3 : ((i : Int) / 64).toNat = i / 64 := by omega
  have e4 : ((i : Int) % 64).toNat = i % 64 := by omega
  have e5 : 0 ≤ (i : Int) / 64 := by omega
  have e6 : (i : Int) / 64 < 4 := by omega
  go_enter Try.func65, Try.ntmps65
  go_wp2
  go_region
  go_end0
  exact ⟨rfl, by rw [or_i x _ (by omega) hx]⟩

set_option maxHeartbeats 400000 in
theorem drop_any (b off i x : Nat) (w : World) (hi : i < 256) (hx : x < 18446744073709551616) (hc : w.cell? ⟨b, off + i / 64, none⟩ = some (.int .u64 (x : Int)))
   (hf : w.frozen? ⟨b, off + i / 64, none⟩ = false) :
    Calls Try.prog 77 #[.pointer (some ⟨b, off, none⟩), .int .i64 (i : Int)] w fun e w' => e = .returned (.tuple #[]) ∧ (w.setCell ⟨b, off + i / 64, none⟩ (.int .u64 ((x &&& (18446744073709551615 - 2 ^ (i % 64)) : Nat) : Int))).drew = w' := by
  have e1 : IntKind.i64.wrap ((i : Int) / 64) = (i : Int) / 64 := IntWalk.i64_in _ (by omega)
  have e2 : IntKind.i64.wrap ((i : Int) % 64) = (i : Int) % 64 := IntWalk.i64_in _ (by omega)
  have e3 : ((i : Int) / 64).toNat = i / 64 := by omega
  have e4 : ((i : Int) % 64).toNat = i % 64 := by omega
  have e5 : 0 ≤ (i : Int) / 64 := by omega
  have e6 : (i : Int) / 64 < 4 := by omega
  go_enter Try.func77, Try.ntmps77
  go_wp2
  go_region
  go_end0
  exact ⟨rfl, by rw [andNot_i x _ (by omega) hx]⟩

end Go.Proofs.Ytdiijannpfogdaa.Tn
