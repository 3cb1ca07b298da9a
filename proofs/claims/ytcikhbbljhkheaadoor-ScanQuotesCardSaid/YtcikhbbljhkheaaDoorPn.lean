/- The document's decimal text of a number. -/
import Derived.Test.YtcikhbbljhkheaaDoorMm
import Derived.Test.YtcikhbbljhkheaaDoorRows
import Derived.BigQuiet
import Derived.Deep.QuietTactic
import Derived.Handy
import Derived.Laws.DeepStrings4
import Derived.Lib.ItoaLen
namespace Go.Proofs.YtcikhbbljhkheaaDoor.Sn
open Go.RowKit Mm
theorem dd_big {n : Nat} (h : ¬ n < 10) : Lib.decDigits n = Lib.decDigits (n / 10) ++ [UInt8.ofNat (48 + n % 10)] := by rw [Lib.decDigits, dif_neg h]
theorem str_app (a b : List UInt8) : str a ++ str b = str (a ++ b) := by
  apply ByteArray.ext
  rw [← Array.toList_inj]
  simp [str]
theorem small_at (n : Nat) (h : n < 10) : (⟨#[48, 49, 50, 51, 52, 53, 54, 55, 56, 57, 97, 98, 99, 100, 101, 102]⟩ : ByteArray).extract n (n + 1) = str [UInt8.ofNat (48 + n)] := by
  have : n = 0 ∨ n = 1 ∨ n = 2 ∨ n = 3 ∨ n = 4 ∨ n = 5 ∨ n = 6 ∨ n = 7 ∨ n = 8 ∨ n = 9 := by omega
  rcases this with h | h | h | h | h | h | h | h | h | h <;> subst h <;> decide
theorem quiet_on {P : Program} {f : FuncId} {args : Array Value} {w : World} {n : Nat} {v : Value} (h : Calls P f args (w.drewN n) fun e w' => e = .returned v ∧ ∃ m, w' = (w.drewN n).drewN m) : Calls P f args (w.drewN n) fun e w'' => e = .returned v ∧ ∃ m, w'' = w.drewN m :=
  h.mono fun _ _ ⟨he, m, hm⟩ => ⟨he, n + m, by rw [hm]; simp⟩
theorem slice_small (n : Nat) (h : n < 10) (i j : Int) (hi : i = (n : Int)) (hj : j = (n : Int) + 1) (w : World) :
    (Instr.slice 9 (.string (⟨#[48, 49, 50, 51, 52, 53, 54, 55, 56, 57, 97, 98, 99, 100, 101, 102]⟩ : ByteArray)) (some (.int .i64 i)) (some (.int .i64 j)) none).run Tryd.prog w = .ok (.string (str [UInt8.ofNat (48 + n)])) w := by
  have hz : (⟨#[48, 49, 50, 51, 52, 53, 54, 55, 56, 57, 97, 98, 99, 100, 101, 102]⟩ : ByteArray).size = 16 := rfl
  subst hi hj
  rw [run_slice_string_if w 9 (⟨#[48, 49, 50, 51, 52, 53, 54, 55, 56, 57, 97, 98, 99, 100, 101, 102]⟩ : ByteArray) .i64 .i64 (n : Int) ((n : Int) + 1) Tryd.underlying9, hz, if_pos (by omega), if_pos (by omega), ← small_at n h]
  rfl
set_option maxRecDepth 100000 in
set_option maxHeartbeats 4000000 in
theorem plain_any (n : Nat) : ∀ (_ : n < 4294967296) (w : World), Calls Tryd.prog 17 #[.int .i64 (n : Int)] w fun e w' => e = .returned (.string (str (Lib.decDigits n))) ∧ ∃ m, w' = w.drewN m := by
  induction n using Nat.strongRecOn with
  | _ n ih =>
    intro hn w
    have HIH := Lib.hid ih
    clear ih
    by_cases h10 : n < 10
    · have hx : (n : Int) < 10 := by omega
      have hs := slice_small n h10 (n : Int) ((n : Int) + 1) rfl rfl
      have HD := Lib.hid (show str (Lib.decDigits n) = str [UInt8.ofNat (48 + n)] from by rw [Lib.decDigits_one h10])
      generalize str [UInt8.ofNat (48 + n)] = d at *
      go_enter Tryd.func17, Tryd.ntmps17
      go_wp2
      go_ret
      rw [HD.out]
      exact ⟨rfl, 0, rfl⟩
    · have hx : ¬ (n : Int) < 10 := by omega
      have HI := Lib.hid (fun w => HIH.out (n / 10) (by omega) (by omega) w)
      rw [show ((n / 10 : Nat) : Int) = (n : Int) / 10 from by omega] at HI
      have HLN := Lib.hid (show (str (Lib.decDigits (n / 10))).size ≤ 20 from by
        rw [str_size, Lib.decDigits_length]
        exact Lib.nDigits_le20 _ (by omega))
      have HD := Lib.hid (show str (Lib.decDigits n) = str (Lib.decDigits (n / 10)) ++ str [UInt8.ofNat (48 + n % 10)] from by rw [dd_big h10, str_app])
      have hs := slice_small (n % 10) (by omega) ((n : Int) % 10) ((n : Int) % 10 + 1) (by omega) (by omega)
      have w1 : IntKind.i64.wrap ((n : Int) / 10) = (n : Int) / 10 := IntWalk.i64_in _ (by omega)
      have w2 : IntKind.i64.wrap ((n : Int) % 10) = (n : Int) % 10 := IntWalk.i64_in _ (by omega)
      have w3 : IntKind.i64.wrap ((n : Int) % 10 + 1) = (n : Int) % 10 + 1 := IntWalk.i64_in _ (by omega)
      have HL1 := str_size [UInt8.ofNat (48 + n % 10)]
      generalize str [UInt8.ofNat (48 + n % 10)] = d at *
      generalize str (Lib.decDigits (n / 10)) = z1 at *
      have hs1 : ¬ 9223372036854775807 < z1.size + d.size := by have := HLN.out; simp at HL1; omega
      have HL1' := Lib.hid HL1
      clear HL1
      go_enter Tryd.func17, Tryd.ntmps17
      go_wp2
      go_quiet ((go_at_call 17; with_reducible exact quiet_on (HI.out _)))
      go_wp2
      go_ret
      rw [HD.out]
      exact ⟨rfl, _, rfl⟩
end Go.Proofs.YtcikhbbljhkheaaDoor.Sn
