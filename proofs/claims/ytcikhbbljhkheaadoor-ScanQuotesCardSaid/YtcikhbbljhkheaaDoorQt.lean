/- The document's texts of a loose byte, of a number in hexadecimal; the number of a character. -/
import Derived.Test.YtcikhbbljhkheaaDoorQr
import Derived.Test.YtcikhbbljhkheaaDoorNm
namespace Go.Proofs.YtcikhbbljhkheaaDoor.Sn
open Go.RowKit Mm
set_option linter.unusedVariables false
theorem slice_hex (k k' : IntKind) (n : Nat) (h : n < 16) (i j : Int) (hi : i = (n : Int)) (hj : j = (n : Int) + 1) (w : World) :
    (Instr.slice 9 (.string hexS) (some (.int k i)) (some (.int k' j)) none).run Tryd.prog w = .ok (.string (str [hx n])) w := by
  have hz : hexS.size = 16 := rfl
  subst hi hj
  rw [run_slice_string_if w 9 hexS k k' (n : Int) ((n : Int) + 1) Tryd.underlying9, hz, if_pos (by omega), if_pos (by omega), ← hex_at n h]
  rfl
theorem one_size (b : UInt8) : (str [b]).size = 1 := str_size [b]
set_option maxRecDepth 100000 in
set_option maxHeartbeats 4000000 in
theorem rloose_any (c : Nat) (hc : c < 256) (w : World) : Calls Tryd.prog 13 #[.int .u8 (c : Int)] w fun e w' => e = .returned (.string (str (looseP c))) ∧ ∃ m, w' = w.drewN m := by
  have h1 := slice_hex .u8 .u8 (c / 16) (by omega) ((c : Int) / 16) ((c : Int) / 16 + 1) (by omega) (by omega)
  have h2 := slice_hex .u8 .u8 (c % 16) (by omega) ((c : Int) % 16) ((c : Int) % 16 + 1) (by omega) (by omega)
  have HR := Lib.hid (show str (looseP c) = ⟨#[92, 120]⟩ ++ str [hx (c / 16)] ++ str [hx (c % 16)] from by
    rw [show (⟨#[92, 120]⟩ : ByteArray) = str [92, 120] from rfl, str_app, str_app]; rfl)
  have z1 := one_size (hx (c / 16))
  have z2 := one_size (hx (c % 16))
  generalize str [hx (c / 16)] = d1 at *
  generalize str [hx (c % 16)] = d2 at *
  have a1 : IntKind.u8.wrap ((c : Int) / 16) = (c : Int) / 16 := by exact IntWalk.u8_in _ (by omega)
  have a2 : IntKind.u8.wrap ((c : Int) % 16) = (c : Int) % 16 := by exact IntWalk.u8_in _ (by omega)
  have a3 : IntKind.u8.wrap ((c : Int) / 16 + 1) = (c : Int) / 16 + 1 := by exact IntWalk.u8_in _ (by omega)
  have a4 : IntKind.u8.wrap ((c : Int) % 16 + 1) = (c : Int) % 16 + 1 := by exact IntWalk.u8_in _ (by omega)
  have s1 : ¬ 9223372036854775807 < 2 + d1.size := by omega
  have s2 : ¬ 9223372036854775807 < 2 + d1.size + d2.size := by omega
  have Z := Lib.hid (And.intro z1 z2)
  clear z1 z2
  go_enter Tryd.func13, Tryd.ntmps13
  go_wp2
  go_quiet (fail)
  go_wp2
  go_ret
  rw [HR.out]
  exact ⟨rfl, _, rfl⟩
end Go.Proofs.YtcikhbbljhkheaaDoor.Sn
