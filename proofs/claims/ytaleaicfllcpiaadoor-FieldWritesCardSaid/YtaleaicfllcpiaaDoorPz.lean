/- FieldPacks. -/
import Derived.Test.YtaleaicfllcpiaaDoorPk
import Derived.Test.YtaleaicfllcpiaaDoorRv
namespace Go.Proofs.YtaleaicfllcpiaaDoor.Fl
open Go.RowKit Mm Law
set_option linter.unusedVariables false
set_option linter.unusedSimpArgs false
set_option linter.unusedSectionVars false
set_option maxRecDepth 100000 in
set_option maxHeartbeats 2000000 in
theorem alike_yes (T : List Int) (v u : Value) (w : World) (hv : SeesS w v 1 T.length (inC T)) (hu : SeesS w u 1 T.length (inC T)) :
    Calls Tryd.prog 16 #[v, u] w fun e w' => e = .returned (.bool true) ∧ Below w.heap.size w w' := by
  obtain ⟨a0, cap0, rfl, hcap, hcm⟩ := hv.form
  obtain ⟨a1, cap1, rfl, hcap1, hcm1⟩ := hu.form
  have HX := Lib.hid hv
  have HX1 := Lib.hid hu
  unfold maxLen at hcm hcm1
  have hne : ((T.length : Int) != (T.length : Int)) = false := by simp
  clear hv hu
  go_enter Tryd.func16, Tryd.ntmps16
  go_wp2
  go_loopw [5] (fun i wr => ∃ k : Nat, k ≤ T.length ∧ i = .int .i64 k ∧ Below w.heap.size w wr) (fun i _ => T.length - (intOf i).toNat)
  case atStart => exact ⟨0, Nat.zero_le _, rfl, Below.refl _ _⟩
  case round =>
    obtain ⟨k, hk, rfl, hbel⟩ := hrel
    by_cases hlt : k < T.length
    · obtain ⟨_, g, off, rfl, hg, hq⟩ := HX.out.at (by omega)
      obtain ⟨_, g1, off1, rfl, hg1, hq1⟩ := HX1.out.at (by omega)
      have kat := inC_at T k T[k] (by simp [hlt])
      have q0 := hq _ _ kat
      have p0 := hq1 _ _ kat
      rw [← hbel.cell (p := ⟨g, off + k, none⟩) hg] at q0
      rw [← hbel.cell (p := ⟨g1, off1 + k, none⟩) hg1] at p0
      generalize T[k] = z at *
      have hzz : (z != z) = false := by simp
      have hx1 : (k : Int) < (T.length : Int) := by omega
      have hx0 : (0 : Int) ≤ (k : Int) := by omega
      clear hq hq1 kat
      go_wp2
      go_quiet (fail)
      go_wp2
      go_roundw
      case rel => exact ⟨k + 1, by omega, by go_num, below_drewN hbel _⟩
      case measure => simp [intOf]; omega
    · go_wp2
      go_ret
      exact ⟨rfl, hbel⟩
end Go.Proofs.YtaleaicfllcpiaaDoor.Fl
