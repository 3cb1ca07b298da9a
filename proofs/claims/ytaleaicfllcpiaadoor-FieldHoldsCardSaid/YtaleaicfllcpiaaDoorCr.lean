/- The document's Check: the two short cases. -/
import Derived.Test.YtaleaicfllcpiaaDoorCk
import Derived.Test.YtaleaicfllcpiaaDoorNb
namespace Go.Proofs.YtaleaicfllcpiaaDoor.Fl
open Go.RowKit Mm Law
set_option linter.unusedVariables false
set_option linter.unusedSimpArgs false
set_option linter.unusedSectionVars false
theorem rcheck_long (l : List Fld) (v : Value) (w : World) (hv : SeesF w v l) (h : 12 < l.length) :
    Calls Tryd.prog 46 #[v] w fun e w' => e = .returned (.tuple #[.int .i64 2, .int .i64 0]) ∧ Below w.heap.size w w' := by
  obtain ⟨a0, cap0, rfl, hcap, hcm, _, _⟩ := hv
  unfold maxLen at hcm
  go_enter Tryd.func46, Tryd.ntmps46
  go_wp2
  all_goals refine bodyPost_ret (v := .tuple #[.int .i64 2, .int .i64 0]) (by simp [results, Tryd.results46, go_sem]) rfl ⟨rfl, Below.refl _ _⟩
theorem rcheck_nil (v : Value) (w : World) (hv : SeesF w v []) :
    Calls Tryd.prog 46 #[v] w fun e w' => e = .returned (.tuple #[.int .i64 40, .int .i64 0]) ∧ Below w.heap.size w w' := by
  obtain ⟨a0, cap0, rfl, hcap, hcm, _, _⟩ := hv
  unfold maxLen at hcm
  simp only [List.length_nil]
  go_enter Tryd.func46, Tryd.ntmps46
  go_wp2
  all_goals refine bodyPost_ret (v := .tuple #[.int .i64 40, .int .i64 0]) (by simp [results, Tryd.results46, go_sem]) rfl ⟨rfl, Below.refl _ _⟩
end Go.Proofs.YtaleaicfllcpiaaDoor.Fl
