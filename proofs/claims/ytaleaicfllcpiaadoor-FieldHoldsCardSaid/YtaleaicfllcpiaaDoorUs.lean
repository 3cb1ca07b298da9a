/- The laid table of the forms. -/
import Derived.Test.YtaleaicfllcpiaaDoorFp
import Derived.Test.YtaleaicfllcpiaaDoorA7
import Derived.Test.YtaleaicfllcpiaaDoorRows
import Derived.MakeChecks
import Derived.Stop.LaidErr
namespace Go.Proofs.YtaleaicfllcpiaaDoor.Fl
open Go.RowKit Mm Law
set_option linter.unusedVariables false
set_option linter.unusedSimpArgs false
set_option linter.unusedSectionVars false
theorem useB_row : ∀ f, 1 ≤ f → f ≤ 4 → ∀ j, j < 4 → ∀ {H : Type}, ∃ bs, (([.agg [.lit (.bool false), .lit (.bool false), .lit (.bool false), .lit (.bool false)], .agg [.lit (.bool true), .lit (.bool false), .lit (.bool false), .lit (.bool false)], .agg [.lit (.bool true), .lit (.bool false), .lit (.bool true), .lit (.bool false)], .agg [.lit (.bool true), .lit (.bool true), .lit (.bool false), .lit (.bool false)], .agg [.lit (.bool false), .lit (.bool false), .lit (.bool false), .lit (.bool true)]] : List (DataW H)))[f]? = some (.agg bs) ∧ bs[j]? = some (.lit (.bool (useB f j))) := by
  intro f h1 h2 j hj H
  have hf : f = 1 ∨ f = 2 ∨ f = 3 ∨ f = 4 := by omega
  have hjj : j = 0 ∨ j = 1 ∨ j = 2 ∨ j = 3 := by omega
  rcases hf with rfl | rfl | rfl | rfl <;> rcases hjj with rfl | rfl | rfl | rfl <;> exact ⟨_, rfl, rfl⟩
set_option maxRecDepth 100000 in
theorem used_of {w : World} {rest : List (String × DataW Unit)} (h : laidMet Tryd.prog (("reach/field.used", Rows.laid_reach_field_used) :: rest) w) : Used w := by
  obtain ⟨ps, ⟨g', t', cs, fuel, p, q, hg', ht', hvar, hd, _, _⟩, _⟩ := h
  have hg : Tryd.prog.globalNamed "reach/field.used" = some 0 := by kernel_rfl
  obtain rfl := Option.some.inj (hg.symm.trans hg')
  have hty : (Tryd.prog.globals[0]?).map (·.type) = some 134 := by kernel_rfl
  obtain rfl := Option.some.inj (hty.symm.trans ht')
  have hc : ∀ f j, 1 ≤ f → f ≤ 4 → j < 4 → w.cell? ⟨0, f * 4 + j, none⟩ = some (.bool (useB f j)) := by
    intro f j h1 h2 h3
    obtain ⟨bs, hb1, hb2⟩ := useB_row f h1 h2 j h3
    have hcell := table_bools (e := 133) (tb := 4) Tryd.underlying134 Tryd.underlying133 Tryd.underlying4 (by kernel_rfl) (by kernel_rfl) (by kernel_rfl) hd f bs hb1 j _ hb2 h3
    have hv := World.var?_cell hg hvar (f * 4 + j)
    rw [hv]
    simpa using hcell
  refine ⟨?_, hc⟩
  have h0 := hc 1 0 (by decide) (by decide) (by decide)
  refine Classical.byContradiction fun hz => ?_
  have : w.heap.size = 0 := by omega
  simp [World.cell?, this] at h0
end Go.Proofs.YtaleaicfllcpiaaDoor.Fl
