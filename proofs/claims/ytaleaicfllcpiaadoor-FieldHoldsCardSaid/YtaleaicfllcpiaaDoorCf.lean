/- Lists of fields: the laws' own copy and comparison. -/
import Derived.Test.YtaleaicfllcpiaaDoorNa
import Derived.Test.YtaleaicfllcpiaaDoorFa
namespace Go.Proofs.YtaleaicfllcpiaaDoor.Fl
open Go.RowKit Mm Law
set_option linter.unusedVariables false
set_option linter.unusedSimpArgs false
set_option linter.unusedSectionVars false
def fcells (l : List Fld) : List Value := l.flatMap fun f => [.string f.1, .int .i64 f.2]
theorem fcells_at (l : List Fld) : ∀ j f, l[j]? = some f → (fcells l)[j * 2]? = some (.string f.1) ∧ (fcells l)[j * 2 + 1]? = some (.int .i64 f.2) := by
  induction l with
  | nil => intro j f h; cases h
  | cons x r ih =>
    intro j f h
    cases j with
    | zero => cases h; exact ⟨rfl, rfl⟩
    | succ j =>
      obtain ⟨h0, h1⟩ := ih j f (by simpa using h)
      refine ⟨?_, ?_⟩
      · rw [show (j + 1) * 2 = j * 2 + 2 by omega]
        exact h0
      · rw [show (j + 1) * 2 + 1 = j * 2 + 1 + 2 by omega]
        exact h1
theorem SeesF.of_own {w : World} {B : Nat} {v : Value} {e : TypeId} {l : List Fld} (h : w.ownsRow B e 2 v l.length (fcells l)) (hm : ∀ f ∈ l, f.1.size ≤ maxLen ∧ (Lit.int .i64 f.2).wf = true) (hc : ∀ a m cap, v = .slice a m cap → cap ≤ maxLen) : SeesF w v l := by
  by_cases h0 : l.length = 0
  · have hl : l = [] := List.eq_nil_of_length_eq_zero h0
    subst hl
    rcases h.2 with ⟨rfl, _⟩ | ⟨g, cap, cur, rfl, _, _, hle, _⟩
    · exact ⟨none, 0, rfl, Nat.le_refl _, Nat.zero_le _, .inl rfl, hm⟩
    · exact ⟨_, cap, rfl, hle, hc _ _ _ rfl, .inl rfl, hm⟩
  · obtain ⟨g, cap, rfl, hle, _, hlt, hx⟩ := own_at h (by omega)
    exact ⟨_, cap, rfl, hle, hc _ _ _ rfl, .inr ⟨g, 0, rfl, hlt, fun j f hj => by
      obtain ⟨h0, h1⟩ := fcells_at l j f hj
      rw [Nat.zero_add, Nat.zero_add]
      exact ⟨hx _ _ h0, hx _ _ h1⟩⟩, hm⟩
end Go.Proofs.YtaleaicfllcpiaaDoor.Fl
