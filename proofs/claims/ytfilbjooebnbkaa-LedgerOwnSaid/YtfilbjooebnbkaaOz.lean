/- LedgerOwn. -/
import Derived.Test.YtfilbjooebnbkaaOx
import Derived.Test.YtfilbjooebnbkaaOy
namespace Go.Proofs.Ytfilbjooebnbkaa.Lg
open Go.RowKit Mm Law
theorem own_walk (v : Value) (l : List Ent) (hM : ∀ x ∈ l, x.2.size ≤ maxLen ∧ (Lit.int .i64 x.1).wf = true) (w : World) (hS : SeesS w v 2 l.length (esC l)) :
    Calls Try.prog 3 #[v] w fun e w' => e = .returned (.bool true) ∧ Below w.heap.size w w' := by
  by_cases h : l.length ≤ 30
  · exact own_walk_a v l h hM w hS
  · exact own_walk_b v l (by omega) hM w hS
end Go.Proofs.Ytfilbjooebnbkaa.Lg
