/- What a drawn region with calls holds of the world: one cell, two cells, in blocks that were there. -/
import Derived.Test.YtlakglphjhoodaaDoorMm
import Derived.Deep.RegionHeld3
namespace Go.Proofs.YtlakglphjhoodaaDoor.Mm
open Go.RowKit
set_option linter.unusedVariables false
set_option linter.unusedSimpArgs false
set_option linter.unusedSectionVars false
abbrev Hd1 (W : World) (g o : Nat) (z : Value) (w' : World) : Prop := w'.cell? ⟨g, o, none⟩ = some z ∧ Below W.heap.size W w'
theorem Hd1.go {W w1 w2 : World} {g o : Nat} {z : Value} (hg : g < W.heap.size) (h : Hd1 W g o z w1) (hb : Below w1.heap.size w1 w2) : Hd1 W g o z w2 :=
  ⟨by rw [hb.cell (p := ⟨g, o, none⟩) (Nat.lt_of_lt_of_le hg h.2.size)]; exact h.1, bnx h.2 hb⟩
abbrev Hd2 (W : World) (g o p q : Nat) (z y : Value) (w' : World) : Prop := w'.cell? ⟨g, o, none⟩ = some z ∧ w'.cell? ⟨p, q, none⟩ = some y ∧ Below W.heap.size W w'
theorem Hd2.go {W w1 w2 : World} {g o p q : Nat} {z y : Value} (hg : g < W.heap.size) (hp : p < W.heap.size) (h : Hd2 W g o p q z y w1) (hb : Below w1.heap.size w1 w2) : Hd2 W g o p q z y w2 :=
  ⟨by rw [hb.cell (p := ⟨g, o, none⟩) (Nat.lt_of_lt_of_le hg h.2.2.size)]; exact h.1, by rw [hb.cell (p := ⟨p, q, none⟩) (Nat.lt_of_lt_of_le hp h.2.2.size)]; exact h.2.1, bnx h.2.2 hb⟩
end Go.Proofs.YtlakglphjhoodaaDoor.Mm
