/- Plain lemmas on memory: a slice of elements of s cells each that reads as a list of cells. -/
import Derived.Test.YtlakglphjhoodaaDoorMm
namespace Go.Proofs.YtlakglphjhoodaaDoor.Mm
open Go.RowKit
set_option linter.unusedVariables false
set_option linter.unusedSimpArgs false
set_option linter.unusedSectionVars false
def SeesS (w : World) (v : Value) (s n : Nat) (xs : List Value) : Prop :=
  ∃ a cap, v = .slice a n cap ∧ (a = none → cap = 0) ∧ n ≤ cap ∧ cap ≤ maxLen ∧ xs.length = n * s ∧ (n = 0 ∨ ∃ g off, a = some ⟨g, off, none⟩ ∧ g < w.heap.size ∧ ∀ j u, xs[j]? = some u → w.cell? ⟨g, off + j, none⟩ = some u)
theorem SeesS.below {w w' : World} {v : Value} {s n : Nat} {xs : List Value} (h : SeesS w v s n xs) (hb : Below w.heap.size w w') : SeesS w' v s n xs := by
  obtain ⟨a, cap, hv, hN, hc, hm, hl, hx⟩ := h
  refine ⟨a, cap, hv, hN, hc, hm, hl, hx.imp id ?_⟩
  rintro ⟨g, off, ha, hg, hx⟩
  exact ⟨g, off, ha, Nat.lt_of_lt_of_le hg hb.size, fun j u hj => by rw [hb.cell (p := ⟨g, off + j, none⟩) hg]; exact hx j u hj⟩
theorem SeesS.of_own {w : World} {B : Nat} {e : TypeId} {v : Value} {s n : Nat} {xs : List Value} (h : w.ownsRow B e s v n xs) : SeesS w v s n xs := by
  rcases h.2 with ⟨hv, h0⟩ | ⟨g, cap, cur, hv, _, hg, hc, hm, _, _⟩
  · subst h0
    exact ⟨none, 0, hv, fun _ => rfl, Nat.le_refl _, Nat.zero_le _, h.1, .inl rfl⟩
  · refine ⟨some ⟨g, 0, none⟩, cap, hv, (fun h => by cases h), hc, hm, h.1, .inr ⟨g, 0, rfl, (Array.getElem?_eq_some_iff.1 hg).1, fun j u hj => ?_⟩⟩
    subst hv
    have := h.cells (g := g) rfl j u hj
    rw [add_off] at this
    rw [Nat.zero_add]; exact this
theorem SeesS.take {w : World} {a : Option Addr} {s n cap : Nat} {xs : List Value} (h : SeesS w (.slice a n cap) s n xs) (k : Nat) (hk : k ≤ n) : SeesS w (.slice a k cap) s k (xs.take (k * s)) := by
  obtain ⟨a', cap', hv, hN, hc, hm, hl, hx⟩ := h
  cases hv
  have hks : k * s ≤ n * s := Nat.mul_le_mul_right _ hk
  refine ⟨a, cap, rfl, hN, by omega, hm, by rw [List.length_take, hl]; omega, ?_⟩
  rcases hx with hx | ⟨g, off, ha, hg, hx⟩
  · left; omega
  · exact .inr ⟨g, off, ha, hg, fun j u hj => hx j u (by rw [List.getElem?_take] at hj; split at hj <;> simp_all)⟩
theorem SeesS.form {w : World} {v : Value} {s n : Nat} {xs : List Value} (h : SeesS w v s n xs) : ∃ a cap, v = .slice a n cap ∧ n ≤ cap ∧ cap ≤ maxLen := by
  obtain ⟨a, cap, hv, _, hc, hm, _⟩ := h
  exact ⟨a, cap, hv, hc, hm⟩
theorem SeesS.at {w : World} {a : Option Addr} {s n m cap : Nat} {xs : List Value} (h : SeesS w (.slice a m cap) s n xs) (hn : 0 < n) : m = n ∧ ∃ g off, a = some ⟨g, off, none⟩ ∧ g < w.heap.size ∧ ∀ j u, xs[j]? = some u → w.cell? ⟨g, off + j, none⟩ = some u := by
  obtain ⟨a', cap', hv, _, _, _, _, hx⟩ := h
  cases hv
  rcases hx with hx | hx
  · omega
  · exact ⟨rfl, hx⟩
end Go.Proofs.YtlakglphjhoodaaDoor.Mm
