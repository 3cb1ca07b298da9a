/- Plain lemmas: a []string that came in, as a walk wants it; what the bulk's bound gives. -/
import Derived.Test.YtoglcocplpdlhaaRows
import Derived.Test.YtoglcocplpdlhaaLaw
import Derived.SliceStrings
import Derived.SizedLaws
import Derived.Deep.Slices
namespace Go.Proofs.Ytoglcocplpdlhaa.Law
open Go.RowKit Go.WideShapes Go.ChangeShapes Go.ChangeAt
def ArgS (W : World) (v : Value) (Xs : List ByteArray) : Prop :=
  ∃ a cap, v = .slice a Xs.length cap ∧ Xs.length ≤ cap ∧ cap ≤ maxLen ∧
    (Xs = [] ∨ ∃ b off, a = some ⟨b, off, none⟩ ∧ b < W.heap.size ∧ ∀ j X, Xs[j]? = some X → W.cell? ⟨b, off + j, none⟩ = some (.string X)) ∧ ∀ X ∈ Xs, X.size ≤ maxLen
section
variable {H : Type} {enc : TypeId × Value → H} {P : Program} {W : World}
theorem open_argS {base : Nat} {t e : TypeId} {v : Value} {d : DataW H} {p : List MemPlace} (ht : P.underlying t = some (.slice e)) (he : P.underlying e = some .string) (hc : P.cellsOf e = 1)
    (hval : Value.okWide P W .any base t v) (h : DataW.Trod enc P W 0 (fun _ => true) true t v d p) :
    ∃ Xs, ArgS W v Xs ∧ ((d = .nil ∧ Xs = []) ∨ ∃ spare, d = .slice (strs Xs) spare) := by
  obtain ⟨a1, len, cap, rfl⟩ := okWide_slice ht hval
  obtain ⟨fuel, hf⟩ := h
  rcases open_strings ht he hc hf with ⟨hcs, hx⟩ | ⟨a, len', cap', ss, hcs, _, hl, hm, hz, hx, hcell, hsz⟩
  · simp [Value.cells] at hcs
    obtain ⟨rfl, rfl, rfl⟩ := hcs
    simp at hx
    exact ⟨[], ⟨none, 0, rfl, Nat.le_refl _, Nat.zero_le _, .inl rfl, by simp⟩, .inl ⟨hx.1, rfl⟩⟩
  · simp [Value.cells] at hcs
    obtain ⟨rfl, rfl, rfl⟩ := hcs
    simp at hx
    simp only [if_true] at hz
    obtain ⟨b, off, spot⟩ := a
    have hlen : (ss.take len).length = len := by simp; omega
    refine ⟨ss.take len, ⟨some ⟨b, off, spot⟩, cap, by rw [hlen], by rw [hlen]; omega, hm, ?_, fun X hX => hsz X (List.mem_of_mem_take hX)⟩, .inr ⟨_, hx.1⟩⟩
    by_cases h0 : len = 0
    · left; subst h0; simp
    · right
      have hspot : spot = none := by simpa [Addr.add] using World.cell?_spot (hcell 0 (by omega))
      subst hspot
      refine ⟨b, off, rfl, World.block_lt_of_cell? W _ (hcell 0 (by omega)), fun j X hX => ?_⟩
      have hj : j < len := by
        have := (List.getElem?_eq_some_iff.1 hX).1
        simp at this
        omega
      have hX' : ss.getD j ByteArray.empty = X := by
        rw [List.getElem?_take_of_lt hj] at hX
        simp [List.getD, hX]
      rw [← add_plain, ← hX']
      exact hcell j (by omega)
end
theorem bulk_one {H : Type} (d : DataW H) : 1 ≤ Rows.uptoBulk d := by
  cases d with
  | lit l => cases l <;> simp [Rows.uptoBulk]
  | nil => simp [Rows.uptoBulk]
  | ptr d => simp [Rows.uptoBulk]
  | slice elems spare => simp [Rows.uptoBulk]
  | agg parts => simp [Rows.uptoBulk]
  | iface t d => simp [Rows.uptoBulk]
  | map entries => simp [Rows.uptoBulk]
  | held h => simp [Rows.uptoBulk]
theorem bulk_part {H : Type} {d : DataW H} {l : List (DataW H)} (h : d ∈ l) : Rows.uptoBulk d ≤ Rows.uptoBulkAll l := by
  induction l with
  | nil => cases h
  | cons x r ih =>
    simp only [Rows.uptoBulkAll]
    cases List.mem_cons.1 h with
    | inl e => subst e; omega
    | inr e => have := ih e; omega
theorem bulk_len {H : Type} (l : List (DataW H)) : l.length ≤ Rows.uptoBulkAll l := by
  induction l with
  | nil => simp [Rows.uptoBulkAll]
  | cons x r ih => have := bulk_one x; simp only [Rows.uptoBulkAll, List.length_cons]; omega
theorem bulk_bound {H : Type} {l : List (DataW H)} (hk : Rows.uptoSmall H l = true) : Rows.uptoBulkAll l ≤ 1048576 := of_decide_eq_true hk
theorem small_strs {H : Type} {l : List (DataW H)} (hk : Rows.uptoSmall H l = true) {d : DataW H} {Xs : List ByteArray} (hd : (d = .nil ∧ Xs = []) ∨ ∃ spare, d = .slice (strs Xs) spare) (hm : d ∈ l) : Xs.length ≤ 1048576 ∧ ∀ X ∈ Xs, X.size ≤ 1048576 := by
  have h1 := bulk_bound hk
  have h2 := bulk_part hm
  rcases hd with ⟨_, rfl⟩ | ⟨spare, rfl⟩
  · simp
  · have h3 : Rows.uptoBulkAll (strs (H := H) Xs) ≤ 1048576 := by simp only [Rows.uptoBulk] at h2; omega
    have h4 := bulk_len (strs (H := H) Xs)
    have h5 : (strs (H := H) Xs).length = Xs.length := by simp [strs]
    refine ⟨by omega, fun X hX => ?_⟩
    have h5 := bulk_part (H := H) (d := .lit (.string X.data.toList)) (l := strs Xs) (by simp only [strs, List.mem_map]; exact ⟨X, hX, rfl⟩)
    simp only [Rows.uptoBulk] at h5
    have e : X.data.toList.length = X.size := by rw [Array.length_toList]; rfl
    omega
end Go.Proofs.Ytoglcocplpdlhaa.Law
