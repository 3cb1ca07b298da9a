/- Plain lemmas: a []string that came in, as a slice that reads as a list (nil has no capacity), and its bound by size. -/
import Derived.Test.YtlbkacabcfeaiaaMm
import Derived.Test.YtlbkacabcfeaiaaLaw
import Derived.SliceStrings
import Derived.SizedLaws
import Derived.Deep.Slices
namespace Go.Proofs.Ytlbkacabcfeaiaa.Mm
def sC (l : List ByteArray) : List Value := l.map Value.string
theorem sC_len (l : List ByteArray) : (sC l).length = l.length := by simp [sC]
theorem sC_at {l : List ByteArray} {k : Nat} {s : ByteArray} (h : l[k]? = some s) : (sC l)[k]? = some (.string s) := by simp [sC, h]
end Go.Proofs.Ytlbkacabcfeaiaa.Mm
namespace Go.Proofs.Ytlbkacabcfeaiaa.Law
open Go.RowKit Go.WideShapes Go.ChangeShapes Go.ChangeAt Mm
section
variable {H : Type} {enc : TypeId × Value → H} {P : Program} {W : World}
theorem open_argZ {base : Nat} {t e : TypeId} {v : Value} {d : DataW H} {p : List MemPlace} (ht : P.underlying t = some (.slice e)) (he : P.underlying e = some .string) (hc : P.cellsOf e = 1)
    (hval : Value.okWide P W .any base t v) (h : DataW.Trod enc P W 0 (fun _ => true) true t v d p) :
    ∃ l : List ByteArray, Sees W v (sC l) ∧ (∀ s ∈ l, s.size ≤ maxLen) ∧ ((d = .nil ∧ l = []) ∨ ∃ spare, d = .slice (strs l) spare) := by
  obtain ⟨a1, len, cap, rfl⟩ := okWide_slice ht hval
  obtain ⟨fuel, hf⟩ := h
  rcases open_strings ht he hc hf with ⟨hcs, hx⟩ | ⟨a, len', cap', ss, hcs, _, hl, hm, hz, hx, hcell, hsz⟩
  · simp [Value.cells] at hcs
    obtain ⟨rfl, rfl, rfl⟩ := hcs
    simp at hx
    exact ⟨[], ⟨none, 0, rfl, fun _ => rfl, Nat.le_refl _, Nat.zero_le _, .inl rfl⟩, by simp, .inl ⟨hx.1, rfl⟩⟩
  · simp [Value.cells] at hcs
    obtain ⟨rfl, rfl, rfl⟩ := hcs
    simp at hx
    simp only [if_true] at hz
    obtain ⟨b, off, spot⟩ := a
    have hlen : (ss.take len).length = len := by simp; omega
    have hlb : (sC (ss.take len)).length = len := by rw [sC_len, hlen]
    refine ⟨ss.take len, ⟨some ⟨b, off, spot⟩, cap, by rw [hlb], (fun h => by cases h), by rw [hlb]; omega, hm, ?_⟩, fun X hX => hsz X (List.mem_of_mem_take hX), .inr ⟨_, hx.1⟩⟩
    by_cases h0 : len = 0
    · left
      exact List.eq_nil_of_length_eq_zero (by omega)
    · right
      have hspot : spot = none := by simpa [Addr.add] using World.cell?_spot (hcell 0 (by omega))
      subst hspot
      refine ⟨b, off, rfl, World.block_lt_of_cell? W _ (hcell 0 (by omega)), fun j u hj => ?_⟩
      have hjl : j < len := by
        have := (List.getElem?_eq_some_iff.1 hj).1
        omega
      have hc1 := hcell j (by omega)
      rw [add_plain] at hc1
      rw [hc1]
      have hjz : j < ss.length := by omega
      simp only [sC, List.getElem?_map, List.getElem?_take_of_lt hjl, List.getElem?_eq_getElem hjz, Option.map_some, Option.some.injEq] at hj
      rw [← hj]
      simp only [List.getD, List.getElem?_eq_getElem hjz, Option.getD_some]
theorem weightsAll_in {e : TypeId} : ∀ {l : List (DataW H)} {d : DataW H}, d ∈ l → ∀ n ∈ d.weights P e, n ∈ DataW.weightsAll P e l
  | x :: r, d, hd, n, hn => by
    simp only [DataW.weightsAll, List.mem_append]
    rcases List.mem_cons.1 hd with rfl | h
    · exact Or.inl hn
    · exact Or.inr (weightsAll_in h n hn)
theorem sizes_argZ {ts : List TypeId} {ds : List (DataW H)} {j : Nat} {t e : TypeId} {d : DataW H} {l : List ByteArray} (h : (DataW.weightsEach P ts ds).all (· ≤ reachBytes) = true) (ht : ts[j]? = some t) (hd : ds[j]? = some d) (hu : P.underlying t = some (.slice e)) (_ : P.underlying e = some .string) (_ : P.cellsOf e = 1)
    (hD : (d = .nil ∧ l = []) ∨ ∃ spare, d = .slice (strs l) spare) : ∀ s ∈ l, s.size ≤ 140737488355328 := by
  rcases hD with ⟨_, rfl⟩ | ⟨spare, rfl⟩
  · simp
  · intro s hs
    have hm : (DataW.lit (.string s.data.toList) : DataW H) ∈ strs l := by simp only [strs, List.mem_map]; exact ⟨s, hs, rfl⟩
    have hw := weightsAll_in (P := P) (e := e) hm s.data.toList.length (by simp [DataW.weights])
    have := List.all_eq_true.1 h _ (DataW.weights_mem_each ht hd s.data.toList.length (by simp only [DataW.weights, hu]; exact List.mem_cons_of_mem _ (List.mem_append_left _ hw)))
    have h2 := reachBytes_lt
    rw [len_s] at this
    have h3 : s.size ≤ reachBytes := by simpa using this
    omega
end
end Go.Proofs.Ytlbkacabcfeaiaa.Law
