/- Plain lemmas: a []struct { int; string } that came in, as a walk wants it. -/
import Derived.Test.YtfilbjooebnbkaaSs
import Derived.Test.YtfilbjooebnbkaaLaw
import Derived.Deep.SlicePairs
import Derived.SizedLaws
namespace Go.Proofs.Ytfilbjooebnbkaa.Law
open Go.RowKit Go.WideShapes Go.ChangeShapes Go.ChangeAt Mm
abbrev Ent := Int × ByteArray
def esC (l : List Ent) : List Value := l.flatMap fun e => [.int .i64 e.1, .string e.2]
theorem esC_len (l : List Ent) : (esC l).length = l.length * 2 := by
  induction l with
  | nil => rfl
  | cons x r ih => simp only [esC, List.flatMap_cons, List.length_append, List.length_cons] at ih ⊢; rw [ih]; simp; omega
theorem esC_at (l : List Ent) : ∀ j e, l[j]? = some e → (esC l)[j * 2]? = some (.int .i64 e.1) ∧ (esC l)[j * 2 + 1]? = some (.string e.2) := by
  induction l with
  | nil => intro j f h; cases h
  | cons x r ih =>
    intro j f h
    cases j with
    | zero => cases h; exact ⟨rfl, rfl⟩
    | succ j =>
      obtain ⟨h0, h1⟩ := ih j f (by simpa using h)
      refine ⟨?_, ?_⟩
      · rw [show (j + 1) * 2 = j * 2 + 2 by omega]
        exact h0
      · rw [show (j + 1) * 2 + 1 = j * 2 + 1 + 2 by omega]
        exact h1
theorem esC_of (l : List Ent) (i : Nat) (u : Value) (h : (esC l)[i]? = some u) : ∃ k e, l[k]? = some e ∧ ((i = k * 2 ∧ u = .int .i64 e.1) ∨ (i = k * 2 + 1 ∧ u = .string e.2)) := by
  have hi : i < l.length * 2 := by
    have := (List.getElem?_eq_some_iff.1 h).1
    rwa [esC_len] at this
  have hk : i / 2 < l.length := by omega
  obtain ⟨h0, h1⟩ := esC_at l (i / 2) l[i / 2] (by simp [hk])
  refine ⟨i / 2, l[i / 2], by simp [hk], ?_⟩
  have hm : i % 2 = 0 ∨ i % 2 = 1 := by omega
  rcases hm with hm | hm
  · left
    have e : i / 2 * 2 = i := by omega
    rw [e, h] at h0
    exact ⟨by omega, Option.some.inj h0⟩
  · right
    have e : i / 2 * 2 + 1 = i := by omega
    rw [e, h] at h1
    exact ⟨by omega, Option.some.inj h1⟩
section
variable {H : Type} {enc : TypeId × Value → H} {P : Program} {W : World}
theorem open_argE {base : Nat} {t e : TypeId} {f0 f1 : Field} {v : Value} {d : DataW H} {p : List MemPlace} (ht : P.underlying t = some (.slice e)) (he : P.underlying e = some (.struct #[f0, f1]))
    (ce : P.cellsOf e = 2) (o0 : f0.offset = 0) (o1 : f1.offset = 1) (c0 : P.cellsOf f0.type = 1) (c1 : P.cellsOf f1.type = 1) (u0 : P.underlying f0.type = some (.int .i64)) (u1 : P.underlying f1.type = some .string)
    (hval : Value.okWide P W .any base t v) (h : DataW.Trod enc P W 0 (fun _ => true) true t v d p) :
    ∃ l : List Ent, SeesS W v 2 l.length (esC l) ∧ (∀ x ∈ l, x.2.size ≤ maxLen ∧ (Lit.int .i64 x.1).wf = true) ∧ ((d = .nil ∧ l = []) ∨ ∃ es spare, d = .slice es spare ∧ es.length = l.length) := by
  obtain ⟨a1, len, cap, rfl⟩ := okWide_slice ht hval
  obtain ⟨fuel, hf⟩ := h
  rcases Go.Deep.open_slice_pairs ht he ce o0 o1 c0 c1 hf with ⟨hcs, hx⟩ | ⟨a, len', cap', m, n, V0, V1, D0, D1, P0, P1, hcs, _, hl, hm, hmm, hx, hq⟩
  · simp [Value.cells] at hcs
    obtain ⟨rfl, rfl, rfl⟩ := hcs
    simp at hx
    exact ⟨[], ⟨none, 0, rfl, fun _ => rfl, Nat.le_refl _, Nat.zero_le _, rfl, .inl rfl⟩, by simp, .inl ⟨hx.1, rfl⟩⟩
  · simp [Value.cells] at hcs
    obtain ⟨rfl, rfl, rfl⟩ := hcs
    simp only [Prod.mk.injEq] at hx
    simp only [if_true] at hmm
    subst hmm
    have each : ∀ i, i < len → ∃ q : Ent, W.cell? (a.add (i * 2)) = some (.int .i64 q.1) ∧ W.cell? (a.add (i * 2 + 1)) = some (.string q.2) ∧ q.2.size ≤ maxLen ∧ (Lit.int .i64 q.1).wf = true := by
      intro i hi
      obtain ⟨g0, g1, t0, t1⟩ := hq i (by omega)
      obtain ⟨z, e0, _, hz⟩ := DataW.trod_int u0 t0
      obtain ⟨s, e1, _, hs⟩ := DataW.trod_string u1 t1
      simp only [List.cons.injEq, and_true] at e0 e1
      exact ⟨(z, s), e0 ▸ g0, e1 ▸ g1, hs, hz⟩
    have hI : Inhabited Ent := ⟨(0, ByteArray.empty)⟩
    obtain ⟨F, hF⟩ := Go.Deep.choose_lt each
    obtain ⟨b, off, spot⟩ := a
    have hlen : ((List.range len).map F).length = len := by simp
    refine ⟨(List.range len).map F, ⟨some ⟨b, off, spot⟩, _, by rw [hlen], (fun h => by cases h), by rw [hlen]; exact hl, hm, esC_len _, ?_⟩, fun f hf => ?_, .inr ⟨_, _, hx.1, by simp⟩⟩
    · by_cases h0 : len = 0
      · left; subst h0; simp
      · right
        have hspot : spot = none := by simpa [Addr.add] using World.cell?_spot (hF 0 (by omega)).1
        subst hspot
        refine ⟨b, off, rfl, World.block_lt_of_cell? W _ (hF 0 (by omega)).1, fun i u hi => ?_⟩
        obtain ⟨j, f, hj, hc⟩ := esC_of _ i u hi
        have hjl : j < len := by
          have := (List.getElem?_eq_some_iff.1 hj).1
          simpa using this
        obtain ⟨g0, g1, _, _⟩ := hF j hjl
        have hf : F j = f := by simpa [List.getElem?_eq_getElem, hjl] using hj
        rw [add_plain] at g0 g1
        rw [← hf] at hc
        rcases hc with ⟨rfl, rfl⟩ | ⟨rfl, rfl⟩
        · exact g0
        · exact g1
    · obtain ⟨i, hi, rfl⟩ := List.mem_map.1 hf
      exact (hF i (by simpa using hi)).2.2
end
end Go.Proofs.Ytfilbjooebnbkaa.Law
