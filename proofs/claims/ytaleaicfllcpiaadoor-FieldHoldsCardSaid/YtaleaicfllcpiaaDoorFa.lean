/- Plain lemmas: a []struct { string; int } that came in, as a walk wants it. -/
import Derived.Test.YtaleaicfllcpiaaDoorMm
import Derived.Test.YtaleaicfllcpiaaDoorLaw
import Derived.Deep.SlicePairs
import Derived.SizedLaws
namespace Go.Proofs.YtaleaicfllcpiaaDoor.Law
open Go.RowKit Go.WideShapes Go.ChangeShapes Go.ChangeAt Mm
set_option linter.unusedVariables false
set_option linter.unusedSimpArgs false
set_option linter.unusedSectionVars false
abbrev Fld := ByteArray × Int
def SeesF (w : World) (v : Value) (l : List Fld) : Prop :=
  ∃ a cap, v = .slice a l.length cap ∧ l.length ≤ cap ∧ cap ≤ maxLen ∧ (l = [] ∨ ∃ b off, a = some ⟨b, off, none⟩ ∧ b < w.heap.size ∧
    ∀ j f, l[j]? = some f → w.cell? ⟨b, off + j * 2, none⟩ = some (.string f.1) ∧ w.cell? ⟨b, off + (j * 2 + 1), none⟩ = some (.int .i64 f.2)) ∧
    (∀ f ∈ l, f.1.size ≤ maxLen ∧ (Lit.int .i64 f.2).wf = true)
theorem SeesF.below {w w' : World} {v : Value} {l : List Fld} (h : SeesF w v l) (hb : Below w.heap.size w w') : SeesF w' v l := by
  obtain ⟨a, cap, hv, hc, hm, hx, hw⟩ := h
  refine ⟨a, cap, hv, hc, hm, ?_, hw⟩
  rcases hx with hx | ⟨b, off, ha, hlt, hx⟩
  · exact .inl hx
  · refine .inr ⟨b, off, ha, Nat.lt_of_lt_of_le hlt hb.size, fun j f hj => ?_⟩
    obtain ⟨h0, h1⟩ := hx j f hj
    exact ⟨(hb.cell (p := ⟨b, off + j * 2, none⟩) hlt).trans h0, (hb.cell (p := ⟨b, off + (j * 2 + 1), none⟩) hlt).trans h1⟩
theorem SeesF.take {w : World} {a : Option Addr} {cap : Nat} {l : List Fld} (h : SeesF w (.slice a l.length cap) l) (k : Nat) (hk : k ≤ l.length) : SeesF w (.slice a k cap) (l.take k) := by
  obtain ⟨a', cap', hv, hc, hm, hx, hw⟩ := h
  cases hv
  have hl : (l.take k).length = k := by simp; omega
  refine ⟨a, cap, by rw [hl], by omega, hm, ?_, fun f hf => hw f (List.mem_of_mem_take hf)⟩
  rcases hx with hx | ⟨b, off, ha, hlt, hx⟩
  · left; rw [hx]; simp
  · right
    refine ⟨b, off, ha, hlt, fun j f hj => hx j f ?_⟩
    have hjk : j < k := by have := (List.getElem?_eq_some_iff.1 hj).1; omega
    rwa [List.getElem?_take_of_lt hjk] at hj
section
variable {H : Type} {enc : TypeId × Value → H} {P : Program} {W : World}
theorem open_argF {base : Nat} {t e : TypeId} {f0 f1 : Field} {v : Value} {d : DataW H} {p : List MemPlace} (ht : P.underlying t = some (.slice e)) (he : P.underlying e = some (.struct #[f0, f1]))
    (ce : P.cellsOf e = 2) (o0 : f0.offset = 0) (o1 : f1.offset = 1) (c0 : P.cellsOf f0.type = 1) (c1 : P.cellsOf f1.type = 1) (u0 : P.underlying f0.type = some .string) (u1 : P.underlying f1.type = some (.int .i64))
    (hval : Value.okWide P W .any base t v) (h : DataW.Trod enc P W 0 (fun _ => true) true t v d p) :
    ∃ l : List Fld, SeesF W v l ∧ ((d = .nil ∧ l = []) ∨ ∃ es spare, d = .slice es spare ∧ es.length = l.length) := by
  obtain ⟨a1, len, cap, rfl⟩ := okWide_slice ht hval
  obtain ⟨fuel, hf⟩ := h
  rcases Go.Deep.open_slice_pairs ht he ce o0 o1 c0 c1 hf with ⟨hcs, hx⟩ | ⟨a, len', cap', m, n, V0, V1, D0, D1, P0, P1, hcs, _, hl, hm, hmm, hx, hq⟩
  · simp [Value.cells] at hcs
    obtain ⟨rfl, rfl, rfl⟩ := hcs
    simp at hx
    exact ⟨[], ⟨none, 0, rfl, Nat.le_refl _, Nat.zero_le _, .inl rfl, by simp⟩, .inl ⟨hx.1, rfl⟩⟩
  · simp [Value.cells] at hcs
    obtain ⟨rfl, rfl, rfl⟩ := hcs
    simp only [Prod.mk.injEq] at hx
    simp only [if_true] at hmm
    subst hmm
    have each : ∀ i, i < len → ∃ q : Fld, W.cell? (a.add (i * 2)) = some (.string q.1) ∧ W.cell? (a.add (i * 2 + 1)) = some (.int .i64 q.2) ∧ q.1.size ≤ maxLen ∧ (Lit.int .i64 q.2).wf = true := by
      intro i hi
      obtain ⟨g0, g1, t0, t1⟩ := hq i (by omega)
      obtain ⟨s, e0, _, hs⟩ := DataW.trod_string u0 t0
      obtain ⟨z, e1, _, hz⟩ := DataW.trod_int u1 t1
      simp only [List.cons.injEq, and_true] at e0 e1
      exact ⟨(s, z), e0 ▸ g0, e1 ▸ g1, hs, hz⟩
    have hI : Inhabited Fld := ⟨(ByteArray.empty, 0)⟩
    obtain ⟨F, hF⟩ := Go.Deep.choose_lt each
    obtain ⟨b, off, spot⟩ := a
    have hlen : ((List.range len).map F).length = len := by simp
    refine ⟨(List.range len).map F, ⟨some ⟨b, off, spot⟩, _, by rw [hlen], by rw [hlen]; exact hl, hm, ?_, fun f hf => ?_⟩, .inr ⟨_, _, hx.1, by simp⟩⟩
    · by_cases h0 : len = 0
      · left; subst h0; simp
      · right
        have hspot : spot = none := by simpa [Addr.add] using World.cell?_spot (hF 0 (by omega)).1
        subst hspot
        refine ⟨b, off, rfl, World.block_lt_of_cell? W _ (hF 0 (by omega)).1, fun j f hj => ?_⟩
        have hjl : j < len := by
          have := (List.getElem?_eq_some_iff.1 hj).1
          simpa using this
        obtain ⟨g0, g1, _, _⟩ := hF j hjl
        have hf : F j = f := by simpa [List.getElem?_eq_getElem, hjl] using hj
        rw [add_plain] at g0 g1
        rw [← hf]
        exact ⟨g0, g1⟩
    · obtain ⟨i, hi, rfl⟩ := List.mem_map.1 hf
      exact (hF i (by simpa using hi)).2.2
end
end Go.Proofs.YtaleaicfllcpiaaDoor.Law
