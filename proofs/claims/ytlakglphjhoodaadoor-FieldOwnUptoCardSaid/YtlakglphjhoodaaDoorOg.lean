/- FieldOwn: a []struct of four numbers and a text that came in. -/
import Derived.Test.YtlakglphjhoodaaDoorOf
import Derived.Deep.SlicePairs
import Derived.SizedLaws
namespace Go.Proofs.YtlakglphjhoodaaDoor.Fl
open Go.RowKit Go.WideShapes Go.ChangeShapes Go.ChangeAt Mm Law
set_option linter.unusedVariables false
set_option linter.unusedSimpArgs false
set_option linter.unusedSectionVars false
theorem stepC_len (L : List StepV) : (stepC L).length = L.length * 5 := by
  induction L with
  | nil => rfl
  | cons x r ih => unfold stepC at ih ⊢; rw [List.flatMap_cons, List.length_append, ih, List.length_cons]; simp; omega
theorem stepC_of (L : List StepV) (i : Nat) (u : Value) (h : (stepC L)[i]? = some u) : ∃ k o, L[k]? = some o ∧ ((i = k * 5 ∧ u = .int .i64 o.kd) ∨ (i = k * 5 + 1 ∧ u = .int .i64 o.a) ∨ (i = k * 5 + 2 ∧ u = .int .i64 o.b) ∨ (i = k * 5 + 3 ∧ u = .int .i64 o.c) ∨ (i = k * 5 + 4 ∧ u = .string o.s)) := by
  have hi : i < L.length * 5 := by
    have := (List.getElem?_eq_some_iff.1 h).1
    rwa [stepC_len] at this
  have hk : i / 5 < L.length := by omega
  obtain ⟨h0, h1, h2, h3, h4⟩ := stepC_at L (i / 5) L[i / 5] (List.getElem?_eq_getElem hk)
  refine ⟨i / 5, L[i / 5], List.getElem?_eq_getElem hk, ?_⟩
  have hm : i % 5 = 0 ∨ i % 5 = 1 ∨ i % 5 = 2 ∨ i % 5 = 3 ∨ i % 5 = 4 := by omega
  rcases hm with hm | hm | hm | hm | hm
  · have e : i / 5 * 5 = i := by omega
    rw [e, h] at h0
    exact .inl ⟨by omega, Option.some.inj h0⟩
  · have e : i / 5 * 5 + 1 = i := by omega
    rw [e, h] at h1
    exact .inr (.inl ⟨by omega, Option.some.inj h1⟩)
  · have e : i / 5 * 5 + 2 = i := by omega
    rw [e, h] at h2
    exact .inr (.inr (.inl ⟨by omega, Option.some.inj h2⟩))
  · have e : i / 5 * 5 + 3 = i := by omega
    rw [e, h] at h3
    exact .inr (.inr (.inr (.inl ⟨by omega, Option.some.inj h3⟩)))
  · have e : i / 5 * 5 + 4 = i := by omega
    rw [e, h] at h4
    exact .inr (.inr (.inr (.inr ⟨by omega, Option.some.inj h4⟩)))
section
variable {H : Type} {enc : TypeId × Value → H} {P : Program} {W : World}
theorem open_argK {base : Nat} {t e : TypeId} {f0 f1 f2 f3 f4 : Field} {v : Value} {d : DataW H} {p : List MemPlace} (ht : P.underlying t = some (.slice e)) (he : P.underlying e = some (.struct #[f0, f1, f2, f3, f4]))
    (ce : P.cellsOf e = 5) (o0 : f0.offset = 0) (o1 : f1.offset = 1) (o2 : f2.offset = 2) (o3 : f3.offset = 3) (o4 : f4.offset = 4) (c0 : P.cellsOf f0.type = 1) (c1 : P.cellsOf f1.type = 1) (c2 : P.cellsOf f2.type = 1) (c3 : P.cellsOf f3.type = 1) (c4 : P.cellsOf f4.type = 1)
    (u0 : P.underlying f0.type = some (.int .i64)) (u1 : P.underlying f1.type = some (.int .i64)) (u2 : P.underlying f2.type = some (.int .i64)) (u3 : P.underlying f3.type = some (.int .i64)) (u4 : P.underlying f4.type = some .string)
    (hval : Value.okWide P W .any base t v) (h : DataW.Trod enc P W 0 (fun _ => true) true t v d p) :
    ∃ L : List StepV, SeesS W v 5 L.length (stepC L) ∧ ∀ o ∈ L, o.wf := by
  obtain ⟨a1, len, cap, rfl⟩ := okWide_slice ht hval
  obtain ⟨fuel, hf⟩ := h
  rcases Go.Deep.open_slice ht hf with ⟨hcs, hx⟩ | ⟨a, len', cap', m, n, D, Pl, hcs, _, hl, hm, hmm, _, hq⟩
  · simp [Value.cells] at hcs
    obtain ⟨rfl, rfl, rfl⟩ := hcs
    exact ⟨[], ⟨none, 0, rfl, fun _ => rfl, Nat.le_refl _, Nat.zero_le _, rfl, .inl rfl⟩, by simp⟩
  · simp [Value.cells] at hcs
    obtain ⟨rfl, rfl, rfl⟩ := hcs
    simp only [if_true] at hmm
    subst hmm
    have each : ∀ i, i < len → ∃ q : StepV, W.cell? (a.add (i * 5)) = some (.int .i64 q.kd) ∧ W.cell? (a.add (i * 5 + 1)) = some (.int .i64 q.a) ∧ W.cell? (a.add (i * 5 + 2)) = some (.int .i64 q.b) ∧ W.cell? (a.add (i * 5 + 3)) = some (.int .i64 q.c) ∧ W.cell? (a.add (i * 5 + 4)) = some (.string q.s) ∧ q.wf := by
      intro i hi
      obtain ⟨cs', h1, h2⟩ := hq i (by omega)
      rw [ce] at h1
      obtain ⟨_, hlen, hcell⟩ := World.cells?_some h1
      obtain ⟨xs, k, hk, hxy, _, hxl, hg⟩ := DataW.trod_struct he h2
      match xs, hxl, cs', hlen with
      | [y0, y1, y2, y3, y4], _, [v0, v1, v2, v3, v4], _ =>
        have g0 := hg 0 f0 rfl
        have g1 := hg 1 f1 rfl
        have g2 := hg 2 f2 rfl
        have g3 := hg 3 f3 rfl
        have g4 := hg 4 f4 rfl
        simp [o0, o1, o2, o3, o4, c0, c1, c2, c3, c4] at g0 g1 g2 g3 g4
        have k0 := hcell 0 (by omega)
        have k1 := hcell 1 (by omega)
        have k2 := hcell 2 (by omega)
        have k3 := hcell 3 (by omega)
        have k4 := hcell 4 (by omega)
        rw [Go.Deep.add_add] at k0 k1 k2 k3 k4
        obtain ⟨z0, e0, _, w0⟩ := DataW.trod_int u0 g0
        obtain ⟨z1, e1, _, w1⟩ := DataW.trod_int u1 g1
        obtain ⟨z2, e2, _, w2⟩ := DataW.trod_int u2 g2
        obtain ⟨z3, e3, _, w3⟩ := DataW.trod_int u3 g3
        obtain ⟨s4, e4, _, w4⟩ := DataW.trod_string u4 g4
        simp only [List.cons.injEq, and_true] at e0 e1 e2 e3 e4
        subst e0 e1 e2 e3 e4
        exact ⟨⟨z0, z1, z2, z3, s4⟩, by simpa using k0, by simpa using k1, by simpa using k2, by simpa using k3, by simpa using k4, w0, w1, w2, w3, w4⟩
    have hI : Inhabited StepV := ⟨⟨0, 0, 0, 0, ByteArray.empty⟩⟩
    obtain ⟨F, hF⟩ := Go.Deep.choose_lt each
    obtain ⟨b, off, spot⟩ := a
    have hlen : ((List.range len).map F).length = len := by simp
    refine ⟨(List.range len).map F, ⟨some ⟨b, off, spot⟩, _, by rw [hlen], (fun h => by cases h), by rw [hlen]; exact hl, hm, stepC_len _, ?_⟩, fun o ho => ?_⟩
    · by_cases h0 : len = 0
      · left; subst h0; simp
      · right
        have hspot : spot = none := by simpa [Addr.add] using World.cell?_spot (hF 0 (by omega)).1
        subst hspot
        refine ⟨b, off, rfl, World.block_lt_of_cell? W _ (hF 0 (by omega)).1, fun i u hi => ?_⟩
        obtain ⟨j, o, hj, hc⟩ := stepC_of _ i u hi
        have hjl : j < len := by
          have := (List.getElem?_eq_some_iff.1 hj).1
          simpa using this
        obtain ⟨g0, g1, g2, g3, g4, _⟩ := hF j hjl
        have hf : F j = o := by simpa [List.getElem?_eq_getElem, hjl] using hj
        rw [add_plain] at g0 g1 g2 g3 g4
        rw [← hf] at hc
        rcases hc with ⟨rfl, rfl⟩ | ⟨rfl, rfl⟩ | ⟨rfl, rfl⟩ | ⟨rfl, rfl⟩ | ⟨rfl, rfl⟩
        · exact g0
        · exact g1
        · exact g2
        · exact g3
        · exact g4
    · obtain ⟨i, hi, rfl⟩ := List.mem_map.1 ho
      exact (hF i (by simpa using hi)).2.2.2.2.2
end
theorem own_walk2 (v : Value) (ws : List Int) (_ : ws.length * 8 ≤ 140737488355328) (u : Value) (L : List StepV) (w : World) (hX : SeesS w v 1 ws.length (inC ws) ∧ ∀ z ∈ ws, (Lit.int .i64 z).wf = true) (hS : SeesS w u 5 L.length (stepC L) ∧ ∀ o ∈ L, o.wf) (hu : Used w) :
    Calls Tryd.prog 3 #[v, u] w fun e w' => e = .returned (.bool true) ∧ Below w.heap.size w w' := own_walk v ws u L w hX hS hu
set_option maxRecDepth 100000 in
theorem fieldOwn_laid {w : World} (h : laidMetH Tryd.prog Rows.fieldOwnUptoRow.laid w) : Used w := by
  rw [MakeChecks.laidMetH_plain _ _ _ (by kernel_rfl)] at h
  exact used_of h.tail
end Go.Proofs.YtlakglphjhoodaaDoor.Fl
