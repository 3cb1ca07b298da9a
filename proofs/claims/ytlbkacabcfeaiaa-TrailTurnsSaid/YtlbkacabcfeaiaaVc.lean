/- Arguments: a list of lists of texts, a list of pairs of numbers, that came in. -/
import Derived.Test.YtlbkacabcfeaiaaAs
import Derived.Test.YtlbkacabcfeaiaaSs
import Derived.Deep.Slices
import Derived.Deep.SlicePairs
namespace Go.Proofs.Ytlbkacabcfeaiaa.Law
open Go.RowKit Go.WideShapes Go.ChangeShapes Go.ChangeAt Mm
set_option linter.unusedVariables false
/-- a list among lists: its value, its texts -/
structure LV where
  v : Value
  l : List ByteArray
def lvC (L : List LV) : List Value := L.map (·.v)
theorem lvC_len (L : List LV) : (lvC L).length = L.length := by simp [lvC]
theorem lvC_at {L : List LV} {k : Nat} {o : LV} (h : L[k]? = some o) : (lvC L)[k]? = some o.v := by simp [lvC, h]
def twC (L : List (Int × Int)) : List Value := L.flatMap fun o => [.int .i64 o.1, .int .i64 o.2]
theorem twC_cons (d : Int × Int) (N : List (Int × Int)) : twC (d :: N) = .int .i64 d.1 :: .int .i64 d.2 :: twC N := rfl
theorem twC_len (L : List (Int × Int)) : (twC L).length = L.length * 2 := by
  induction L with
  | nil => rfl
  | cons d N ih => rw [twC_cons, List.length_cons, List.length_cons, ih, List.length_cons]; omega
theorem twC_at {N : List (Int × Int)} {i : Nat} {d : Int × Int} (h : N[i]? = some d) : (twC N)[i * 2]? = some (.int .i64 d.1) ∧ (twC N)[i * 2 + 1]? = some (.int .i64 d.2) := by
  induction N generalizing i with
  | nil => simp at h
  | cons e N ih =>
    cases i with
    | zero =>
      have h2 : e = d := by simpa using h
      subst h2
      exact ⟨rfl, rfl⟩
    | succ i =>
      have h2 := ih (i := i) (by simpa using h)
      rw [twC_cons, show (i + 1) * 2 = i * 2 + 1 + 1 by omega]
      exact h2
theorem twC_of (L : List (Int × Int)) (i : Nat) (u : Value) (h : (twC L)[i]? = some u) : ∃ k o, L[k]? = some o ∧ ((i = k * 2 ∧ u = .int .i64 o.1) ∨ (i = k * 2 + 1 ∧ u = .int .i64 o.2)) := by
  have hi : i < L.length * 2 := by
    have := (List.getElem?_eq_some_iff.1 h).1
    rwa [twC_len] at this
  have hk : i / 2 < L.length := by omega
  obtain ⟨h0, h1⟩ := twC_at (List.getElem?_eq_getElem hk)
  refine ⟨i / 2, L[i / 2], List.getElem?_eq_getElem hk, ?_⟩
  have hm : i % 2 = 0 ∨ i % 2 = 1 := by omega
  rcases hm with hm | hm
  · have e : i / 2 * 2 = i := by omega
    rw [e, h] at h0
    exact .inl ⟨by omega, Option.some.inj h0⟩
  · have e : i / 2 * 2 + 1 = i := by omega
    rw [e, h] at h1
    exact .inr ⟨by omega, Option.some.inj h1⟩
section
variable {H : Type} {enc : TypeId × Value → H} {P : Program} {W : World}
/-- a row of texts out of its cells -/
theorem open_strsC {t e : TypeId} {fuel : Nat} {cs : List Value} {x : DataW H × List MemPlace} (ht : P.underlying t = some (.slice e)) (he : P.underlying e = some .string) (hc : P.cellsOf e = 1)
    (h : DataW.trod enc P W 0 (fun _ => true) true fuel t cs = some x) : ∃ o : LV, cs = [o.v] ∧ Sees W o.v (sC o.l) ∧ ∀ s ∈ o.l, s.size ≤ maxLen := by
  rcases open_strings ht he hc h with ⟨hcs, hx⟩ | ⟨a, len, cap, ss, hcs, _, hl, hm, hz, hx, hcell, hsz⟩
  · exact ⟨⟨_, []⟩, hcs, ⟨none, 0, rfl, fun _ => rfl, Nat.le_refl _, Nat.zero_le _, .inl rfl⟩, by simp⟩
  · simp only [if_true] at hz
    obtain ⟨b, off, spot⟩ := a
    have hlen : (ss.take len).length = len := by simp; omega
    have hlb : (sC (ss.take len)).length = len := by rw [sC_len, hlen]
    refine ⟨⟨_, ss.take len⟩, hcs, ?_, fun X hX => hsz X (List.mem_of_mem_take hX)⟩
    show Sees W (.slice (some ⟨b, off, spot⟩) len cap) (sC (ss.take len))
    refine ⟨some ⟨b, off, spot⟩, cap, by rw [hlb], (fun h => by cases h), by rw [hlb]; omega, hm, ?_⟩
    by_cases h0 : len = 0
    · left
      exact List.eq_nil_of_length_eq_zero (by omega)
    · right
      have hspot : spot = none := by simpa [Addr.add] using World.cell?_spot (hcell 0 (by omega))
      subst hspot
      refine ⟨b, off, rfl, World.block_lt_of_cell? W _ (hcell 0 (by omega)), fun j u hj => ?_⟩
      have hjl : j < len := by
        have := (List.getElem?_eq_some_iff.1 hj).1
        omega
      have hc1 := hcell j (by omega)
      rw [add_plain] at hc1
      rw [hc1]
      have hjz : j < ss.length := by omega
      simp only [sC, List.getElem?_map, List.getElem?_take_of_lt hjl, List.getElem?_eq_getElem hjz, Option.map_some, Option.some.injEq] at hj
      rw [← hj]
      simp only [List.getD, List.getElem?_eq_getElem hjz, Option.getD_some]
theorem open_argLL {base : Nat} {t s e : TypeId} {v : Value} {d : DataW H} {p : List MemPlace} (ht : P.underlying t = some (.slice s)) (hs : P.underlying s = some (.slice e)) (he : P.underlying e = some .string) (hc : P.cellsOf e = 1) (hcs1 : P.cellsOf s = 1)
    (hval : Value.okWide P W .any base t v) (h : DataW.Trod enc P W 0 (fun _ => true) true t v d p) :
    ∃ L : List LV, SeesS W v 1 L.length (lvC L) ∧ ∀ o ∈ L, Sees W o.v (sC o.l) ∧ ∀ s ∈ o.l, s.size ≤ maxLen := by
  obtain ⟨a1, len, cap, rfl⟩ := okWide_slice ht hval
  obtain ⟨fuel, hf⟩ := h
  rcases Go.Deep.open_slice ht hf with ⟨hcs, hx⟩ | ⟨a, len', cap', m, n, D, Pl, hcs, _, hl, hm, hmm, _, hq⟩
  · simp [Value.cells] at hcs
    obtain ⟨rfl, rfl, rfl⟩ := hcs
    exact ⟨[], ⟨none, 0, rfl, fun _ => rfl, Nat.le_refl _, Nat.zero_le _, rfl, .inl rfl⟩, by simp⟩
  · simp [Value.cells] at hcs
    obtain ⟨rfl, rfl, rfl⟩ := hcs
    simp only [if_true] at hmm
    subst hmm
    have each : ∀ i, i < len → ∃ q : LV, W.cell? (a.add i) = some q.v ∧ Sees W q.v (sC q.l) ∧ ∀ s ∈ q.l, s.size ≤ maxLen := by
      intro i hi
      obtain ⟨cs', h1, h2⟩ := hq i (by omega)
      rw [hcs1] at h1
      obtain ⟨_, hlen, hcell⟩ := World.cells?_some h1
      obtain ⟨q, hq1, hq2, hq3⟩ := open_strsC hs he hc h2
      subst hq1
      have k0 := hcell 0 (by omega)
      rw [Go.Deep.add_add] at k0
      exact ⟨q, by simpa using k0, hq2, hq3⟩
    have hI : Inhabited LV := ⟨⟨.slice none 0 0, []⟩⟩
    obtain ⟨F, hF⟩ := Go.Deep.choose_lt each
    obtain ⟨b, off, spot⟩ := a
    have hlen : ((List.range len).map F).length = len := by simp
    refine ⟨(List.range len).map F, ⟨some ⟨b, off, spot⟩, _, by rw [hlen], (fun h => by cases h), by rw [hlen]; exact hl, hm, by rw [lvC_len, Nat.mul_one], ?_⟩, fun o ho => ?_⟩
    · by_cases h0 : len = 0
      · left; subst h0; simp
      · right
        have hspot : spot = none := by simpa [Addr.add] using World.cell?_spot (hF 0 (by omega)).1
        subst hspot
        refine ⟨b, off, rfl, World.block_lt_of_cell? W _ (hF 0 (by omega)).1, fun i u hi => ?_⟩
        have hil : i < len := by
          have := (List.getElem?_eq_some_iff.1 hi).1
          rw [lvC_len, hlen] at this
          exact this
        have g0 := (hF i hil).1
        rw [add_plain] at g0
        rw [g0]
        have hj : ((List.range len).map F)[i]? = some (F i) := by simp [hil]
        rw [lvC_at hj] at hi
        exact hi
    · obtain ⟨i, hi, rfl⟩ := List.mem_map.1 ho
      exact (hF i (by simpa using hi)).2
theorem open_argTw {base : Nat} {t e : TypeId} {f0 f1 : Field} {v : Value} {d : DataW H} {p : List MemPlace} (ht : P.underlying t = some (.slice e)) (he : P.underlying e = some (.struct #[f0, f1]))
    (ce : P.cellsOf e = 2) (o0 : f0.offset = 0) (o1 : f1.offset = 1) (c0 : P.cellsOf f0.type = 1) (c1 : P.cellsOf f1.type = 1) (u0 : P.underlying f0.type = some (.int .i64)) (u1 : P.underlying f1.type = some (.int .i64))
    (hval : Value.okWide P W .any base t v) (h : DataW.Trod enc P W 0 (fun _ => true) true t v d p) :
    ∃ l : List (Int × Int), SeesS W v 2 l.length (twC l) ∧ ∀ x ∈ l, (Lit.int .i64 x.1).wf = true ∧ (Lit.int .i64 x.2).wf = true := by
  obtain ⟨a1, len, cap, rfl⟩ := okWide_slice ht hval
  obtain ⟨fuel, hf⟩ := h
  rcases Go.Deep.open_slice_pairs ht he ce o0 o1 c0 c1 hf with ⟨hcs, hx⟩ | ⟨a, len', cap', m, n, V0, V1, D0, D1, P0, P1, hcs, _, hl, hm, hmm, hx, hq⟩
  · simp [Value.cells] at hcs
    obtain ⟨rfl, rfl, rfl⟩ := hcs
    exact ⟨[], ⟨none, 0, rfl, fun _ => rfl, Nat.le_refl _, Nat.zero_le _, rfl, .inl rfl⟩, by simp⟩
  · simp [Value.cells] at hcs
    obtain ⟨rfl, rfl, rfl⟩ := hcs
    simp only [if_true] at hmm
    subst hmm
    have each : ∀ i, i < len → ∃ q : Int × Int, W.cell? (a.add (i * 2)) = some (.int .i64 q.1) ∧ W.cell? (a.add (i * 2 + 1)) = some (.int .i64 q.2) ∧ (Lit.int .i64 q.1).wf = true ∧ (Lit.int .i64 q.2).wf = true := by
      intro i hi
      obtain ⟨g0, g1, t0, t1⟩ := hq i (by omega)
      obtain ⟨z, e0, _, hz⟩ := DataW.trod_int u0 t0
      obtain ⟨s, e1, _, hs⟩ := DataW.trod_int u1 t1
      simp only [List.cons.injEq, and_true] at e0 e1
      exact ⟨(z, s), e0 ▸ g0, e1 ▸ g1, hz, hs⟩
    have hI : Inhabited (Int × Int) := ⟨(0, 0)⟩
    obtain ⟨F, hF⟩ := Go.Deep.choose_lt each
    obtain ⟨b, off, spot⟩ := a
    have hlen : ((List.range len).map F).length = len := by simp
    refine ⟨(List.range len).map F, ⟨some ⟨b, off, spot⟩, _, by rw [hlen], (fun h => by cases h), by rw [hlen]; exact hl, hm, twC_len _, ?_⟩, fun f hf => ?_⟩
    · by_cases h0 : len = 0
      · left; subst h0; simp
      · right
        have hspot : spot = none := by simpa [Addr.add] using World.cell?_spot (hF 0 (by omega)).1
        subst hspot
        refine ⟨b, off, rfl, World.block_lt_of_cell? W _ (hF 0 (by omega)).1, fun i u hi => ?_⟩
        obtain ⟨j, f, hj, hc⟩ := twC_of _ i u hi
        have hjl : j < len := by
          have := (List.getElem?_eq_some_iff.1 hj).1
          simpa using this
        obtain ⟨g0, g1, _, _⟩ := hF j hjl
        have hf : F j = f := by simpa [List.getElem?_eq_getElem, hjl] using hj
        rw [add_plain] at g0 g1
        rw [← hf] at hc
        rcases hc with ⟨rfl, rfl⟩ | ⟨rfl, rfl⟩
        · exact g0
        · exact g1
    · obtain ⟨i, hi, rfl⟩ := List.mem_map.1 hf
      exact (hF i (by simpa using hi)).2.2
end
end Go.Proofs.Ytlbkacabcfeaiaa.Law
