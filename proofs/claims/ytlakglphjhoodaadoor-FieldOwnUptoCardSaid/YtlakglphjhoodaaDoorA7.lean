/- An argument that is a struct of seven fields of one cell each, and a table of structs of bools. -/
import Derived.Test.YtlakglphjhoodaaDoorProg
import Derived.Lib.SmallJoins
import Derived.Deep.Slices
import Derived.Deep.Fields
import Derived.ChangeSame
import Derived.Lib.LaidTab
namespace Go.Proofs.YtlakglphjhoodaaDoor.Law
open Go.Joins Go.ChangeShapes Go.WideShapes Go.RowKit Go.Deep
set_option linter.unusedVariables false
set_option linter.unusedSimpArgs false
set_option linter.unusedSectionVars false
section
variable {H : Type} {enc : TypeId × Value → H} {P : Program} {w : World} {base : Nat} {spare : Nat → Bool} {held : Bool}
theorem open_agg7 {r : Reach} {b0 : Nat} {t : TypeId} {f0 f1 f2 f3 f4 f5 f6 : Field} {v : Value} {d : DataW H} {p : List MemPlace} (hs : P.underlying t = some (.struct #[f0, f1, f2, f3, f4, f5, f6])) (hone : oneCellFields P #[f0, f1, f2, f3, f4, f5, f6] = true) (hC : P.cellsOf t = 7)
    (hv : Value.okWide P w r b0 t v) (h : DataW.Trod enc P w base spare held t v d p) :
    ∃ (v0 v1 v2 v3 v4 v5 v6 : Value) (y0 y1 y2 y3 y4 y5 y6 : DataW H × List MemPlace) (n : Nat), v = .agg #[v0, v1, v2, v3, v4, v5, v6] ∧ d = .agg [y0.1, y1.1, y2.1, y3.1, y4.1, y5.1, y6.1] ∧ p = y0.2 ++ (y1.2 ++ (y2.2 ++ (y3.2 ++ (y4.2 ++ (y5.2 ++ y6.2))))) ∧
      DataW.trod enc P w base spare held n f0.type [v0] = some y0 ∧ DataW.trod enc P w base spare held n f1.type [v1] = some y1 ∧ DataW.trod enc P w base spare held n f2.type [v2] = some y2 ∧ DataW.trod enc P w base spare held n f3.type [v3] = some y3 ∧ DataW.trod enc P w base spare held n f4.type [v4] = some y4 ∧ DataW.trod enc P w base spare held n f5.type [v5] = some y5 ∧ DataW.trod enc P w base spare held n f6.type [v6] = some y6 := by
  obtain ⟨cs, rfl, hsz⟩ := okWide_struct hs hv
  obtain ⟨l⟩ := cs
  match l, hsz.trans hC with
  | [c0, c1, c2, c3, c4, c5, c6], _ =>
    obtain ⟨fuel, hf⟩ := h
    obtain ⟨xs, n, _, hx, _, hlen, hg⟩ := DataW.trod_struct hs hf
    obtain ⟨o0, k0⟩ := hone_of hone 0 f0 rfl
    obtain ⟨o1, k1⟩ := hone_of hone 1 f1 rfl
    obtain ⟨o2, k2⟩ := hone_of hone 2 f2 rfl
    obtain ⟨o3, k3⟩ := hone_of hone 3 f3 rfl
    obtain ⟨o4, k4⟩ := hone_of hone 4 f4 rfl
    obtain ⟨o5, k5⟩ := hone_of hone 5 f5 rfl
    obtain ⟨o6, k6⟩ := hone_of hone 6 f6 rfl
    match xs, hlen with
    | [y0, y1, y2, y3, y4, y5, y6], _ =>
      simp only [Prod.mk.injEq] at hx
      exact ⟨c0, c1, c2, c3, c4, c5, c6, y0, y1, y2, y3, y4, y5, y6, n, rfl, by simpa using hx.1, by simpa using hx.2, by simpa [Value.cells, o0, k0] using hg 0 f0 rfl, by simpa [Value.cells, o1, k1] using hg 1 f1 rfl, by simpa [Value.cells, o2, k2] using hg 2 f2 rfl, by simpa [Value.cells, o3, k3] using hg 3 f3 rfl, by simpa [Value.cells, o4, k4] using hg 4 f4 rfl, by simpa [Value.cells, o5, k5] using hg 5 f5 rfl, by simpa [Value.cells, o6, k6] using hg 6 f6 rfl⟩
/-- A table of structs of bools: what a cell of it is. -/
theorem table_bools {t e : TypeId} {n : Nat} {fs : Array Field} {fuel : Nat} {cs : List Value} {rows : List (DataW H)} {p : List MemPlace} {tb : TypeId} (ht : P.underlying t = some (.array n e)) (he : P.underlying e = some (.struct fs)) (hb : P.underlying tb = some .bool)
    (hone : oneCellFields P fs = true) (hC : P.cellsOf e = fs.size) (hft : (fs.toList.all fun f => f.type == tb) = true) (h : DataW.trod enc P w base spare held fuel t cs = some (.agg rows, p)) :
    ∀ i bs, rows[i]? = some (.agg bs) → ∀ j b, bs[j]? = some (.lit (.bool b)) → j < fs.size → cs[i * fs.size + j]? = some (.bool b) := by
  intro i bs hi j b hj hjs
  cases fuel with
  | zero => simp [DataW.trod] at h
  | succ fuel =>
    simp only [DataW.trod, ht] at h
    split at h
    · obtain ⟨xs, hm, hx⟩ := Option.map_eq_some_iff.1 h
      simp only [Prod.mk.injEq, DataW.agg.injEq] at hx
      rw [← hx.1, List.getElem?_map] at hi
      obtain ⟨y, hy, hy1⟩ := Option.map_eq_some_iff.1 hi
      have hxl : xs.length = n := by simpa using Lib.mapM_length hm
      have hin : i < n := by have := (List.getElem?_eq_some_iff.1 hy).1; omega
      obtain ⟨y', hy', hf⟩ := Lib.mapM_at hm i i (by simp [hin])
      obtain rfl := Option.some.inj (hy.symm.trans hy')
      obtain ⟨ys, n', hn', hyy, hlen, hyl, hg⟩ := DataW.trod_struct he hf
      obtain ⟨f, hfj⟩ : ∃ f, fs[j]? = some f := ⟨_, Array.getElem?_eq_getElem hjs⟩
      obtain ⟨ho, hk⟩ := hone_of hone j f hfj
      have h1 := hg j f hfj
      have hfty : f.type = tb := by simpa using List.all_eq_true.1 hft f (by simpa using Array.mem_of_getElem? hfj)
      rw [ho, hk, hfty] at h1
      have h2 : ys[j]? = some (ys[j]'(by omega)) := List.getElem?_eq_getElem (by omega)
      rw [h2] at h1
      obtain ⟨b', hc, hb'⟩ := DataW.trod_bool hb h1
      have h3 : bs[j]? = some (ys[j]'(by omega)).1 := by
        rw [hyy] at hy1
        simp only [DataW.agg.injEq] at hy1
        rw [← hy1, List.getElem?_map, h2]
        rfl
      rw [hj, hb'] at h3
      simp only [Option.some.injEq, DataW.lit.injEq, Lit.bool.injEq] at h3
      subst h3
      have h4 := congrArg (·[0]?) hc
      rw [hC] at h4
      simpa [List.getElem?_take, List.getElem?_drop, hjs] using h4
    · cases h
end
end Go.Proofs.YtlakglphjhoodaaDoor.Law
