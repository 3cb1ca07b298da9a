/- Plain lemmas: a []int that came in, as a walk wants it; a []int of the call's own. -/
import Derived.Test.YtaleaicfllcpiaaDoorSs
import Derived.Test.YtaleaicfllcpiaaDoorRows
import Derived.Test.YtaleaicfllcpiaaDoorLaw
import Derived.ChangeSlices
import Derived.SizedLaws
import Derived.Deep.Slices
import Derived.BigQuiet
import Derived.Handy
namespace Go.Proofs.YtaleaicfllcpiaaDoor.Mm
open Go.RowKit
set_option linter.unusedVariables false
set_option linter.unusedSimpArgs false
set_option linter.unusedSectionVars false
def inC (l : List Int) : List Value := l.map fun z => .int .i64 z
theorem inC_len (l : List Int) : (inC l).length = l.length := by simp [inC]
theorem inC_at (l : List Int) (k : Nat) (z : Int) (h : l[k]? = some z) : (inC l)[k]? = some (.int .i64 z) := by simp [inC, h]
end Go.Proofs.YtaleaicfllcpiaaDoor.Mm
namespace Go.Proofs.YtaleaicfllcpiaaDoor.Law
open Go.RowKit Go.WideShapes Go.ChangeShapes Go.ChangeAt Mm
section
variable {H : Type} {enc : TypeId × Value → H} {P : Program} {W : World}
theorem open_argI {base : Nat} {t e : TypeId} {v : Value} {d : DataW H} {p : List MemPlace} (ht : P.underlying t = some (.slice e)) (he : P.underlying e = some (.int .i64)) (hc : P.cellsOf e = 1)
    (hval : Value.okWide P W .any base t v) (h : DataW.Trod enc P W 0 (fun _ => true) true t v d p) :
    ∃ l : List Int, SeesS W v 1 l.length (inC l) ∧ (∀ z ∈ l, (Lit.int .i64 z).wf = true) ∧ ((d = .nil ∧ l = []) ∨ ∃ es spare, d = .slice es spare ∧ es.length = l.length) := by
  obtain ⟨a1, len, cap, rfl⟩ := okWide_slice ht hval
  obtain ⟨fuel, hf⟩ := h
  rcases open_ints ht he hc hf with ⟨hcs, hx⟩ | ⟨a, len', cap', zs, hcs, _, hl, hm, hz, hx, hcell, hwf⟩
  · simp [Value.cells] at hcs
    obtain ⟨rfl, rfl, rfl⟩ := hcs
    simp at hx
    exact ⟨[], ⟨none, 0, rfl, fun _ => rfl, Nat.le_refl _, Nat.zero_le _, rfl, .inl rfl⟩, (fun z hz => by cases hz), .inl ⟨hx.1, rfl⟩⟩
  · simp [Value.cells] at hcs
    obtain ⟨rfl, rfl, rfl⟩ := hcs
    simp at hx
    simp only [if_true] at hz
    obtain ⟨b, off, spot⟩ := a
    generalize hL : zs.take len = L
    have hlen : L.length = len := by rw [← hL]; simp; omega
    refine ⟨L, ⟨some ⟨b, off, spot⟩, cap, by rw [hlen], (fun h => by cases h), by rw [hlen]; omega, hm, by rw [inC_len, Nat.mul_one], ?_⟩, fun z hz => hwf z (by rw [← hL] at hz; exact List.mem_of_mem_take hz), .inr ⟨_, _, hx.1, by simp [lits, hlen]; omega⟩⟩
    by_cases h0 : len = 0
    · left
      omega
    · right
      have hspot : spot = none := by simpa [Addr.add] using World.cell?_spot (hcell 0 (by omega))
      subst hspot
      refine ⟨b, off, rfl, World.block_lt_of_cell? W _ (hcell 0 (by omega)), fun j u hj => ?_⟩
      have hjl : j < len := by
        have := (List.getElem?_eq_some_iff.1 hj).1
        rw [inC_len] at this
        omega
      have hc1 := hcell j (by omega)
      rw [add_plain] at hc1
      rw [hc1]
      have hjz : j < zs.length := by omega
      rw [← hL] at hj
      simp only [inC, List.getElem?_map, List.getElem?_take_of_lt hjl, List.getElem?_eq_getElem hjz, Option.map_some, Option.some.injEq] at hj
      rw [← hj]
      simp only [List.getD, List.getElem?_eq_getElem hjz, Option.getD_some]
theorem len_argI {ts : List TypeId} {ds : List (DataW H)} {j : Nat} {t e : TypeId} {d : DataW H} {l : List Int} (h : (DataW.weightsEach P ts ds).all (· ≤ reachBytes) = true) (ht : ts[j]? = some t) (hd : ds[j]? = some d) (hu : P.underlying t = some (.slice e)) (hb : P.bytesOf e = 8)
    (hD : (d = .nil ∧ l = []) ∨ ∃ es spare, d = .slice es spare ∧ es.length = l.length) : l.length * 8 ≤ 140737488355328 := by
  rcases hD with ⟨_, rfl⟩ | ⟨es, spare, rfl, he⟩
  · simp
  · have h1 := sized_slice h ht hd hu
    have h2 := reachBytes_lt
    rw [hb, he] at h1
    omega
end
end Go.Proofs.YtaleaicfllcpiaaDoor.Law
namespace Go.Proofs.YtaleaicfllcpiaaDoor.Mm
open Go.RowKit
theorem info_int : (Tryd.prog.info? 3).map (fun i => (i.zero, i.size, i.bytes)) = some (some (.int .i64 0), 1, 8) := by kernel_rfl
theorem app_int {B : Nat} {v : Value} {m : Nat} {L : List Int} {w : World} (t : Int) {ops : Array Oper} {rest : List Oper} {op : Oper} {a : Act} {Q : Exit → Act → World → Prop} {s x : Operand}
    (hown : w.ownsRow B 3 1 v m (inC L)) (hgd : op.guard = none) (ho : op.op = .call { callee := .builtin .append, args := #[s, x], argTypes := #[22, 22] })
    (hs : a.eval s = v) (hx : a.eval x = .slice (some ⟨w.heap.size, 0, none⟩) 1 1) (hn : (m + 1) * 8 ≤ 140737488355328) (hB : B ≤ w.heap.size)
    (h : ∀ v' w', w'.ownsRow B 3 1 v' (m + 1) (inC (L ++ [t])) → Below B w w' → wpList Tryd.prog ops Q rest (a.put op.dst v') w') : wpList Tryd.prog ops Q (op :: rest) a (w.alloc (.cells #[.int .i64 t] 3)) := by
  obtain ⟨i0, hi, hz0, hz1, hz2⟩ := info_parts info_int
  refine wpList_append_own _ hgd s x 22 ho B 3 i0 _ 1 8 Tryd.underlying22 hi hz0 hz1 hz2 rfl (by decide) v m _ hs (hown.alloc _) ⟨w.heap.size, 0, none⟩ 1 1 [.int .i64 t] hx rfl (cells_new _ #[.int .i64 t] _)
    (by simp [Value.oneCell']) (by simp only [maxLen]; omega) (by omega) (by simp; omega) ?_
  intro v' w1 hown' hg _
  have h1 : Below B w (w.alloc (.cells #[.int .i64 t] 3)) := (Below.refl _ _).alloc hB _
  exact h v' w1 (by unfold inC at hown' ⊢; rw [List.map_append]; exact hown') (h1.grown hg (by simp; omega) (fun k hk => (hown.lt k hk).1))
end Go.Proofs.YtaleaicfllcpiaaDoor.Mm
