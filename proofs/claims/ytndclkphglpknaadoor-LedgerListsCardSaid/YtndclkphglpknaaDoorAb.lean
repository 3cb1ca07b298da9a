/- Plain lemmas: a []byte that came in, as a walk wants it. -/
import Derived.Test.YtndclkphglpknaaDoorMm
import Derived.Test.YtndclkphglpknaaDoorLaw
import Derived.ChangeSlices
import Derived.SizedLaws
import Derived.Deep.Slices
namespace Go.Proofs.YtndclkphglpknaaDoor.Law
open Go.RowKit Go.WideShapes Go.ChangeShapes Go.ChangeAt Mm
section
variable {H : Type} {enc : TypeId × Value → H} {P : Program} {W : World}
theorem byte_int {z : Int} (h : (Lit.int .u8 z).wf = true) : ((UInt8.ofNat z.toNat).toNat : Int) = z := by
  have hw : 0 ≤ z ∧ z < 256 := by
    have := h
    simp [Lit.wf, IntKind.min, IntKind.max, IntKind.bits, IntKind.signed] at this
    omega
  have : (UInt8.ofNat z.toNat).toNat = z.toNat := by
    rw [UInt8.toNat_ofNat']
    exact Nat.mod_eq_of_lt (by omega)
  omega
theorem open_argB {base : Nat} {t e : TypeId} {v : Value} {d : DataW H} {p : List MemPlace} (ht : P.underlying t = some (.slice e)) (he : P.underlying e = some (.int .u8)) (hc : P.cellsOf e = 1)
    (hval : Value.okWide P W .any base t v) (h : DataW.Trod enc P W 0 (fun _ => true) true t v d p) :
    ∃ l : List UInt8, Sees W v (l.map bv) ∧ ((d = .nil ∧ l = []) ∨ ∃ es spare, d = .slice es spare ∧ es.length = l.length) := by
  obtain ⟨a1, len, cap, rfl⟩ := okWide_slice ht hval
  obtain ⟨fuel, hf⟩ := h
  rcases open_ints ht he hc hf with ⟨hcs, hx⟩ | ⟨a, len', cap', zs, hcs, _, hl, hm, hz, hx, hcell, hwf⟩
  · simp [Value.cells] at hcs
    obtain ⟨rfl, rfl, rfl⟩ := hcs
    simp at hx
    exact ⟨[], ⟨none, 0, rfl, fun _ => rfl, Nat.le_refl _, Nat.zero_le _, .inl rfl⟩, .inl ⟨hx.1, rfl⟩⟩
  · simp [Value.cells] at hcs
    obtain ⟨rfl, rfl, rfl⟩ := hcs
    simp at hx
    simp only [if_true] at hz
    obtain ⟨b, off, spot⟩ := a
    generalize hL : (zs.take len).map (fun z => UInt8.ofNat z.toNat) = L
    have hlen : L.length = len := by rw [← hL]; simp; omega
    have hlb : (L.map bv).length = len := by simp [hlen]
    refine ⟨L, ⟨some ⟨b, off, spot⟩, cap, by rw [hlb], (fun h => by cases h), by rw [hlb]; omega, hm, ?_⟩, .inr ⟨_, _, hx.1, by simp [lits, hlen]; omega⟩⟩
    by_cases h0 : len = 0
    · left
      exact List.eq_nil_of_length_eq_zero (by omega)
    · right
      have hspot : spot = none := by simpa [Addr.add] using World.cell?_spot (hcell 0 (by omega))
      subst hspot
      refine ⟨b, off, rfl, World.block_lt_of_cell? W _ (hcell 0 (by omega)), fun j u hj => ?_⟩
      have hjl : j < len := by
        have := (List.getElem?_eq_some_iff.1 hj).1
        omega
      have hc1 := hcell j (by omega)
      rw [add_plain] at hc1
      rw [hc1]
      have hjz : j < zs.length := by omega
      have hw := hwf zs[j] (List.getElem_mem hjz)
      rw [← hL] at hj
      simp only [List.getElem?_map, List.getElem?_take_of_lt hjl, List.getElem?_eq_getElem hjz, Option.map_some, Option.some.injEq] at hj
      rw [← hj]
      simp only [bv, byte_int hw, List.getD, List.getElem?_eq_getElem hjz, Option.getD_some]
end
end Go.Proofs.YtndclkphglpknaaDoor.Law
