/- A row of bytes that reads as W and may be written, told by its cells. -/
import Derived.Test.YtlakglphjhoodaaDoorFC
import Derived.Lib.ConvBytes
import Derived.Lib.LazyBuf
namespace Go.Proofs.YtlakglphjhoodaaDoor.Mm
open Go.RowKit
set_option linter.unusedVariables false
set_option linter.unusedSimpArgs false
set_option linter.unusedSectionVars false
def BK (w : World) (g : Nat) (W : List UInt8) : Prop := g < w.heap.size ∧ (∀ j b, W[j]? = some b → w.cell? ⟨g, j, none⟩ = some (bv b)) ∧ ∀ j, j < W.length → w.frozen? ⟨g, j, none⟩ = false
theorem BK.below {w w' : World} {g M : Nat} {W : List UInt8} (h : BK w g W) (hb : Below M w w') (hg : g < M) : BK w' g W :=
  ⟨Nat.lt_of_lt_of_le h.1 hb.size, fun j b hj => by rw [hb.cell (p := ⟨g, j, none⟩) hg]; exact h.2.1 j b hj, fun j hj => by rw [hb.frozen (p := ⟨g, j, none⟩) hg]; exact h.2.2 j hj⟩
theorem BK.some {w : World} {g : Nat} {W : List UInt8} (h : BK w g W) {j : Nat} (hj : j < W.length) : (w.cell? ⟨g, j, none⟩).isSome = true := by
  rw [h.2.1 j W[j] (by simp [hj])]; rfl
theorem setCells_size (g : Nat) : ∀ (vs : List Value) (o : Nat) (w : World), (w.setCells g o vs).heap.size = w.heap.size
  | [], _, _ => rfl
  | v :: r, o, w => by rw [World.setCells, setCells_size g r (o + 1)]; simp
theorem BK.put {w : World} {g o : Nat} {W Z : List UInt8} (h : BK w g W) (hz : o + Z.length ≤ W.length) : BK (w.setCells g o (Z.map bv)) g (W.take o ++ Z ++ W.drop (o + Z.length)) := by
  have hln : (W.take o ++ Z ++ W.drop (o + Z.length)).length = W.length := by simp; omega
  refine ⟨by rw [setCells_size]; exact h.1, fun j b hj => ?_, fun j hj => by rw [World.frozen?_setCells]; exact h.2.2 j (by rw [hln] at hj; exact hj)⟩
  have hjl : j < W.length := by
    have := (List.getElem?_eq_some_iff.1 hj).1
    rw [hln] at this
    exact this
  rw [List.append_assoc] at hj
  by_cases h1 : j < o
  · rw [World.cell?_setCells_out _ _ _ _ _ (fun _ _ => .inl h1)]
    refine h.2.1 j b ?_
    rw [List.getElem?_append_left (by simp; omega), List.getElem?_take_of_lt h1] at hj
    exact hj
  · rw [List.getElem?_append_right (by simp; omega)] at hj
    rw [show (W.take o).length = o by simp; omega] at hj
    by_cases h2 : j < o + Z.length
    · rw [List.getElem?_append_left (by omega)] at hj
      have hin := World.cell?_setCells_in g (Z.map bv) o w (fun i hi => h.some (by rw [List.length_map] at hi; omega)) (j - o) (by rw [List.length_map]; omega)
      rw [show o + (j - o) = j by omega] at hin
      rw [hin]
      obtain ⟨h3, h4⟩ := List.getElem?_eq_some_iff.1 hj
      rw [← h4]
      simp
    · rw [List.getElem?_append_right (by omega), List.getElem?_drop] at hj
      rw [World.cell?_setCells_out _ _ _ _ _ (fun _ _ => .inr (by rw [List.length_map]; show o + Z.length ≤ j; omega))]
      refine h.2.1 j b ?_
      rw [← hj]
      congr 1
      omega
theorem BK.set_below {B : Nat} {a w : World} {g o : Nat} {Z : List UInt8} (h : Below B a w) (hg : B ≤ g) : Below B a (w.setCells g o (Z.map bv)) := below_setCells hg _ _ _ h
/-- string(word) -/
theorem bk_str {w : World} {g cap n : Nat} {W : List UInt8} (h : BK w g W) (hn : W.length = n) : (convert 77 9 (.slice (some ⟨g, 0, none⟩) n cap)).run Tryd.prog w = .ok (.string (str W)) w := by
  have := run_convert_bytes_arg (P := Tryd.prog) w 77 5 Tryd.underlying77 Tryd.underlying5 g 0 n cap (W.map fun b => (b.toNat : Int)) (by simpa using hn) (fun i hi => by
    rw [Nat.zero_add, h.2.1 i (W[i]'(by omega)) (by simp)]
    simp [bv, List.getD, show i < W.length by omega]) 9 Tryd.underlying9
  rw [this, strOf_map]
/-- []byte(s) -/
theorem bytes_of (w : World) (s : ByteArray) (hs : s.size ≤ 100000) : ∃ cap W', (convert 9 77 (.string s)).run Tryd.prog w = .ok (.slice (some ⟨w.heap.size, 0, none⟩) s.size cap) W' ∧ s.size ≤ cap ∧ cap ≤ maxLen ∧ BK W' w.heap.size s.data.toList ∧ Below w.heap.size w W' := by
  refine ⟨_, _, Lib.run_convert_string_bytes w 9 77 5 s Tryd.underlying9 Tryd.underlying77 Tryd.underlying5, grownCap_ge _ _ _ _, grownCap_le_maxLen _ _ _ _ (by unfold maxLen; omega), ⟨by rw [Lib.bytesWorld_size]; omega, fun j b hj => ?_, fun j hj => ?_⟩, ?_⟩
  · have hjl := (List.getElem?_eq_some_iff.1 hj).1
    rw [Lib.bytesWorld_cell w 5 s j (by rw [len_s] at hjl; exact hjl), List.getD_eq_getElem?_getD, hj]
    rfl
  · have hjl : j < s.size := by rw [len_s] at hj; exact hj
    have hsz : s.size ≤ (Lib.bytesCells w 5 s).size := by
      unfold Lib.bytesCells
      rw [Array.size_append, Array.size_map]
      have : s.data.size = s.size := rfl
      omega
    simp [World.frozen?, Lib.bytesWorld_at_new]
    omega
  · exact ⟨rfl, rfl, rfl, by rw [Lib.bytesWorld_size]; omega, fun k hk => Lib.bytesWorld_at_old w _ s k hk⟩
end Go.Proofs.YtlakglphjhoodaaDoor.Mm
