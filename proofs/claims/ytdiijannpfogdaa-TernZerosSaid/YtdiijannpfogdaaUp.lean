/- Plain lemmas: texts by their places; a cube's text out of its two rows of bits. -/
import Derived.Test.YtdiijannpfogdaaMem
namespace Go.Proofs.Ytdiijannpfogdaa.Tn
open Go.RowKit

def up (g : Nat → UInt8) (n : Nat) : List UInt8 := (List.range n).map g
theorem up_succ (g : Nat → UInt8) (n : Nat) : up g (n + 1) = up g n ++ [g n] := by simp [up, List.range_succ]
theorem up_zero (g : Nat → UInt8) : up g 0 = [] := rfl
@[simp] theorem up_length (g : Nat → UInt8) (n : Nat) : (up g n).length = n := by simp [up]
theorem up_get (g : Nat → UInt8) (n i : Nat) (h : i < n) : (up g n)[i]? = some (g i) := by simp [up, h]
theorem up_congr {g h : Nat → UInt8} {n : Nat} (e : ∀ i, i < n → g i = h i) : up g n = up h n := by
  unfold up
  apply List.map_congr_left
  intro i hi
  exact e i (List.mem_range.1 hi)
def byt (t : List UInt8) (i : Nat) : UInt8 := t.getD i 0
theorem byt_up (g : Nat → UInt8) (n i : Nat) (h : i < n) : byt (up g n) i = g i := by simp [byt, List.getD, up_get g n i h]
theorem up_byt (t : List UInt8) : up (byt t) t.length = t := by
  apply List.ext_getElem?
  intro i
  by_cases hi : i < t.length
  · rw [up_get _ _ _ hi]; simp [byt, hi]
  · rw [List.getElem?_eq_none (by simp; omega), List.getElem?_eq_none (by omega)]
theorem byt_str (s : ByteArray) (k : Nat) (h : k < s.size) : byt s.data.toList k = s[k] := by
  have : s.data.toList[k]? = some s[k] := by rw [Array.getElem?_toList]; exact Array.getElem?_eq_getElem h
  simp [byt, List.getD, this]
theorem eq_up {t : List UInt8} {g : Nat → UInt8} {n : Nat} (hl : t.length = n) (h : ∀ i, i < n → byt t i = g i) : t = up g n := by
  rw [← up_byt t, hl]
  exact up_congr h

def dig (c o : Bool) : UInt8 := if c then (if o then 49 else 48) else 120
theorem dig_ok (c o : Bool) : okB (dig c o) = true := by cases c <;> cases o <;> rfl

/-- the two rows of bits of a cube of n places -/
structure Nrm (n : Nat) (c o : Nat → Bool) : Prop where
  le : n ≤ 256
  hi : ∀ i, n ≤ i → c i = false
  sub : ∀ i, o i = true → c i = true
theorem Nrm.ohi {n : Nat} {c o : Nat → Bool} (h : Nrm n c o) (i : Nat) (hi : n ≤ i) : o i = false := by
  have := h.hi i hi
  have h2 := h.sub i
  cases ho : o i with
  | false => rfl
  | true => rw [h2 ho] at this; cases this
def txt (n : Nat) (c o : Nat → Bool) : List UInt8 := up (fun i => dig (c i) (o i)) n
theorem Nrm.cub {n : Nat} {c o : Nat → Bool} (h : Nrm n c o) : Cub (txt n c o) n c o := by
  refine ⟨by simp [txt], ?_, ?_, by simp [txt]; exact h.le, ?_⟩
  · funext i
    by_cases hi : i < n
    · simp only [careF, txt, up_get _ _ _ hi]
      cases c i <;> cases o i <;> rfl
    · have e : (txt n c o)[i]? = none := List.getElem?_eq_none (by simp [txt]; omega)
      simp only [careF, e, h.hi i (by omega)]; rfl
  · funext i
    by_cases hi : i < n
    · have h2 := h.sub i
      simp only [onesF, txt, up_get _ _ _ hi]
      cases hc : c i <;> cases ho : o i <;> first | rfl | (rw [ho, hc] at h2; cases h2 rfl)
    · have e : (txt n c o)[i]? = none := List.getElem?_eq_none (by simp [txt]; omega)
      simp only [onesF, e, h.ohi i (by omega)]; rfl
  · simp only [txt, up, List.all_map, List.all_eq_true]
    intro i _
    exact dig_ok _ _
theorem Cub.nrm {t : List UInt8} {n : Nat} {c o : Nat → Bool} (h : Cub t n c o) : Nrm n c o := by
  refine ⟨by have := h.hn; have := h.le; omega, fun i hi => ?_, fun i hi => ?_⟩
  · rw [h.hc]
    have e : t[i]? = none := List.getElem?_eq_none (by have := h.hn; omega)
    simp [careF, e]
  · rw [h.ho] at hi
    rw [h.hc]
    simp only [onesF, beq_iff_eq] at hi
    simp [careF, hi]
theorem Cub.txt_eq {t : List UInt8} {n : Nat} {c o : Nat → Bool} (h : Cub t n c o) : t = txt n c o := by
  apply eq_up h.hn.symm
  intro i hi
  have := h.byte i hi
  simp only [byt, List.getD, this, Option.getD_some]
  rfl
theorem Cub.at_ {t : List UInt8} {n : Nat} {c o : Nat → Bool} (h : Cub t n c o) (i : Nat) (hi : i < n) : byt t i = dig (c i) (o i) := by
  have := h.byte i hi
  simp only [byt, List.getD, this, Option.getD_some]
  rfl
/-- a cube's description from its text's places -/
theorem Nrm.of_places {n : Nat} {c o : Nat → Bool} (h : Nrm n c o) {g : Nat → UInt8} (hg : ∀ i, i < n → g i = dig (c i) (o i)) : Cub (up g n) n c o := by
  rw [up_congr hg]; exact h.cub
end Go.Proofs.Ytdiijannpfogdaa.Tn
