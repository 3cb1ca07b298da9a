/- Unpack: more of the plain law: where the colon stands. -/
import Derived.Test.YtndclkphglpknaaDoorUp
namespace Go.Proofs.YtndclkphglpknaaDoor.Lg
open Go.RowKit Mm Law
theorem bget (s : ByteArray) (k : Nat) (h : k < s.size) : s.data.toList[k]? = some s[k] := by
  have : k < s.data.toList.length := by rw [len_s]; exact h
  rw [List.getElem?_eq_getElem this]
  rfl
theorem ext_take (s : ByteArray) (a b : Nat) : s.extract a b = str ((s.data.toList.drop a).take (b - a)) := by
  apply ByteArray.ext
  rw [← Array.toList_inj]
  simp [str, ByteArray.data_extract, List.extract_eq_take_drop]
theorem hd_stop {t : List UInt8} {a p : Nat} (ht : t.length ≤ 16384) (hno : ∀ j, a ≤ j → j < p → t[j]? ≠ some 58) (h : Hd (t.drop a)) :
    ∃ N, p ≤ a + (Lib.decDigits N).length ∧ (Lib.decDigits N).length ≤ 5 ∧ t[a + (Lib.decDigits N).length]? = some 58 ∧ (t.drop a).take (Lib.decDigits N).length = Lib.decDigits N ∧ a + (Lib.decDigits N).length + 1 + N ≤ t.length ∧ ∀ j, a ≤ j → j < a + (Lib.decDigits N).length → t[j]? ≠ some 58 := by
  obtain ⟨s, r, hu⟩ := h
  rw [lnT_eq, List.append_assoc, List.cons_append] at hu
  have hlen := congrArg List.length hu
  simp only [List.length_drop, List.length_append, List.length_cons, len_s] at hlen
  have h5 := dd_len (n := s.size) (by omega)
  have hc := dd_colon s.size
  obtain ⟨D, hD⟩ : ∃ D, Lib.decDigits s.size = D := ⟨_, rfl⟩
  rw [hD] at hu hlen h5 hc
  have at1 : ∀ j, t[a + j]? = (D ++ 58 :: (s.data.toList ++ r))[j]? := fun j => by rw [← hu, List.getElem?_drop]
  have hcol : t[a + D.length]? = some 58 := by rw [at1, List.getElem?_append_right (Nat.le_refl _), Nat.sub_self]; rfl
  have hbef : ∀ j, a ≤ j → j < a + D.length → t[j]? ≠ some 58 := by
    intro j h1 h2 he
    have e : a + (j - a) = j := by omega
    rw [← e, at1, List.getElem?_append_left (by omega)] at he
    exact hc 58 (List.mem_of_getElem? he) rfl
  refine ⟨s.size, ?_, ?_⟩
  · rw [hD]
    refine Nat.le_of_not_lt fun hlt => ?_
    exact hno (a + D.length) (by omega) hlt hcol
  · rw [hD]
    refine ⟨h5, hcol, ?_, by omega, hbef⟩
    rw [hu, List.take_left' rfl]
theorem hd_make {t : List UInt8} {a p N : Nat} (h1 : (t.drop a).take (p - a) = Lib.decDigits N) (h2 : t[p]? = some 58) (hap : a ≤ p) (h3 : p + 1 + N ≤ t.length) :
    t.drop a = lnT (str ((t.drop (p + 1)).take N)) ++ t.drop (p + 1 + N) := by
  have hp : p < t.length := by omega
  have e1 : t.drop a = (t.drop a).take (p - a) ++ t.drop p := by
    conv => lhs; rw [← List.take_append_drop (p - a) (t.drop a)]
    rw [List.drop_drop, show a + (p - a) = p from by omega]
  have e2 : t.drop p = 58 :: t.drop (p + 1) := by
    rw [List.drop_eq_getElem_cons hp]
    rw [List.getElem?_eq_getElem hp] at h2
    rw [Option.some.inj h2]
  have e3 : t.drop (p + 1) = (t.drop (p + 1)).take N ++ t.drop (p + 1 + N) := by
    conv => lhs; rw [← List.take_append_drop N (t.drop (p + 1))]
    rw [List.drop_drop]
  have e4 : (str ((t.drop (p + 1)).take N)).size = N := by rw [str_size, List.length_take, List.length_drop]; omega
  rw [lnT_eq, e4, str_list, e1, h1, e2, List.append_assoc, List.cons_append, ← e3]
theorem numI_bound : ∀ (k : Nat) (l : List UInt8), l.length = k → -(23 * (10 ^ k - 1 : Int)) ≤ numI 0 l ∧ numI 0 l ≤ 23 * (10 ^ k - 1 : Int) := by
  intro k
  induction k with
  | zero =>
    intro l hl
    rw [List.eq_nil_of_length_eq_zero hl]
    simp [numI]
  | succ k ih =>
    intro l hl
    have hne : l ≠ [] := fun h => by rw [h] at hl; simp at hl
    obtain ⟨q, b, rfl⟩ : ∃ q b, l = q ++ [b] := ⟨l.dropLast, l.getLast hne, (List.dropLast_concat_getLast hne).symm⟩
    rw [List.length_append, List.length_singleton] at hl
    have := ih q (by omega)
    have hb := UInt8.toNat_lt b
    rw [numI_snoc]
    have e : (10 : Int) ^ (k + 1) = 10 * 10 ^ k := by rw [Int.pow_succ]; omega
    rw [e]
    generalize (10 : Int) ^ k = X at *
    omega
theorem numI_take {t : List UInt8} {a m : Nat} (hm : m ≤ 6) (hl : a + m ≤ t.length) : -23000000 ≤ numI 0 ((t.drop a).take m) ∧ numI 0 ((t.drop a).take m) ≤ 23000000 := by
  have h := numI_bound m ((t.drop a).take m) (by rw [List.length_take, List.length_drop]; omega)
  have : m = 0 ∨ m = 1 ∨ m = 2 ∨ m = 3 ∨ m = 4 ∨ m = 5 ∨ m = 6 := by omega
  rcases this with rfl | rfl | rfl | rfl | rfl | rfl | rfl <;> simp only [Int.reducePow, Int.reduceSub, Int.reduceMul] at h <;> omega
theorem numI_next {t : List UInt8} {a m : Nat} {b : UInt8} (h : t[a + m]? = some b) : numI 0 ((t.drop a).take (m + 1)) = 10 * numI 0 ((t.drop a).take m) + (b.toNat : Int) - 48 := by
  have h1 : (t.drop a)[m]? = some b := by rw [List.getElem?_drop]; exact h
  obtain ⟨hm, hb⟩ := List.getElem?_eq_some_iff.1 h1
  rw [List.take_succ_eq_append_getElem hm, numI_snoc, hb]
theorem numI_at {t : List UInt8} {a q : Nat} {b : UInt8} (haq : a ≤ q) (h : t[q]? = some b) : numI 0 ((t.drop a).take (q + 1 - a)) = 10 * numI 0 ((t.drop a).take (q - a)) + (b.toNat : Int) - 48 := by
  have e : a + (q - a) = q := by omega
  have h1 := numI_next (t := t) (a := a) (m := q - a) (b := b) (by rw [e]; exact h)
  rw [show q + 1 - a = q - a + 1 from by omega]
  exact h1
theorem pkL_ge (l : List ByteArray) : l.length ≤ (pkL l).length := by
  induction l with
  | nil => simp
  | cons a l ih => rw [pkL_cons, List.length_append, lnT_len, List.length_cons]; omega
/-- A round of the document's Unpack that takes one line: what it wants. -/
theorem hd_took {t : List UInt8} {l : List ByteArray} {u : List UInt8} {a p N : Nat} (ht : t = pkL l ++ u) (ha : a = (pkL l).length) (h1 : (t.drop a).take (p - a) = Lib.decDigits N) (h2 : t[p]? = some 58) (hap : a ≤ p) (h3 : p + 1 + N ≤ t.length) :
    t = pkL (l ++ [str ((t.drop (p + 1)).take N)]) ++ t.drop (p + 1 + N) ∧ p + 1 + N = (pkL (l ++ [str ((t.drop (p + 1)).take N)])).length := by
  have hu : t.drop a = u := by rw [ht, ha, List.drop_left]
  have hm := hd_make h1 h2 hap h3
  have e : t = pkL (l ++ [str ((t.drop (p + 1)).take N)]) ++ t.drop (p + 1 + N) := by
    rw [pkL_snoc, List.append_assoc, ← hm, hu]
    exact ht
  refine ⟨e, ?_⟩
  have := congrArg List.length e
  rw [List.length_append, List.length_drop] at this
  omega
end Go.Proofs.YtndclkphglpknaaDoor.Lg
