/- Show: the plain law of the joined texts. -/
import Derived.Test.YtaleaicfllcpiaaDoorDl
namespace Go.Proofs.YtaleaicfllcpiaaDoor.Fl
open Go.RowKit Mm Law
set_option linter.unusedVariables false
set_option linter.unusedSimpArgs false
set_option linter.unusedSectionVars false
theorem chk_names {l : List Fld} (h : (chk l).1 = 0) : ∀ j, (hj : j < l.length) → l[j].1.size ≤ 24 := by
  rcases chk_cases l with ⟨h1, e⟩ | ⟨h1, e⟩ | ⟨h1, h2, e⟩
  · rw [e] at h; exact absurd h (by decide)
  · rw [e] at h; exact absurd h (by decide)
  · rw [e] at h
    intro j hj
    have hb := chkFrom_all l l.length 0 (by omega) h j (Nat.zero_le _) hj
    unfold badAt at hb
    refine Classical.byContradiction fun hc => hb (.inl fun hn => hc hn.2.1)
theorem part_size {S : List UInt8} (hS : S.length ≤ 32) (hv : numB S < 4294967296) : (partB S).size ≤ 200 := by
  have hq := quad_size (v := numB S)
  have hc := cnt_le S
  have hd := ddT_size (n := cntN S) (by omega)
  have hd2 := ddT_size hv
  have e1 : (⟨#[47]⟩ : ByteArray).size = 1 := rfl
  have e2 : (⟨#[37]⟩ : ByteArray).size = 1 := rfl
  unfold partB
  split
  · unfold numB2
    split <;> omega
  · split
    · simp only [ByteArray.size_append, e1]; omega
    · simp only [ByteArray.size_append, e2, str_size]; omega
theorem cnt_zero (F : List UInt8) : cntN F = 0 ↔ ∀ b ∈ F, b ∈ [(120 : UInt8)] := by
  unfold cntN
  rw [List.length_eq_zero_iff, List.filter_eq_nil_iff]
  simp
theorem shT_len (l : List Fld) (H : List UInt8) (k : Nat) : (shT l H k).length ≤ k := by
  induction k with
  | zero => exact Nat.le_refl _
  | succ k ih =>
    show (shT l H k ++ itemT l H k).length ≤ k + 1
    have : (itemT l H k).length ≤ 1 := by unfold itemT; split <;> simp
    rw [List.length_append]
    omega
theorem part_bd {l : List Fld} {H : List UInt8} (hw : Wide l) (hH : H.length = posN l l.length) {k : Nat} (hk : k < l.length) : (partB (fldB l H k)).size ≤ 200 := by
  have hfl := fldB_len hw (H := H) (by omega) hk
  have hb := (bitsAt_get hw hk).2.2
  exact part_size (by omega) (by have h := numB_bd (l := fldB l H k) (by omega) (fldB l H k).length; rwa [List.take_length] at h)
noncomputable def itemB (l : List Fld) (H : List UInt8) (k : Nat) (hk : k < l.length) : ByteArray := l[k].1 ++ ⟨#[32, 61, 32]⟩ ++ partB (fldB l H k)
theorem item_size {l : List Fld} {H : List UInt8} (h0 : (chk l).1 = 0) (hw : Wide l) (hH : H.length = posN l l.length) {k : Nat} (hk : k < l.length) : (l[k].1 ++ ⟨#[32, 61, 32]⟩ ++ partB (fldB l H k)).size ≤ 227 ∧ 3 ≤ (l[k].1 ++ ⟨#[32, 61, 32]⟩ ++ partB (fldB l H k)).size := by
  have h1 := chk_names h0 k hk
  have h2 := part_bd hw hH hk
  have e1 : (⟨#[32, 61, 32]⟩ : ByteArray).size = 3 := rfl
  simp only [ByteArray.size_append, e1]
  omega
theorem joinT_snoc (xs : List ByteArray) (y : ByteArray) : joinT (xs ++ [y]) = if xs = [] then y.data.toList else joinT xs ++ [32, 38, 32] ++ y.data.toList := by
  unfold joinT
  rw [List.map_append, List.map_singleton, join_snoc]
  by_cases h : xs = []
  · rw [if_pos h, if_pos (by rw [h]; rfl)]
  · rw [if_neg h, if_neg (by simpa using h)]
theorem joinT_nil : joinT [] = [] := rfl
theorem join_bd {l : List Fld} {H : List UInt8} (h0 : (chk l).1 = 0) (hw : Wide l) (hH : H.length = posN l l.length) : ∀ k, k ≤ l.length → (joinT (shT l H k)).length ≤ k * 230 ∧ (joinT (shT l H k) = [] ↔ shT l H k = []) := by
  intro k
  induction k with
  | zero => exact fun _ => ⟨Nat.le_of_eq (by rw [show shT l H 0 = [] from rfl, joinT_nil]; rfl), ⟨fun _ => rfl, fun _ => rfl⟩⟩
  | succ k ih =>
    intro hk
    obtain ⟨i1, i2⟩ := ih (by omega)
    by_cases hc : cntN (fldB l H k) = 0
    · rw [item_no hc]
      exact ⟨by omega, i2⟩
    · have hz := item_size h0 hw hH (show k < l.length by omega)
      rw [item_yes (by omega) hc, joinT_snoc]
      generalize hy : (l[k].1 ++ ⟨#[32, 61, 32]⟩ ++ partB (fldB l H k) : ByteArray) = y at *
      have hl : y.data.toList.length = y.size := len_s y
      split
      · refine ⟨by omega, ⟨fun h => by rw [h] at hl; simp at hl; omega, fun h => by simp at h⟩⟩
      · refine ⟨by simp only [List.length_append]; simp; omega, ⟨fun h => by simp at h, fun h => by simp at h⟩⟩
end Go.Proofs.YtaleaicfllcpiaaDoor.Fl
