/- Of the parts of Split: a header of the first cube that is not in the second lies in just one of them. Plain. -/
import Derived.Test.YtdiijannpfogdaaRow
import Derived.Test.YtdiijannpfogdaaLq
namespace Go.Proofs.Ytdiijannpfogdaa.Tn
open Go.RowKit
theorem byt_get {t : List UInt8} {i : Nat} (h : i < t.length) : byt t i = t[i] := by
  unfold byt; simp [h]
theorem head_dig {h : List UInt8} {n : Nat} (hh : isHead h n) {j : Nat} (hj : j < n) : byt h j = 48 ∨ byt h j = 49 := by
  have hl : j < h.length := by rw [hh.1]; exact hj
  rw [byt_get hl]
  have := List.all_eq_true.1 hh.2 h[j] (List.getElem_mem hl)
  simpa [digB] using this
theorem cube_ok {t : List UInt8} (ht : isCube t) {j : Nat} (hj : j < t.length) : byt t j = 48 ∨ byt t j = 49 ∨ byt t j = 120 := by
  rw [byt_get hj]
  have := List.all_eq_true.1 ht.2 t[j] (List.getElem_mem hj)
  simp only [okB, Bool.or_eq_true, beq_iff_eq] at this
  rcases this with (h | h) | h <;> simp [h]
theorem other_dig {b h : UInt8} (hb : b = 48 ∨ b = 49) (hh : h = 48 ∨ h = 49) : otherB b = h ↔ h ≠ b := by
  rcases hb with rfl | rfl <;> rcases hh with rfl | rfl <;> decide
theorem other_ne (b : UInt8) : otherB b ≠ 120 := by
  unfold otherB; split <;> decide
theorem has_iff {t h : List UInt8} {n : Nat} (hn : 0 < n) (ht : t.length = n) (hh : isHead h n) : hasOk t h ↔ holdsT t h := by
  unfold hasOk holdsT good
  constructor
  · intro H j hj
    exact (H.2 j hj).2
  · intro H
    refine ⟨⟨fun e => by rw [e] at ht; simp at ht; omega, by rw [ht, hh.1]⟩, fun j hj => ⟨head_dig hh (by omega), H j hj⟩⟩
theorem count_one (q : Nat → Bool) : ∀ n, (∃ i, i < n ∧ q i = true) → (∀ i j, i < j → j < n → q i = true → q j = true → False) → (List.range n).countP q = 1 := by
  intro n
  induction n with
  | zero => rintro ⟨i, hi, _⟩; omega
  | succ n ih =>
    rintro ⟨i, hi, hq⟩ hu
    rw [List.range_succ, List.countP_append]
    by_cases hn : q n = true
    · have h0 : (List.range n).countP q = 0 := by
        rw [List.countP_eq_zero]
        intro j hj hqj
        exact hu j n (List.mem_range.1 hj) (by omega) hqj hn
      rw [h0]; simp [hn]
    · have hin : i < n := by
        rcases Nat.lt_or_ge i n with h | h
        · exact h
        · obtain rfl : i = n := by omega
          exact absurd hq hn
      rw [ih ⟨i, hin, hq⟩ (fun a b hab hb => hu a b hab (by omega))]
      simp [hn]
theorem least (q : Nat → Prop) : ∀ n, q n → ∃ i, i ≤ n ∧ q i ∧ ∀ j, j < i → ¬ q j := by
  intro n
  induction n using Nat.strongRecOn with
  | ind n ih =>
    intro hn
    by_cases h : ∃ j, j < n ∧ q j
    · obtain ⟨j, hj, hqj⟩ := h
      obtain ⟨i, hi, h1, h2⟩ := ih j hj hqj
      exact ⟨i, by omega, h1, h2⟩
    · exact ⟨n, Nat.le_refl _, hn, fun j hj hqj => h ⟨j, hj, hqj⟩⟩
section
variable {a b h : List UInt8}
theorem holds_part (hb : isCube b) (hab : a.length = b.length) (hh : isHead h a.length) {i : Nat} (hi : i < a.length) (ha1 : byt a i = 120) (hb1 : byt b i ≠ 120) :
    holdsT (partT a b i) h ↔ (holdsT a h ∧ byt h i ≠ byt b i ∧ ∀ k, k < i → byt a k = 120 → byt b k = 120 ∨ byt b k = byt h k) := by
  have hbi : byt b i = 48 ∨ byt b i = 49 := by
    rcases cube_ok hb (j := i) (by omega) with e | e | e
    · exact .inl e
    · exact .inr e
    · exact absurd e hb1
  have hhi := head_dig hh hi
  have hP : ∀ k, k < a.length → byt (partT a b i) k = partF a b i k := fun k hk => byt_up _ _ _ hk
  have hl : (partT a b i).length = a.length := by unfold partT; simp
  unfold holdsT
  rw [hl]
  constructor
  · intro H
    refine ⟨fun j hj => ?_, ?_, fun k hk hak => ?_⟩
    · have := H j hj
      rw [hP j hj] at this
      unfold partF at this
      by_cases e : j = i
      · subst e; exact .inl ha1
      · rw [if_neg e] at this
        by_cases e2 : j < i ∧ byt a j = 120
        · exact .inl e2.2
        · rw [if_neg e2] at this; exact this
    · have := H i hi
      rw [hP i hi] at this
      unfold partF at this
      rw [if_pos rfl] at this
      rcases this with e | e
      · exact absurd e (other_ne _)
      · exact (other_dig hbi hhi).1 e
    · have := H k (by omega)
      rw [hP k (by omega)] at this
      unfold partF at this
      rw [if_neg (by omega), if_pos ⟨hk, hak⟩] at this
      exact this
  · rintro ⟨H1, H2, H3⟩ j hj
    rw [hP j hj]
    unfold partF
    by_cases e : j = i
    · subst e; rw [if_pos rfl]; exact .inr ((other_dig hbi hhi).2 H2)
    · rw [if_neg e]
      by_cases e2 : j < i ∧ byt a j = 120
      · rw [if_pos e2]; exact H3 j e2.1 e2.2
      · rw [if_neg e2]; exact H1 j hj
theorem parts_count (ha : isCube a) (hb : isCube b) (hab : a.length = b.length) (hh : isHead h a.length) :
    (splitT a b).countP (fun t => decide (hasOk t h)) = if holdsT a h ∧ ¬ holdsT b h then 1 else 0 := by
  have h0 : 0 < a.length := ha.1.1
  have hfit : fitT a b := ⟨fun e => by rw [e] at h0; simp at h0, hab⟩
  unfold splitT
  by_cases hok : meetOk a b
  · rw [if_pos hok]
    unfold partsT
    rw [List.countP_map, List.countP_filter]
    have hq : ∀ i, i < a.length → ((((fun t => decide (hasOk t h)) ∘ partT a b) i && splits a b i) = true ↔ (byt a i = 120 ∧ byt b i ≠ 120 ∧ holdsT a h ∧ byt h i ≠ byt b i ∧ ∀ k, k < i → byt a k = 120 → byt b k = 120 ∨ byt b k = byt h k)) := by
      intro i hi
      have hl : (partT a b i).length = a.length := by unfold partT; simp
      simp only [Function.comp, Bool.and_eq_true, decide_eq_true_eq, splits, beq_iff_eq, bne_iff_ne]
      rw [has_iff h0 hl hh]
      constructor
      · rintro ⟨H, e1, e2⟩
        exact ⟨e1, e2, (holds_part hb hab hh hi e1 e2).1 H⟩
      · rintro ⟨e1, e2, H⟩
        exact ⟨(holds_part hb hab hh hi e1 e2).2 H, e1, e2⟩
    by_cases hH : holdsT a h ∧ ¬ holdsT b h
    · rw [if_pos hH]
      refine count_one _ _ ?_ ?_
      · obtain ⟨H1, H2⟩ := hH
        have ⟨k, hk, hk1, hk2⟩ : ∃ k, k < a.length ∧ byt b k ≠ 120 ∧ byt b k ≠ byt h k := by
          unfold holdsT at H2
          simp only [Classical.not_forall, not_or] at H2
          obtain ⟨k, hk, h1, h2⟩ := H2
          exact ⟨k, by omega, h1, h2⟩
        obtain ⟨i, hi, ⟨h1, h2⟩, hmin⟩ := least (fun k => byt b k ≠ 120 ∧ byt b k ≠ byt h k) k ⟨hk1, hk2⟩
        have hil : i < a.length := by omega
        refine ⟨i, hil, (hq i hil).2 ⟨?_, h1, H1, fun e => h2 e.symm, fun k hk _ => ?_⟩⟩
        · rcases H1 i hil with e | e
          · exact e
          · by_cases e1 : byt a i = 120
            · exact e1
            · exact absurd ⟨e1, h1, fun e2 => h2 (e2 ▸ e)⟩ (hok.2 i hil)
        · by_cases e1 : byt b k = 120
          · exact .inl e1
          · by_cases e2 : byt b k = byt h k
            · exact .inr e2
            · exact absurd ⟨e1, e2⟩ (hmin k hk)
      · intro i j hij hj hqi hqj
        have hi2 := (hq i (by omega)).1 hqi
        have hj2 := (hq j hj).1 hqj
        rcases hj2.2.2.2.2 i hij hi2.1 with e | e
        · exact hi2.2.1 e
        · exact hi2.2.2.2.1 e.symm
    · rw [if_neg hH, List.countP_eq_zero]
      intro i hi hqi
      have hi := List.mem_range.1 hi
      have hi2 := (hq i hi).1 hqi
      refine hH ⟨hi2.2.2.1, fun H => ?_⟩
      rcases H i (by omega) with e | e
      · exact hi2.2.1 e
      · exact hi2.2.2.2.1 e.symm
  · rw [if_neg hok]
    have ⟨i, hi, hc⟩ : ∃ i, i < a.length ∧ clash (byt a i) (byt b i) := by
      unfold meetOk at hok
      simp only [not_and, Classical.not_forall, Classical.not_not] at hok
      obtain ⟨i, hi, hc⟩ := hok hfit
      exact ⟨i, hi, hc⟩
    have hx : holdsT a h → ¬ holdsT b h := fun H H' => by
      rcases H i hi with e | e
      · exact hc.1 e
      · rcases H' i (by omega) with e' | e'
        · exact hc.2.1 e'
        · exact hc.2.2 (e.trans e'.symm)
    by_cases hH : holdsT a h
    · rw [if_pos ⟨hH, hx hH⟩]
      simp [(has_iff h0 rfl hh).2 hH]
    · rw [if_neg (fun e => hH e.1)]
      simp [has_iff h0 rfl hh, hH]
end
end Go.Proofs.Ytdiijannpfogdaa.Tn
