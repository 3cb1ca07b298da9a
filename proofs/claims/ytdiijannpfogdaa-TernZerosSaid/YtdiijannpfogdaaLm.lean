/- Helpers of the statements that ask no document. -/
import Derived.Test.YtdiijannpfogdaaLw
import Derived.Test.YtdiijannpfogdaaLq
namespace Go.Proofs.Ytdiijannpfogdaa.Tn
open Go.RowKit
attribute [local go_sem] cv cs wv eq_arr
/-- the plain law: Meet is the greatest cube within both; Within both ways is equality -/
theorem within_self {t : List UInt8} (h : isCube t) : withinOk t t := ⟨⟨fun e => by rw [e] at h; simp [isCube] at h, rfl⟩, fun _ _ => .inr rfl⟩
theorem within_antisymm {t u : List UInt8} (h : withinOk t u) (h' : withinOk u t) : t = u := by
  rw [← up_byt t, ← up_byt u, ← h.1.2]
  refine up_congr fun i hi => ?_
  rcases h.2 i hi with h1 | h1
  · rcases h'.2 i (by have := h.1.2; omega) with h2 | h2
    · rw [h1, h2]
    · exact h2.symm
  · exact h1
theorem within_both {a b d : List UInt8} : (withinOk d a ∧ withinOk d b) ↔ (meetOk a b ∧ withinOk d (meetT a b)) := by
  constructor
  · rintro ⟨h1, h2⟩
    have hl : a.length = b.length := by rw [← h1.1.2, ← h2.1.2]
    have ha : a ≠ [] := fun e => h1.1.1 (List.eq_nil_of_length_eq_zero (by rw [h1.1.2, e]; rfl))
    have hm : meetOk a b := by
      refine ⟨⟨ha, hl⟩, fun i hi hc => ?_⟩
      have hi' : i < d.length := by rw [h1.1.2]; exact hi
      rcases h1.2 i hi' with e1 | e1
      · exact hc.1 e1
      · rcases h2.2 i hi' with e2 | e2
        · exact hc.2.1 e2
        · exact hc.2.2 (e1.symm.trans e2)
    refine ⟨hm, ⟨h1.1.1, ?_⟩, fun i hi => ?_⟩
    · unfold meetT; rw [if_pos hm]; simp; exact h1.1.2
    · have hia : i < a.length := by rw [← h1.1.2]; exact hi
      unfold meetT
      rw [if_pos hm, byt_up _ _ _ hia]
      unfold meetF
      split
      · exact h2.2 i hi
      · exact (h1.2 i hi).elim (fun e => absurd e (by assumption)) .inr
  · rintro ⟨hm, h⟩
    unfold meetT at h
    rw [if_pos hm] at h
    have hl : d.length = a.length := by simpa using h.1.2
    have hfit : d ≠ [] := h.1.1
    have key : ∀ i, i < d.length → meetF a b i = 120 ∨ byt d i = meetF a b i := fun i hi => by
      have := h.2 i hi
      rw [byt_up _ _ _ (by omega)] at this
      exact this
    refine ⟨⟨⟨hfit, hl⟩, fun i hi => ?_⟩, ⟨⟨hfit, by rw [hl, hm.1.2]⟩, fun i hi => ?_⟩⟩
    · have hk := key i hi
      unfold meetF at hk
      by_cases e : byt a i = 120
      · exact .inl e
      · rw [if_neg e] at hk
        exact .inr (hk.resolve_left e)
    · have hk := key i hi
      unfold meetF at hk
      by_cases e : byt a i = 120
      · rw [if_pos e] at hk
        exact hk
      · rw [if_neg e] at hk
        by_cases e2 : byt b i = 120
        · exact .inl e2
        · have h3 := hk.resolve_left e
          have h4 := hm.2 i (by omega)
          by_cases e3 : byt a i = byt b i
          · exact .inr (h3.trans e3)
          · exact absurd ⟨e, e2, e3⟩ h4
theorem cubeT_is {t : List UInt8} (h : isCube t) : cubeT t = t := by
  have h1 := h.1.2
  have e : parseE t = 0 := by
    unfold parseE
    rw [if_neg (by omega), if_neg (fun e => by rw [e] at h; simp [isCube] at h), if_pos h.2]
  unfold cubeT
  rw [if_pos e]
theorem lcube_yes (s : ByteArray) (h : isCube s.data.toList) (hs : s.size ≤ maxLen) (w : World) : Calls Try.prog 43 #[.string s] w fun e w' => e = .returned (.bool true) ∧ w = w' := by
  have := lcube_any s hs w; rw [decide_eq_true h] at this; exact this
theorem lcube_no (s : ByteArray) (h : ¬ isCube s.data.toList) (hs : s.size ≤ maxLen) (w : World) : Calls Try.prog 43 #[.string s] w fun e w' => e = .returned (.bool false) ∧ w = w' := by
  have := lcube_any s hs w; rw [decide_eq_false h] at this; exact this
theorem order_cases (s1 s2 s3 : ByteArray) (h : ¬ (isCube s1.data.toList ∧ isCube s2.data.toList ∧ isCube s3.data.toList ∧ s1.size = s2.size ∧ s1.size = s3.size)) :
    ¬ isCube s1.data.toList ∨ (isCube s1.data.toList ∧ ¬ isCube s2.data.toList) ∨ (isCube s1.data.toList ∧ isCube s2.data.toList ∧ ¬ isCube s3.data.toList) ∨
    (isCube s1.data.toList ∧ isCube s2.data.toList ∧ isCube s3.data.toList ∧ ¬ s1.size = s2.size) ∨ (isCube s1.data.toList ∧ isCube s2.data.toList ∧ isCube s3.data.toList ∧ s1.size = s2.size ∧ ¬ s1.size = s3.size) := by
  by_cases a : isCube s1.data.toList <;> by_cases b : isCube s2.data.toList <;> by_cases c : isCube s3.data.toList <;> by_cases d : s1.size = s2.size <;> by_cases e : s1.size = s3.size <;> simp_all
/-- not three cubes of one width -/
theorem xx_text : ((str (allT 2)).toList == [120, 120]) = true := by rw [ByteArray.toList_eq]; decide
theorem sz_ne {a b : ByteArray} (h : ¬ a.size = b.size) : ((a.size : Int) != (b.size : Int)) = true := by rw [bne_iff_ne]; omega
theorem sz_eq {a b : ByteArray} (h : a.size = b.size) : ((a.size : Int) != (b.size : Int)) = false := by rw [h]; simp
theorem Cub.of_is {t : List UInt8} (h : isCube t) : ∃ n c o, Cub t n c o := ⟨_, _, _, by have := Cub.of t; rw [cubeT_is h] at this; exact this⟩
end Go.Proofs.Ytdiijannpfogdaa.Tn
