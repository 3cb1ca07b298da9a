/- TernImages: the plain laws. -/
import Derived.Test.YtdiijannpfogdaaPa
namespace Go.Proofs.Ytdiijannpfogdaa.Tn
open Go.RowKit
section
variable {t u h : List UInt8}
theorem write_head (hu : isCube u) (hl : u.length = h.length) (hh : isHead h h.length) : isHead (up (writeF h u) h.length) h.length := by
  refine ⟨by simp, List.all_eq_true.2 fun x hx => ?_⟩
  unfold up at hx
  obtain ⟨i, hi, rfl⟩ := List.mem_map.1 hx
  have hi := List.mem_range.1 hi
  unfold writeF
  have h1 := head_dig hh hi
  have h2 := cube_ok hu (j := i) (by omega)
  split
  · rcases h1 with e | e <;> rw [e] <;> rfl
  · rename_i hne
    rcases h2 with e | e | e
    · rw [e]; rfl
    · rw [e]; rfl
    · exact absurd e hne
theorem image_write (ht : isCube t) (hu : isCube u) (h1 : t.length = u.length) (h2 : h.length = t.length) (hh : isHead h h.length) (H : holdsT t h) : hasOk (writeT t u) (up (writeF h u) h.length) := by
  have hf : fitT t u := ⟨fun e => by have := ht.1.1; rw [e] at this; simp at this, h1⟩
  have hw := write_head hu (by omega) hh
  have hlen : (writeT t u).length = h.length := by unfold writeT; rw [if_pos hf]; simp [h2]
  rw [has_iff (n := h.length) (by have := ht.1.1; omega) hlen hw]
  intro i hi
  rw [hlen] at hi
  unfold writeT
  rw [if_pos hf, byt_up _ _ _ (by omega), byt_up _ _ _ hi]
  unfold writeF
  split
  · exact H i (by omega)
  · exact .inr rfl
def nearF (t h : List UInt8) (i : Nat) : UInt8 := if byt t i = 120 then byt h i else byt t i
theorem image_back (ht : isCube t) (h1 : t.length = u.length) (h2 : h.length = t.length) (hh : isHead h h.length) :
    hasOk (writeT t u) h ↔ up (writeF (up (nearF t h) h.length) u) h.length = h := by
  have hf : fitT t u := ⟨fun e => by have := ht.1.1; rw [e] at this; simp at this, h1⟩
  have hlen : (writeT t u).length = h.length := by unfold writeT; rw [if_pos hf]; simp [h2]
  rw [has_iff (n := h.length) (by have := ht.1.1; omega) hlen hh]
  constructor
  · intro H
    refine (eq_up rfl fun i hi => ?_).symm
    have := H i (by omega)
    unfold writeT at this
    rw [if_pos hf, byt_up _ _ _ (by omega)] at this
    unfold writeF at this ⊢
    by_cases e : byt u i = 120
    · rw [if_pos e] at this ⊢
      rw [byt_up _ _ _ hi]
      unfold nearF
      split
      · rfl
      · rename_i hne
        exact (this.resolve_left hne).symm
    · rw [if_neg e] at this ⊢
      exact (this.resolve_left e).symm
  · intro H i hi
    rw [hlen] at hi
    have e1 : byt h i = writeF (up (nearF t h) h.length) u i := by
      have : byt (up (writeF (up (nearF t h) h.length) u) h.length) i = byt h i := by rw [H]
      rw [byt_up _ _ _ hi] at this
      exact this.symm
    unfold writeT
    rw [if_pos hf, byt_up _ _ _ (by omega)]
    unfold writeF at e1 ⊢
    by_cases e : byt u i = 120
    · rw [if_pos e] at e1 ⊢
      rw [byt_up _ _ _ hi] at e1
      unfold nearF at e1
      by_cases e2 : byt t i = 120
      · exact .inl e2
      · rw [if_neg e2] at e1; exact .inr e1.symm
    · rw [if_neg e] at e1 ⊢
      exact .inr e1.symm
theorem image_before (ht : isCube t) (h1 : t.length = u.length) (h2 : h.length = t.length) (hh : isHead h h.length) :
    (meetOk t u ∧ hasOk (beforeT t u) h) ↔ holdsT t (up (writeF h u) h.length) := by
  have hf : fitT t u := ⟨fun e => by have := ht.1.1; rw [e] at this; simp at this, h1⟩
  constructor
  · rintro ⟨hok, H⟩
    have hlen : (beforeT t u).length = h.length := by unfold beforeT; rw [if_pos hok]; simp [h2]
    rw [has_iff (n := h.length) (by have := ht.1.1; omega) hlen hh] at H
    intro i hi
    rw [byt_up _ _ _ (by omega)]
    unfold writeF
    by_cases e : byt u i = 120
    · rw [if_pos e]
      have := H i (by omega)
      unfold beforeT at this
      rw [if_pos hok, byt_up _ _ _ hi] at this
      unfold beforeF at this
      rw [if_pos e] at this
      exact this
    · rw [if_neg e]
      by_cases e2 : byt t i = 120
      · exact .inl e2
      · by_cases e3 : byt t i = byt u i
        · exact .inr e3
        · exact absurd ⟨e2, e, e3⟩ (hok.2 i hi)
  · intro H
    have hw : ∀ i, i < t.length → byt t i = 120 ∨ byt t i = writeF h u i := fun i hi => by
      have := H i hi
      rw [byt_up _ _ _ (by omega)] at this
      exact this
    have hok : meetOk t u := ⟨hf, fun i hi hc => by
      rcases hw i hi with e | e
      · exact hc.1 e
      · unfold writeF at e
        rw [if_neg hc.2.1] at e
        exact hc.2.2 e⟩
    refine ⟨hok, ?_⟩
    have hlen : (beforeT t u).length = h.length := by unfold beforeT; rw [if_pos hok]; simp [h2]
    rw [has_iff (n := h.length) (by have := ht.1.1; omega) hlen hh]
    intro i hi
    rw [hlen] at hi
    unfold beforeT
    rw [if_pos hok, byt_up _ _ _ (by omega)]
    unfold beforeF
    by_cases e : byt u i = 120
    · rw [if_pos e]
      have := hw i (by omega)
      unfold writeF at this
      rw [if_pos e] at this
      exact this
    · rw [if_neg e]; exact .inl rfl
end
end Go.Proofs.Ytdiijannpfogdaa.Tn
