/- Patterns, plain law: the signs of suffixes are *, +, ?. No program. -/
import Derived.Test.YtlbkacabcfeaiaaPc
namespace Go.Proofs.Ytlbkacabcfeaiaa.Tl
open Go.RowKit Mm
mutual
def good : T → Bool
  | .leaf _ _ _ _ => true
  | .seq l => goodL l
  | .alt l => goodL l
  | .suf t s => good t && (s == 42 || s == 43 || s == 63)
def goodL : List T → Bool
  | [] => true
  | t :: l => good t && goodL l
end
theorem goodL_app (a b : List T) : goodL (a ++ b) = (goodL a && goodL b) := by
  induction a with
  | nil => rfl
  | cons x a ih => rw [List.cons_append, goodL, goodL, ih, Bool.and_assoc]
theorem goodL_mem {l : List T} (h : goodL l = true) {t : T} (ht : t ∈ l) : good t = true := by
  induction l with
  | nil => cases ht
  | cons x l ih =>
    rw [goodL, Bool.and_eq_true] at h
    rcases List.mem_cons.1 ht with rfl | ht
    · exact h.1
    · exact ih h.2 ht
theorem good_inSeq {t : T} (h : good t = true) : goodL (inSeq t) = true := by
  cases t <;> simp_all [inSeq, goodL, good]
theorem good_inAlt {t : T} (h : good t = true) : goodL (inAlt t) = true := by
  cases t <;> simp_all [inAlt, goodL, good]
theorem good_flat (g : T → List T) (hg : ∀ t, good t = true → goodL (g t) = true) {l : List T} (h : goodL l = true) : goodL (l.flatMap g) = true := by
  induction l with
  | nil => rfl
  | cons x l ih =>
    rw [goodL, Bool.and_eq_true] at h
    rw [List.flatMap_cons, goodL_app, hg x h.1, ih h.2]
    rfl
theorem good_oneOr (f : List T → T) (hf : ∀ l, good (f l) = goodL l) {l : List T} (h : goodL l = true) : good (oneOr f l) = true := by
  unfold oneOr
  split
  · rw [goodL, Bool.and_eq_true] at h
    exact h.1
  · rw [hf]; exact h
theorem good_mkSeq {l : List T} (h : goodL l = true) : good (mkSeq l) = true := good_oneOr .seq (fun _ => rfl) (good_flat inSeq (fun _ => good_inSeq) h)
theorem good_mkAlt {l : List T} (h : goodL l = true) : good (mkAlt l) = true := good_oneOr .alt (fun _ => rfl) (good_flat inAlt (fun _ => good_inAlt) h)
theorem good_whole {ch ps : List T} (h1 : goodL ch = true) (h2 : goodL ps = true) : good (whole ch ps) = true := by
  refine good_mkAlt ?_
  rw [goodL_app, h1]
  simp [goodL, good_mkSeq h2]
def goodS (s : St) : Prop := (∀ o ∈ s.stk, goodL o.1 = true ∧ goodL o.2 = true) ∧ goodL s.ch = true ∧ goodL s.ps = true
theorem good_named {x : List UInt8} {s s' : St} {i : Nat} {deny : Bool} (hg : goodS s) (h : named x s i deny = .inl s') : goodS s' := by
  unfold named at h
  split at h
  · cases h
  · cases h
    refine ⟨hg.1, hg.2.1, ?_⟩
    dsimp only
    rw [goodL_app, hg.2.2]
    rfl
theorem good_stp {x : List UInt8} {s s' : St} (hg : goodS s) (h : stp x s = .inl s') : goodS s' := by
  unfold stp at h
  cases hx : x[s.pos]? with
  | none => rw [hx] at h; cases h
  | some c =>
    rw [hx] at h
    dsimp only at h
    split at h
    · cases h; exact hg
    split at h
    · split at h
      · cases h
      · cases h
        refine ⟨fun o ho => ?_, rfl, rfl⟩
        rcases List.mem_append.1 ho with ho | ho
        · exact hg.1 o ho
        · rw [List.mem_singleton] at ho
          subst ho
          exact ⟨hg.2.1, hg.2.2⟩
    split at h
    · split at h
      · cases h
      · rename_i o ho
        cases h
        have hm : o ∈ s.stk := List.mem_of_getLast? ho
        refine ⟨fun o' ho' => hg.1 o' (List.dropLast_subset _ ho'), (hg.1 o hm).1, ?_⟩
        dsimp only
        rw [goodL_app, (hg.1 o hm).2]
        simp [goodL, good_whole hg.2.1 hg.2.2]
    split at h
    · rename_i hc
      split at h
      · cases h
      · rename_i t ht
        split at h
        · cases h
        · cases h
          refine ⟨hg.1, hg.2.1, ?_⟩
          have hps : s.ps = s.ps.dropLast ++ [t] := by
            obtain ⟨ys, hy⟩ := List.getLast?_eq_some_iff.1 ht
            rw [hy, List.dropLast_concat]
          have h2 := hg.2.2
          rw [hps, goodL_app, Bool.and_eq_true] at h2
          have h3 := h2.2
          simp only [goodL, Bool.and_true] at h3
          dsimp only
          rw [goodL_app, h2.1]
          simp only [goodL, good, h3, Bool.true_and, Bool.and_true, Bool.or_eq_true, beq_iff_eq]
          rcases hc with hc | hc | hc
          · exact .inl (.inl hc)
          · exact .inl (.inr hc)
          · exact .inr hc
    split at h
    · split at h
      · cases h
      · cases h
        refine ⟨hg.1, ?_, rfl⟩
        dsimp only
        rw [goodL_app, hg.2.1]
        simp [goodL, good_mkSeq hg.2.2]
    split at h
    · split at h
      · cases h
      · cases h
        refine ⟨hg.1, hg.2.1, ?_⟩
        dsimp only
        rw [goodL_app, hg.2.2]
        rfl
    split at h
    · split at h
      · cases h
      · split at h
        · exact good_named hg h
        · cases h
    split at h
    · exact good_named hg h
    · cases h
theorem good_run (x : List UInt8) : ∀ (n : Nat) (s : St) (t : T), goodS s → runM x n s = .ok t → good t = true := by
  intro n
  induction n with
  | zero => intro s t _ h; cases h
  | succ n ih =>
    intro s t hg h
    unfold runM at h
    cases hs : stp x s with
    | inl s' => rw [hs] at h; exact ih s' t (good_stp hg hs) h
    | inr r =>
      rw [hs] at h
      dsimp only at h
      subst h
      unfold stp at hs
      cases hx : x[s.pos]? with
      | none =>
        rw [hx] at hs
        simp only [Sum.inr.injEq] at hs
        split at hs
        · cases hs
          exact good_whole hg.2.1 hg.2.2
        · cases hs
      | some c =>
        exfalso
        rw [hx] at hs
        dsimp only [named] at hs
        repeat' split at hs
        all_goals cases hs
theorem good_res {x : List UInt8} {s : St} {t : T} (hg : goodS s) (h : res x s = .ok t) : good t = true := good_run x _ s t hg h
end Go.Proofs.Ytlbkacabcfeaiaa.Tl
