/- Patterns: the program writes and lays out any tree. -/
import Derived.Test.YtlbkacabcfeaiaaZWe
import Derived.Test.YtlbkacabcfeaiaaZEp
namespace Go.Proofs.Ytlbkacabcfeaiaa.Tl
open Go.RowKit Mm
set_option linter.unusedVariables false
theorem sign_cases {s : UInt8} (h : (s == 42 || s == 43 || s == 63) = true) : s = 42 ∨ s = 43 ∨ s = 63 := by
  simp only [Bool.or_eq_true, beq_iff_eq] at h
  rcases h with (h | h) | h
  · exact .inl h
  · exact .inr (.inl h)
  · exact .inr (.inr h)
theorem all_of {w : World} {S : Nat → Prop} {u : Value} {vs : List Value} {ts : List T} (hf : Fz w 57 1 u ts.length vs) (hx : ∀ (i : Nat) (v : Value) (t : T), vs[i]? = some v → ts[i]? = some t → IsT w S v t) : AllT w S vs ts := by
  obtain ⟨a, cap, rfl, hc, hm, hl, _⟩ := hf
  exact ⟨by omega, hx⟩
mutual
theorem wr_all : (t : T) → good t = true → bd t ≤ 90000 → WrC t
  | .leaf tx n p d, hg, hb => by
    intro w S ty pay h
    cases h
    exact leaf_write w tx n p d (by simp only [bd] at hb; omega)
  | .seq l, hg, hb => by
    intro w S ty pay h
    simp only [bd] at hb
    rw [good] at hg
    cases h with
    | seq u vs ts hf hs hx => exact sequence_write (wr_allL l hg (by omega)) (by omega) w S _ vs hf (all_of hf hx)
  | .alt l, hg, hb => by
    intro w S ty pay h
    simp only [bd] at hb
    rw [good] at hg
    cases h with
    | alt u vs ts hf hs hx => exact choice_write (wr_allL l hg (by omega)) (by omega) w S _ vs hf (all_of hf hx)
  | .suf t s, hg, hb => by
    intro w S ty pay h
    simp only [bd] at hb
    rw [good, Bool.and_eq_true] at hg
    have hw := wr_all t hg.1 (by omega)
    have hbt : bd t ≤ 100000 := by omega
    cases h with
    | suf v t s h1 =>
      obtain ⟨ty, pay, rfl⟩ := h1.form
      rcases sign_cases hg.2 with rfl | rfl | rfl
      · cases h1 with
        | leaf tx n p d => exact suffix_leaf_42 (fun w S h => hw w S _ _ h) hbt rfl w S (.leaf tx n p d)
        | suf v t s h2 => exact suffix_suf_42 (fun w S h => hw w S _ _ h) hbt rfl w S (.suf v t s h2)
        | seq u vs ts hf hs hx => exact suffix_seq_42 hw hbt rfl w S (.seq _ vs ts hf hs hx)
        | alt u vs ts hf hs hx => exact suffix_alt_42 hw hbt rfl w S (.alt _ vs ts hf hs hx)
      · cases h1 with
        | leaf tx n p d => exact suffix_leaf_43 (fun w S h => hw w S _ _ h) hbt rfl w S (.leaf tx n p d)
        | suf v t s h2 => exact suffix_suf_43 (fun w S h => hw w S _ _ h) hbt rfl w S (.suf v t s h2)
        | seq u vs ts hf hs hx => exact suffix_seq_43 hw hbt rfl w S (.seq _ vs ts hf hs hx)
        | alt u vs ts hf hs hx => exact suffix_alt_43 hw hbt rfl w S (.alt _ vs ts hf hs hx)
      · cases h1 with
        | leaf tx n p d => exact suffix_leaf_63 (fun w S h => hw w S _ _ h) hbt rfl w S (.leaf tx n p d)
        | suf v t s h2 => exact suffix_suf_63 (fun w S h => hw w S _ _ h) hbt rfl w S (.suf v t s h2)
        | seq u vs ts hf hs hx => exact suffix_seq_63 hw hbt rfl w S (.seq _ vs ts hf hs hx)
        | alt u vs ts hf hs hx => exact suffix_alt_63 hw hbt rfl w S (.alt _ vs ts hf hs hx)
theorem wr_allL : (l : List T) → goodL l = true → bdL l ≤ 90000 → ∀ t ∈ l, WrC t
  | [], _, _ => by intro t h; cases h
  | x :: l, hg, hb => by
    rw [goodL, Bool.and_eq_true] at hg
    rw [bdL] at hb
    have h1 := wr_all x hg.1 (by omega)
    have h2 := wr_allL l hg.2 (by omega)
    intro t h
    rcases List.mem_cons.1 h with rfl | h
    · exact h1
    · exact h2 t h
end
mutual
theorem em_all : (t : T) → good t = true → EmC t
  | .leaf tx n p d, hg => by
    intro w S ty pay B v c h hSB hB hrow hb
    cases h
    simp only [bd] at hb
    exact leaf_emit w tx n p d B v c hB hrow (by omega)
  | .seq l, hg => by
    intro w S ty pay B v c h hSB hB hrow hb
    simp only [bd] at hb
    rw [good] at hg
    have ha := em_allL l hg
    cases h with
    | seq u vs ts hf hs hx =>
      have := sequence_emit ha w S _ vs B v c hf hs (all_of hf hx) hSB hB hrow (by omega)
      rw [em]
      exact this
  | .alt l, hg => by
    intro w S ty pay B v c h hSB hB hrow hb
    simp only [bd] at hb
    rw [good] at hg
    have ha := em_allL l hg
    cases h with
    | alt u vs ts hf hs hx => exact choice_emit ha w S _ vs B v c hf hs (all_of hf hx) hSB hB hrow (by omega)
  | .suf t s, hg => by
    intro w S ty pay B v c h hSB hB hrow hb
    simp only [bd] at hb
    rw [good, Bool.and_eq_true] at hg
    have hw := em_all t hg.1
    cases h with
    | suf x t s h1 =>
      rcases sign_cases hg.2 with rfl | rfl | rfl
      · exact suffix_emit_42 hw w S x B v c h1 hSB hB hrow (by omega)
      · exact suffix_emit_43 hw w S x B v c h1 hSB hB hrow (by omega)
      · exact suffix_emit_63 hw w S x B v c h1 hSB hB hrow (by omega)
theorem em_allL : (l : List T) → goodL l = true → ∀ t ∈ l, EmC t
  | [], _ => by intro t h; cases h
  | x :: l, hg => by
    rw [goodL, Bool.and_eq_true] at hg
    have h1 := em_all x hg.1
    have h2 := em_allL l hg.2
    intro t h
    rcases List.mem_cons.1 h with rfl | h
    · exact h1
    · exact h2 t h
end
end Go.Proofs.Ytlbkacabcfeaiaa.Tl
