/- Patterns: the reference says any tree; its Text. -/
import Derived.Test.YtlbkacabcfeaiaaKq
namespace Go.Proofs.Ytlbkacabcfeaiaa.Tl
open Go.RowKit Mm
set_option linter.unusedVariables false
mutual
theorem said_all : (t : T) → good t = true → bd t ≤ 80000 → SaidC t
  | .leaf tx n p d, hg, hb => said_leaf tx n p d (by simp only [bd] at hb; omega)
  | .seq l, hg, hb => by
    simp only [bd] at hb
    rw [good] at hg
    exact said_seq (said_allL l hg (by omega)) (by omega)
  | .alt l, hg, hb => by
    simp only [bd] at hb
    rw [good] at hg
    exact said_alt (said_allL l hg (by omega)) (by omega)
  | .suf t s, hg, hb => by
    simp only [bd] at hb
    rw [good, Bool.and_eq_true] at hg
    have h1 := said_all t hg.1 (by omega)
    rcases sign_cases hg.2 with rfl | rfl | rfl
    · exact said_suf_42 h1 (by omega)
    · exact said_suf_43 h1 (by omega)
    · exact said_suf_63 h1 (by omega)
theorem said_allL : (l : List T) → goodL l = true → bdL l ≤ 80000 → ∀ t ∈ l, SaidC t
  | [], _, _ => by intro t h; cases h
  | x :: l, hg, hb => by
    rw [goodL, Bool.and_eq_true] at hg
    rw [bdL] at hb
    have h1 := said_all x hg.1 (by omega)
    have h2 := said_allL l hg.2 (by omega)
    intro t h
    rcases List.mem_cons.1 h with rfl | h
    · exact h1
    · exact h2 t h
end
theorem RPat.below {w w' : World} {B : Nat} {t : T} {v : Value} (h : RPat w B t v) (hb : Below w.heap.size w w') : RPat w' B t v := by
  obtain ⟨nv, root, N, h1, h2, h3, h4, h5⟩ := h.pat
  exact ⟨nv, root, N, h1, own_below h2 hb (Nat.le_refl _), fun d hd => Fz.fr (h3 d hd) (Fr.below hb), h4, h5⟩
set_option maxRecDepth 100000 in
set_option maxHeartbeats 4000000 in
theorem rtext_any {w : World} {B : Nat} {t : T} {v : Value} (h : RPat w B t v) (hg : good t = true) (hb : bd t ≤ 80000) :
    Calls Try.prog 10 #[v] w fun e w' => e = .returned (.string (str (txt t))) ∧ Below w.heap.size w w' := by
  obtain ⟨nv, root, N, rfl, h2, h3, h4, h5⟩ := h.pat
  have hA : Below w.heap.size w (w.alloc (.cells #[nv, .int .i64 (root : Int)] 28)) := bal (Below.refl _ w) _
  have hn : NS w B nv N := ⟨h2, h3, h5⟩
  have HS := Lib.hid (said_all t hg hb _ B nv N root root (hn.below ((Below.refl _ w).alloc (Nat.le_refl _) (.cells #[nv, .int .i64 (root : Int)] 28))) h4)
  have hkl := h4.lt
  have hB0 := Blk.new w 28 #[nv, .int .i64 (root : Int)]
  have c0 := hB0.cell 0
  have c1 := hB0.cell 1
  have HA := Lib.hid hA
  obtain ⟨a, c, rfl⟩ := own_len h2
  have hI : ¬ (N.length : Int) = 0 := by omega
  clear hA hn h h2 h3 h4 hB0
  go_enter Try.func10, Try.ntmps10
  go_wp2_with fail
  refine HS.out.mono ?_
  rintro e w2 ⟨rfl, hb2⟩
  have HB := Lib.hid (bnx HA.out hb2)
  clear hb2
  go_wp2_with fail
  go_ret
  exact ⟨rfl, HB.out⟩
end Go.Proofs.Ytlbkacabcfeaiaa.Tl
