/- Cover, the program's and the document's; FieldCovers. -/
import Derived.Test.YtaleaicfllcpiaaDoorHa
namespace Go.Proofs.YtaleaicfllcpiaaDoor.Fl
open Go.RowKit Mm Law
set_option linter.unusedVariables false
set_option linter.unusedSimpArgs false
set_option linter.unusedSectionVars false
theorem halves_any (b lo e : Nat) (hi : Int) (hb : b ≤ 32) (hlo : lo ≤ 4294967296) (he : e ≤ 4294967296) (hhi : hi + 1 = (e : Int)) : ∀ (k n x : Nat), n + k = b → x + 2 ^ k ≤ 4294967296 → HalAt b lo e hi n k x := by
  intro k
  induction k with
  | zero =>
    intro n x hn hx
    refine halves_one b lo e hi hb hlo he hhi 0 n x hn hx ?_
    simp only [Nat.pow_zero]
    omega
  | succ k ih =>
    intro n x hn hx
    have hp : 2 ^ (k + 1) = 2 ^ k + 2 ^ k := by rw [Nat.pow_succ]; omega
    by_cases h1 : lo ≤ x ∧ x + 2 ^ (k + 1) ≤ e
    · exact halves_one b lo e hi hb hlo he hhi (k + 1) n x hn hx (.inl h1)
    · by_cases h2 : e ≤ x ∨ x + 2 ^ (k + 1) ≤ lo
      · exact halves_one b lo e hi hb hlo he hhi (k + 1) n x hn hx (.inr h2)
      · exact halves_two b lo e hi hb hlo he hhi k n x hn hx h1 h2 (ih (n + 1) x (by omega) (by omega)) (ih (n + 1) (x + 2 ^ k) (by omega) (by omega))
/-- what Cover answers -/
def cvE (b lo hi : Int) : Int := if b < 1 ∨ 32 < b then 1 else if lo < 0 ∨ (topN b.toNat : Int) < lo ∨ hi < 0 ∨ (topN b.toNat : Int) < hi then 42 else if hi < lo then 43 else 0
def cvT (b lo hi : Int) : List (List UInt8) := if cvE b lo hi = 0 then (gre b.toNat lo.toNat (hi.toNat + 1)).map (preT b.toNat) else []
def CovAns (w : World) (b lo hi : Int) (r : Ending) (w' : World) : Prop := ∃ u, r = .returned (.tuple #[u, .int .i64 (cvE b lo hi)]) ∧ w'.ownsRow w.heap.size 9 1 u (cvT b lo hi).length (sC (cvT b lo hi)) ∧ Below w.heap.size w w'
theorem cov_err {w : World} {b lo hi E : Int} (h : cvE b lo hi = E) (h0 : E ≠ 0) {w' : World} (hb : Below w.heap.size w w') : CovAns w b lo hi (.returned (.tuple #[.slice none 0 0, .int .i64 E])) w' := by
  have hT : cvT b lo hi = [] := by unfold cvT; rw [h, if_neg h0]
  refine ⟨_, by rw [h], ?_, hb⟩
  rw [hT]
  exact World.ownsRow_nil _ _ _ _
theorem rcov_ok (b lo hi : Nat) (h1 : 1 ≤ b) (h2 : b ≤ 32) (hl : lo ≤ hi) (hh : hi ≤ topN b) : cvE b lo hi = 0 ∧ cvT b lo hi = (gre b lo (hi + 1)).map (preT b) := by
  have hE : cvE b lo hi = 0 := by
    unfold cvE
    rw [if_neg (by omega), if_neg (by rw [Int.toNat_natCast]; omega), if_neg (by omega)]
  refine ⟨hE, ?_⟩
  unfold cvT
  rw [if_pos hE]
  simp only [Int.toNat_natCast]
theorem top_lt (b : Nat) (h : b ≤ 32) : topN b + 1 = 2 ^ b ∧ 2 ^ b ≤ 4294967296 := by
  have h2 := pow_33 h
  have h3 : (2 : Nat) ^ 32 = 4294967296 := by decide
  have h4 := topN_pos b
  unfold topN
  omega
set_option maxRecDepth 100000 in
set_option maxHeartbeats 4000000 in
theorem cov_walk (b lo hi : Int) (wb : (Lit.int .i64 b).wf = true) (wl : (Lit.int .i64 lo).wf = true) (wh : (Lit.int .i64 hi).wf = true) (w : World) :
    Calls Tryd.prog 50 #[.int .i64 b, .int .i64 lo, .int .i64 hi] w (CovAns w b lo hi) := by
  by_cases hb : b < 1 ∨ 32 < b
  · have HE := Lib.hid (show cvE b lo hi = 1 from by unfold cvE; rw [if_pos hb])
    have hb' : b < 1 ∨ (1 ≤ b ∧ 32 < b) := by omega
    clear hb
    rcases hb' with hb | ⟨hb0, hb⟩
    all_goals
      go_enter Tryd.func50, Tryd.ntmps50
      go_wp2
      refine bodyPost_ret (v := .tuple #[.slice none 0 0, .int .i64 1]) (by simp [results, Tryd.results50, go_sem]) rfl (cov_err HE.out (by decide) (Below.refl _ _))
  · obtain ⟨B, rfl⟩ := Int.eq_ofNat_of_zero_le (show 0 ≤ b by omega)
    have b1 : 1 ≤ B := by omega
    have b2 : B ≤ 32 := by omega
    have hT := fun w => top_any B (by omega) w
    obtain ⟨ht1, ht2⟩ := top_lt B b2
    have HT := Lib.hid hT
    have i1 : 1 ≤ (B : Int) := by omega
    have i2 : (B : Int) ≤ 32 := by omega
    by_cases hv : lo < 0 ∨ (topN B : Int) < lo ∨ hi < 0 ∨ (topN B : Int) < hi
    · have HE := Lib.hid (show cvE B lo hi = 42 from by unfold cvE; rw [if_neg hb, if_pos (by rw [Int.toNat_natCast]; exact hv)])
      have hv' : lo < 0 ∨ (0 ≤ lo ∧ (topN B : Int) < lo) ∨ (0 ≤ lo ∧ lo ≤ (topN B : Int) ∧ hi < 0) ∨ (0 ≤ lo ∧ lo ≤ (topN B : Int) ∧ 0 ≤ hi ∧ (topN B : Int) < hi) := by omega
      clear hv hb hT ht1
      generalize topN B = T at *
      rcases hv' with h1 | ⟨h1, h2⟩ | ⟨h1, h2, h3⟩ | ⟨h1, h2, h3, h4⟩
      all_goals
        go_enter Tryd.func50, Tryd.ntmps50
        go_wp2_with (go_at_call 39; refine (HT.out _).mono ?_; rintro r w' ⟨rfl, rfl⟩)
        refine bodyPost_ret (v := .tuple #[.slice none 0 0, .int .i64 42]) (by simp [results, Tryd.results50, go_sem]) rfl (cov_err HE.out (by decide) (Below.refl _ _))
    · obtain ⟨L, rfl⟩ := Int.eq_ofNat_of_zero_le (show 0 ≤ lo by omega)
      obtain ⟨I, rfl⟩ := Int.eq_ofNat_of_zero_le (show 0 ≤ hi by omega)
      have l1 : (L : Int) ≤ (topN B : Int) := by omega
      have l2 : (I : Int) ≤ (topN B : Int) := by omega
      by_cases hr : I < L
      · have HE := Lib.hid (show cvE B L I = 43 from by unfold cvE; rw [if_neg hb, if_neg (by rw [Int.toNat_natCast]; exact hv), if_pos (by omega)])
        clear hv hb hT ht1
        generalize topN B = T at *
        go_enter Tryd.func50, Tryd.ntmps50
        go_wp2_with (go_at_call 39; refine (HT.out _).mono ?_; rintro r w' ⟨rfl, rfl⟩)
        refine bodyPost_ret (v := .tuple #[.slice none 0 0, .int .i64 43]) (by simp [results, Tryd.results50, go_sem]) rfl (cov_err HE.out (by decide) (Below.refl _ _))
      · obtain ⟨hE, hTT⟩ := rcov_ok B L I b1 b2 (by omega) (by omega)
        have HE := Lib.hid hE
        have HTT := Lib.hid hTT
        have HC := Lib.hid (fun w => cover_any B L (I + 1) (I : Int) b2 (by omega) (by omega) (by omega) w)
        have hLI : L ≤ I := by omega
        clear hv hb hT ht1 hE hTT hr
        generalize topN B = T at *
        go_enter Tryd.func50, Tryd.ntmps50
        go_wp2_with (first | (go_at_call 39; refine (HT.out _).mono ?_; rintro r w' ⟨rfl, rfl⟩) | (go_at_call 79; refine (HC.out _).mono ?_; rintro r w1 ⟨u, rfl, ho, hb1⟩))
        refine bodyPost_ret (v := .tuple #[u, .int .i64 0]) (by simp [results, Tryd.results50, go_sem]) rfl ⟨u, by rw [HE.out], by rw [HTT.out, List.length_map]; exact ho, hb1⟩
end Go.Proofs.YtaleaicfllcpiaaDoor.Fl
