/- The document's Cover; FieldCovers. -/
import Derived.Test.YtaleaicfllcpiaaCv
import Derived.Test.YtaleaicfllcpiaaSs
namespace Go.Proofs.Ytaleaicfllcpiaa.Fl
open Go.RowKit Mm Law
set_option linter.unusedVariables false
set_option linter.unusedSimpArgs false
set_option linter.unusedSectionVars false
set_option maxHeartbeats 4000000 in
theorem rcov_walk (b lo hi : Int) (wb : (Lit.int .i64 b).wf = true) (wl : (Lit.int .i64 lo).wf = true) (wh : (Lit.int .i64 hi).wf = true) (w : World) :
    Calls Try.prog 14 #[.int .i64 b, .int .i64 lo, .int .i64 hi] w (CovAns w b lo hi) := by
  by_cases hb : b < 1 ∨ 32 < b
  · have HE := Lib.hid (show cvE b lo hi = 1 from by unfold cvE; rw [if_pos hb])
    have hb' : b < 1 ∨ (1 ≤ b ∧ 32 < b) := by omega
    clear hb
    rcases hb' with hb | ⟨hb0, hb⟩
    all_goals
      go_enter Try.func14, Try.ntmps14
      go_wp2
      refine bodyPost_ret (v := .tuple #[.slice none 0 0, .int .i64 1]) (by simp [results, Try.results14, go_sem]) rfl (cov_err HE.out (by decide) (Below.refl _ _))
  · obtain ⟨B, rfl⟩ := Int.eq_ofNat_of_zero_le (show 0 ≤ b by omega)
    have b1 : 1 ≤ B := by omega
    have b2 : B ≤ 32 := by omega
    have hT := fun w => rtop_any B (by omega) w
    obtain ⟨ht1, ht2⟩ := top_lt B b2
    have HT := Lib.hid hT
    have i1 : 1 ≤ (B : Int) := by omega
    have i2 : (B : Int) ≤ 32 := by omega
    by_cases hv : lo < 0 ∨ (topN B : Int) < lo ∨ hi < 0 ∨ (topN B : Int) < hi
    · have HE := Lib.hid (show cvE B lo hi = 42 from by unfold cvE; rw [if_neg hb, if_pos (by rw [Int.toNat_natCast]; exact hv)])
      have hv' : lo < 0 ∨ (0 ≤ lo ∧ (topN B : Int) < lo) ∨ (0 ≤ lo ∧ lo ≤ (topN B : Int) ∧ hi < 0) ∨ (0 ≤ lo ∧ lo ≤ (topN B : Int) ∧ 0 ≤ hi ∧ (topN B : Int) < hi) := by omega
      clear hv hb hT ht1
      generalize topN B = T at *
      rcases hv' with h1 | ⟨h1, h2⟩ | ⟨h1, h2, h3⟩ | ⟨h1, h2, h3, h4⟩
      all_goals
        go_enter Try.func14, Try.ntmps14
        go_wp2_with (go_at_call 33; refine (HT.out _).mono ?_; rintro r w' ⟨rfl, rfl⟩)
        refine bodyPost_ret (v := .tuple #[.slice none 0 0, .int .i64 42]) (by simp [results, Try.results14, go_sem]) rfl (cov_err HE.out (by decide) (Below.refl _ _))
    · obtain ⟨L, rfl⟩ := Int.eq_ofNat_of_zero_le (show 0 ≤ lo by omega)
      obtain ⟨I, rfl⟩ := Int.eq_ofNat_of_zero_le (show 0 ≤ hi by omega)
      have l1 : (L : Int) ≤ (topN B : Int) := by omega
      have l2 : (I : Int) ≤ (topN B : Int) := by omega
      by_cases hr : I < L
      · have HE := Lib.hid (show cvE B L I = 43 from by unfold cvE; rw [if_neg hb, if_neg (by rw [Int.toNat_natCast]; exact hv), if_pos (by omega)])
        clear hv hb hT ht1
        generalize topN B = T at *
        go_enter Try.func14, Try.ntmps14
        go_wp2_with (go_at_call 33; refine (HT.out _).mono ?_; rintro r w' ⟨rfl, rfl⟩)
        refine bodyPost_ret (v := .tuple #[.slice none 0 0, .int .i64 43]) (by simp [results, Try.results14, go_sem]) rfl (cov_err HE.out (by decide) (Below.refl _ _))
      · obtain ⟨hE, hTT⟩ := rcov_ok B L I b1 b2 (by omega) (by omega)
        have HE := Lib.hid hE
        have HTT := Lib.hid hTT
        have hha := halves_any B L (I + 1) (I : Int) b2 (by omega) (by omega) (by omega) B 0 0 (by omega) (by omega)
        unfold HalAt at hha
        rw [hal_top B L (I + 1) (by omega)] at hha
        have HC := Lib.hid hha
        have hLI : L ≤ I := by omega
        clear hv hb hT ht1 hE hTT hr hha
        generalize topN B = T at *
        go_enter Try.func14, Try.ntmps14
        go_wp2_with (first | (go_at_call 33; refine (HT.out _).mono ?_; rintro r w' ⟨rfl, rfl⟩) | (go_at_call 34; refine (HC.out _).mono ?_; rintro r w1 ⟨u, rfl, ho, hb1⟩))
        refine bodyPost_ret (v := .tuple #[u, .int .i64 0]) (by simp [results, Try.results14, go_sem]) rfl ⟨u, by rw [HE.out], by rw [HTT.out, List.length_map]; exact ho, hb1⟩
set_option maxRecDepth 100000 in
set_option maxHeartbeats 2000000 in
theorem same_yes (T : List (List UInt8)) (v u : Value) (w : World) (hv : SeesS w v 1 T.length (sC T)) (hu : SeesS w u 1 T.length (sC T)) :
    Calls Try.prog 15 #[v, u] w fun e w' => e = .returned (.bool true) ∧ Below w.heap.size w w' := by
  obtain ⟨a0, cap0, rfl, hcap, hcm⟩ := hv.form
  obtain ⟨a1, cap1, rfl, hcap1, hcm1⟩ := hu.form
  have HX := Lib.hid hv
  have HX1 := Lib.hid hu
  unfold maxLen at hcm hcm1
  have hne : ((T.length : Int) != (T.length : Int)) = false := by simp
  clear hv hu
  go_enter Try.func15, Try.ntmps15
  go_wp2
  go_loopw [5] (fun i wr => ∃ k : Nat, k ≤ T.length ∧ i = .int .i64 k ∧ Below w.heap.size w wr) (fun i _ => T.length - (intOf i).toNat)
  case atStart => exact ⟨0, Nat.zero_le _, rfl, Below.refl _ _⟩
  case round =>
    obtain ⟨k, hk, rfl, hbel⟩ := hrel
    by_cases hlt : k < T.length
    · obtain ⟨_, g, off, rfl, hg, hq⟩ := HX.out.at (by omega)
      obtain ⟨_, g1, off1, rfl, hg1, hq1⟩ := HX1.out.at (by omega)
      have kat := sC_at T k T[k] (by simp [hlt])
      have q0 := hq _ _ kat
      have p0 := hq1 _ _ kat
      rw [← hbel.cell (p := ⟨g, off + k, none⟩) hg] at q0
      rw [← hbel.cell (p := ⟨g1, off1 + k, none⟩) hg1] at p0
      generalize str T[k] = z at *
      have hzz : (z.toList != z.toList) = false := by simp
      have hx1 : (k : Int) < (T.length : Int) := by omega
      have hx0 : (0 : Int) ≤ (k : Int) := by omega
      clear hq hq1 kat
      go_wp2
      go_quiet (fail)
      go_wp2
      go_roundw
      case rel => exact ⟨k + 1, by omega, by go_num, below_drewN hbel _⟩
      case measure => simp [intOf]; omega
    · go_wp2
      go_ret
      exact ⟨rfl, hbel⟩
def knownT : List (List UInt8) := [[48, 48, 49, 49], [48, 49, 120, 120], [49, 48, 48, 120]]
theorem known_cv : cvE 4 3 9 = 0 ∧ cvT 4 3 9 = knownT := by
  obtain ⟨a, b⟩ := rcov_ok 4 3 9 (by decide) (by decide) (by decide) (by decide)
  refine ⟨a, ?_⟩
  rw [show cvT 4 3 9 = _ from b, ← hal_top 4 3 10 (by decide)]
  decide
theorem new_strs (w : World) (T : List (List UInt8)) (h : T.length ≤ 1000) (n : Nat) (hn : n = T.length) : SeesS (w.alloc (.cells (sC T).toArray 9)) (.slice (some ⟨w.heap.size, 0, none⟩) n n) 1 T.length (sC T) := by
  subst hn
  refine ⟨_, _, rfl, (fun h => by cases h), Nat.le_refl _, by unfold maxLen; omega, by simp [sC], .inr ⟨w.heap.size, 0, rfl, by simp, fun j u hj => ?_⟩⟩
  rw [Nat.zero_add, cell_of_row _ w.heap.size j _ 9 (0, 0) (heap_alloc_new w _), ← Array.getElem?_toList]
  exact hj
set_option maxHeartbeats 1000000 in
theorem known_yes (w : World) : Calls Try.prog 16 #[] w fun e w' => e = .returned (.bool true) ∧ Below w.heap.size w w' := by
  have hc := fun w => cov_walk 4 3 9 rfl rfl rfl w
  unfold CovAns at hc
  rw [known_cv.1, known_cv.2] at hc
  have HC := Lib.hid hc
  clear hc
  go_enter Try.func16, Try.ntmps16
  go_wp2_with fail
  refine (HC.out _).mono ?_
  rintro e w1 ⟨u, rfl, ho, hb1⟩
  have HO := Lib.hid (SeesS.of_own ho)
  clear ho
  go_wp2_with fail
  refine (num_any _ _ (by decide)).mono ?_
  rintro e w' ⟨rfl, rfl⟩
  go_wp2_with fail
  refine (same_yes knownT _ _ _ (HO.out.below ((Below.refl _ _).alloc (Nat.le_refl _) _)) (new_strs w1 knownT (by decide) 3 rfl)).mono ?_
  rintro e w2 ⟨rfl, hb2⟩
  go_wp2_with fail
  go_ret
  exact ⟨rfl, bnx (bal hb1 _) hb2⟩
theorem cvE_form (b lo hi : Int) : -9223372036854775808 ≤ cvE b lo hi ∧ cvE b lo hi ≤ 9223372036854775807 := by
  unfold cvE
  split
  · decide
  · split
    · decide
    · split <;> decide
set_option maxHeartbeats 1000000 in
theorem covers_walk (b : Int) (wb : (Lit.int .i64 b).wf = true) (lo : Int) (wl : (Lit.int .i64 lo).wf = true) (hi : Int) (wh : (Lit.int .i64 hi).wf = true) (w : World) :
    Calls Try.prog 4 #[.int .i64 b, .int .i64 lo, .int .i64 hi] w fun e w' => e = .returned (.bool true) ∧ Below w.heap.size w w' := by
  have hC := fun w => cov_walk b lo hi wb wl wh w
  have hD := fun w => rcov_walk b lo hi wb wl wh w
  unfold CovAns at hC hD
  have hE := cvE_form b lo hi
  generalize cvE b lo hi = E at *
  generalize cvT b lo hi = T at *
  have hEE : (E == E) = true := by simp
  have HC := Lib.hid hC
  have HD := Lib.hid hD
  have HEF := Lib.hid hE
  clear hC hD hE wb wl wh
  go_enter Try.func4, Try.ntmps4
  go_wp2_with fail
  refine (HC.out _).mono ?_
  rintro e w1 ⟨u, rfl, ho, hb1⟩
  have HO := Lib.hid (SeesS.of_own ho)
  clear ho
  go_wp2_with fail
  refine (HD.out _).mono ?_
  rintro e w2 ⟨u2, rfl, ho2, hb2⟩
  have HO2 := Lib.hid (SeesS.of_own ho2)
  have g2 := bnx hb1 hb2
  clear ho2
  go_wp2_with fail
  refine (num_any _ _ HEF.out).mono ?_
  rintro e w' ⟨rfl, rfl⟩
  go_wp2_with fail
  refine (same_yes T _ _ _ (HO.out.below hb2) HO2.out).mono ?_
  rintro e w3 ⟨rfl, hb3⟩
  go_wp2_with fail
  refine (known_yes _).mono ?_
  rintro e w4 ⟨rfl, hb4⟩
  go_wp2_with fail
  go_ret
  exact ⟨rfl, bnx (bnx g2 hb3) hb4⟩
end Go.Proofs.Ytaleaicfllcpiaa.Fl
