/- The document's Cover; FieldCovers. -/
import Derived.Test.YtaleaicfllcpiaaDoorCv
import Derived.Test.YtaleaicfllcpiaaDoorSs
namespace Go.Proofs.YtaleaicfllcpiaaDoor.Fl
open Go.RowKit Mm Law
set_option linter.unusedVariables false
set_option linter.unusedSimpArgs false
set_option linter.unusedSectionVars false
set_option maxRecDepth 100000 in
set_option maxHeartbeats 2000000 in
theorem same_yes (T : List (List UInt8)) (v u : Value) (w : World) (hv : SeesS w v 1 T.length (sC T)) (hu : SeesS w u 1 T.length (sC T)) :
    Calls Tryd.prog 26 #[v, u] w fun e w' => e = .returned (.bool true) ∧ Below w.heap.size w w' := by
  obtain ⟨a0, cap0, rfl, hcap, hcm⟩ := hv.form
  obtain ⟨a1, cap1, rfl, hcap1, hcm1⟩ := hu.form
  have HX := Lib.hid hv
  have HX1 := Lib.hid hu
  unfold maxLen at hcm hcm1
  have hne : ((T.length : Int) != (T.length : Int)) = false := by simp
  clear hv hu
  go_enter Tryd.func26, Tryd.ntmps26
  go_wp2
  go_loopw [5] (fun i wr => ∃ k : Nat, k ≤ T.length ∧ i = .int .i64 k ∧ Below w.heap.size w wr) (fun i _ => T.length - (intOf i).toNat)
  case atStart => exact ⟨0, Nat.zero_le _, rfl, Below.refl _ _⟩
  case round =>
    obtain ⟨k, hk, rfl, hbel⟩ := hrel
    by_cases hlt : k < T.length
    · obtain ⟨_, g, off, rfl, hg, hq⟩ := HX.out.at (by omega)
      obtain ⟨_, g1, off1, rfl, hg1, hq1⟩ := HX1.out.at (by omega)
      have kat := sC_at T k T[k] (by simp [hlt])
      have q0 := hq _ _ kat
      have p0 := hq1 _ _ kat
      rw [← hbel.cell (p := ⟨g, off + k, none⟩) hg] at q0
      rw [← hbel.cell (p := ⟨g1, off1 + k, none⟩) hg1] at p0
      generalize str T[k] = z at *
      have hzz : (z.toList != z.toList) = false := by simp
      have hx1 : (k : Int) < (T.length : Int) := by omega
      have hx0 : (0 : Int) ≤ (k : Int) := by omega
      clear hq hq1 kat
      go_wp2
      go_quiet (fail)
      go_wp2
      go_roundw
      case rel => exact ⟨k + 1, by omega, by go_num, below_drewN hbel _⟩
      case measure => simp [intOf]; omega
    · go_wp2
      go_ret
      exact ⟨rfl, hbel⟩
def knownT : List (List UInt8) := [[48, 48, 49, 49], [48, 49, 120, 120], [49, 48, 48, 120]]
theorem known_cv : cvE 4 3 9 = 0 ∧ cvT 4 3 9 = knownT := by
  obtain ⟨a, b⟩ := rcov_ok 4 3 9 (by decide) (by decide) (by decide) (by decide)
  refine ⟨a, ?_⟩
  rw [show cvT 4 3 9 = _ from b, ← hal_top 4 3 10 (by decide)]
  decide
theorem new_strs (w : World) (T : List (List UInt8)) (h : T.length ≤ 1000) (n : Nat) (hn : n = T.length) : SeesS (w.alloc (.cells (sC T).toArray 9)) (.slice (some ⟨w.heap.size, 0, none⟩) n n) 1 T.length (sC T) := by
  subst hn
  refine ⟨_, _, rfl, (fun h => by cases h), Nat.le_refl _, by unfold maxLen; omega, by simp [sC], .inr ⟨w.heap.size, 0, rfl, by simp, fun j u hj => ?_⟩⟩
  rw [Nat.zero_add, cell_of_row _ w.heap.size j _ 9 (0, 0) (heap_alloc_new w _), ← Array.getElem?_toList]
  exact hj
set_option maxRecDepth 100000 in
set_option maxHeartbeats 1000000 in
theorem known_yes (w : World) : Calls Tryd.prog 20 #[] w fun e w' => e = .returned (.bool true) ∧ Below w.heap.size w w' := by
  have hc := fun w => cov_walk 4 3 9 rfl rfl rfl w
  unfold CovAns at hc
  rw [known_cv.1, known_cv.2] at hc
  have HC := Lib.hid hc
  clear hc
  go_enter Tryd.func20, Tryd.ntmps20
  go_wp2_with fail
  refine (HC.out _).mono ?_
  rintro e w1 ⟨u, rfl, ho, hb1⟩
  have HO := Lib.hid (SeesS.of_own ho)
  clear ho
  go_wp2_with fail
  refine (num_any _ _ (by decide)).mono ?_
  rintro e w' ⟨rfl, rfl⟩
  go_wp2_with fail
  refine (same_yes knownT _ _ _ (HO.out.below ((Below.refl _ _).alloc (Nat.le_refl _) _)) (new_strs w1 knownT (by decide) 3 rfl)).mono ?_
  rintro e w2 ⟨rfl, hb2⟩
  go_wp2_with fail
  go_ret
  exact ⟨rfl, bnx (bal hb1 _) hb2⟩
theorem cvE_form (b lo hi : Int) : -9223372036854775808 ≤ cvE b lo hi ∧ cvE b lo hi ≤ 9223372036854775807 := by
  unfold cvE
  split
  · decide
  · split
    · decide
    · split <;> decide
end Go.Proofs.YtaleaicfllcpiaaDoor.Fl
