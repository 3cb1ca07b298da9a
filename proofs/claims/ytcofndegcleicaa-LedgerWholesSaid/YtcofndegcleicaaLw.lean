/- LedgerWholes. -/
import Derived.Test.YtcofndegcleicaaRc
namespace Go.Proofs.Ytcofndegcleicaa.Lg
open Go.RowKit Mm
set_option maxRecDepth 100000 in
set_option maxHeartbeats 4000000 in
theorem wholes_walk (v : Value) (l : List UInt8) (n : Int) (_ : (Lit.int .i64 n).wf = true) (w : World) (hS : Sees w v (bytesV l)) :
    Calls Try.prog 10 #[v, .int .i64 n] w fun e w' => e = .returned (.bool true) ∧ Below w.heap.size w w' := by
  obtain ⟨a0, cap0, hv, hN, hcap, hcm, _⟩ := id hS
  rw [bytesV_len] at hv hcap
  subst hv
  unfold maxLen at hcm
  by_cases hl : 200000 < l.length
  · clear hS hN
    go_enter Try.func10, Try.ntmps10
    go_wp2
    go_ret
    exact ⟨rfl, Below.refl _ _⟩
  · have hl' : l.length ≤ 200000 := by omega
    clear hl
    by_cases hn0 : n < 0
    · clear hS hN
      go_enter Try.func10, Try.ntmps10
      go_wp2
      go_ret
      exact ⟨rfl, Below.refl _ _⟩
    · by_cases hn1 : (l.length : Int) < n
      · clear hS hN
        have hn0' : 0 ≤ n := by omega
        clear hn0
        go_enter Try.func10, Try.ntmps10
        go_wp2
        go_ret
        exact ⟨rfl, Below.refl _ _⟩
      · obtain ⟨k, rfl⟩ := Int.eq_ofNat_of_zero_le (show 0 ≤ n by omega)
        have hk : k ≤ l.length := by omega
        clear hn0 hn1
        have hempty : (w.alloc (.cells #[] 5)).ownsRow w.heap.size 5 1 (.slice (some ⟨w.heap.size, 0, none⟩) 0 0) 0 (bytesV []) := World.ownsRow_made w #[] 0 (Nat.le_refl _) (by decide) rfl
        have HE := Lib.hid hempty
        have HS := Lib.hid hS
        have hq4 : ((whE (l.take k) : Int) == (whE (l.take k) : Int)) = true := by simp
        have hq5 : (codeOf (l.take k) (whE (l.take k)) == codeOf (l.take k) (whE (l.take k))) = true := by simp
        have hkc : k ≤ cap0 := by omega
        clear hempty hS
        go_enter Try.func10, Try.ntmps10
        go_upto_region 4 with (at_builtin; refine app_bytes HE.out (HS.out.alloc _) rfl rfl rfl rfl (by omega) (by simp) ?_; intro v1 w1 hown1 hg1)
        rw [List.nil_append, Nat.zero_add] at hown1
        have hb1 : Below w.heap.size w w1 := ((Below.refl _ w).alloc (Nat.le_refl _) _).trans (below_grown HE.out hg1 (by simp))
        have hS1 := HS.out.below hb1
        have hT1 := Sees.of_own hown1
        obtain ⟨a1, cap1, hv1, hN1, hc1, _, _⟩ := id hT1
        rw [bytesV_len] at hv1 hc1
        subst hv1
        have hk1 : k ≤ cap1 := by omega
        have hSk := hS1.take k (by rw [bytesV_len]; exact hk)
        have hTk := hT1.take k (by rw [bytesV_len]; exact hk)
        rw [show (bytesV l).take k = bytesV (l.take k) by unfold bytesV; rw [List.map_take]] at hSk hTk
        clear hg1 HE
        have hR1 := fun w' (h : Below w1.heap.size w1 w') => whole_any (l.take k) (by simp; omega) _ w' (hSk.below h)
        have hR2 := fun w' (h : Below w1.heap.size w1 w') => rwhole_any (l.take k) (by simp; omega) _ w' (hTk.below h)
        have HSO := Lib.hid (fun (w' : World) (B : Nat) (u : Value) (h : w'.ownsRow B 27 3 u (whl (l.take k)).length (rasC (whl (l.take k)))) => (by have := SeesS.of_own h; rw [rasC_key] at this; rw [List.length_map]; exact this : SeesS w' u 3 ((whl (l.take k)).map keyA).length (ksC ((whl (l.take k)).map keyA))))
        have HSO2 := Lib.hid (fun (w' : World) (B : Nat) (u : Value) (h : w'.ownsRow B 27 3 u (whl (l.take k)).length (ksC ((whl (l.take k)).map keyA))) => (by have := SeesS.of_own h; rw [List.length_map]; exact this : SeesS w' u 3 ((whl (l.take k)).map keyA).length (ksC ((whl (l.take k)).map keyA))))
        have HR1 := Lib.hid hR1
        have HR2 := Lib.hid hR2
        have HK := Lib.hid (fun w' (h : Below w1.heap.size w1 w') => kept_yes l _ _ w' (hS1.below h) (hT1.below h))
        clear hR1 hR2 hSk hTk hT1 hS1 hown1 HS
        cases a0 with
        | none =>
          have c0 := hN rfl
          have hl0 : l = [] := List.eq_nil_of_length_eq_zero (by omega)
          have hk0 : k = 0 := by omega
          subst hl0 hk0
          simp only [List.length_nil] at *
          subst c0
          clear hN hcap hcm hk hl' hkc hk1 hc1
          cases a1 with
          | none =>
            have c1 := hN1 rfl
            subst c1
            clear hN1
            go_wp2_with fail
            refine (HR1.out _ (Below.refl _ _)).mono ?_
            rintro e w2 ⟨x1, rfl, ho2, hb2⟩
            go_wp2_with fail
            refine (HR2.out _ hb2).mono ?_
            rintro e w3 ⟨x2, rfl, ho3, hb3⟩
            have g3 := bnx hb2 hb3
            have hV1 := (HSO.out _ _ _ ho2).below hb3
            have hV2 := HSO2.out _ _ _ ho3
            go_wp2_with fail
            refine (records_yes _ _ _ _ hV1 hV2).mono ?_
            rintro e w4 ⟨rfl, hb4⟩
            have g4 := bnx g3 hb4
            go_wp2_with fail
            refine (HK.out _ g4).mono ?_
            rintro e w5 ⟨rfl, hb5⟩
            have g5 := bnx g4 hb5
            go_wp2_with fail
            refine (fixed_yes _).mono ?_
            rintro e w6 ⟨rfl, hb6⟩
            go_wp2_with fail
            go_ret
            exact ⟨rfl, bnx (bnx hb1 g5) hb6⟩
          | some ad1 =>
            clear hN1
            go_wp2_with fail
            refine (HR1.out _ (Below.refl _ _)).mono ?_
            rintro e w2 ⟨x1, rfl, ho2, hb2⟩
            go_wp2_with fail
            refine (HR2.out _ hb2).mono ?_
            rintro e w3 ⟨x2, rfl, ho3, hb3⟩
            have g3 := bnx hb2 hb3
            have hV1 := (HSO.out _ _ _ ho2).below hb3
            have hV2 := HSO2.out _ _ _ ho3
            go_wp2_with fail
            refine (records_yes _ _ _ _ hV1 hV2).mono ?_
            rintro e w4 ⟨rfl, hb4⟩
            have g4 := bnx g3 hb4
            go_wp2_with fail
            refine (HK.out _ g4).mono ?_
            rintro e w5 ⟨rfl, hb5⟩
            have g5 := bnx g4 hb5
            go_wp2_with fail
            refine (fixed_yes _).mono ?_
            rintro e w6 ⟨rfl, hb6⟩
            go_wp2_with fail
            go_ret
            exact ⟨rfl, bnx (bnx hb1 g5) hb6⟩
        | some ad =>
          cases a1 with
          | none =>
            have c1 := hN1 rfl
            have hl0 : l = [] := List.eq_nil_of_length_eq_zero (by omega)
            have hk0 : k = 0 := by omega
            subst hl0 hk0
            simp only [List.length_nil] at *
            subst c1
            clear hN hN1 hcap hcm hk hl' hkc hk1 hc1
            go_wp2_with fail
            refine (HR1.out _ (Below.refl _ _)).mono ?_
            rintro e w2 ⟨x1, rfl, ho2, hb2⟩
            go_wp2_with fail
            refine (HR2.out _ hb2).mono ?_
            rintro e w3 ⟨x2, rfl, ho3, hb3⟩
            have g3 := bnx hb2 hb3
            have hV1 := (HSO.out _ _ _ ho2).below hb3
            have hV2 := HSO2.out _ _ _ ho3
            go_wp2_with fail
            refine (records_yes _ _ _ _ hV1 hV2).mono ?_
            rintro e w4 ⟨rfl, hb4⟩
            have g4 := bnx g3 hb4
            go_wp2_with fail
            refine (HK.out _ g4).mono ?_
            rintro e w5 ⟨rfl, hb5⟩
            have g5 := bnx g4 hb5
            go_wp2_with fail
            refine (fixed_yes _).mono ?_
            rintro e w6 ⟨rfl, hb6⟩
            go_wp2_with fail
            go_ret
            exact ⟨rfl, bnx (bnx hb1 g5) hb6⟩
          | some ad1 =>
            clear hN hN1
            go_wp2_with fail
            refine (HR1.out _ (Below.refl _ _)).mono ?_
            rintro e w2 ⟨x1, rfl, ho2, hb2⟩
            go_wp2_with fail
            refine (HR2.out _ hb2).mono ?_
            rintro e w3 ⟨x2, rfl, ho3, hb3⟩
            have g3 := bnx hb2 hb3
            have hV1 := (HSO.out _ _ _ ho2).below hb3
            have hV2 := HSO2.out _ _ _ ho3
            go_wp2_with fail
            refine (records_yes _ _ _ _ hV1 hV2).mono ?_
            rintro e w4 ⟨rfl, hb4⟩
            have g4 := bnx g3 hb4
            go_wp2_with fail
            refine (HK.out _ g4).mono ?_
            rintro e w5 ⟨rfl, hb5⟩
            have g5 := bnx g4 hb5
            go_wp2_with fail
            refine (fixed_yes _).mono ?_
            rintro e w6 ⟨rfl, hb6⟩
            go_wp2_with fail
            go_ret
            exact ⟨rfl, bnx (bnx hb1 g5) hb6⟩
end Go.Proofs.Ytcofndegcleicaa.Lg
