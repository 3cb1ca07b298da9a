/- LedgerCuts. -/
import Derived.Test.YtcofndegcleicaaWr
namespace Go.Proofs.Ytcofndegcleicaa.Lg
open Go.RowKit Mm Law
theorem keyA_key : keyA = key := rfl
set_option maxRecDepth 100000 in
set_option maxHeartbeats 4000000 in
theorem cuts_walk (v : Value) (l : List Ent) (hw : ∀ x ∈ l, x.2.size ≤ maxLen ∧ (Lit.int .i64 x.1).wf = true) (x : Int) (hx : (Lit.int .i64 x).wf = true) (w : World) (hS : SeesS w v 2 l.length (esC l)) :
    Calls Try.prog 11 #[v, .int .i64 x] w fun e w' => e = .returned (.bool true) ∧ Below w.heap.size w w' := by
  have HWR := Lib.hid (fun w' (h : Below w.heap.size w w') => written_any l hw v w' (hS.below h))
  have hok := entsW_ok l
  have hn40 : (entsW l).length ≤ 40 := by rw [entsW_len]; omega
  have hDL := diskOf_len (entsW l) hok 1
  generalize entsW l = ws at *
  have hDN : (diskOf ws 1).length ≤ 656160 := by omega
  obtain ⟨c, hc, hcx⟩ : ∃ c : Nat, c ≤ (diskOf ws 1).length ∧ ((0 ≤ x ∧ x ≤ ((diskOf ws 1).length : Int) ∧ x = (c : Int)) ∨ ((x < 0 ∨ ((diskOf ws 1).length : Int) < x) ∧ c = (diskOf ws 1).length)) := by
    by_cases h : 0 ≤ x ∧ x ≤ ((diskOf ws 1).length : Int)
    · exact ⟨x.toNat, by omega, .inl ⟨h.1, h.2, by omega⟩⟩
    · exact ⟨_, Nat.le_refl _, .inr ⟨by omega, rfl⟩⟩
  obtain ⟨k1, k2, k3, k4⟩ := cut_law ws hok hn40 (by omega) c hc
  have HK1 := Lib.hid k1
  have HK2 := Lib.hid k2
  have HK3 := Lib.hid k3
  have HCX := Lib.hid hcx
  have hok2 := Lib.hid hok
  clear k1 k2 k3 hcx hok hw hS
  go_enter Try.func11, Try.ntmps11
  go_wp2_with fail
  refine (fixed_yes _).mono ?_
  rintro e w1 ⟨rfl, hb1⟩
  go_wp2_with fail
  refine (HWR.out _ hb1).mono ?_
  rintro e w2 ⟨u, d, rfl, hou, hod, hb2⟩
  have g2 := bnx hb1 hb2
  have HU := Lib.hid (SeesS.of_own hou)
  have HD := Lib.hid (Sees.of_own hod)
  obtain ⟨au, cu, rfl, hcu, hmu⟩ := HU.out.form
  obtain ⟨ad, cd, hd⟩ := own_len hod
  subst hd
  have hcd : (diskOf ws 1).length ≤ cd ∧ cd ≤ maxLen := by
    obtain ⟨_, cap, hv, _, hc1, hc2, _⟩ := HD.out
    simp only [Value.slice.injEq] at hv
    rw [bytesV_len] at hc1
    rw [hv.2.2]
    exact ⟨hc1, hc2⟩
  obtain ⟨hcd1, hcd2⟩ := hcd
  unfold maxLen at hcd2 hmu
  clear hou hod HWR hb1 hb2
  go_upto_region 7 with fail
  go_cut [31] (fun s31 wx => s31 = .bool (decide (x < 0 ∨ ((diskOf ws 1).length : Int) < x)) ∧ w2 = wx)
  case first =>
    by_cases h0 : x < 0
    · have HD := Lib.hid (decide_eq_true (show x < 0 ∨ ((diskOf ws 1).length : Int) < x from .inl h0))
      go_wp2_with fail
      go_meet
      exact ⟨by rw [HD.out], rfl⟩
    · have h0' : 0 ≤ x := by omega
      by_cases h1 : ((diskOf ws 1).length : Int) < x
      · have HD := Lib.hid (decide_eq_true (show x < 0 ∨ ((diskOf ws 1).length : Int) < x from .inr h1))
        clear h0
        go_wp2_with fail
        go_meet
        exact ⟨by rw [HD.out], rfl⟩
      · have HD := Lib.hid (decide_eq_false (show ¬ (x < 0 ∨ ((diskOf ws 1).length : Int) < x) from by omega))
        have h1' : x ≤ ((diskOf ws 1).length : Int) := by omega
        have d0 : decide (x < 0) = false := decide_eq_false h0
        have d1 : decide (((diskOf ws 1).length : Int) < x) = false := decide_eq_false h1
        clear h0 h1
        go_wp2_with fail
        go_meet
        exact ⟨by first | (rw [HD.out]; done) | (rw [HD.out]; rfl) | (rw [HD.out, d0, d1]; rfl), rfl⟩
  case rest =>
  obtain ⟨rfl, rfl⟩ := hcut
  go_upto_if 31 with fail
  go_cut [1] (fun s1 wx => s1 = .int .i64 (c : Int) ∧ w2 = wx)
  case first =>
    rcases HCX.out with ⟨x0, x1, rfl⟩ | ⟨hor, he⟩
    · rw [decide_eq_false (show ¬ ((c : Int) < 0 ∨ ((diskOf ws 1).length : Int) < (c : Int)) by omega)]
      go_wp2_with fail
      go_meet
      exact ⟨rfl, rfl⟩
    · rw [decide_eq_true hor]
      subst he
      clear hor
      go_wp2_with fail
      go_meet
      exact ⟨rfl, rfl⟩
  case rest =>
    obtain ⟨rfl, rfl⟩ := hcut
    have hSt := HD.out.take c (by rw [bytesV_len]; exact hc)
    rw [show (bytesV (diskOf ws 1)).take c = bytesV ((diskOf ws 1).take c) by unfold bytesV; rw [List.map_take]] at hSt
    have hwh := whole_any _ (by rw [List.length_take]; omega) _ _ hSt
    rw [HK2.out, HK3.out] at hwh
    generalize hcc : (if cutE ws c = c then (0 : Int) else 191) = cc at hwh
    have HCC := Lib.hid hcc
    have HWH := Lib.hid hwh
    clear hcc
    clear hwh hSt HCX
    go_wp2_with fail
    refine HWH.out.mono ?_
    rintro e w3 ⟨u2, rfl, ho3, hb3⟩
    have g3 := bnx g2 hb3
    have hlk : (whl ((diskOf ws 1).take c)).length = cutN ws c := by
      have := congrArg List.length HK1.out
      rw [List.length_map, List.length_take, numbered_len] at this
      omega
    have hS3 := SeesS.of_own ho3
    rw [rasC_key, keyA_key, HK1.out, hlk] at hS3
    have HS3 := Lib.hid hS3
    have HU3 := Lib.hid (HU.out.below hb3)
    clear HWH ho3 hlk hS3 HU HD hb3 HK1 HK2 HK3
    go_wp2_with fail
    go_loopw [11, 12] (fun a b wr => ∃ n e : Nat, a = .int .i64 n ∧ b = .int .i64 e ∧ n ≤ ws.length ∧ e ≤ c ∧ cutN ws c = n + cutN (ws.drop n) (c - e) ∧ cutE ws c = e + cutE (ws.drop n) (c - e) ∧ w3 = wr) (fun a _ _ => ws.length - (intOf a).toNat)
    case atStart => exact ⟨0, 0, rfl, rfl, Nat.zero_le _, Nat.zero_le _, by simp, by simp, rfl⟩
    case round =>
      obtain ⟨n, e, rfl, rfl, hn, he, h1, h2, rfl⟩ := hrel
      have H1 := Lib.hid h1
      have H2 := Lib.hid h2
      clear h1 h2
      by_cases hlt : n < ws.length
      · obtain ⟨_, g, off, rfl, hg, hq⟩ := HU3.out.at (by omega)
        have hwn : ws[n]? = some ws[n] := by simp [hlt]
        have q2 := hq _ _ (ksC_at (numbered ws 1) n _ (numbered_at ws n 1 _ hwn)).2.2
        have HWN := Lib.hid hwn
        have hwl : ws[n].2.length ≤ 16384 := (hok2.out _ (List.getElem_mem hlt)).2.2
        generalize ws[n] = x at *
        obtain ⟨kd, tx⟩ := x
        simp only at q2 hwl
        have hsl : (str tx).size = tx.length := str_size _
        rw [← Nat.add_assoc] at q2
        clear hq hwn
        by_cases hfit : e + tx.length + 20 ≤ c
        · obtain ⟨s1, s2⟩ := cut_step ws c n e (kd, tx) HWN.out H1.out H2.out hfit
          have HS1 := Lib.hid s1
          have HS2 := Lib.hid s2
          clear s1 s2
          go_wp2_with fail
          go_roundw
          case rel => exact ⟨n + 1, e + tx.length + 20, by go_num, by go_num, by omega, by omega, HS1.out, HS2.out, by first | rfl | trivial⟩
          case measure => simp [intOf]; omega
        · obtain ⟨s1, s2⟩ := cut_stop ws c n e H1.out H2.out (fun w hw => by rw [HWN.out] at hw; cases hw; simp only; omega) he
          have HS1 := Lib.hid s1
          have HS2 := Lib.hid s2
          have hnf : c < e + tx.length + 20 := by omega
          clear s1 s2 hfit
          have hkl : ((numbered ws 1).take n).length = n := by rw [List.length_take, numbered_len]; omega
          have hA : SeesS w3 u2 3 ((numbered ws 1).take n).length (ksC ((numbered ws 1).take n)) := by have := HS3.out; rw [HS1.out] at this; rw [hkl]; exact this
          have hB : SeesS w3 (.slice (some ⟨g, off, none⟩) n cu) 3 ((numbered ws 1).take n).length (ksC ((numbered ws 1).take n)) := by have := HU3.out.take n hn; rw [ksC_take] at this; rw [hkl]; exact this
          have HRY := Lib.hid (records_yes _ _ _ _ hA hB)
          have hne : ((cutE ws c : Int) != (e : Int)) = false := by rw [HS2.out]; simp
          clear hkl hA hB
          by_cases hec : e = c
          · have hc0 : cc = 0 := by rw [← HCC.out, HS2.out, if_pos hec]
            have he1 : ((e : Int) == (c : Int)) = true := by rw [hec]; simp
            clear HCC hec
            subst hc0
            go_wp2_with (go_at_call 25; refine HRY.out.mono ?_; rintro e9 w4 ⟨rfl, hb4⟩)
            go_ret
            exact ⟨rfl, bnx g3 hb4⟩
          · have hc0 : cc = 191 := by rw [← HCC.out, HS2.out, if_neg hec]
            have he1 : ((e : Int) == (c : Int)) = false := by rw [beq_eq_false_iff_ne]; omega
            clear HCC hec
            subst hc0
            go_wp2_with (go_at_call 25; refine HRY.out.mono ?_; rintro e9 w4 ⟨rfl, hb4⟩)
            go_ret
            exact ⟨rfl, bnx g3 hb4⟩
      · obtain ⟨s1, s2⟩ := cut_stop ws c n e H1.out H2.out (fun w hw => absurd (List.getElem?_eq_some_iff.1 hw).1 hlt) he
        have HS1 := Lib.hid s1
        have HS2 := Lib.hid s2
        have hnl : ws.length ≤ n := by omega
        clear s1 s2
        have hkl : ((numbered ws 1).take n).length = n := by rw [List.length_take, numbered_len]; omega
        have hA : SeesS w3 u2 3 ((numbered ws 1).take n).length (ksC ((numbered ws 1).take n)) := by have := HS3.out; rw [HS1.out] at this; rw [hkl]; exact this
        have hB : SeesS w3 (.slice au n cu) 3 ((numbered ws 1).take n).length (ksC ((numbered ws 1).take n)) := by have := HU3.out.take n hn; rw [ksC_take] at this; rw [hkl]; exact this
        have HRY := Lib.hid (records_yes _ _ _ _ hA hB)
        have hne : ((cutE ws c : Int) != (e : Int)) = false := by rw [HS2.out]; simp
        clear hkl hA hB
        by_cases hec : e = c
        · have hc0 : cc = 0 := by rw [← HCC.out, HS2.out, if_pos hec]
          have he1 : ((e : Int) == (c : Int)) = true := by rw [hec]; simp
          clear HCC hec
          subst hc0
          go_wp2_with (go_at_call 25; refine HRY.out.mono ?_; rintro e9 w4 ⟨rfl, hb4⟩)
          go_ret
          exact ⟨rfl, bnx g3 hb4⟩
        · have hc0 : cc = 191 := by rw [← HCC.out, HS2.out, if_neg hec]
          have he1 : ((e : Int) == (c : Int)) = false := by rw [beq_eq_false_iff_ne]; omega
          clear HCC hec
          subst hc0
          go_wp2_with (go_at_call 25; refine HRY.out.mono ?_; rintro e9 w4 ⟨rfl, hb4⟩)
          go_ret
          exact ⟨rfl, bnx g3 hb4⟩
end Go.Proofs.Ytcofndegcleicaa.Lg
