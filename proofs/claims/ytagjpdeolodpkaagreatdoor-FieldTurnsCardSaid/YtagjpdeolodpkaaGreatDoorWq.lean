/- The document's Word. -/
import Derived.Test.YtagjpdeolodpkaaGreatDoorWo
import Derived.Test.YtagjpdeolodpkaaGreatDoorHd
import Derived.Test.YtagjpdeolodpkaaGreatDoorJG
namespace Go.Proofs.YtagjpdeolodpkaaGreatDoor.Fl
open Go.RowKit Mm Law
set_option linter.unusedVariables false
set_option linter.unusedSimpArgs false
set_option linter.unusedSectionVars false
def WdAns (w : World) (l S : List Fld) (e : Ending) (w' : World) : Prop := e = .returned (.tuple #[.string (str (wdA l S).2), .int .i64 (wdA l S).1]) ∧ Below w.heap.size w w'
theorem wd_ans {w : World} {l S : List Fld} {s : ByteArray} {c : Int} {t : List UInt8} (h : wdA l S = (c, t)) (hs : s = str t) {w' : World} (hb : Below w.heap.size w w') : WdAns w l S (.returned (.tuple #[.string s, .int .i64 c])) w' := by
  unfold WdAns
  rw [h, hs]
  exact ⟨rfl, hb⟩
theorem str_split (W H : List UInt8) (p q : Nat) : (str W).extract 0 p ++ str H ++ (str W).extract q (str W).size = str (W.take p ++ H ++ W.drop q) := by
  have e1 : (str W).extract 0 p = str (W.take p) := by rw [str_takeF, str_list]
  have e2 : (str W).extract q (str W).size = str (W.drop q) := by
    apply ByteArray.ext
    rw [← Array.toList_inj]
    simp [str, ByteArray.data_extract, ByteArray.size]
    rw [List.take_of_length_le (by simp)]
  rw [e1, e2, str_app, str_app]
/-- the cells of a list of fields, at every later world -/
theorem cells_later {w : World} {l : List Fld} {a0 : Option Addr} (hx : l = [] ∨ ∃ b off, a0 = some ⟨b, off, none⟩ ∧ b < w.heap.size ∧ ∀ j f, l[j]? = some f → w.cell? ⟨b, off + j * 2, none⟩ = some (.string f.1) ∧ w.cell? ⟨b, off + (j * 2 + 1), none⟩ = some (.int .i64 f.2)) (h0 : 0 < l.length) :
    ∃ g off, a0 = some ⟨g, off, none⟩ ∧ g < w.heap.size ∧ ∀ w', Below w.heap.size w w' → ∀ j f, l[j]? = some f → w'.cell? ⟨g, off + j * 2, none⟩ = some (.string f.1) ∧ w'.cell? ⟨g, off + j * 2 + 1, none⟩ = some (.int .i64 f.2) := by
  rcases hx with rfl | ⟨g, off, ha, hg, hq⟩
  · simp at h0
  · refine ⟨g, off, ha, hg, fun w' hb j f hj => ?_⟩
    have h := hq j f hj
    rw [hb.cell (p := ⟨g, off + j * 2, none⟩) hg, Nat.add_assoc, hb.cell (p := ⟨g, off + (j * 2 + 1), none⟩) hg]
    exact h
set_option maxRecDepth 100000 in
set_option maxHeartbeats 8000000 in
theorem rword_any (l S : List Fld) (v u : Value) (w : World) (hv : SeesF w v l) (hu : SeesF w u S) :
    Calls Tryz.prog 12 #[v, u] w (WdAns w l S) := by
  have HCK := Lib.hid (fun w' (h : Below w.heap.size w w') => rcheck_any l v w' (hv.below h))
  have HV := Lib.hid hv
  obtain ⟨a0, cap0, rfl, hcap, hcm, hx, hw⟩ := hv
  obtain ⟨a1, cap1, rfl, hcap1, hcm1, hx1, hw1⟩ := hu
  have HX := Lib.hid hx
  have HX1 := Lib.hid hx1
  have HW1 := Lib.hid hw1
  unfold maxLen at hcm hcm1
  obtain ⟨c1, c2, hcc⟩ : ∃ c1 c2, chk l = (c1, c2) := ⟨_, _, rfl⟩
  rw [hcc] at HCK
  have h1 : (chk l).1 = c1 := by rw [hcc]
  clear hx hw hcc hx1 hw1
  by_cases h12 : 12 < S.length
  · have HA := Lib.hid (wd_long (l := l) h12)
    go_enter Tryz.func12, Tryz.ntmps12
    go_wp2_with fail
    refine bodyPost_ret (v := .tuple #[.string ⟨#[]⟩, .int .i64 2]) (by simp [results, Tryz.results12, go_sem]) rfl (wd_ans HA.out rfl (Below.refl _ _))
  · have h12' : S.length ≤ 12 := by omega
    by_cases hc : c1 = 0
    · subst hc
      have HZ := Lib.hid (chk_zero h1)
      have HA := Lib.hid (wd_go h12 h1)
      obtain ⟨hl0, hl12, -⟩ := HZ.out
      have HRW := Lib.hid (fun w' (h : Below w.heap.size w w') => rwidth_any l _ w' (HV.out.below h) hl12 HZ.out.2.2)
      have hsb := sum_bd HZ.out.2.2 l.length (Nat.le_refl _)
      have hwn : sumTo l l.length = (widN l : Int) := by unfold widN; omega
      have hwb : widN l ≤ 384 := by omega
      rw [hwn] at HRW
      have HXS := Lib.hid (fun w => xs_any (widN l) (by omega) w)
      have HRL := Lib.hid (show (List.replicate (widN l) (120 : UInt8)).length = widN l from by simp)
      have HPL := Lib.hid (fun w' t (h : Below w.heap.size w w') => rplace_any l _ t w' (HV.out.below h) hl12 HZ.out.2.2)
      clear h1 h12 hsb hwn
      generalize List.replicate (widN l) (120 : UInt8) = W0 at *
      generalize hN : widN l = N at *
      have HN := Lib.hid hN
      clear hN
      go_enter Tryz.func12, Tryz.ntmps12
      go_wp2_with (first | (go_at_call 7; refine (HCK.out _ (Below.refl _ _)).mono ?_; rintro e w1 ⟨rfl, hb1⟩) | (go_at_call 31; refine (HRW.out _ hb1).mono ?_; rintro e w' ⟨rfl, rfl⟩) | (go_at_call 33; refine (HXS.out _).mono ?_; rintro e w2 ⟨rfl, hb2⟩))
      have HB2 := Lib.hid (bnx hb1 hb2)
      clear hb1 hb2 HRW HXS HCK
      go_loopw [8, 9] (fun t i wr => ∃ (k : Nat) (W : List UInt8), k ≤ S.length ∧ i = .int .i64 (k : Int) ∧ t = .string (str W) ∧ W.length = N ∧ wdR l [] S W0 = wdR l (S.take k) (S.drop k) W ∧ Below w.heap.size w wr) (fun _ i _ => S.length - (intOf i).toNat)
      case atStart => exact ⟨0, W0, Nat.zero_le _, rfl, rfl, HRL.out, rfl, HB2.out⟩
      case round =>
        obtain ⟨k, W, hk, rfl, rfl, hWl, hwd, hbel⟩ := hrel
        have HWD := Lib.hid (HA.out.trans hwd)
        have HWL := Lib.hid hWl
        clear hwd hWl
        by_cases hlt : k < S.length
        · obtain ⟨g1, off1, rfl, hg1, hq1⟩ := cells_later HX1.out (by omega)
          obtain ⟨g0, off0, rfl, hg0, hq0⟩ := cells_later HX.out hl0
          have HQ1 := Lib.hid hq1
          have HQ0 := Lib.hid hq0
          have hSk : S[k]? = some S[k] := by simp [hlt]
          have HWB := Lib.hid (wd_bad (l := l) (W := W) hlt)
          have HWO := Lib.hid (wd_ok (l := l) (W := W) hlt)
          have HTK := Lib.hid (show (∃ g ∈ S.take k, g.1 = S[k].1) ↔ ∃ (j : Nat) (hj : j < S.length), j < k ∧ S[j].1 = S[k].1 from by
            constructor
            · rintro ⟨g, hg, he⟩
              obtain ⟨j, hj, rfl⟩ := List.getElem_of_mem hg
              rw [List.length_take] at hj
              exact ⟨j, by omega, by omega, by rw [List.getElem_take] at he; exact he⟩
            · rintro ⟨j, hj, hjk, he⟩
              exact ⟨S[j], by rw [List.mem_take_iff_getElem]; exact ⟨j, by omega, rfl⟩, he⟩)
          have hsz := (HW1.out S[k] (List.getElem_mem hlt)).1
          clear hq0 hq1
          generalize S[k] = s at *
          have HSK := Lib.hid hSk
          clear hSk
          obtain ⟨q0, q1⟩ := HQ1.out _ hbel k s HSK.out
          by_cases hix : idxF l s.1 < l.length
          · obtain ⟨e1, e2, e3, e4, e5, e6, e7⟩ := plc_fits HZ.out.2.2 hix
            have hp := HPL.out wr s.1 hbel
            rw [e1, e2] at hp
            have HP := Lib.hid hp
            have hli : l[idxF l s.1]? = some l[idxF l s.1] := by simp [hix]
            obtain ⟨_, f1⟩ := HQ0.out _ hbel _ _ hli
            have HE3 := Lib.hid e3
            have HLI := Lib.hid hli
            clear hp e1 e2 e7 hli f1 e3
            have HIX := Lib.hid hix
            have HB42 := Lib.hid (bad_42 (pre := S.take k) hix)
            have HB0 := Lib.hid (bad_0 (pre := S.take k) hix)
            have HB45 := Lib.hid (bad_45 (pre := S.take k) hix)
            have HST := Lib.hid (show stepW l W s = W.take (plcN l s) ++ hiB s.2.toNat (bitN l s) (bitN l s) ++ W.drop (plcN l s + bitN l s) from rfl)
            have HSL := Lib.hid (stepW_len (l := l) (W := W) (s := s) (by rw [HWL.out, ← HN.out]; exact e6))
            rw [HN.out] at e6
            have ix1 : (idxF l s.1 : Int) < (l.length : Int) := by omega
            generalize idxF l s.1 = ix at *
            generalize plcN l s = P at *
            generalize bitN l s = B at *
            go_wp2_with (go_at_call 30; refine HP.out.mono ?_; rintro e w3 ⟨rfl, hb3⟩)
            have HG3 := Lib.hid (bnx hbel hb3)
            clear hb3 hbel q0 q1
            go_loopw [12] (fun j wr' => ∃ m : Nat, m ≤ k ∧ j = .int .i64 (m : Int) ∧ (∀ (i : Nat) (hi : i < S.length), i < m → ¬ S[i].1 = s.1) ∧ Below w.heap.size w wr') (fun j _ => k - (intOf j).toNat)
            case atStart => exact ⟨0, Nat.zero_le _, rfl, fun i _ h => absurd h (by omega), HG3.out⟩
            case round =>
              obtain ⟨m, hm, rfl, hnd, hbm⟩ := hrel
              have HND := Lib.hid hnd
              clear hnd
              by_cases hmk : m < k
              · have hSm : S[m]? = some S[m] := by simp [show m < S.length by omega]
                have HDU := Lib.hid (fun (h : S[m].1 = s.1) => HB45.out (HTK.out.2 ⟨m, by omega, hmk, h⟩))
                have HFN := Lib.hid (fun (h : ¬ S[m].1 = s.1) (i : Nat) (hi : i < S.length) (hh : i < m + 1) => show ¬ S[i].1 = s.1 from by rcases Nat.lt_succ_iff_lt_or_eq.1 hh with h1 | rfl; exact HND.out i hi h1; exact h)
                generalize S[m] = r at *
                obtain ⟨m0, _⟩ := HQ1.out _ hbm m r hSm
                obtain ⟨q0, _⟩ := HQ1.out _ hbm k s HSK.out
                have y0 : (0 : Int) ≤ (m : Int) := by omega
                have y1 : (m : Int) < (S.length : Int) := by omega
                have y2 : (0 : Int) ≤ (k : Int) := by omega
                have y3 : (k : Int) < (S.length : Int) := by omega
                clear hSm
                by_cases he : r.1 = s.1
                · have HD := Lib.hid (HDU.out he)
                  have hee : (r.1.toList == s.1.toList) = true := by rw [he]; simp
                  clear he
                  generalize r.1 = rn at *
                  go_upto_region 16 with fail
                  go_quiet (fail)
                  go_wp2
                  refine bodyPost_ret (v := .tuple #[.string ⟨#[]⟩, .int .i64 45]) (by simp [results, Tryz.results12, go_sem]) rfl (wd_ans (by rw [HWD.out, HWB.out (by rw [HD.out]; decide), HD.out]) rfl (below_drewN hbm _))
                · have HF := Lib.hid (HFN.out he)
                  have hee := str_ne he
                  clear he
                  generalize r.1 = rn at *
                  go_upto_region 16 with fail
                  go_quiet (fail)
                  go_wp2
                  go_roundw
                  case rel => exact ⟨m + 1, by omega, by go_num, HF.out, below_drewN hbm _⟩
                  case measure => simp [intOf]; omega
              · have HNE := Lib.hid (show ¬ ∃ g ∈ S.take k, g.1 = s.1 from fun h => by obtain ⟨j, hj, hjk, he⟩ := HTK.out.1 h; exact HND.out j hj (by omega) he)
                obtain ⟨q0, q1⟩ := HQ1.out _ hbm k s HSK.out
                obtain ⟨_, f1⟩ := HQ0.out _ hbm _ _ HLI.out
                rw [← HE3.out] at f1
                have x0 : (0 : Int) ≤ (k : Int) := by omega
                have x1 : (k : Int) < (S.length : Int) := by omega
                have hmm : (k : Int) ≤ (m : Int) := by omega
                have HT := Lib.hid (fun w => rtop_any B (by omega) w)
                have HB42' := Lib.hid (HB42.out HNE.out)
                have HB0' := Lib.hid (HB0.out HNE.out)
                generalize hz : s.2 = z at *
                clear q0
                by_cases hz0 : z < 0
                · have HD := Lib.hid (HB42'.out (.inl hz0))
                  have hdz : decide (z < 0) = true := decide_eq_true hz0
                  go_upto_region 19 with fail
                  go_quiet ((go_at_call 36; exact Calls.quiet_of_same (swp (HT.out _))))
                  go_wp2
                  refine bodyPost_ret (v := .tuple #[.string ⟨#[]⟩, .int .i64 42]) (by simp [results, Tryz.results12, go_sem]) rfl (wd_ans (by rw [HWD.out, HWB.out (by rw [HD.out]; decide), HD.out]) rfl (below_drewN hbm _))
                · have hz1 : 0 ≤ z := by omega
                  have hdz : decide (z < 0) = false := decide_eq_false hz0
                  by_cases hzt : (topN B : Int) < z
                  · have HD := Lib.hid (HB42'.out (.inr hzt))
                    clear hz0
                    generalize topN B = T at *
                    go_upto_region 19 with fail
                    go_quiet ((go_at_call 36; exact Calls.quiet_of_same (swp (HT.out _))))
                    go_wp2
                    refine bodyPost_ret (v := .tuple #[.string ⟨#[]⟩, .int .i64 42]) (by simp [results, Tryz.results12, go_sem]) rfl (wd_ans (by rw [HWD.out, HWB.out (by rw [HD.out]; decide), HD.out]) rfl (below_drewN hbm _))
                  · have HD := Lib.hid (HB0'.out (fun h => by rcases h with h | h <;> omega))
                    obtain ⟨Z, rfl⟩ := Int.eq_ofNat_of_zero_le hz1
                    have hZt : Z ≤ topN B := by omega
                    have hZ32 : Z < 4294967296 := by have := top_lt B e5; omega
                    have hzt' : (Z : Int) ≤ (topN B : Int) := by omega
                    have hztn : ¬ topN B < Z := by omega
                    rw [Int.toNat_natCast] at HST
                    clear hz0 hzt
                    generalize topN B = T at *
                    have HDG := Lib.hid (fun w => digits_any Z B hZ32 e5 w)
                    go_upto_region 19 with fail
                    go_quiet ((go_at_call 36; exact Calls.quiet_of_same (swp (HT.out _))))
                    have HSP := Lib.hid (str_split W (hiB Z B B) P (P + B))
                    have HZL := Lib.hid (show (str (hiB Z B B)).size = B from by rw [str_size, hiB_len])
                    have hwl : (str W).size = N := by rw [str_size]; exact HWL.out
                    go_upto_region 21 with fail
                    generalize str (hiB Z B B) = zs at *
                    generalize hws : str W = ws at *
                    have HWS := Lib.hid hws
                    generalize hwd : wr.drewN nq = V
                    have hbV : Below w.heap.size w V := by rw [← hwd]; exact below_drewN hbm nq
                    have qV : V.cell? ⟨g1, off1 + k * 2 + 1, none⟩ = some (.int .i64 (Z : Int)) := by rw [← hwd]; exact q1
                    clear hwd q1 f1 hws hz
                    have hgV : g1 < V.heap.size := Nat.lt_of_lt_of_le hg1 hbV.size
                    have hK0 : Hd1 V g1 (off1 + k * 2 + 1) (.int .i64 (Z : Int)) V.drew := ⟨qV, (Below.refl _ _).drew⟩
                    have hwpb : IntKind.i64.wrap ((P : Int) + (B : Int)) = ((P + B : Nat) : Int) := by rw [IntWalk.i64_in _ (by omega)]; omega
                    have n1 : P ≤ ws.size := by omega
                    have n2 : (P : Int) ≤ (ws.size : Int) := by omega
                    have n3 : P + B ≤ ws.size := by omega
                    have n4 : (P : Int) + (B : Int) ≤ (ws.size : Int) := by omega
                    have n5 : (0 : Int) ≤ (P : Int) + (B : Int) := by omega
                    have n6 : (0 : Int) ≤ (P : Int) := by omega
                    have hzs : zs.size ≤ 32 := by have := HZL.out; omega
                    have hws8 : ws.size ≤ 384 := by omega
                    have n7 : ¬ 9223372036854775807 < P + zs.size := by omega
                    have n8 : ¬ 9223372036854775807 < P + zs.size + (ws.size - (P + B)) := by omega
                    have n9 : ¬ 9223372036854775807 < P + zs.size + (ws.size - ((P : Int) + (B : Int)).toNat) := by omega
                    have HWZ := Lib.hid hwl
                    clear hwl
                    go_region_held3 (fun w' => Hd1 V g1 (off1 + k * 2 + 1) (.int .i64 (Z : Int)) w')
                      (with_reducible (first | assumption | exact hK0 | exact hK2))
                      (first | (go_at_call 37; refine (HDG.out _).mono ?_; rintro e w9 ⟨rfl, hb9⟩; have hK2 := Hd1.go hgV (by assumption : Hd1 _ _ _ _ _) hb9))
                    all_goals
                      have hg6 := bnx hbV (by assumption : Hd1 _ _ _ _ _).2
                      go_wp2
                      go_roundw
                      case rel => exact ⟨k + 1, stepW l W s, by omega, by go_num, by rw [HST.out, ← HSP.out, show ((P : Int) + (B : Int)).toNat = P + B by omega], by rw [HSL.out]; exact HWL.out, by rw [← HWO.out HD.out, ← HWD.out]; exact HA.out.symm, hg6⟩
                      case measure => simp [intOf]; omega
          · have HB := Lib.hid (HWB.out (by rw [bad_41 hix]; decide))
            have HB2 := Lib.hid (bad_41 (pre := S.take k) hix)
            have hp := HPL.out wr s.1 hbel
            unfold plcI idxI at hp
            rw [if_neg hix, if_neg hix] at hp
            have HP := Lib.hid hp
            clear hp hix
            go_wp2_with (go_at_call 30; refine HP.out.mono ?_; rintro e w3 ⟨rfl, hb3⟩)
            refine bodyPost_ret (v := .tuple #[.string ⟨#[]⟩, .int .i64 41]) (by simp [results, Tryz.results12, go_sem]) rfl (wd_ans (by rw [HWD.out, HB.out, HB2.out]) rfl (bnx hbel hb3))
        · have HO := Lib.hid (wd_end l S W (k := k) (by omega))
          go_wp2_with fail
          refine bodyPost_ret (v := .tuple #[.string (str W), .int .i64 0]) (by simp [results, Tryz.results12, go_sem]) rfl (wd_ans (HWD.out.trans HO.out) rfl hbel)
    · have hne : (c1 != 0) = true := by simpa using hc
      have HA := Lib.hid (show wdA l S = (c1, []) from by rw [wd_chk h12 (by rw [h1]; exact hc), h1])
      clear hc h1 h12
      go_enter Tryz.func12, Tryz.ntmps12
      go_wp2_with fail
      refine (HCK.out _ (Below.refl _ _)).mono ?_
      rintro e w1 ⟨rfl, hb1⟩
      go_wp2_with fail
      refine bodyPost_ret (v := .tuple #[.string ⟨#[]⟩, .int .i64 c1]) (by simp [results, Tryz.results12, go_sem]) rfl (wd_ans HA.out rfl hb1)
end Go.Proofs.YtagjpdeolodpkaaGreatDoor.Fl
