/- TernOwn: the walk. -/
import Derived.Test.YtoglcocplpdlhaaKi
import Derived.Test.YtoglcocplpdlhaaKg
import Derived.Deep.DeepCutAuto
import Derived.Deep.RegionHeld3
namespace Go.Proofs.Ytoglcocplpdlhaa.Tn
open Go.RowKit Mm
open Law (ArgS)
set_option linter.unusedVariables false
attribute [local go_sem] cv cs wv
def OwnAns (w : World) (e : Ending) (w' : World) : Prop := e = .returned (.bool true) ∧ Below w.heap.size w w'
set_option maxRecDepth 100000 in
set_option maxHeartbeats 8000000 in
theorem towns_walk (v : Value) (Xs : List ByteArray) (w : World) (hA : ArgS w v Xs) (_hk : Xs.length ≤ 1048576) :
    Calls Try.prog 3 #[v] w fun e w' => e = .returned (.bool true) ∧ Below w.heap.size w w' := by
  obtain ⟨a0, cap0, rfl, hcap, hcm, hcell, hsz⟩ := id hA
  have HA := Lib.hid hA
  clear hA hcell hsz
  go_enter Try.func3, Try.ntmps3
  go_upto_if 19 with fail
  go_cut [0] from 20 to 21 (fun s0 wx => ∃ Ys, ArgS w s0 Ys ∧ Ys.length ≤ 200 ∧ w = wx)
  case first =>
    by_cases hb : 200 < Xs.length
    · have hb' : (200 : Int) < (Xs.length : Int) := by omega
      go_wp2_with fail
      go_meet
      exact ⟨Xs.take 200, arg_take HA.out 200 (by omega), by rw [List.length_take]; omega, rfl⟩
    · have hb' : ¬ (200 : Int) < (Xs.length : Int) := by omega
      go_wp2_with fail
      go_meet
      exact ⟨Xs, HA.out, by omega, rfl⟩
  case rest =>
  obtain ⟨Ys, hY, hN, rfl⟩ := hcut
  clear HA
  obtain ⟨a1, cap1, rfl, hcap1, hcm1, hcell1, hsz1⟩ := id hY
  have HX := Lib.hid hcell1
  have HZ := Lib.hid hsz1
  obtain ⟨n5, c5, o5, hC5⟩ : ∃ n c o, Cub (markT 5) n c o := ⟨_, _, _, mark_cub 5⟩
  have HC5 := Lib.hid hC5
  have HM5 := Lib.hid (fun w' => marks_any 5 (by decide) HC5.out w')
  clear hY hcell1 hsz1 hC5 hcap hcm
  go_wp2_with fail
  refine (HM5.out _).mono ?_
  rintro e w1 ⟨rfl, hb1⟩
  unfold cv cs wv
  go_wp2_with fail
  refine (text_any (markT 5) n5 c5 o5 _ HC5.out).mono ?_
  rintro e w2 ⟨rfl, hb2⟩
  rw [str5]
  have HB := Lib.hid (bnx hb1 hb2)
  clear hb1 hb2 HM5
  go_wp2_with fail
  go_loopw [3, 4, 5, 6] (fun b h s r wr => ∃ (q : Nat) (bk : List Bk) (held was : List Rw), q ≤ 2 ∧ r = .int .i64 (q : Int) ∧ was.length = held.length ∧ (q = 0 → bk.length = 0 ∧ held.length = 0) ∧ (q = 1 → bk.length ≤ 200 ∧ held.length ≤ 400) ∧ (q = 2 → bk.length ≤ 200 ∧ held.length ≤ 600) ∧ Ow w bk held was b h s wr) (fun _ _ _ r _ => 2 - (intOf r).toNat)
  case atStart => exact ⟨0, [], [], [], by omega, rfl, rfl, fun _ => ⟨rfl, rfl⟩, fun e => by omega, fun e => by omega, Ow.new w _ HB.out⟩
  case round =>
    obtain ⟨q, bk, held, was, hq, rfl, hlen, hz0, hz1, hz2, hst⟩ := hrel
    have HST := Lib.hid hst
    clear hst
    by_cases hq2 : q < 2
    · have hq2' : (q : Int) < 2 := by omega
      go_wp2_with fail
      go_loopw [3, 4, 5, 7] (fun b h s i wx => ∃ (k : Nat) (bk' : List Bk) (held' was' : List Rw), (k + 1 ≤ Ys.length ∨ k = 0) ∧ i = .int .i64 (k : Int) ∧ was'.length = held'.length ∧ (q = 0 → bk'.length = k ∧ held'.length = 2 * k) ∧ (q = 1 → bk'.length ≤ 200 ∧ held'.length ≤ 400 + k) ∧ Ow w bk' held' was' b h s wx) (fun _ _ _ i _ => 200 - (intOf i).toNat)
      case atStart => exact ⟨0, bk, held, was, .inr rfl, rfl, hlen, fun e => by have := hz0 e; omega, fun e => by have := hz1 e; omega, HST.out⟩
      case round =>
        obtain ⟨k, bk', held', was', hk, rfl, hlen', hy0, hy1, hst'⟩ := hrel
        have HS := Lib.hid hst'
        have HL := Lib.hid hlen'
        clear hst' hlen'
        by_cases hlt : k + 1 < Ys.length
        · have hlt' : (k : Int) + 1 < (Ys.length : Int) := by omega
          obtain ⟨g, off, rfl, hg, hx⟩ : ∃ g off, a1 = some ⟨g, off, none⟩ ∧ g < w.heap.size ∧ ∀ j X, Ys[j]? = some X → w.cell? ⟨g, off + j, none⟩ = some (.string X) := by
            rcases HX.out with h0 | h0
            · rw [h0] at hlt; simp at hlt
            · exact h0
          obtain ⟨T, HTC, HTL, HP⟩ : ∃ T : List (List UInt8), (∀ t ∈ T, ∃ n c o, Cub t n c o) ∧ T.length ≤ 256 ∧ Hid (∀ w', Below w.heap.size w w' → Calls Try.prog 6 #[.slice (some ⟨g, off, none⟩) Ys.length cap1, .int .i64 (k : Int)] w' fun e w'' => ∃ v, e = .returned (.tuple #[v, .bool true]) ∧ w''.ownsRow w'.heap.size 27 9 v T.length (crow T) ∧ Below w'.heap.size w' w'') := by
            refine ⟨prT Ys[k] Ys[k + 1], prT_cubs _ _, prT_len _ _, Lib.hid (fun w' hb => ?_)⟩
            refine pair_any Ys[k] Ys[k + 1] (HZ.out _ (List.getElem_mem _)) (HZ.out _ (List.getElem_mem _)) g off k Ys.length cap1 hlt hcap1 hcm1 w' (Nat.lt_of_lt_of_le hg hb.size) ?_ ?_
            · exact (hb.cell (p := ⟨g, off + k, none⟩) hg).trans (hx k _ (List.getElem?_eq_getElem (by omega)))
            · exact (hb.cell (p := ⟨g, off + (k + 1), none⟩) hg).trans (hx (k + 1) _ (List.getElem?_eq_getElem (by omega)))
          have hk2 : k ≤ 200 := by omega
          have HI := Lib.hid (And.intro hk (And.intro hy0 (And.intro hy1 (And.intro hlt hN))))
          have HTL := Lib.hid HTL
          have HTC := Lib.hid HTC
          clear hk hy0 hy1 hlt hN hcap1 hz0 hz1 hz2 hcm1 hx
          by_cases hq1 : q = 0
          · have hb0 : ((q : Int) == 1) = false := by rw [hq1]; rfl
            have HQ := Lib.hid hq1
            clear hq1
            have hhl : held'.length ≤ 700 := by have := HI.out.2.1 HQ.out; omega
            have hbl : bk'.length ≤ 700 := by have := HI.out.2.1 HQ.out; omega
            obtain ⟨pb, cb, rfl⟩ := own_len HS.out.ob
            obtain ⟨ph, ch, rfl⟩ := own_len HS.out.oh
            obtain ⟨ps, cs', rfl⟩ := own_len HS.out.os
            obtain ⟨m, c, o, hCM⟩ : ∃ m c o, Cub (markT bk'.length) m c o := ⟨_, _, _, mark_cub _⟩
            have HCM := Lib.hid hCM
            clear hCM
            go_wp2_with fail
            refine (HP.out _ HS.out.bel).mono ?_
            rintro e w3 ⟨v1, rfl, ho1, hb1⟩
            obtain ⟨p1, c1, rfl⟩ := own_len ho1
            have HO1 := Lib.hid ho1
            have HB1 := Lib.hid hb1
            clear ho1 hb1
            go_wp2_with fail
            refine (kept_any bk'.length (by omega) HCM.out rfl _ wr.heap.size T.length _ _ (by have := HTL.out; omega) HB1.out.size HO1.out).mono ?_
            rintro e w4 ⟨u, he, hfz, hou, hb4, hbf, hub⟩
            obtain ⟨pu, cu, rfl⟩ := own_len hou
            rw [kcells_eq] at he
            unfold kcells wv at he
            subst he
            have HSK := Lib.hid (HS.out.below (HB1.out.trans hb4))
            have HE : Hid (Bk.ok ⟨.slice p1 T.length c1, .slice pu (T.length + 64) cu, T.length, bk'.length⟩ w4) := Lib.hid ⟨hfz, Fz.of_own hou, by have := HTL.out; simp only; omega⟩
            have HEA := Lib.hid (fun (j : Nat) (r : Rw) (hr : held'[j]? = some r) => And.intro ((HS.out.apN HO1.out (Nat.le_refl _)).1 j r hr).symm ((HS.out.apN hou (Nat.le_refl _)).1 j r hr).symm)
            clear hfz hou hb4 hbf hub
            go_wp2_with (at_builtin; refine app_kept (l := .slice p1 T.length c1) (g := .slice pu (T.length + 64) cu) HCM.out rfl rfl HSK.out.ob rfl rfl rfl rfl (by omega) HSK.out.bel.size ?_; intro v' w5 ho5 hk5)
            have hbA : Below w4.heap.size w4 (w4.alloc (.cells (kcells (.slice p1 T.length c1) (.slice pu (T.length + 64) cu) m c o) 37)) := bal (Below.refl _ _) _
            have HS5 := Lib.hid ((HSK.out.below hbA).addB (HE.out.below hbA) HEA.out ho5 hk5)
            clear hbA ho5 hk5
            refine (HP.out _ HS5.out.bel).mono ?_
            rintro e w6 ⟨v2, rfl, ho2, hb2⟩
            obtain ⟨p2, c2, rfl⟩ := own_len ho2
            have HS6 := Lib.hid (HS5.out.below hb2)
            have HO2 := Lib.hid ho2
            clear ho2 hb2
            go_wp2_with fail
            refine (HP.out _ HS6.out.bel).mono ?_
            rintro e w7 ⟨v3, rfl, ho3, hb3⟩
            obtain ⟨p3, c3, rfl⟩ := own_len ho3
            have HS7 := Lib.hid (HS6.out.below hb3)
            have HO27 := Lib.hid (own_below HO2.out hb3 (Nat.le_refl _))
            have HO3 := Lib.hid ho3
            have HAB := Lib.hid (apart_new HO2.out ho3 (Nat.le_refl _))
            clear ho3 hb3
            go_wp2_with fail
            refine (seen_any _ _ _ _ (by simp; omega) HS7.out.fb HS7.out.ob).mono ?_
            rintro e w8 ⟨rfl, hb8⟩
            have HS8 := Lib.hid (HS7.out.below hb8)
            have HO28 := Lib.hid (own_below HO27.out hb8 (Nat.le_refl _))
            have HO38 := Lib.hid (own_below HO3.out hb8 (Nat.le_refl _))
            clear hb8
            go_wp2_with (at_builtin; refine app_cc2 (y := .slice p2 T.length c2) (z := .slice p3 T.length c3) rfl rfl HS8.out.oh rfl rfl rfl rfl (by omega) HS8.out.bel.size ?_; intro v' w9 ho9 hk9)
            have hbA : Below w8.heap.size w8 (w8.alloc (.cells #[.slice p2 T.length c2, .slice p3 T.length c3] 32)) := bal (Below.refl _ _) _
            have HSA := HS8.out.below hbA
            have hoA2 := own_below HO28.out hbA (Nat.le_refl _)
            have hoA3 := own_below HO38.out hbA (Nat.le_refl _)
            have hap2 := HS5.out.apN HO2.out (Nat.le_refl _)
            have hap3 := HS6.out.apN HO3.out (Nat.le_refl _)
            have HS9 := Lib.hid (HSA.addH (qs := [⟨.slice p2 T.length c2, T.length, crow T⟩, ⟨.slice p3 T.length c3, T.length, crow T⟩]) (Nat.le_of_eq HL.out) (Fam.two (own_weak hoA2 HS5.out.bel.size) (own_weak hoA3 HS6.out.bel.size) HAB.out)
              (fun i j r q hr hq => by rcases idx_two hq with ⟨_, rfl⟩ | ⟨_, rfl⟩; exact hap2.1 i r hr; exact hap3.1 i r hr) (fun i j e q he hq => by rcases idx_two hq with ⟨_, rfl⟩ | ⟨_, rfl⟩; exact hap2.2 i e he; exact hap3.2 i e he) ho9 hk9)
            have HO29 := Lib.hid (own_keeps hoA2 hk9 (apart_ty hoA2 HSA.oh (by decide)))
            have HO39 := Lib.hid (own_keeps hoA3 hk9 (apart_ty hoA3 HSA.oh (by decide)))
            clear hbA HSA hoA2 hoA3 hap2 hap3 ho9 hk9
            obtain ⟨ph2, ch2, rfl⟩ := own_len HS9.out.oh
            refine (copied_any HTC.out _ _ _ (Nat.le_trans HTL.out (by decide)) HO29.out).mono ?_
            rintro e w10 ⟨v5, rfl, ho5, hb5⟩
            obtain ⟨p5, c5', rfl⟩ := own_len ho5
            have HS10 := Lib.hid (HS9.out.below hb5)
            have HO5 := Lib.hid ho5
            have HO310 := Lib.hid (own_below HO39.out hb5 (Nat.le_refl _))
            clear ho5 hb5
            go_wp2_with fail
            refine (copied_any HTC.out _ _ _ (Nat.le_trans HTL.out (by decide)) HO310.out).mono ?_
            rintro e w11 ⟨v6, rfl, ho6, hb6⟩
            obtain ⟨p6, c6', rfl⟩ := own_len ho6
            have HS11 := Lib.hid (HS10.out.below hb6)
            have HO511 := Lib.hid (own_below HO5.out hb6 (Nat.le_refl _))
            have HO6 := Lib.hid ho6
            clear ho6 hb6
            have hwl : was'.length ≤ 700 := by have := HL.out; omega
            go_wp2_with (at_builtin; refine app_cc2 (y := .slice p5 T.length c5') (z := .slice p6 T.length c6') rfl rfl HS11.out.os rfl rfl rfl rfl (by omega) HS11.out.bel.size ?_; intro v' w12 ho12 hk12)
            have hbA : Below w11.heap.size w11 (w11.alloc (.cells #[.slice p5 T.length c5', .slice p6 T.length c6'] 32)) := bal (Below.refl _ _) _
            have hoW5 := own_weak (own_below HO511.out hbA (Nat.le_refl _)) HS9.out.bel.size
            have hoW6 := own_weak (own_below HO6.out hbA (Nat.le_refl _)) HS10.out.bel.size
            have HS12 := (HS11.out.below hbA).addS (qs := [⟨.slice p5 T.length c5', T.length, crow T⟩, ⟨.slice p6 T.length c6', T.length, crow T⟩]) (fun i r hr => by rcases idx_two hr with ⟨_, rfl⟩ | ⟨_, rfl⟩; exact hoW5; exact hoW6) (fun j r q hr hq => by
              rw [List.getElem?_append_right (by have := HL.out; omega), HL.out, Nat.add_sub_cancel_left] at hr
              rcases idx_two hq with ⟨_, rfl⟩ | ⟨_, rfl⟩ <;> rcases idx_two hr with ⟨_, rfl⟩ | ⟨_, rfl⟩ <;> exact ⟨T, rfl, rfl, rfl, rfl, HTC.out, HTL.out⟩) ho12 hk12
            rw [List.length_append] at HS12
            go_roundw
            case measure => have := HI.out.2.2.2; simp [intOf]; omega
            refine ⟨k + 1, _, _, _, .inl ?_, by go_num, ?_, fun _ => ?_, fun e => by have := HQ.out; omega, HS12⟩
            · have := HI.out.2.2.2.1; omega
            · have := HL.out; simp; omega
            · have := HI.out.2.1 HQ.out; simp; omega
          · have hq1' : q = 1 := by omega
            have hb0 : ((q : Int) == 1) = true := by rw [hq1']; rfl
            have HQ := Lib.hid hq1'
            clear hq1 hq1'
            have hhl : held'.length ≤ 700 := by have := HI.out.2.2.1 HQ.out; omega
            obtain ⟨ph, ch, rfl⟩ := own_len HS.out.oh
            obtain ⟨ps, cs', rfl⟩ := own_len HS.out.os
            go_wp2_with fail
            refine (HP.out _ HS.out.bel).mono ?_
            rintro e w3 ⟨v1, rfl, ho1, hb1⟩
            obtain ⟨p1, c1, rfl⟩ := own_len ho1
            have HS1 := Lib.hid (HS.out.below hb1)
            have HO1 := Lib.hid ho1
            have HB1 := Lib.hid hb1
            clear ho1 hb1
            go_wp2_with (at_builtin; refine app_cc1 (y := .slice p1 T.length c1) rfl HS1.out.oh rfl rfl rfl rfl (by omega) HS1.out.bel.size ?_; intro v' w4 ho4 hk4)
            have hbA : Below w3.heap.size w3 (w3.alloc (.cells #[.slice p1 T.length c1] 32)) := bal (Below.refl _ _) _
            have HSA := HS1.out.below hbA
            have hoA := own_below HO1.out hbA (Nat.le_refl _)
            have hoW := own_weak hoA HS.out.bel.size
            have hap := HS.out.apN HO1.out (Nat.le_refl _)
            have HS2 := Lib.hid (HSA.addH (qs := [⟨.slice p1 T.length c1, T.length, crow T⟩]) (Nat.le_of_eq HL.out) (Fam.one hoW) (fun i j r q hr hq => by rw [idx_one hq]; exact hap.1 i r hr) (fun i j e q he hq => by rw [idx_one hq]; exact hap.2 i e he) ho4 hk4)
            have HO4 := Lib.hid (own_keeps hoA hk4 (apart_ty hoA HSA.oh (by decide)))
            clear hbA HSA hoA hoW hap ho4 hk4
            obtain ⟨ph2, ch2, rfl⟩ := own_len HS2.out.oh
            refine (copied_any HTC.out _ _ _ (Nat.le_trans HTL.out (by decide)) HO4.out).mono ?_
            rintro e w5 ⟨v5, rfl, ho5, hb5⟩
            obtain ⟨p5, c5', rfl⟩ := own_len ho5
            have HS3 := Lib.hid (HS2.out.below hb5)
            have HO5 := Lib.hid ho5
            clear ho5 hb5
            have hwl : was'.length ≤ 700 := by have := HL.out; omega
            go_wp2_with (at_builtin; refine app_cc1 (y := .slice p5 T.length c5') rfl HS3.out.os rfl rfl rfl rfl (by omega) HS3.out.bel.size ?_; intro v' w6 ho6 hk6)
            have hbA : Below w5.heap.size w5 (w5.alloc (.cells #[.slice p5 T.length c5'] 32)) := bal (Below.refl _ _) _
            have hoW := own_weak (own_below HO5.out hbA (Nat.le_refl _)) HS2.out.bel.size
            have HS4 := (HS3.out.below hbA).addS (qs := [⟨.slice p5 T.length c5', T.length, crow T⟩]) (fun i r hr => by rw [idx_one hr]; exact hoW) (fun j r q hr hq => by
              have hj : j = 0 := by have := (List.getElem?_eq_some_iff.1 hq).1; simp at this; omega
              subst hj
              rw [idx_one hq]
              rw [List.getElem?_append_right (by have := HL.out; omega), HL.out, Nat.add_zero, Nat.sub_self] at hr
              rw [idx_one hr]
              exact ⟨T, rfl, rfl, rfl, rfl, HTC.out, HTL.out⟩) ho6 hk6
            rw [List.length_append] at HS4
            go_roundw
            case measure => have := HI.out.2.2.2; simp [intOf]; omega
            refine ⟨k + 1, bk', _, _, .inl ?_, by go_num, ?_, fun e => by have := HQ.out; omega, fun _ => ?_, HS4⟩
            · have := HI.out.2.2.2.1; omega
            · have := HL.out; simp; omega
            · have := HI.out.2.2.1 HQ.out; simp; omega
        · have hlt' : ¬ (k : Int) + 1 < (Ys.length : Int) := by omega
          have hk2 : k ≤ 200 := by omega
          have HI := Lib.hid (And.intro hk (And.intro hy0 (And.intro hy1 (And.intro hlt hN))))
          clear hk hy0 hy1 hlt hN hcap1 hz0 hz1 hz2 hq hcm1
          have hw : wrap64 ((k : Int) + 1) = ((k + 1 : Nat) : Int) := by unfold wrap64; omega
          have hlt2 : ¬ (((k + 1 : Nat) : Int)) < (Ys.length : Int) := by omega
          clear hlt' hk2
          go_wp2_with fail
          obtain ⟨hk, hy0, hy1, hlt, hN⟩ := HI.out
          refine ⟨⟨q + 1, bk', held', was', by omega, by go_num, HL.out, fun e => by omega, fun e => ?_, fun e => ?_, HS.out⟩, by simp [intOf]; omega⟩
          · have := hy0 (by omega); omega
          · have := hy1 (by omega); omega
    · have hq3 : q = 2 := by omega
      have hq2' : ¬ (q : Int) < 2 := by omega
      have HZ2 := Lib.hid (hz2 hq3)
      have HL := Lib.hid hlen
      obtain ⟨pb, cb, rfl⟩ := own_len HST.out.ob
      obtain ⟨ph, ch, rfl⟩ := own_len HST.out.oh
      obtain ⟨ps, cs', rfl⟩ := own_len HST.out.os
      have hhl : held.length ≤ 700 := by have := HZ2.out; omega
      clear hz0 hz1 hz2 hq hq2 hq3 hlen hcap1 hcm1 hN
      go_wp2_with fail
      go_loopw [14] (fun i wx => ∃ k : Nat, k ≤ held.length ∧ i = .int .i64 (k : Int) ∧ Ow w bk held was (.slice pb bk.length cb) (.slice ph held.length ch) (.slice ps was.length cs') wx) (fun i _ => held.length - (intOf i).toNat)
      case atStart => exact ⟨0, Nat.zero_le _, rfl, HST.out⟩
      case round =>
        obtain ⟨k, hk, rfl, hst⟩ := hrel
        have HS := Lib.hid hst
        clear hst
        by_cases hlt : k < held.length
        · have hlw : k < was.length := by rw [HL.out]; exact hlt
          obtain ⟨r, hr⟩ : ∃ r, held[k]? = some r := ⟨_, List.getElem?_eq_getElem hlt⟩
          obtain ⟨y, hy⟩ : ∃ r, was[k]? = some r := ⟨_, List.getElem?_eq_getElem hlw⟩
          obtain ⟨T, hn1, hn2, hx1, hx2, hTC, hTL⟩ := HS.out.eq k r y hr hy
          obtain ⟨rv, rn, rx⟩ := r
          obtain ⟨yv, yn, yx⟩ := y
          simp only at hn1 hn2 hx1 hx2
          subst hn1 hn2 hx1 hx2
          have ho1 : wr.ownsRow w.heap.size 27 9 rv T.length (crow T) := HS.out.fh.1 k _ hr
          have ho2 : wr.ownsRow w.heap.size 27 9 yv T.length (crow T) := HS.out.fw k _ hy
          obtain ⟨p1, c1, rfl⟩ := own_len ho1
          obtain ⟨p2, c2, rfl⟩ := own_len ho2
          have HO1 := Lib.hid ho1
          have HO2 := Lib.hid ho2
          clear ho1 ho2
          obtain ⟨g1, k1, e1, hc1, _, hx1⟩ := own_at HS.out.oh (by omega)
          obtain ⟨g2, k2, e2, hc2, _, hx2⟩ := own_at HS.out.os (by omega)
          cases e1
          cases e2
          have hl1 : g1 < wr.heap.size := (HS.out.oh.lt g1 rfl).2
          have hl2 : g2 < wr.heap.size := (HS.out.os.lt g2 rfl).2
          have q1 := hx1 k _ (by rw [List.getElem?_map, hr]; rfl)
          have q2 := hx2 k _ (by rw [List.getElem?_map, hy]; rfl)
          have HAL := Lib.hid (alike_any hTC wr.drew _ _ _ _ (Nat.le_trans hTL (by decide)) (own_below HO1.out (Below.refl wr.heap.size wr).drew (Nat.le_refl _)) (own_below HO2.out (Below.refl wr.heap.size wr).drew (Nat.le_refl _)))
          have i1 : (0 : Int) ≤ (k : Int) := by omega
          have i2 : (k : Int) < (held.length : Int) := by omega
          have i3 : (k : Int) < (was.length : Int) := by omega
          have hK0 : Hd2 wr g1 k g2 k (.slice p1 T.length c1) (.slice p2 T.length c2) wr.drew := ⟨q1, q2, (Below.refl _ _).drew⟩
          clear hx1 hx2 q1 q2 hr hy
          go_upto_region 29 with fail
          go_region_held3 (fun w' => Hd2 wr g1 k g2 k (.slice p1 T.length c1) (.slice p2 T.length c2) w')
            (with_reducible (first | assumption | exact hK0 | exact hK2 | fail))
            (first | (go_at_call 10; (with_reducible refine HAL.out.mono ?_); rintro e w9 ⟨rfl, hb9⟩; have hK2 := Hd2.go hl1 hl2 hK0 hb9) | fail)
          go_wp2_with fail
          exact ⟨⟨k + 1, by omega, by go_num, HS.out.below hK2.2.2⟩, by simp [intOf]; omega⟩
        · obtain rfl : k = held.length := by omega
          have HS4 := Lib.hid (HS.out.to4 HL.out)
          clear HS HST hlt hk
          go_wp2_with fail
          go_loopw [3, 16] (fun b i wx => ∃ (k : Nat) (bk' : List Bk), k ≤ held.length ∧ i = .int .i64 (k : Int) ∧ bk'.length = bk.length + k ∧ Ow4 w bk' held k b (.slice ph held.length ch) wx) (fun _ i _ => held.length - (intOf i).toNat)
          case atStart => exact ⟨0, bk, Nat.zero_le _, rfl, rfl, HS4.out⟩
          case round =>
            obtain ⟨k, bk', hk, rfl, hbl, hst⟩ := hrel
            have HS := Lib.hid hst
            have HBL := Lib.hid hbl
            have hbk : bk'.length ≤ 1000 := by have := HZ2.out; omega
            clear hst hbl
            obtain ⟨pb2, cb2, rfl⟩ := own_len HS.out.ob
            by_cases hlt : k < held.length
            · obtain ⟨r, hr⟩ : ∃ r, held[k]? = some r := ⟨_, List.getElem?_eq_getElem hlt⟩
              obtain ⟨rv, rn, rx⟩ := r
              have ho1 : wr.ownsRow w.heap.size 27 9 rv rn rx := HS.out.fh k _ (Nat.le_refl _) hr
              have hn1 : rn ≤ 256 := HS.out.hn k _ hr
              obtain ⟨p1, c1, rfl⟩ := own_len ho1
              have HO1 := Lib.hid ho1
              have HR := Lib.hid hr
              obtain ⟨g1, k1, e1, hc1, _, hx1⟩ := own_at HS.out.oh (by omega)
              cases e1
              have hl1 : g1 < wr.heap.size := (HS.out.oh.lt g1 rfl).2
              have q1 := hx1 k _ (by rw [List.getElem?_map, hr]; rfl)
              obtain ⟨m, c, o, hCM⟩ : ∃ m c o, Cub (markT bk'.length) m c o := ⟨_, _, _, mark_cub _⟩
              have HCM := Lib.hid hCM
              have HN1 := Lib.hid hn1
              clear hCM ho1 hr hx1 hn1
              go_wp2_with fail
              refine (kept_any bk'.length (by omega) HCM.out rfl _ w.heap.size rn _ _ (by have := HN1.out; omega) HS.out.bel.size HO1.out).mono ?_
              rintro e w4 ⟨u, he, hfz, hou, hb4, hbf, hub⟩
              obtain ⟨pu, cu, rfl⟩ := own_len hou
              rw [kcells_eq] at he
              unfold kcells wv at he
              subst he
              have H4 := Lib.hid (HS.out.kept HR.out hfz hou hb4 hbf hub)
              clear hfz hou hb4 hbf hub q1
              go_wp2_with (at_builtin; refine app_kept (l := .slice p1 rn c1) (g := .slice pu (rn + 64) cu) HCM.out rfl rfl H4.out.1.ob rfl rfl rfl rfl (by omega) H4.out.1.bel.size ?_; intro v' w5 ho5 hk5)
              have hbA : Below w4.heap.size w4 (w4.alloc (.cells (kcells (.slice p1 rn c1) (.slice pu (rn + 64) cu) m c o) 37)) := bal (Below.refl _ _) _
              have HS5 := (H4.out.1.below hbA).addB (H4.out.2.1.below hbA) H4.out.2.2 ho5 hk5
              exact ⟨⟨k + 1, _, by omega, by go_num, by have := HBL.out; simp; omega, HS5⟩, by simp [intOf]; omega⟩
            · go_wp2_with fail
              refine (seen_any _ _ _ _ (by omega) HS.out.fb HS.out.ob).mono ?_
              rintro e w8 ⟨rfl, hb8⟩
              go_wp2_with fail
              go_ret
              exact ⟨rfl, bnx HS.out.bel hb8⟩
end Go.Proofs.Ytoglcocplpdlhaa.Tn
