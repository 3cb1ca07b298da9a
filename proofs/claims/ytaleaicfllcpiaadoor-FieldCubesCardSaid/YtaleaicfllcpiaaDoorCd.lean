/- The document's Cubes. -/
import Derived.Test.YtaleaicfllcpiaaDoorVt
import Derived.Test.YtaleaicfllcpiaaDoorCu
namespace Go.Proofs.YtaleaicfllcpiaaDoor.Fl
open Go.RowKit Mm Law
set_option linter.unusedSimpArgs false
set_option linter.unusedSectionVars false
set_option linter.unusedVariables false
set_option maxRecDepth 100000 in
set_option maxHeartbeats 16000000 in
theorem rcubes_any (l : List Fld) (v : Value) (T : Tst) (hpm : T.pt.size ≤ maxLen) (w : World) (hv : SeesF w v l) :
    Calls Tryd.prog 24 #[v, T.val] w (CuAns w T l) := by
  have HCK := Lib.hid (fun w' (h : Below w.heap.size w w') => rcheck_any l v w' (hv.below h))
  have HV := Lib.hid hv
  obtain ⟨a0, cap0, rfl, hcap, hcm, hx, hw⟩ := hv
  have HX := Lib.hid hx
  unfold maxLen at hcm
  obtain ⟨c1, c2, hcc⟩ : ∃ c1 c2, chk l = (c1, c2) := ⟨_, _, rfl⟩
  rw [hcc] at HCK
  have h1 : (chk l).1 = c1 := by rw [hcc]
  clear hx hw hcc
  by_cases hc : c1 = 0
  · subst hc
    have HZ := Lib.hid (chk_zero h1)
    have HC0 := Lib.hid h1
    have hz : 0 < l.length ∧ l.length ≤ 12 := ⟨HZ.out.1, HZ.out.2.1⟩
    obtain ⟨hl0, hl12⟩ := hz
    have HWI := Lib.hid (show Wide l from HZ.out.2.2)
    have htst := fun w' (h : Below w.heap.size w w') => rtest_any l _ T hpm hl12 HZ.out.2.2 w' (HV.out.below h)
    unfold TstAns at htst
    clear h1
    by_cases hE : tstE T l = 0
    · have hix : idxF l T.nm < l.length := Classical.byContradiction fun h => by rw [tst_no h] at hE; exact absurd hE (by decide)
      rw [hE] at htst
      have HTE := Lib.hid htst
      have hi2 : idxI l T.nm = (idxF l T.nm : Int) ∧ plcI l T.nm = sumTo l (idxF l T.nm) := by unfold idxI plcI; rw [if_pos hix, if_pos hix]; exact ⟨rfl, rfl⟩
      have HPL := Lib.hid (fun w' (h : Below w.heap.size w w') => rplace_any l _ T.nm w' (HV.out.below h) hl12 HZ.out.2.2)
      rw [hi2.1, hi2.2] at HPL
      obtain ⟨k, hk⟩ : ∃ k, idxF l T.nm = k := ⟨_, rfl⟩
      have HKK := Lib.hid hk
      rw [hk] at hix HPL
      rw [pos_int HWI.out (by omega)] at HPL
      have hbk := bitsAt_get HWI.out hix
      have hps := pos_succ HWI.out hix
      obtain ⟨b, hbb⟩ : ∃ b, bitsAt l k = b := ⟨_, rfl⟩
      have HBB := Lib.hid hbb
      rw [hbb] at hbk hps
      obtain ⟨hb1, hb2, hb32⟩ := hbk
      have hfit : fitE T b = 0 := (tst_yes hix hk hb1.symm).symm.trans hE
      obtain ⟨g, off, rfl, hg, hq⟩ : ∃ g off, a0 = some ⟨g, off, none⟩ ∧ g < w.heap.size ∧ ∀ j f, l[j]? = some f → w.cell? ⟨g, off + j * 2, none⟩ = some (.string f.1) ∧ w.cell? ⟨g, off + (j * 2 + 1), none⟩ = some (.int .i64 f.2) := by
        rcases HX.out with h0 | h0
        · rw [h0] at hix; simp at hix
        · exact h0
      have q1 := (hq k l[k] (by simp [hix])).2
      rw [← hb1, ← Nat.add_assoc] at q1
      have HQ := Lib.hid (fun w' (h : Below w.heap.size w w') => (h.cell (p := ⟨g, off + k * 2 + 1, none⟩) hg).trans q1)
      have HB2 := Lib.hid hb2
      have HGD := Lib.hid (good_of hfit)
      have HVA := Lib.hid (fun w => rat_any T b HB2.out hb32 HGD.out w)
      have HVS := Lib.hid (val_size HGD.out)
      have hvl := val_len hb32 HGD.out
      have HCE := Lib.hid (show cuE T l = 0 from cu_tst HC0.out hE)
      have hpk := pos_mono HWI.out (j := k + 1) (k := l.length) (by omega) (Nat.le_refl _)
      have hpl := sum_bd HZ.out.2.2 l.length (Nat.le_refl _)
      rw [pos_int HWI.out (Nat.le_refl _)] at hpl
      have HWT := Lib.hid (fun w' (h : Below w.heap.size w w') => rwidth_any l _ w' (HV.out.below h) hl12 HZ.out.2.2)
      rw [pos_int HWI.out (Nat.le_refl _)] at HWT
      have HOK := Lib.hid (fun v w' ho hbl => cu_ok (w := w) (v := v) (w' := w') HCE.out HKK.out HBB.out (p := posN l k) rfl (q := posN l l.length - posN l (k + 1)) rfl ho hbl)
      have HX1 := Lib.hid (fun w => xs_any (posN l k) (by omega) w)
      have HX2 := Lib.hid (fun w => xs_any (posN l l.length - posN l (k + 1)) (by omega) w)
      rw [show ((posN l l.length - posN l (k + 1) : Nat) : Int) = (posN l l.length : Int) - (posN l k : Int) - (b : Int) from by omega] at HX2
      have x0 : (0 : Int) ≤ (k : Int) := by omega
      have x1 : (k : Int) < (l.length : Int) := by omega
      have hpk2 : posN l k ≤ 384 := by omega
      have hql : posN l l.length - posN l (k + 1) ≤ 384 := by omega
      have hw1 : IntKind.i64.wrap ((posN l l.length : Int) - (posN l k : Int)) = (posN l l.length : Int) - (posN l k : Int) := IntWalk.i64_in _ (by omega)
      have hw2 : IntKind.i64.wrap ((posN l l.length : Int) - (posN l k : Int) - (b : Int)) = (posN l l.length : Int) - (posN l k : Int) - (b : Int) := IntWalk.i64_in _ (by omega)
      generalize posN l l.length - posN l (k + 1) = qn at *
      generalize posN l k = pn at *
      generalize posN l l.length = wn at *
      generalize valT T b = L at *
      have HW1 := Lib.hid hw1
      have HW2 := Lib.hid hw2
      obtain ⟨nm, op, fo, lo, hi, ln, pt⟩ := T
      show Calls Tryd.prog 24 #[.slice (some ⟨g, off, none⟩) l.length cap0, .agg #[.string nm, .int .i64 op, .int .i64 fo, .int .i64 lo, .int .i64 hi, .int .i64 ln, .string pt]] w _
      unfold Tst.val Tst.cs at HTE HVA
      simp only at HPL HTE HVA
      clear hE htst hpm hpl hpk hix hps hq q1 hb1 hi2 hk hbb hfit hw1 hw2 hb2
      go_enter Tryd.func24, Tryd.ntmps24
      go_wp2_with fail
      refine (HCK.out _ (bal (Below.refl _ _) _)).mono ?_
      rintro e w1 ⟨rfl, hb1⟩
      have HD1 := Lib.hid ((EiS.new w #[.string nm, .int .i64 op, .int .i64 fo, .int .i64 lo, .int .i64 hi, .int .i64 ln, .string pt]).go hb1)
      have e0 := HD1.out.1.cell 0
      have e1 := HD1.out.1.cell 1
      have e2 := HD1.out.1.cell 2
      have e3 := HD1.out.1.cell 3
      have e4 := HD1.out.1.cell 4
      have e5 := HD1.out.1.cell 5
      have e6 := HD1.out.1.cell 6
      clear hb1
      go_wp2_with fail
      refine (HTE.out _ HD1.out.2).mono ?_
      rintro e w2 ⟨rfl, hb2⟩
      have HD2 := Lib.hid (HD1.out.go hb2)
      clear e0 e1 e2 e3 e4 e5 e6 hb2 HD1
      have e0 := HD2.out.1.cell 0
      go_wp2_with fail
      refine (HPL.out _ HD2.out.2).mono ?_
      rintro e w3 ⟨rfl, hb3⟩
      have HD3 := Lib.hid (HD2.out.go hb3)
      have q1 := HQ.out _ HD3.out.2
      clear e0 hb3 HD2
      go_wp2_with fail
      refine (HWT.out _ HD3.out.2).mono ?_
      rintro e w4 ⟨rfl, rfl⟩
      clear q1
      have e0 := HD3.out.1.cell 0
      have e1 := HD3.out.1.cell 1
      have e2 := HD3.out.1.cell 2
      have e3 := HD3.out.1.cell 3
      have e4 := HD3.out.1.cell 4
      have e5 := HD3.out.1.cell 5
      have e6 := HD3.out.1.cell 6
      go_wp2_with fail
      refine (HVA.out _).mono ?_
      rintro e w9 ⟨v9, rfl, ho9, hb9⟩
      have HG9 := Lib.hid (bnx HD3.out.2 hb9)
      have HO9 := Lib.hid (own_base ho9 HD3.out.2.size)
      obtain ⟨a9, cap9, rfl⟩ := own_len ho9
      clear ho9 hb9 e0 e1 e2 e3 e4 e5 e6 HD3 HPL HTE HVA HWT HCK HQ
      have hsa : (str (List.replicate pn (120 : UInt8))).size = pn := by rw [str_size, List.length_replicate]
      have hsb : (str (List.replicate qn (120 : UInt8))).size = qn := by rw [str_size, List.length_replicate]
      have HWR := Lib.hid (fun c => wrap_str pn qn c)
      generalize str (List.replicate pn (120 : UInt8)) = sa at *
      generalize str (List.replicate qn (120 : UInt8)) = sb at *
      have hsa2 : sa.size ≤ 384 := by omega
      have hsb2 : sb.size ≤ 384 := by omega
      clear hsa hsb
      go_wp2_with fail
      go_loopw [13, 14] (fun m i wr => ∃ j : Nat, j ≤ L.length ∧ i = .int .i64 (j : Int) ∧ wr.ownsRow w9.heap.size 9 1 m j (sC ((L.take j).map (wrapC pn qn))) ∧ Below w9.heap.size w9 wr) (fun _ i _ => L.length - (intOf i).toNat)
      case atStart => exact ⟨0, Nat.zero_le _, rfl, World.ownsRow_nil _ _ _ _, Below.refl _ _⟩
      case round =>
        obtain ⟨j, hj, rfl, hown, hbel⟩ := hrel
        have HOW := Lib.hid hown
        have HGW := Lib.hid (bnx HG9.out hbel)
        clear hown
        by_cases hlt : j < L.length
        · obtain ⟨g9, c9, hv9, hcap9, hbg, hcell⟩ := Tn.own_at (own_below HO9.out hbel (Nat.le_refl _)) (by omega)
          have hg9 : g9 < wr.heap.size := by
            have h := ((own_below HO9.out hbel (Nat.le_refl _)).lt g9 (by rw [hv9]; rfl)).2
            exact h
          simp only [Value.slice.injEq] at hv9
          obtain ⟨rfl, _, rfl⟩ := hv9
          have q := hcell j _ (sC_at L j L[j] (by simp [hlt]))
          have HTK := Lib.hid (show (L.take (j + 1)).map (wrapC pn qn) = (L.take j).map (wrapC pn qn) ++ [wrapC pn qn L[j]] from by rw [List.take_succ_eq_append_getElem hlt, List.map_append]; rfl)
          have hcs : (str L[j]).size ≤ 32 := by rw [str_size, HVS.out L[j] (List.getElem_mem hlt)]; exact hb32
          have HWJ := Lib.hid (show wrapC pn qn L[j] = (sa ++ str L[j] ++ sb).data.toList from by rw [HWR.out L[j], str_list])
          generalize str L[j] = sc at *
          have hs1 : ¬ 9223372036854775807 < sa.size + sc.size := by omega
          have hs2 : ¬ 9223372036854775807 < sa.size + sc.size + sb.size := by omega
          have y1 : (j : Int) < (L.length : Int) := by omega
          have y0 : (0 : Int) ≤ (j : Int) := by omega
          have hw1 := HW1.out
          have hw2 := HW2.out
          have hK0 : wr.drew.cell? ⟨g9, j, none⟩ = some (.string sc) ∧ Below w.heap.size w wr.drew := ⟨q, HGW.out.drew⟩
          have HQ9 := Lib.hid q
          have HG := Lib.hid hg9
          clear hcell hg9 hbg
          go_wp2_with fail
          go_region_held3 (fun w' => w'.cell? ⟨g9, j, none⟩ = some (.string sc) ∧ Below w.heap.size w w')
            (with_reducible (first | assumption | exact hK0 | exact hK1 | exact hK2 | exact hK3 | exact hK4 | fail))
            (first | (go_at_call 56; (with_reducible refine (HX1.out _).mono ?_); rintro e w10 ⟨rfl, hb10⟩; have hb10' : Below wr.heap.size wr w10 := ((Below.refl wr.heap.size wr).drew).trans (show Below wr.heap.size wr.drew w10 from hb10); have hK1 : w10.cell? ⟨g9, j, none⟩ = some (.string sc) ∧ Below w.heap.size w w10 := ⟨(hb10'.cell (p := ⟨g9, j, none⟩) HG.out).trans HQ9.out, bnx HGW.out hb10'⟩) | (go_at_call 56; (with_reducible refine (HX2.out _).mono ?_); rintro e w11 ⟨rfl, hb11⟩; have hb11' := bnx hb10' hb11; have hK2 : w11.cell? ⟨g9, j, none⟩ = some (.string sc) ∧ Below w.heap.size w w11 := ⟨(hb11'.cell (p := ⟨g9, j, none⟩) HG.out).trans HQ9.out, bnx HGW.out hb11'⟩; have hK3 : (w11.alloc (.cells #[.string (sa ++ sc ++ sb)] 9)).cell? ⟨g9, j, none⟩ = some (.string sc) ∧ Below w.heap.size w (w11.alloc (.cells #[.string (sa ++ sc ++ sb)] 9)) := ⟨((bal hb11' _).cell (p := ⟨g9, j, none⟩) HG.out).trans HQ9.out, bal (bnx HGW.out hb11') _⟩) | (refine step_app_row (w := w11.alloc (.cells #[.string (sa ++ sc ++ sb)] 9)) (M := [(sa ++ sc ++ sb).data.toList]) (.tmp 52) (.tmp 67) ((own_below HOW.out hb11' (Nat.le_refl _)).alloc _) (Tn.own_one w11 9 #[.string (sa ++ sc ++ sb)] (Nat.le_refl _)) ?gd ?gc ?gs ?gx (by omega) (Nat.le_trans hbel.size (bal hb11' _).size) ?_; (case gd => rfl); (case gc => rfl); (case gs => rfl); (case gx => rfl); intro v12 w12 hown12 hb12; have hK5 : Below w9.heap.size w9 w12 := (hbel.trans ((bal hb11' _).mono hbel.size)).trans hb12; have hK4 : w12.cell? ⟨g9, j, none⟩ = some (.string sc) ∧ Below w.heap.size w w12 := ⟨(hK5.cell (p := ⟨g9, j, none⟩) (HO9.out.lt g9 rfl).2).trans (Eq.trans (hbel.cell (p := ⟨g9, j, none⟩) (HO9.out.lt g9 rfl).2).symm HQ9.out), bnx HG9.out hK5⟩) | fail)
          go_wp2_with fail
          go_roundw
          case rel => exact ⟨j + 1, by omega, by go_num, by rw [HTK.out, HWJ.out]; exact hown12, hK5⟩
          case measure => simp [intOf]; omega
        · have hjl : j = L.length := by omega
          have HF := Lib.hid (own_base (show wr.ownsRow w9.heap.size 9 1 u13 (L.map (wrapC pn qn)).length (sC (L.map (wrapC pn qn))) from by have := HOW.out; rw [hjl, List.take_length] at this; rw [List.length_map]; exact this) HG9.out.size)
          clear hjl
          go_wp2_with fail
          refine bodyPost_ret (v := .tuple #[u13, .int .i64 0]) (by simp [results, Tryd.results24, go_sem]) rfl (HOK.out _ _ HF.out HGW.out)
    · have HE := Lib.hid (show cuE T l = tstE T l from cu_tst HC0.out rfl)
      have HTE := Lib.hid htst
      generalize tstE T l = E at *
      have hne : (E != 0) = true := by simpa using hE
      have HEN := Lib.hid hE
      obtain ⟨nm, op, fo, lo, hi, ln, pt⟩ := T
      show Calls Tryd.prog 24 #[.slice a0 l.length cap0, .agg #[.string nm, .int .i64 op, .int .i64 fo, .int .i64 lo, .int .i64 hi, .int .i64 ln, .string pt]] w _
      unfold Tst.val Tst.cs at HTE
      simp only at HTE
      clear hE htst hpm
      go_enter Tryd.func24, Tryd.ntmps24
      go_wp2_with fail
      refine (HCK.out _ (bal (Below.refl _ _) _)).mono ?_
      rintro e w1 ⟨rfl, hb1⟩
      have HD1 := Lib.hid ((EiS.new w #[.string nm, .int .i64 op, .int .i64 fo, .int .i64 lo, .int .i64 hi, .int .i64 ln, .string pt]).go hb1)
      have e0 := HD1.out.1.cell 0
      have e1 := HD1.out.1.cell 1
      have e2 := HD1.out.1.cell 2
      have e3 := HD1.out.1.cell 3
      have e4 := HD1.out.1.cell 4
      have e5 := HD1.out.1.cell 5
      have e6 := HD1.out.1.cell 6
      clear hb1
      go_wp2_with fail
      refine (HTE.out _ HD1.out.2).mono ?_
      rintro e w2 ⟨rfl, hb2⟩
      have HD2 := Lib.hid (HD1.out.go hb2)
      clear e0 e1 e2 e3 e4 e5 e6 hb2 HD1
      go_wp2_with fail
      refine bodyPost_ret (v := .tuple #[.slice none 0 0, .int .i64 E]) (by simp [results, Tryd.results24, go_sem]) rfl (cu_err HE.out HEN.out HD2.out.2)
  · have hne : (c1 != 0) = true := by simpa using hc
    have HA := Lib.hid (cu_chk (T := T) h1 hc)
    have HCN := Lib.hid hc
    obtain ⟨nm, op, fo, lo, hi, ln, pt⟩ := T
    show Calls Tryd.prog 24 #[.slice a0 l.length cap0, .agg #[.string nm, .int .i64 op, .int .i64 fo, .int .i64 lo, .int .i64 hi, .int .i64 ln, .string pt]] w _
    clear hc h1 hpm
    go_enter Tryd.func24, Tryd.ntmps24
    go_wp2_with fail
    refine (HCK.out _ (bal (Below.refl _ _) _)).mono ?_
    rintro e w1 ⟨rfl, hb1⟩
    have HG1 := Lib.hid (bnx (bal (Below.refl _ _) _) hb1)
    clear hb1
    go_wp2_with fail
    refine bodyPost_ret (v := .tuple #[.slice none 0 0, .int .i64 c1]) (by simp [results, Tryd.results24, go_sem]) rfl (cu_err HA.out HCN.out HG1.out)
end Go.Proofs.YtaleaicfllcpiaaDoor.Fl
