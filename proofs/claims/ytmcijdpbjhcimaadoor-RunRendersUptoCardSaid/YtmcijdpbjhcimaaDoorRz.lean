/- RunRenders: the statement's walk, its first half: asked once, the lists untouched. -/
import Derived.Test.YtmcijdpbjhcimaaDoorRv
import Derived.BigRegion
namespace Go.Proofs.YtmcijdpbjhcimaaDoor.Rn
open Go.RowKit Go.Shelf Mm
set_option linter.unusedVariables false
theorem OR.mark {B : Nat} {sl : Value} {R : List Rep} {V : List Vs} {X : World} {i : Nat} {y : Rep} {u : Vs} (h : OR B sl R V X) (hR : R[i]? = some y) (hV : V[i]? = some u) :
    ∃ g1 c1 g2 c2 g3 c3, u = ⟨.slice (some ⟨g1, 0, none⟩) y.po.length c1, .slice (some ⟨g2, 0, none⟩) y.en.length c2, .slice (some ⟨g3, 0, none⟩) y.li.length c3⟩ ∧
      (y.po.length + 1 ≤ c1 ∧ c1 ≤ maxLen ∧ g1 < X.heap.size ∧ X.cell? ⟨g1, y.po.length, none⟩ = some (.string ⟨#[98, 101, 104, 105, 110, 100]⟩)) ∧
      (y.en.length + 1 ≤ c2 ∧ c2 ≤ maxLen ∧ g2 < X.heap.size ∧ X.cell? ⟨g2, y.en.length, none⟩ = some (.string ⟨#[98, 101, 104, 105, 110, 100]⟩)) ∧
      (y.li.length + 1 ≤ c3 ∧ c3 ≤ maxLen ∧ g3 < X.heap.size ∧ X.cell? ⟨g3, y.li.length, none⟩ = some (.string ⟨#[98, 101, 104, 105, 110, 100]⟩)) := by
  obtain ⟨up1, ue, ul⟩ := u
  obtain ⟨⟨g1, c1, e1, hc1, hm1⟩, ⟨g2, c2, e2, hc2, hm2⟩, ⟨g3, c3, e3, hc3, hm3⟩⟩ := h.fm i y _ hR hV
  simp only at e1 e2 e3
  subst e1 e2 e3
  have t0 := h.fam.1 _ _ (by rw [tR_at R V i y _ 0 hR hV (by omega)]; rfl)
  have t1 := h.fam.1 _ _ (by rw [tR_at R V i y _ 1 hR hV (by omega)]; rfl)
  have t2 := h.fam.1 _ _ (by rw [tR_at R V i y _ 2 hR hV (by omega)]; rfl)
  have key : ∀ {g cap : Nat} {l : List ByteArray}, X.ownsRow B 9 1 (.slice (some ⟨g, 0, none⟩) (l.length + 1) cap) (l.length + 1) (ss (l ++ [behB])) → g < X.heap.size ∧ X.cell? ⟨g, l.length, none⟩ = some (.string ⟨#[98, 101, 104, 105, 110, 100]⟩) := by
    intro g cap l ho
    obtain ⟨g', cap', e, _, _, hlt, hx⟩ := own_at ho (by omega)
    cases e
    refine ⟨hlt, hx _ _ ?_⟩
    rw [ss_app, List.getElem?_append_right (by rw [ss_len]; exact Nat.le_refl _), ss_len, Nat.sub_self]
    rfl
  obtain ⟨a1, b1⟩ := key t0
  obtain ⟨a2, b2⟩ := key t1
  obtain ⟨a3, b3⟩ := key t2
  exact ⟨g1, c1, g2, c2, g3, c3, rfl, ⟨hc1, hm1, a1, b1⟩, ⟨hc2, hm2, a2, b2⟩, ⟨hc3, hm3, a3, b3⟩⟩
theorem reps_nil (X : World) : RepsW X (.slice none 0 0) [] [] := ⟨rfl, ⟨none, 0, rfl, fun _ => rfl, Nat.le_refl _, Nat.zero_le _, rfl, .inl rfl⟩, fun k y u h => by simp at h⟩
theorem budget_text : str (rendT 4 0 0 0 []) = ⟨#[98, 117, 100, 103, 101, 116, 32, 101, 120, 99, 101, 101, 100, 101, 100, 10]⟩ := by
  unfold rendT
  rfl
set_option maxRecDepth 100000 in
set_option maxHeartbeats 4000000 in
theorem renders_walk (w : World) (kd co te li : Int) (R : List Rep) (V : List Vs) (v : Value) (hv : RepsW w v R V) (hw : Words w) (ht : Tab w) (c0 : -9223372036854775808 ≤ co) (c1 : co ≤ 9223372036854775807) (l0 : -9223372036854775808 ≤ li) (l1 : li ≤ 9223372036854775807) (hR : wR R ≤ 17179869184) :
    Calls Tryd.prog 3 #[.agg #[.int .i64 kd, .int .i64 co, .int .i64 te, .int .i64 li, v]] w fun e w' => e = .returned (.bool true) ∧ Below w.heap.size w w' := by
  obtain ⟨a0, cap, rfl, hcap, hcm⟩ := hv.form
  unfold maxLen at hcm
  have HT := Lib.hid (fun X R' V' sl (hb : Below w.heap.size w X) (hr : RepsW X sl R' V') (hW : wR R' ≤ 68719476736) => twice_any X kd co te li R' V' sl hr hW)
  have HP := Lib.hid (fun X R' V' sl (hb : Below w.heap.size w X) (hr : RepsW X sl R' V') (hW : wR R' ≤ 68719476736) => Render_any X kd co te li R' V' sl hr (hw.below hb) (tab_below ht hb) c0 c1 l0 l1 (by omega))
  have HD := Lib.hid (fun X R' V' sl (hb : Below w.heap.size w X) (hr : RepsW X sl R' V') (hW : wR R' ≤ 68719476736) => rRender_any X kd co te li R' V' sl hr (tab_below ht hb) c0 c1 l0 l1 hW)
  have HB := Lib.hid (fun X (hb : Below w.heap.size w X) => by have h := Render_any X 4 0 0 0 [] [] (.slice none 0 0) (reps_nil X) (hw.below hb) (tab_below ht hb) (by decide) (by decide) (by decide) (by decide) (by decide); rw [budget_text] at h; exact h)
  have HV := Lib.hid hv
  have HX := Lib.hid (Blk.new w 25 #[.int .i64 kd, .int .i64 co, .int .i64 te, .int .i64 li, .slice a0 R.length cap])
  clear hv hw ht
  go_enter Tryd.func3, Tryd.ntmps3
  go_wp2_with fail
  refine (HT.out _ R V _ (bal (Below.refl _ _) _) (HV.out.below (bal (Below.refl _ _) _)) (by omega)).mono ?_
  rintro e w1 ⟨sl1, V1, rfl, ho1, hb1⟩
  obtain ⟨p1, q1, hq1⟩ := own_len ho1.own
  subst hq1
  have HX1 := Lib.hid (HX.out.below hb1 HX.out.lt)
  have HG1 := Lib.hid (bnx (bal (Below.refl w.heap.size w) _) hb1)
  have HO1 := Lib.hid ho1
  have cX := (HX1.out.alloc (.cells #[.int .i64 kd, .int .i64 co, .int .i64 te, .int .i64 li, .slice p1 R.length q1] 25)).cell
  clear ho1 hb1
  go_wp2_with fail
  refine (HT.out _ R V _ (bal HG1.out _) (HV.out.below (bal HG1.out _)) (by omega)).mono ?_
  rintro e w2 ⟨sl2, V2, rfl, ho2, hb2⟩
  obtain ⟨p2, q2, hq2⟩ := own_len ho2.own
  subst hq2
  have HA3 := Lib.hid ((Blk.new w1 25 #[.int .i64 kd, .int .i64 co, .int .i64 te, .int .i64 li, .slice p1 R.length q1]).below hb2 (Blk.new w1 _ _).lt)
  have HG2 := Lib.hid (bnx (bal HG1.out (.cells #[.int .i64 kd, .int .i64 co, .int .i64 te, .int .i64 li, .slice p1 R.length q1] 25)) hb2)
  have HO1b := Lib.hid ((HO1.out.below (bal (Below.refl _ _) _) (Nat.le_refl _)).below hb2 (Nat.le_refl _))
  have HO2 := Lib.hid ho2
  have HA4 := Lib.hid (Blk.new w2 25 #[.int .i64 kd, .int .i64 co, .int .i64 te, .int .i64 li, .slice p2 R.length q2])
  clear cX ho2 HX HX1
  have hn3 : w1.heap.size < w2.heap.size := HA3.out.lt
  go_wp2_with fail
  have hb3 : Below w2.heap.size w2 (w2.alloc (.cells #[.int .i64 kd, .int .i64 co, .int .i64 te, .int .i64 li, .slice p2 R.length q2] 25)) := bal (Below.refl _ _) _
  refine (HP.out _ R V2 _ (bnx HG2.out hb3) (HO2.out.reps.below hb3) (by omega)).mono ?_
  rintro e w3 ⟨rfl, hb4⟩
  have hb5 := bnx hb3 hb4
  have HB3 := Lib.hid (HA3.out.below hb5 HA3.out.lt)
  have HB4 := Lib.hid (HA4.out.below hb4 HA4.out.lt)
  have HG3 := Lib.hid (bnx HG2.out hb5)
  have HP1 := Lib.hid (HO1b.out.below hb5 (Nat.le_refl _))
  have HP2 := Lib.hid (HO2.out.below hb5 (Nat.le_refl _))
  have HLW := Lib.hid (show ∀ o : Obj, w.heap.size ≤ (w1.alloc o).heap.size from fun o => Nat.le_trans HG1.out.size (by simp))
  generalize hw1 : w1.heap.size = n3 at *
  generalize w2.heap.size = n4 at *
  clear hb2 hb3 hb4 hb5 HA3 HA4 HO1 HO1b HO2 HG1 HG2 hw1
  go_wp2_with fail
  have HS := Lib.hid (show str (rendT kd co te li R) = str (rendT kd co te li R) from rfl)
  generalize hS : str (rendT kd co te li R) = S
  rw [hS] at HS
  have HSS := Lib.hid hS
  clear hS HS
  go_loopw [6, 7] (fun i _ wr => ∃ k : Nat, k ≤ R.length ∧ i = .int .i64 (k : Int) ∧ Below w3.heap.size w3 wr) (fun i _ _ => R.length - (intOf i).toNat)
  case atStart => exact ⟨0, Nat.zero_le _, rfl, Below.refl _ _⟩
  case round =>
    obtain ⟨k, hk, rfl, hbel⟩ := hrel
    have HBL := Lib.hid hbel
    have c4 := (HB4.out.below hbel HB4.out.lt).cell 4
    clear hbel
    by_cases hlt : k < R.length
    · obtain ⟨g, off, e2, hg, hq⟩ := HP2.out.reps.at (by omega)
      obtain ⟨g1, off1, e1, hg1, hq1⟩ := HP1.out.reps.at (by omega)
      subst e2 e1
      obtain ⟨u, hu, hx, _⟩ := hq k hlt
      obtain ⟨z, hz, hz1, _⟩ := hq1 k hlt
      obtain ⟨a1, b1, a2, b2, a3, b3, rfl, ⟨x1, y1, v1, m1⟩, ⟨x2, y2, v2, m2⟩, ⟨x3, y3, v3, m3⟩⟩ := HP2.out.mark (List.getElem?_eq_getElem hlt) hu
      obtain ⟨d1, f1, d2, f2, d3, f3, rfl, _⟩ := HP1.out.mark (List.getElem?_eq_getElem hlt) hz
      obtain ⟨q0, q1, q2, q3, q4, q5, q6, q7, q8⟩ := hx.below HBL.out hg
      have HZ := Lib.hid hz1
      generalize R[k] = y at *
      have HM := Lib.hid (And.intro m1 (And.intro m2 m3))
      unfold maxLen at y1 y2 y3
      clear hq hq1 hu hz hx hz1 m1 m2 m3
      go_upto_region 8 with fail
      have HBX := Lib.hid (bnx HBL.out (bal (Below.refl wr.heap.size wr) (.cells #[.int .i64 y.kd, .bool y.fd, .string y.sp, .string y.wi, .slice (some ⟨a1, 0, none⟩) y.po.length b1, .slice (some ⟨a2, 0, none⟩) y.en.length b2, .string y.fi, .slice (some ⟨a3, 0, none⟩) y.li.length b3, .bool y.mo] 30)))
      have cy := (Blk.new wr 30 #[.int .i64 y.kd, .bool y.fd, .string y.sp, .string y.wi, .slice (some ⟨a1, 0, none⟩) y.po.length b1, .slice (some ⟨a2, 0, none⟩) y.en.length b2, .string y.fi, .slice (some ⟨a3, 0, none⟩) y.li.length b3, .bool y.mo]).cell
      generalize World.alloc wr _ = X at *
      have k4 := cy 4
      have k5 := cy 5
      have k7 := cy 7
      have t4 := (HB3.out.below HBX.out HB3.out.lt).cell 4
      have tz := (HZ.out.below HBX.out hg1).c4
      obtain ⟨m1, m2, m3⟩ := HM.out
      rw [← HBX.out.cell (p := ⟨a1, _, none⟩) v1] at m1
      rw [← HBX.out.cell (p := ⟨a2, _, none⟩) v2] at m2
      rw [← HBX.out.cell (p := ⟨a3, _, none⟩) v3] at m3
      simp only at tz
      generalize y.po.length = pn at *
      generalize y.en.length = en at *
      generalize y.li.length = ln at *
      have i1 : (0 : Int) ≤ (pn : Int) := by omega
      have i2 : (pn : Int) + 1 ≤ (b1 : Int) := by omega
      have i3 : (0 : Int) ≤ (en : Int) := by omega
      have i4 : (en : Int) + 1 ≤ (b2 : Int) := by omega
      have i5 : (0 : Int) ≤ (ln : Int) := by omega
      have i6 : (ln : Int) + 1 ≤ (b3 : Int) := by omega
      have i7 : (0 : Int) ≤ (k : Int) := by omega
      have i8 : (k : Int) < (R.length : Int) := by omega
      have j1 : IntKind.i64.wrap ((pn : Int) + 1) = (pn : Int) + 1 := IntWalk.i64_in _ (by omega)
      have j2 : IntKind.i64.wrap ((en : Int) + 1) = (en : Int) + 1 := IntWalk.i64_in _ (by omega)
      have j3 : IntKind.i64.wrap ((ln : Int) + 1) = (ln : Int) + 1 := IntWalk.i64_in _ (by omega)
      have j4 : ((pn : Int) != (pn : Int)) = false := by simp
      clear cy q0 q1 q2 q3 q4 q5 q6 q7 q8 c4
      go_quiet (fail)
      clear t4 tz m1 m2 m3 k4 k5 k7 j1 j2 j3 j4
      go_wp2_with fail
      go_roundw
      case rel => exact ⟨k + 1, by omega, by go_num, below_drewN HBX.out _⟩
      case measure => simp [intOf]; omega
    · obtain rfl : k = R.length := by omega
      have c3 := (HB3.out.below HBL.out HB3.out.lt).cell
      have d4 := (HB4.out.below HBL.out HB4.out.lt).cell
      have HY := Lib.hid (results_yes kd co te li R V2 V1 (.slice p2 R.length q2) (.slice p1 R.length q1) wr (HP2.out.reps.below HBL.out) (HP1.out.reps.below HBL.out))
      have HGR := Lib.hid (bnx HG3.out HBL.out)
      have hSS : (S.toList == S.toList) = true := by simp
      go_wp2_with fail
      refine HY.out.mono ?_
      rintro e w4 ⟨rfl, hb4⟩
      have HB5 := Lib.hid (bnx HBL.out hb4)
      clear c3 d4 c4
      have c3 := (HB3.out.below HB5.out HB3.out.lt).cell
      go_wp2_with fail
      have HD2 := Lib.hid (HD.out w4 R V1 (.slice p1 R.length q1) (bnx HG3.out HB5.out) (HP1.out.reps.below HB5.out) (by omega))
      rw [HSS.out] at HD2
      refine HD2.out.mono ?_
      rintro e w5 ⟨rfl, hb5⟩
      have HB6 := Lib.hid (bnx HB5.out hb5)
      clear c3 hb4 hb5 HD2 HY
      go_wp2_with fail
      refine (HB.out w5 (bnx HG3.out HB6.out)).mono ?_
      rintro e w6 ⟨rfl, hb6⟩
      have HB7 := Lib.hid (bnx HB6.out hb6)
      have HQ4 := Lib.hid (HB4.out.below HB7.out HB4.out.lt)
      have HQ2 := Lib.hid (HP2.out.below HB7.out (Nat.le_refl _))
      have HGQ := Lib.hid (bnx HG3.out HB7.out)
      clear hb6 HB3 HB4 HP1 HP2 HBL HGR HB5 HB6 HB7 hSS HSS HB
      go_wp2_with fail
      have HLB := Lib.hid (show w.heap.size ≤ (w1.alloc (.cells #[.int .i64 kd, .int .i64 co, .int .i64 te, .int .i64 li, .slice p1 R.length q1] 25)).heap.size from HLW.out _)
      generalize (w1.alloc (.cells #[.int .i64 kd, .int .i64 co, .int .i64 te, .int .i64 li, .slice p1 R.length q1] 25)).heap.size = B2 at *
      have hlR := wR_len R
      have HR2 := Lib.hid hR
      clear c0 c1 l0 l1 HV HG3 hn3
      go_loopw [8, 9, 10, 11] (fun i _ _ _ wr => ∃ k : Nat, k ≤ R.length ∧ i = .int .i64 (k : Int) ∧ Below w.heap.size w wr ∧ Blk wr n4 25 #[.int .i64 kd, .int .i64 co, .int .i64 te, .int .i64 li, .slice p2 R.length q2] ∧ (0 < R.length → ∃ g, p2 = some ⟨g, 0, none⟩ ∧ Gv w n4 B2 g R.length q2 kd co te li V2 (turned R k) wr)) (fun i _ _ _ _ => R.length - (intOf i).toNat)
      case atStart =>
        refine ⟨0, Nat.zero_le _, rfl, HGQ.out, HQ4.out, fun h0 => ?_⟩
        obtain ⟨g, cap', e, _, _, _, _⟩ := own_at HQ2.out.own h0
        cases e
        rw [turned_zero]
        exact ⟨g, rfl, HGQ.out, HQ4.out, HQ2.out, rfl, HLB.out⟩
      case round =>
        obtain ⟨k, hk, rfl, hbel, hb4, hG⟩ := hrel
        have c4 := hb4.cell 4
        by_cases hlt : k < R.length
        · obtain ⟨g, rfl, hg⟩ := hG (by omega)
          have HG := Lib.hid (show Gv w n4 B2 g R.length q2 kd co te li V2 (putY R k R[k]) wr from by rw [putY_self hlt]; exact hg)
          have hvn : k < V2.length := by rw [hg.or_.n, turned_len]; exact hlt
          have hu : V2[k]? = some V2[k] := List.getElem?_eq_getElem hvn
          obtain ⟨a1, b1, a2, b2, a3, b3, hue, ⟨x1, y1, _, _⟩, _, ⟨x3, y3, _, _⟩⟩ := HG.out.or_.mark (putY_at hlt _) hu
          rw [hue] at hu
          have HU := Lib.hid hu
          have HAT := Lib.hid (fun y => putY_at hlt y)
          have HTN := Lib.hid (putY_turn hlt)
          have hyw := wR_mem (List.getElem_mem hlt)
          have hpl := wL_len R[k].po
          have hll := wL_len R[k].li
          have hys := sizes_le R[k]
          generalize R[k] = y at *
          unfold maxLen at y1 y3
          clear hG hg hbel hb4 hu hue hvn
          have c1 := (HG.out.cells (HAT.out y) HU.out).c1
          have f1 := HG.out.block
          obtain ⟨_, hgl, _, cur, hcur⟩ := f1
          have f1 := hcur.frozen (k * 9 + 1)
          have i1 : (0 : Int) ≤ (k : Int) := by omega
          have i2 : (k : Int) < (R.length : Int) := by omega
          clear hcur hgl
          go_upto_region 15 with fail
          go_region
          have HG1 := Lib.hid (show Gv w n4 B2 g R.length q2 kd co te li V2 (putY R k { y with fd := !y.fd }) ((wr.setCell ⟨g, k * 9 + 1, none⟩ (.bool !y.fd)).drew) from by
            have h := HG.out.setC (y' := { y with fd := !y.fd }) (j := 1) (x := .bool !y.fd) (HAT.out y) HU.out (by omega) rfl rfl rfl rfl
            rw [putY_set] at h
            exact h.below (Below.refl _ _).drew)
          generalize (wr.setCell ⟨g, k * 9 + 1, none⟩ (.bool !y.fd)).drew = X1 at *
          clear c1 f1 c4 HG
          have c4 := HG1.out.b4.cell 4
          have c2 := (HG1.out.cells (HAT.out _) HU.out).c2
          obtain ⟨_, _, _, cur1, hcur1⟩ := HG1.out.block
          have f2 := hcur1.frozen (k * 9 + 2)
          clear hcur1
          go_upto_region 17 with fail
          have HG2 := Lib.hid (show Gv w n4 B2 g R.length q2 kd co te li V2 (putY R k (ylA y 0)) (X1.setCell ⟨g, k * 9 + 2, none⟩ (.string turnW)) from by
            have h := HG1.out.setC (y' := { y with fd := !y.fd, sp := turnW }) (j := 2) (x := .string turnW) (HAT.out _) HU.out (by omega) rfl rfl rfl rfl
            rw [putY_set] at h
            rw [yl_zero]
            exact h)
          generalize hX2 : X1.setCell _ _ = X2
          rw [show X1.setCell ⟨g, k * 9 + 2, none⟩ (.string turnW) = X2 from hX2] at HG2
          clear hX2 c2 c4 f2 HG1
          go_wp2_with fail
          go_loopw [9] (fun j wx => ∃ m : Nat, m ≤ y.li.length ∧ j = .int .i64 (m : Int) ∧ Gv w n4 B2 g R.length q2 kd co te li V2 (putY R k (ylA y m)) wx) (fun j _ => y.li.length - (intOf j).toNat)
          case atStart => exact ⟨0, Nat.zero_le _, rfl, HG2.out⟩
          case round =>
            obtain ⟨m, hm, rfl, hgm⟩ := hrel
            have HGM := Lib.hid hgm
            have c4 := hgm.b4.cell 4
            have c7 := (hgm.cells (HAT.out _) HU.out).c7
            simp only at c7
            clear hgm
            by_cases hlm : m < y.li.length
            · obtain ⟨⟨_, fz, s, hs⟩, hnx⟩ := HGM.out.stepL hlt HU.out hlm
              have HNX := Lib.hid hnx
              have i3 : (0 : Int) ≤ (m : Int) := by omega
              have i4 : (m : Int) < (y.li.length : Int) := by omega
              clear hnx
              go_wp2_with fail
              go_roundw
              case rel => exact ⟨m + 1, by omega, by go_num, HNX.out⟩
              case measure => simp [intOf]; omega
            · obtain rfl : m = y.li.length := by omega
              have HG3 := Lib.hid (show Gv w n4 B2 g R.length q2 kd co te li V2 (putY R k (ypA y 0)) _ from by have h := HGM.out; rw [yl_all] at h; exact h)
              clear HGM
              go_wp2_with fail
              clear c4 c7
              go_loopw [10] (fun j wx => ∃ m : Nat, m ≤ y.po.length ∧ j = .int .i64 (m : Int) ∧ Gv w n4 B2 g R.length q2 kd co te li V2 (putY R k (ypA y m)) wx) (fun j _ => y.po.length - (intOf j).toNat)
              case atStart => exact ⟨0, Nat.zero_le _, rfl, HG3.out⟩
              case round =>
                obtain ⟨m, hm, rfl, hgm⟩ := hrel
                have HGM := Lib.hid hgm
                have c4 := hgm.b4.cell 4
                have cp4 := (hgm.cells (HAT.out _) HU.out).c4
                simp only at cp4
                clear hgm
                by_cases hlm : m < y.po.length
                · obtain ⟨⟨_, fz, s, hs⟩, hnx⟩ := HGM.out.stepP hlt HU.out hlm
                  have HNX := Lib.hid hnx
                  have i3 : (0 : Int) ≤ (m : Int) := by omega
                  have i4 : (m : Int) < (y.po.length : Int) := by omega
                  clear hnx
                  go_wp2_with fail
                  go_roundw
                  case rel => exact ⟨m + 1, by omega, by go_num, HNX.out⟩
                  case measure => simp [intOf]; omega
                · obtain rfl : m = y.po.length := by omega
                  have HG4 := Lib.hid (show Gv w n4 B2 g R.length q2 kd co te li V2 (turned R (k + 1)) _ from by have h := HGM.out; rw [yp_all, HTN.out] at h; exact h)
                  clear HGM
                  have hw2 := turned_w R (k + 1)
                  have cb := HG4.out.b4.cell
                  have HP4 := Lib.hid (HP.out wr (turned R (k + 1)) V2 _ HG4.out.bel HG4.out.or_.reps (by have := HR2.out; omega))
                  have HD4 := Lib.hid (fun X V' sl (hb : Below w.heap.size w X) (hr : RepsW X sl (turned R (k + 1)) V') => HD.out X (turned R (k + 1)) V' sl hb hr (by have := HR2.out; omega))
                  generalize hT4 : str (rendT kd co te li (turned R (k + 1))) = T4 at *
                  clear hT4
                  have hTT : (T4.toList == T4.toList) = true := by simp
                  go_wp2_with fail
                  refine HP4.out.mono ?_
                  rintro e x1 ⟨rfl, hbx1⟩
                  have HG5 := Lib.hid (HG4.out.below hbx1)
                  clear cb c4 cp4 hbx1 HG4 HP4
                  have cb := HG5.out.b4.cell
                  go_wp2_with fail
                  refine (HT.out x1 (turned R (k + 1)) V2 _ HG5.out.bel HG5.out.or_.reps (by have := HR2.out; omega)).mono ?_
                  rintro e x2 ⟨sl5, V5, rfl, ho5, hbx2⟩
                  obtain ⟨p5, q5, hq5⟩ := own_len ho5.own
                  subst hq5
                  have HG6 := Lib.hid (HG5.out.below hbx2)
                  have HO5 := Lib.hid ho5.reps
                  clear cb ho5 hbx2 HG5
                  go_wp2_with fail
                  refine (HD4.out x2 V5 _ HG6.out.bel HO5.out).mono ?_
                  rintro e x3 ⟨rfl, hbx3⟩
                  have HG7 := Lib.hid (HG6.out.below hbx3)
                  clear hbx3 HG6 HO5 HD4
                  go_wp2_with fail
                  go_roundw
                  case rel => exact ⟨k + 1, by omega, by go_num, HG7.out.bel, HG7.out.b4, fun _ => ⟨g, rfl, HG7.out⟩⟩
                  case measure => simp [intOf]; omega
        · obtain rfl : k = R.length := by omega
          have hbw := hbel
          clear hG hbel hb4
          go_wp2_with fail
          go_ret
          exact ⟨rfl, hbw⟩
end Go.Proofs.YtmcijdpbjhcimaaDoor.Rn
