/- Turns: the statement about several patterns asked in turns. -/
import Derived.Test.YtlbkacabcfeaiaaVa
import Derived.Test.YtlbkacabcfeaiaaVc
namespace Go.Proofs.Ytlbkacabcfeaiaa.Tl
open Go.RowKit Mm Law
set_option linter.unusedVariables false
abbrev Hd4 (gp kp gq kq gl kl : Nat) (v0 v1 v2 v3 : Value) (W : World) : Prop := W.cell? ⟨gp, kp, none⟩ = some v0 ∧ W.cell? ⟨gq, kq * 2, none⟩ = some v1 ∧ W.cell? ⟨gq, kq * 2 + 1, none⟩ = some v2 ∧ W.cell? ⟨gl, kl, none⟩ = some v3
theorem Hd4.on {gp kp gq kq gl kl : Nat} {v0 v1 v2 v3 : Value} {X Y : World} (h : Hd4 gp kp gq kq gl kl v0 v1 v2 v3 X) (hb : Below X.heap.size X Y) (h0 : gp < X.heap.size) (h1 : gq < X.heap.size) (h2 : gl < X.heap.size) : Hd4 gp kp gq kq gl kl v0 v1 v2 v3 Y :=
  ⟨(Below.cell hb (p := ⟨gp, kp, none⟩) h0).trans h.1, (Below.cell hb (p := ⟨gq, kq * 2, none⟩) h1).trans h.2.1, (Below.cell hb (p := ⟨gq, kq * 2 + 1, none⟩) h1).trans h.2.2.1, (Below.cell hb (p := ⟨gl, kl, none⟩) h2).trans h.2.2.2⟩
abbrev Hd3 (gp kp gq kq : Nat) (v0 v1 v2 : Value) (W : World) : Prop := W.cell? ⟨gp, kp, none⟩ = some v0 ∧ W.cell? ⟨gq, kq * 2, none⟩ = some v1 ∧ W.cell? ⟨gq, kq * 2 + 1, none⟩ = some v2
theorem Hd3.on {gp kp gq kq : Nat} {v0 v1 v2 : Value} {X Y : World} (h : Hd3 gp kp gq kq v0 v1 v2 X) (hb : Below X.heap.size X Y) (h0 : gp < X.heap.size) (h1 : gq < X.heap.size) : Hd3 gp kp gq kq v0 v1 v2 Y :=
  ⟨(Below.cell hb (p := ⟨gp, kp, none⟩) h0).trans h.1, (Below.cell hb (p := ⟨gq, kq * 2, none⟩) h1).trans h.2.1, (Below.cell hb (p := ⟨gq, kq * 2 + 1, none⟩) h1).trans h.2.2⟩
/-- the rows' cells -/
theorem Tu.cells {w X : World} {L : List PQ} {ap aq : Option Addr} {n m cp cq : Nat} (h : Tu w L L L (.slice ap n cp) (.slice aq m cq) X) {k : Nat} {d : PQ} (hd : L[k]? = some d) : ∃ gp gq, ap = some ⟨gp, 0, none⟩ ∧ aq = some ⟨gq, 0, none⟩ ∧ gp < X.heap.size ∧ gq < X.heap.size ∧ ∀ Y, Below X.heap.size X Y → Hd3 gp k gq k (.pointer d.a) (.slice d.qa d.qn d.qc) (.int .i64 d.root) Y := by
  have hk := (List.getElem?_eq_some_iff.1 hd).1
  obtain ⟨gp, cp, hv, _, _, hg, hc⟩ := own_at h.rp (by omega)
  obtain ⟨gq, cq, hv2, _, _, hg2, hc2⟩ := own_at h.rq (by omega)
  obtain ⟨h1, h2⟩ := qC_at hd
  simp only [Value.slice.injEq] at hv hv2
  exact ⟨gp, gq, hv.1, hv2.1, hg, hg2, fun Y hb => ⟨(Below.cell hb (p := ⟨gp, k, none⟩) hg).trans (hc _ _ (pC_at hd)), (Below.cell hb (p := ⟨gq, k * 2, none⟩) hg2).trans (hc2 _ _ h1), (Below.cell hb (p := ⟨gq, k * 2 + 1, none⟩) hg2).trans (hc2 _ _ h2)⟩⟩
set_option maxRecDepth 100000 in
set_option maxHeartbeats 8000000 in
theorem turns_walk (tv : Value) (texts : List ByteArray) (htz : ∀ x ∈ texts, x.size ≤ maxLen) (lv : Value) (Ls : List LV) (sv : Value) (sc : List (Int × Int)) (w : World)
    (hT : Sees w tv (sC texts)) (hL : SeesS w lv 1 Ls.length (lvC Ls) ∧ ∀ o ∈ Ls, Sees w o.v (sC o.l) ∧ ∀ s ∈ o.l, s.size ≤ maxLen) (hS : SeesS w sv 2 sc.length (twC sc) ∧ ∀ x ∈ sc, (Lit.int .i64 x.1).wf = true ∧ (Lit.int .i64 x.2).wf = true) :
    Calls Try.prog 5 #[tv, lv, sv] w fun e w' => e = .returned (.bool true) ∧ Below w.heap.size w w' := by
  have HT := Lib.hid hT
  have HL := Lib.hid hL
  have HS := Lib.hid hS
  have HZ := Lib.hid htz
  obtain ⟨a0, c0, hv0, _⟩ := hT
  rw [sC_len] at hv0
  subst hv0
  obtain ⟨a1, c1, hv1, _⟩ := hL.1.form
  subst hv1
  obtain ⟨a2, c2, hv2, _, hm2⟩ := hS.1.form
  subst hv2
  have hsl : sc.length ≤ 9223372036854775807 := by simp only [maxLen] at hm2; omega
  clear hL hS htz hm2
  by_cases ht0 : texts.length = 0
  · rw [ht0]
    go_enter Try.func5, Try.ntmps5
    go_wp2_with fail
    go_ret
    exact ⟨rfl, Below.refl _ _⟩
  by_cases ht6 : 6 < texts.length
  · have i0 : ((texts.length : Int) == 0) = false := by rw [beq_eq_false_iff_ne]; omega
    have i1 : (6 : Int) < (texts.length : Int) := by omega
    go_enter Try.func5, Try.ntmps5
    go_wp2_with fail
    go_ret
    exact ⟨rfl, Below.refl _ _⟩
  by_cases hl0 : Ls.length = 0
  · have i0 : ((texts.length : Int) == 0) = false := by rw [beq_eq_false_iff_ne]; omega
    have i1 : ¬ (6 : Int) < (texts.length : Int) := by omega
    rw [hl0]
    go_enter Try.func5, Try.ntmps5
    go_wp2_with fail
    go_ret
    exact ⟨rfl, Below.refl _ _⟩
  by_cases hl6 : 6 < Ls.length
  · have i0 : ((texts.length : Int) == 0) = false := by rw [beq_eq_false_iff_ne]; omega
    have i1 : ¬ (6 : Int) < (texts.length : Int) := by omega
    have i2 : ((Ls.length : Int) == 0) = false := by rw [beq_eq_false_iff_ne]; omega
    have i3 : (6 : Int) < (Ls.length : Int) := by omega
    go_enter Try.func5, Try.ntmps5
    go_wp2_with fail
    go_ret
    exact ⟨rfl, Below.refl _ _⟩
  have i0 : ((texts.length : Int) == 0) = false := by rw [beq_eq_false_iff_ne]; omega
  have i1 : ¬ (6 : Int) < (texts.length : Int) := by omega
  have i2 : ((Ls.length : Int) == 0) = false := by rw [beq_eq_false_iff_ne]; omega
  have i3 : ¬ (6 : Int) < (Ls.length : Int) := by omega
  have HN := Lib.hid num_is
  go_enter Try.func5, Try.ntmps5
  go_wp2_with fail
  clear i0 i1 i2 i3
  go_loopw [7, 8, 9] (fun pv qv iv wr => ∃ (k : Nat) (L : List PQ), k ≤ texts.length ∧ L.length = k ∧ iv = .int .i64 (k : Int) ∧ Tu w L L L pv qv wr) (fun _ _ iv _ => texts.length - (intOf iv).toNat)
  case atStart => exact ⟨0, [], Nat.zero_le _, rfl, rfl, Tu.start w⟩
  case round =>
    obtain ⟨k, L, hk, hLk, rfl, hTu⟩ := hrel
    subst hLk
    by_cases hlt : L.length < texts.length
    · obtain ⟨g0, off, rfl, hcell, hg0⟩ : ∃ g0 off, a0 = some ⟨g0, off, none⟩ ∧ (∀ j u, (sC texts)[j]? = some u → w.cell? ⟨g0, off + j, none⟩ = some u) ∧ g0 < w.heap.size := by
        obtain ⟨a', cap', hv, _, _, _, hx⟩ := HT.out
        simp only [Value.slice.injEq] at hv
        obtain ⟨rfl, _⟩ := hv
        rcases hx with hx | ⟨g0, off, ha, h1, h2⟩
        · have := congrArg List.length hx
          rw [sC_len, List.length_nil] at this
          omega
        · exact ⟨g0, off, ha, h2, h1⟩
      have hz := HZ.out _ (List.getElem_mem hlt)
      have cw := hcell L.length _ (sC_at (List.getElem?_eq_getElem hlt))
      generalize texts[L.length] = s at *
      have CK := Lib.hid (fun X (hb : Below w.heap.size w X) => (Below.cell hb (p := ⟨g0, off + L.length, none⟩) hg0).trans cw)
      have HTU := Lib.hid hTu
      have ck := CK.out _ hTu.bel
      have HBO := Lib.hid (both_ty s (by simp only [maxLen] at hz; omega) wr)
      obtain ⟨ap, cp, rfl⟩ := own_len hTu.rp
      obtain ⟨aq, cq, rfl⟩ := own_len hTu.rq
      clear hcell cw hTu hz HZ
      go_wp2_with fail
      refine HBO.out.mono ?_
      rintro e w1 ⟨hb1, a, c, kk, M, z, rfl, hpt, hr⟩
      have HTU1 := Lib.hid (HTU.out.below hb1)
      have HPT1 := Lib.hid hpt
      have HRU := Lib.hid (hr.run w1)
      clear ck
      have ck := CK.out _ HTU1.out.bel
      clear hb1 hpt hr HBO HTU
      go_wp2_with fail
      refine HRU.out.mono ?_
      rintro e w2 ⟨hb2, qa, qn, qc, root, k2, rfl, hrm⟩
      have hA := (Below.refl _ w2).alloc (Nat.le_refl _) (.cells #[.slice qa qn qc, .int .i64 root] 28)
      have HTU3 := Lib.hid (((HTU1.out.below hb2).below hA).more (o := ⟨a, qa, qn, qc, root, M, z⟩) ((HPT1.out.on (Ty.below hb2)).on (Ty.below hA)) (hrm.on (Ty.below hA)))
      have HBK := Lib.hid (Blk.new w2 28 #[.slice qa qn qc, .int .i64 root])
      clear hA hb2 hrm HTU1 HPT1 HRU ck
      go_wp2_with fail
      refine (HN.out c _).mono ?_
      rintro e w4 ⟨rfl, rfl⟩
      generalize World.alloc w2 _ = w3 at *
      generalize w2.heap.size = b8 at *
      have hLn : L.length ≤ 100 := by omega
      go_wp2_with (first | (at_builtin; refine app_p HTU3.out ⟨a, qa, qn, qc, root, M, z⟩ rfl rfl rfl rfl hLn ?_; intro p' Y hY hBY; have HBK2 := hBY _ _ HBK.out; have k0 := HBK2.cell 0; have k1 := HBK2.cell 1; have HTY := Lib.hid hY; obtain ⟨ap', cp', rfl⟩ := own_len hY.rp; clear hY hBY HBK2) | (at_builtin; refine app_q HTY.out ⟨a, qa, qn, qc, root, M, z⟩ rfl rfl rfl rfl hLn ?_; intro q' Y2 hY2; have HTY2 := Lib.hid hY2; obtain ⟨aq', cq', rfl⟩ := own_len hY2.rq; clear hY2) | go_in)
      go_roundw
      case rel => exact ⟨L.length + 1, L ++ [⟨a, qa, qn, qc, root, M, z⟩], by omega, by simp, by go_num, by have h := HTY2.out; rw [List.length_append] at h; exact h⟩
      case measure => simp [intOf]; omega
    · have hL0 : 0 < L.length := by omega
      have hL6 : L.length ≤ 6 := by omega
      obtain ⟨ap, cp, rfl⟩ := own_len hTu.rp
      obtain ⟨aq, cq, rfl⟩ := own_len hTu.rq
      have HTU := Lib.hid hTu
      clear hTu HT HZ
      go_wp2_with fail
      go_loopw [16] (fun iv wx => ∃ i : Nat, i ≤ sc.length ∧ iv = .int .i64 (i : Int) ∧ Tu w L L L (.slice ap L.length cp) (.slice aq L.length cq) wx) (fun iv _ => sc.length - (intOf iv).toNat)
      case atStart => exact ⟨0, Nat.zero_le _, rfl, HTU.out⟩
      case round =>
        obtain ⟨i, hi, rfl, hTu⟩ := hrel
        by_cases hgo : i < sc.length ∧ i < 24
        · obtain ⟨hlt2, hlt24⟩ := hgo
          obtain ⟨_, g2, o2, rfl, hg2, hc2⟩ := HS.out.1.at (by omega)
          obtain ⟨ht1, ht2⟩ := twC_at (List.getElem?_eq_getElem hlt2)
          obtain ⟨wf1, wf2⟩ := HS.out.2 _ (List.getElem_mem hlt2)
          have c21 := (Below.cell hTu.bel (p := ⟨g2, o2 + i * 2, none⟩) hg2).trans (hc2 _ _ ht1)
          have c22 := (Below.cell hTu.bel (p := ⟨g2, o2 + (i * 2 + 1), none⟩) hg2).trans (hc2 _ _ ht2)
          rw [← Nat.add_assoc] at c22
          have HTU2 := Lib.hid hTu
          have HP1 := Lib.hid (place_any sc[i].1 wf1 L.length (by omega) (by omega))
          have HP2 := Lib.hid (place_any sc[i].2 wf2 Ls.length (by omega) (by omega))
          generalize sc[i].1 = x1 at *
          generalize sc[i].2 = x2 at *
          clear hc2 ht1 ht2 wf1 wf2 hTu HTU
          go_wp2_with fail
          refine (HP1.out _).mono ?_
          rintro e wx2 ⟨k, hkl, rfl, rfl⟩
          go_wp2_with fail
          refine (HP2.out _).mono ?_
          rintro e wx2 ⟨j, hjl, rfl, rfl⟩
          obtain ⟨_, g1, o1, rfl, hg1, hc1⟩ := HL.out.1.at (by omega)
          obtain ⟨hsl1, hsz1⟩ := HL.out.2 _ (List.getElem_mem hjl)
          have hcl := hc1 j _ (lvC_at (List.getElem?_eq_getElem hjl))
          generalize Ls[j] = o at *
          obtain ⟨ov, l⟩ := o
          dsimp only at hsl1 hsz1 hcl
          obtain ⟨al, cl, hv, _⟩ := id hsl1
          rw [sC_len] at hv
          subst hv
          have HC := Lib.hid (fun X (hb : Below w.heap.size w X) => (Below.cell hb (p := ⟨g1, o1 + j, none⟩) hg1).trans hcl)
          have c11 := HC.out _ HTU2.out.bel
          have HSL := Lib.hid (fun X (hb : Below w.heap.size w X) => hsl1.below hb)
          have HNA := Lib.hid (names_wide l _ _ (HSL.out _ HTU2.out.bel) (fun x hx => by have := hsz1 x hx; simp only [maxLen] at this; omega))
          have HG1 := Lib.hid hg1
          clear hc1 hcl hsl1 hsz1 HP1 HP2 hg1
          go_wp2_with fail
          refine HNA.out.mono ?_
          rintro e wx2 ⟨b, rfl, hb, rfl⟩
          cases b with
          | false =>
            clear hb
            go_wp2_with fail
            go_roundw
            case rel => exact ⟨i + 1, by omega, by go_num, HTU2.out⟩
            case measure => simp [intOf]; omega
          | true =>
          obtain ⟨hl, hl8⟩ := hb.1 rfl
          have HL8 := Lib.hid hl8
          clear hb hl8 HNA
          have HLI := Lib.hid (listed_any l _ _ (HSL.out _ HTU2.out.bel) hl)
          go_wp2_with fail
          refine HLI.out.mono ?_
          rintro e w4 ⟨v4, rfl, hli, hb4⟩
          have HTU4 := Lib.hid (HTU2.out.below hb4)
          have HLI4 := Lib.hid hli
          obtain ⟨gl, cpl, rfl, hrow⟩ := hli.row
          obtain ⟨gp, gq, rfl, rfl, hgp, hgq, hcs⟩ := HTU4.out.cells (List.getElem?_eq_getElem hkl)
          have HPT := Lib.hid (HTU4.out.pt _ (List.getElem_mem hkl))
          generalize L[k] = d at *
          have hb4d := (Below.refl w4.heap.size w4).drew
          have hS0 : Hd4 gp k gq k g1 (o1 + j) (.pointer d.a) (.slice d.qa d.qn d.qc) (.int .i64 d.root) (.slice al l.length cl) w4.drew :=
            ⟨(hcs _ hb4d).1, (hcs _ hb4d).2.1, (hcs _ hb4d).2.2, HC.out _ (bnx HTU4.out.bel hb4d)⟩
          have HD4 := Lib.hid hb4d
          have HG := Lib.hid (show gp < w4.heap.size ∧ gq < w4.heap.size ∧ g1 < w4.heap.size from ⟨hgp, hgq, Nat.lt_of_lt_of_le HG1.out HTU4.out.bel.size⟩)
          have HON := Lib.hid (fun X Y (h : Hd4 gp k gq k g1 (o1 + j) (.pointer d.a) (.slice d.qa d.qn d.qc) (.int .i64 d.root) (.slice al l.length cl) X) (h4 : Below w4.heap.size w4 X) (hb : Below X.heap.size X Y) => h.on hb (Nat.lt_of_lt_of_le HG.out.1 h4.size) (Nat.lt_of_lt_of_le HG.out.2.1 h4.size) (Nat.lt_of_lt_of_le HG.out.2.2 h4.size))
          have HM := Lib.hid (fun (Y : World) (hy : Below w4.heap.size w4 Y) => (HPT.out.1.ty Y (Ty.below hy)).mt Y l _ (Below.refl _ _) hl HL8.out (HLI4.out.below hy).sees)
          have HR := Lib.hid (fun (Y : World) (hy : Below w4.heap.size w4 Y) => (HPT.out.2.ty Y (Ty.below hy)).mt Y l (.slice al l.length cl) (Below.refl _ _) hl HL8.out (HSL.out _ (bnx HTU4.out.bel hy)))
          have HTX := Lib.hid (fun (Y : World) (hy : Below w4.heap.size w4 Y) => same_texts_any l (.slice al l.length cl) _ Y (HSL.out _ (bnx HTU4.out.bel hy)) (HLI4.out.below hy) hl)
          generalize d.M l = b1 at *
          obtain ⟨da, dqa, dqn, dqc, droot, dM, dz⟩ := d
          dsimp only [pqV] at hS0 HON HM HR HPT
          clear hli hb4 HLI hrow hgp hgq hcs c11 c21 c22 hb4d
          go_wp2_with fail
          have wk : IntKind.i64.wrap (k : Int) = (k : Int) := IntWalk.i64_in _ (by omega)
          refine wp_region_last 99 (fun w' => Hd4 gp k gq k g1 (o1 + j) (.pointer da) (.slice dqa dqn dqc) (.int .i64 droot) (.slice al l.length cl) w') mixed ?_
          generalize hw5 : w4.drew = w5 at *
          clear hw5
          refine wpAll_take (i := 0) (oi := { dst := some 112, op := Op.move (Operand.tmp 7), type := 43, pos := "law.go:106", after := #[], guard := none }) (v := ?_) rfl (by kernel_rfl) (by kernel_rfl) (by kernel_rfl) (by kernel_rfl) (fun _ _ _ h => h) (Or.inl ⟨by rfl, ?_⟩) (by assumption) ?_
          rotate_left
          · intro w hSw
            try dsimp only at hSw
            go_simp
            try with_reducible rfl
          try simp only [Act.put, List.setIfInBounds_toArray, List.set_cons_zero, List.set_cons_succ]
          refine wpAll_take (i := 1) (oi := { dst := some 113, op := Op.move (Operand.tmp 17), type := 3, pos := "law.go:106", after := #[], guard := none }) (v := ?_) rfl (by kernel_rfl) (by kernel_rfl) (by kernel_rfl) (by kernel_rfl) (fun _ _ _ h => h) (Or.inl ⟨by rfl, ?_⟩) (by assumption) ?_
          rotate_left
          · intro w hSw
            try dsimp only at hSw
            go_simp
            try with_reducible rfl
          try simp only [Act.put, List.setIfInBounds_toArray, List.set_cons_zero, List.set_cons_succ]
          refine wpAll_take (i := 2) (oi := { dst := some 114, op := Op.indexAddr 43 (Operand.tmp 112) (Operand.tmp 113), type := 0, pos := "law.go:106", after := #[{ on := 0, ground := Ground.data }, { on := 1, ground := Ground.data }], guard := none }) (v := ?_) rfl (by kernel_rfl) (by kernel_rfl) (by kernel_rfl) (by kernel_rfl) (fun _ _ _ h => h) (Or.inl ⟨by rfl, ?_⟩) (by assumption) ?_
          rotate_left
          · intro w hSw
            try dsimp only at hSw
            go_simp
            try with_reducible rfl
          try simp only [Act.put, List.setIfInBounds_toArray, List.set_cons_zero, List.set_cons_succ]
          refine wpAll_take (i := 3) (oi := { dst := some 115, op := Op.load 22 (Operand.tmp 114), type := 22, pos := "law.go:106", after := #[{ on := 2, ground := Ground.data }], guard := none }) (v := ?_) rfl (by kernel_rfl) (by kernel_rfl) (by kernel_rfl) (by kernel_rfl) (fun _ _ _ h => h) (Or.inl ⟨by rfl, ?_⟩) (by assumption) ?_
          rotate_left
          · intro w hSw
            try dsimp only at hSw
            go_simp
            try with_reducible rfl
          try simp only [Act.put, List.setIfInBounds_toArray, List.set_cons_zero, List.set_cons_succ]
          refine wpAll_take (i := 4) (oi := { dst := some 116, op := Op.move (Operand.tmp 19), type := 35, pos := "law.go:106", after := #[], guard := none }) (v := ?_) rfl (by kernel_rfl) (by kernel_rfl) (by kernel_rfl) (by kernel_rfl) (fun _ _ _ h => h) (Or.inl ⟨by rfl, ?_⟩) (by assumption) ?_
          rotate_left
          · intro w hSw
            try dsimp only at hSw
            go_simp
            try with_reducible rfl
          try simp only [Act.put, List.setIfInBounds_toArray, List.set_cons_zero, List.set_cons_succ]
          refine wpAll_take (i := 6) (oi := { dst := some 118, op := Op.move (Operand.tmp 8), type := 44, pos := "law.go:106", after := #[], guard := none }) (v := ?_) rfl (by kernel_rfl) (by kernel_rfl) (by kernel_rfl) (by kernel_rfl) (fun _ _ _ h => h) (Or.inl ⟨by rfl, ?_⟩) (by assumption) ?_
          rotate_left
          · intro w hSw
            try dsimp only at hSw
            go_simp
            try with_reducible rfl
          try simp only [Act.put, List.setIfInBounds_toArray, List.set_cons_zero, List.set_cons_succ]
          refine wpAll_take (i := 7) (oi := { dst := some 119, op := Op.move (Operand.tmp 17), type := 3, pos := "law.go:106", after := #[], guard := none }) (v := ?_) rfl (by kernel_rfl) (by kernel_rfl) (by kernel_rfl) (by kernel_rfl) (fun _ _ _ h => h) (Or.inl ⟨by rfl, ?_⟩) (by assumption) ?_
          rotate_left
          · intro w hSw
            try dsimp only at hSw
            go_simp
            try with_reducible rfl
          try simp only [Act.put, List.setIfInBounds_toArray, List.set_cons_zero, List.set_cons_succ]
          refine wpAll_take (i := 8) (oi := { dst := some 120, op := Op.indexAddr 44 (Operand.tmp 118) (Operand.tmp 119), type := 0, pos := "law.go:106", after := #[{ on := 6, ground := Ground.data }, { on := 7, ground := Ground.data }], guard := none }) (v := ?_) rfl (by kernel_rfl) (by kernel_rfl) (by kernel_rfl) (by kernel_rfl) (fun _ _ _ h => h) (Or.inl ⟨by rfl, ?_⟩) (by assumption) ?_
          rotate_left
          · intro w hSw
            try dsimp only at hSw
            go_simp
            try with_reducible rfl
          try simp only [Act.put, List.setIfInBounds_toArray, List.set_cons_zero, List.set_cons_succ]
          refine wpAll_take (i := 9) (oi := { dst := some 121, op := Op.load 28 (Operand.tmp 120), type := 28, pos := "law.go:106", after := #[{ on := 8, ground := Ground.data }], guard := none }) (v := ?_) rfl (by kernel_rfl) (by kernel_rfl) (by kernel_rfl) (by kernel_rfl) (fun _ _ _ h => h) (Or.inl ⟨by rfl, ?_⟩) (by assumption) ?_
          rotate_left
          · intro w hSw
            try dsimp only at hSw
            go_simp
            try with_reducible rfl
          try simp only [Act.put, List.setIfInBounds_toArray, List.set_cons_zero, List.set_cons_succ]
          refine wpAll_take (i := 10) (oi := { dst := some 122, op := Op.move (Operand.tmp 1), type := 41, pos := "law.go:106", after := #[], guard := none }) (v := ?_) rfl (by kernel_rfl) (by kernel_rfl) (by kernel_rfl) (by kernel_rfl) (fun _ _ _ h => h) (Or.inl ⟨by rfl, ?_⟩) (by assumption) ?_
          rotate_left
          · intro w hSw
            try dsimp only at hSw
            go_simp
            try with_reducible rfl
          try simp only [Act.put, List.setIfInBounds_toArray, List.set_cons_zero, List.set_cons_succ]
          refine wpAll_take (i := 11) (oi := { dst := some 123, op := Op.move (Operand.tmp 18), type := 3, pos := "law.go:106", after := #[], guard := none }) (v := ?_) rfl (by kernel_rfl) (by kernel_rfl) (by kernel_rfl) (by kernel_rfl) (fun _ _ _ h => h) (Or.inl ⟨by rfl, ?_⟩) (by assumption) ?_
          rotate_left
          · intro w hSw
            try dsimp only at hSw
            go_simp
            try with_reducible rfl
          try simp only [Act.put, List.setIfInBounds_toArray, List.set_cons_zero, List.set_cons_succ]
          refine wpAll_take (i := 12) (oi := { dst := some 124, op := Op.indexAddr 41 (Operand.tmp 122) (Operand.tmp 123), type := 0, pos := "law.go:106", after := #[{ on := 10, ground := Ground.data }, { on := 11, ground := Ground.data }], guard := none }) (v := ?_) rfl (by kernel_rfl) (by kernel_rfl) (by kernel_rfl) (by kernel_rfl) (fun _ _ _ h => h) (Or.inl ⟨by rfl, ?_⟩) (by assumption) ?_
          rotate_left
          · intro w hSw
            try dsimp only at hSw
            go_simp
            try with_reducible rfl
          try simp only [Act.put, List.setIfInBounds_toArray, List.set_cons_zero, List.set_cons_succ]
          refine wpAll_take (i := 13) (oi := { dst := some 125, op := Op.load 35 (Operand.tmp 124), type := 35, pos := "law.go:106", after := #[{ on := 12, ground := Ground.data }], guard := none }) (v := ?_) rfl (by kernel_rfl) (by kernel_rfl) (by kernel_rfl) (by kernel_rfl) (fun _ _ _ h => h) (Or.inl ⟨by rfl, ?_⟩) (by assumption) ?_
          rotate_left
          · intro w hSw
            try dsimp only at hSw
            go_simp
            try with_reducible rfl
          try simp only [Act.put, List.setIfInBounds_toArray, List.set_cons_zero, List.set_cons_succ]
          refine wpLast_ready (rs := [5]) (by kernel_rfl) (by simp) ?_
          refine EachLast.cons (o := { dst := some 117, op := Op.call { callee := Callee.value (Operand.func 13), args := #[Operand.tmp 115, Operand.tmp 116], argTypes := #[22, 35] }, type := 4, pos := "law.go:106", after := #[{ on := 3, ground := Ground.data }, { on := 4, ground := Ground.data }], guard := none }) rfl (fun K hK => ?_) EachLast.nil
          go_simp
          refine (HM.out w5 HD4.out).mono ?_
          rintro e w6 ⟨rfl, hb6⟩
          have hS6 := HON.out _ _ hS0 HD4.out hb6
          have HD6 := Lib.hid (bnx HD4.out hb6)
          clear hb6
          refine hK.out _ _ (fun _ => hS6) ?_
          try simp only [Act.put, List.setIfInBounds_toArray, List.set_cons_zero, List.set_cons_succ]
          refine wpLast_ready (rs := [14]) (by kernel_rfl) (by simp) ?_
          refine EachLast.cons (o := { dst := some 126, op := Op.call { callee := Callee.value (Operand.func 14), args := #[Operand.tmp 121, Operand.tmp 125], argTypes := #[28, 35] }, type := 4, pos := "law.go:106", after := #[{ on := 9, ground := Ground.data }, { on := 13, ground := Ground.data }, { on := 5, ground := Ground.chain }], guard := none }) rfl (fun K hK => ?_) EachLast.nil
          go_simp
          refine (HR.out w6 HD6.out).mono ?_
          rintro e w7 ⟨rfl, hb7⟩
          have hS7 := HON.out _ _ hS6 HD6.out hb7
          have HD7 := Lib.hid (bnx HD6.out hb7)
          clear hb7
          refine hK.out _ _ (fun _ => hS7) ?_
          try simp only [Act.put, List.setIfInBounds_toArray, List.set_cons_zero, List.set_cons_succ]
          refine wpLast_ready (rs := [15]) (by kernel_rfl) (by simp) ?_
          refine EachLast.cons (o := { dst := some 127, op := Op.binOp BinOp.neq 4 (Operand.tmp 117) (Operand.tmp 126) 4, type := 4, pos := "law.go:106", after := #[{ on := 5, ground := Ground.data }, { on := 14, ground := Ground.data }], guard := none }) rfl (fun K hK => ?_) EachLast.nil
          go_simp
          refine hK.out _ _ (fun _ => hS7) ?_
          try simp only [Act.put, List.setIfInBounds_toArray, List.set_cons_zero, List.set_cons_succ]
          refine wpLast_ready (rs := [16]) (by kernel_rfl) (by simp) ?_
          refine EachLast.cons (o := { dst := some 128, op := Op.move (Operand.tmp 127), type := 4, pos := "law.go:106", after := #[{ on := 15, ground := Ground.data }, { on := 14, ground := Ground.chain }], guard := none }) rfl (fun K hK => ?_) EachLast.nil
          go_simp
          refine hK.out _ _ (fun _ => hS7) ?_
          try simp only [Act.put, List.setIfInBounds_toArray, List.set_cons_zero, List.set_cons_succ]
          refine wpAll_take (i := 17) (oi := { dst := some 129, op := Op.move (Operand.tmp 19), type := 35, pos := "law.go:106", after := #[{ on := 16, ground := Ground.guard }], guard := some (16, false) }) (v := ?_) rfl (by kernel_rfl) (by kernel_rfl) (by kernel_rfl) (by kernel_rfl) (fun _ _ _ h => h) (Or.inl ⟨by rfl, ?_⟩) (by assumption) ?_
          rotate_left
          · intro w hSw
            try dsimp only at hSw
            go_simp
            try with_reducible rfl
          try simp only [Act.put, List.setIfInBounds_toArray, List.set_cons_zero, List.set_cons_succ]
          refine wpAll_take (i := 18) (oi := { dst := some 130, op := Op.move (Operand.tmp 1), type := 41, pos := "law.go:106", after := #[{ on := 16, ground := Ground.guard }], guard := some (16, false) }) (v := ?_) rfl (by kernel_rfl) (by kernel_rfl) (by kernel_rfl) (by kernel_rfl) (fun _ _ _ h => h) (Or.inl ⟨by rfl, ?_⟩) (by assumption) ?_
          rotate_left
          · intro w hSw
            try dsimp only at hSw
            go_simp
            try with_reducible rfl
          try simp only [Act.put, List.setIfInBounds_toArray, List.set_cons_zero, List.set_cons_succ]
          refine wpAll_take (i := 19) (oi := { dst := some 131, op := Op.move (Operand.tmp 18), type := 3, pos := "law.go:106", after := #[{ on := 16, ground := Ground.guard }], guard := some (16, false) }) (v := ?_) rfl (by kernel_rfl) (by kernel_rfl) (by kernel_rfl) (by kernel_rfl) (fun _ _ _ h => h) (Or.inl ⟨by rfl, ?_⟩) (by assumption) ?_
          rotate_left
          · intro w hSw
            try dsimp only at hSw
            go_simp
            try with_reducible rfl
          try simp only [Act.put, List.setIfInBounds_toArray, List.set_cons_zero, List.set_cons_succ]
          refine wpAll_take (i := 20) (oi := { dst := some 132, op := Op.indexAddr 41 (Operand.tmp 130) (Operand.tmp 131), type := 0, pos := "law.go:106", after := #[{ on := 18, ground := Ground.data }, { on := 19, ground := Ground.data }, { on := 16, ground := Ground.guard }], guard := some (16, false) }) (v := ?_) rfl (by kernel_rfl) (by kernel_rfl) (by kernel_rfl) (by kernel_rfl) (fun _ _ _ h => h) (Or.inl ⟨by rfl, ?_⟩) (by assumption) ?_
          rotate_left
          · intro w hSw
            try dsimp only at hSw
            go_simp
            try with_reducible rfl
          try simp only [Act.put, List.setIfInBounds_toArray, List.set_cons_zero, List.set_cons_succ]
          refine wpAll_take (i := 21) (oi := { dst := some 133, op := Op.load 35 (Operand.tmp 132), type := 35, pos := "law.go:106", after := #[{ on := 20, ground := Ground.data }, { on := 16, ground := Ground.guard }], guard := some (16, false) }) (v := ?_) rfl (by kernel_rfl) (by kernel_rfl) (by kernel_rfl) (by kernel_rfl) (fun _ _ _ h => h) (Or.inl ⟨by rfl, ?_⟩) (by assumption) ?_
          rotate_left
          · intro w hSw
            try dsimp only at hSw
            go_simp
            try with_reducible rfl
          try simp only [Act.put, List.setIfInBounds_toArray, List.set_cons_zero, List.set_cons_succ]
          refine wpLast_ready (rs := [22]) (by kernel_rfl) (by simp) ?_
          refine EachLast.cons (o := { dst := some 134, op := Op.call { callee := Callee.value (Operand.func 15), args := #[Operand.tmp 129, Operand.tmp 133], argTypes := #[35, 35] }, type := 4, pos := "law.go:106", after := #[{ on := 17, ground := Ground.data }, { on := 21, ground := Ground.data }, { on := 16, ground := Ground.chain }, { on := 16, ground := Ground.guard }], guard := some (16, false) }) rfl (fun K hK => ?_) EachLast.nil
          go_simp
          refine (HTX.out w7 HD7.out).mono ?_
          rintro e w8 ⟨rfl, hb88⟩
          have hS8 := HON.out _ _ hS7 HD7.out hb88
          have HD8 := Lib.hid (bnx HD7.out hb88)
          clear hb88
          refine hK.out _ _ (fun _ => hS8) ?_
          try simp only [Act.put, List.setIfInBounds_toArray, List.set_cons_zero, List.set_cons_succ]
          refine wpLast_ready (rs := [23]) (by kernel_rfl) (by simp) ?_
          refine EachLast.cons (o := { dst := some 135, op := Op.unOp UnOp.not 4 (Operand.tmp 134), type := 4, pos := "law.go:106", after := #[{ on := 22, ground := Ground.data }, { on := 16, ground := Ground.guard }], guard := some (16, false) }) rfl (fun K hK => ?_) EachLast.nil
          go_simp
          refine hK.out _ _ (fun _ => hS8) ?_
          try simp only [Act.put, List.setIfInBounds_toArray, List.set_cons_zero, List.set_cons_succ]
          refine wpLast_ready (rs := [24]) (by kernel_rfl) (by simp) ?_
          refine EachLast.cons (o := { dst := some 136, op := Op.pick (Operand.tmp 128) (Operand.const (Value.bool true)) (Operand.tmp 135), type := 4, pos := "law.go:106", after := #[{ on := 16, ground := Ground.data }, { on := 23, ground := Ground.data }], guard := none }) rfl (fun K hK => ?_) EachLast.nil
          go_simp
          refine hK.out _ _ (fun _ => hS8) ?_
          try simp only [Act.put, List.setIfInBounds_toArray, List.set_cons_zero, List.set_cons_succ]
          refine wpLast_done (by kernel_rfl) ?_ _
          go_wp2_with fail
          go_roundw
          case rel => exact ⟨i + 1, by omega, by go_num, HTU4.out.below HD8.out⟩
          case measure => simp [intOf]; omega
        · have HTU2 := Lib.hid hTu
          clear hTu HTU
          have hx : (i < sc.length ∧ ¬ i < 24) ∨ ¬ i < sc.length := by omega
          rcases hx with ⟨hx1, hx2⟩ | hx1
          all_goals
            clear hgo
            go_wp2_with fail
            go_loopw [20] (fun iv wy => ∃ m : Nat, m ≤ L.length ∧ iv = .int .i64 (m : Int) ∧ Tu w L L L (.slice ap L.length cp) (.slice aq L.length cq) wy) (fun iv _ => L.length - (intOf iv).toNat)
            case atStart => exact ⟨0, Nat.zero_le _, rfl, HTU2.out⟩
            case round =>
              obtain ⟨m, hm, rfl, hTu⟩ := hrel
              by_cases hlm : m < L.length
              · have HTU4 := Lib.hid hTu
                obtain ⟨gp, gq, rfl, rfl, hgp, hgq, hcs⟩ := hTu.cells (List.getElem?_eq_getElem hlm)
                have HPT := Lib.hid (hTu.pt _ (List.getElem_mem hlm))
                generalize L[m] = d at *
                obtain ⟨da, dqa, dqn, dqc, droot, dM, dz⟩ := d
                have hb4d := (Below.refl wr.heap.size wr).drew
                have hS0 : Hd3 gp m gq m (.pointer da) (.slice dqa dqn dqc) (.int .i64 droot) wr.drew := hcs _ hb4d
                have HD4 := Lib.hid hb4d
                have HG := Lib.hid (show gp < wr.heap.size ∧ gq < wr.heap.size from ⟨hgp, hgq⟩)
                have HON := Lib.hid (fun X Y (h : Hd3 gp m gq m (.pointer da) (.slice dqa dqn dqc) (.int .i64 droot) X) (h4 : Below wr.heap.size wr X) (hb : Below X.heap.size X Y) => h.on hb (Nat.lt_of_lt_of_le HG.out.1 h4.size) (Nat.lt_of_lt_of_le HG.out.2 h4.size))
                have HM := Lib.hid (fun (Y : World) (hy : Below wr.heap.size wr Y) => (HPT.out.1.ty Y (Ty.below hy)).tx Y (Below.refl _ _))
                have HR := Lib.hid (fun (Y : World) (hy : Below wr.heap.size wr Y) => (HPT.out.2.ty Y (Ty.below hy)).tx Y (Below.refl _ _))
                dsimp only [pqV] at HM HR
                clear hTu hgp hgq hcs hb4d
                go_wp2_with fail
                have wm : IntKind.i64.wrap (m : Int) = (m : Int) := IntWalk.i64_in _ (by omega)
                refine wp_region_last 99 (fun w' => Hd3 gp m gq m (.pointer da) (.slice dqa dqn dqc) (.int .i64 droot) w') mixed ?_
                generalize hw5 : wr.drew = w5 at *
                clear hw5
                refine wpAll_take (i := 0) (oi := { dst := some 143, op := Op.move (Operand.tmp 7), type := 43, pos := "law.go:111", after := #[], guard := none }) (v := ?_) rfl (by kernel_rfl) (by kernel_rfl) (by kernel_rfl) (by kernel_rfl) (fun _ _ _ h => h) (Or.inl ⟨by rfl, ?_⟩) (by assumption) ?_
                rotate_left
                · intro w hSw
                  try dsimp only at hSw
                  go_simp
                  try with_reducible rfl
                try simp only [Act.put, List.setIfInBounds_toArray, List.set_cons_zero, List.set_cons_succ]
                refine wpAll_take (i := 1) (oi := { dst := some 144, op := Op.move (Operand.tmp 20), type := 3, pos := "law.go:111", after := #[], guard := none }) (v := ?_) rfl (by kernel_rfl) (by kernel_rfl) (by kernel_rfl) (by kernel_rfl) (fun _ _ _ h => h) (Or.inl ⟨by rfl, ?_⟩) (by assumption) ?_
                rotate_left
                · intro w hSw
                  try dsimp only at hSw
                  go_simp
                  try with_reducible rfl
                try simp only [Act.put, List.setIfInBounds_toArray, List.set_cons_zero, List.set_cons_succ]
                refine wpAll_take (i := 2) (oi := { dst := some 145, op := Op.indexAddr 43 (Operand.tmp 143) (Operand.tmp 144), type := 0, pos := "law.go:111", after := #[{ on := 0, ground := Ground.data }, { on := 1, ground := Ground.data }], guard := none }) (v := ?_) rfl (by kernel_rfl) (by kernel_rfl) (by kernel_rfl) (by kernel_rfl) (fun _ _ _ h => h) (Or.inl ⟨by rfl, ?_⟩) (by assumption) ?_
                rotate_left
                · intro w hSw
                  try dsimp only at hSw
                  go_simp
                  try with_reducible rfl
                try simp only [Act.put, List.setIfInBounds_toArray, List.set_cons_zero, List.set_cons_succ]
                refine wpAll_take (i := 3) (oi := { dst := some 146, op := Op.load 22 (Operand.tmp 145), type := 22, pos := "law.go:111", after := #[{ on := 2, ground := Ground.data }], guard := none }) (v := ?_) rfl (by kernel_rfl) (by kernel_rfl) (by kernel_rfl) (by kernel_rfl) (fun _ _ _ h => h) (Or.inl ⟨by rfl, ?_⟩) (by assumption) ?_
                rotate_left
                · intro w hSw
                  try dsimp only at hSw
                  go_simp
                  try with_reducible rfl
                try simp only [Act.put, List.setIfInBounds_toArray, List.set_cons_zero, List.set_cons_succ]
                refine wpAll_take (i := 5) (oi := { dst := some 148, op := Op.move (Operand.tmp 8), type := 44, pos := "law.go:111", after := #[], guard := none }) (v := ?_) rfl (by kernel_rfl) (by kernel_rfl) (by kernel_rfl) (by kernel_rfl) (fun _ _ _ h => h) (Or.inl ⟨by rfl, ?_⟩) (by assumption) ?_
                rotate_left
                · intro w hSw
                  try dsimp only at hSw
                  go_simp
                  try with_reducible rfl
                try simp only [Act.put, List.setIfInBounds_toArray, List.set_cons_zero, List.set_cons_succ]
                refine wpAll_take (i := 6) (oi := { dst := some 149, op := Op.move (Operand.tmp 20), type := 3, pos := "law.go:111", after := #[], guard := none }) (v := ?_) rfl (by kernel_rfl) (by kernel_rfl) (by kernel_rfl) (by kernel_rfl) (fun _ _ _ h => h) (Or.inl ⟨by rfl, ?_⟩) (by assumption) ?_
                rotate_left
                · intro w hSw
                  try dsimp only at hSw
                  go_simp
                  try with_reducible rfl
                try simp only [Act.put, List.setIfInBounds_toArray, List.set_cons_zero, List.set_cons_succ]
                refine wpAll_take (i := 7) (oi := { dst := some 150, op := Op.indexAddr 44 (Operand.tmp 148) (Operand.tmp 149), type := 0, pos := "law.go:111", after := #[{ on := 5, ground := Ground.data }, { on := 6, ground := Ground.data }], guard := none }) (v := ?_) rfl (by kernel_rfl) (by kernel_rfl) (by kernel_rfl) (by kernel_rfl) (fun _ _ _ h => h) (Or.inl ⟨by rfl, ?_⟩) (by assumption) ?_
                rotate_left
                · intro w hSw
                  try dsimp only at hSw
                  go_simp
                  try with_reducible rfl
                try simp only [Act.put, List.setIfInBounds_toArray, List.set_cons_zero, List.set_cons_succ]
                refine wpAll_take (i := 8) (oi := { dst := some 151, op := Op.load 28 (Operand.tmp 150), type := 28, pos := "law.go:111", after := #[{ on := 7, ground := Ground.data }], guard := none }) (v := ?_) rfl (by kernel_rfl) (by kernel_rfl) (by kernel_rfl) (by kernel_rfl) (fun _ _ _ h => h) (Or.inl ⟨by rfl, ?_⟩) (by assumption) ?_
                rotate_left
                · intro w hSw
                  try dsimp only at hSw
                  go_simp
                  try with_reducible rfl
                try simp only [Act.put, List.setIfInBounds_toArray, List.set_cons_zero, List.set_cons_succ]
                refine wpLast_ready (rs := [4]) (by kernel_rfl) (by simp) ?_
                refine EachLast.cons (o := { dst := some 147, op := Op.call { callee := Callee.value (Operand.func 9), args := #[Operand.tmp 146], argTypes := #[22] }, type := 9, pos := "law.go:111", after := #[{ on := 3, ground := Ground.data }], guard := none }) rfl (fun K hK => ?_) EachLast.nil
                go_simp
                refine (HM.out w5 HD4.out).mono ?_
                rintro e w6 ⟨rfl, hb6⟩
                have hS6 := HON.out _ _ hS0 HD4.out hb6
                have HD6 := Lib.hid (bnx HD4.out hb6)
                clear hb6
                refine hK.out _ _ (fun _ => hS6) ?_
                try simp only [Act.put, List.setIfInBounds_toArray, List.set_cons_zero, List.set_cons_succ]
                refine wpLast_ready (rs := [9]) (by kernel_rfl) (by simp) ?_
                refine EachLast.cons (o := { dst := some 152, op := Op.call { callee := Callee.value (Operand.func 10), args := #[Operand.tmp 151], argTypes := #[28] }, type := 9, pos := "law.go:111", after := #[{ on := 8, ground := Ground.data }, { on := 4, ground := Ground.chain }], guard := none }) rfl (fun K hK => ?_) EachLast.nil
                go_simp
                refine (HR.out w6 HD6.out).mono ?_
                rintro e w7 ⟨rfl, hb7⟩
                have hS7 := HON.out _ _ hS6 HD6.out hb7
                have HD7 := Lib.hid (bnx HD6.out hb7)
                clear hb7
                refine hK.out _ _ (fun _ => hS7) ?_
                try simp only [Act.put, List.setIfInBounds_toArray, List.set_cons_zero, List.set_cons_succ]
                refine wpLast_ready (rs := [10]) (by kernel_rfl) (by simp) ?_
                refine EachLast.cons (o := { dst := some 153, op := Op.binOp BinOp.neq 9 (Operand.tmp 147) (Operand.tmp 152) 9, type := 4, pos := "law.go:111", after := #[{ on := 4, ground := Ground.data }, { on := 9, ground := Ground.data }], guard := none }) rfl (fun K hK => ?_) EachLast.nil
                go_simp
                refine hK.out _ _ (fun _ => hS7) ?_
                try simp only [Act.put, List.setIfInBounds_toArray, List.set_cons_zero, List.set_cons_succ]
                refine wpLast_done (by kernel_rfl) ?_ _
                go_wp2_with fail
                go_roundw
                case rel => exact ⟨m + 1, by omega, by go_num, HTU4.out.below HD7.out⟩
                case measure => simp [intOf]; omega
              · go_wp2_with fail
                go_ret
                exact ⟨rfl, hTu.bel⟩
end Go.Proofs.Ytlbkacabcfeaiaa.Tl
