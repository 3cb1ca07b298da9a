/- FieldOwn: the walk. -/
import Derived.Test.YtlakglphjhoodaaDoorOd
import Derived.Test.YtlakglphjhoodaaDoorOe
import Derived.Deep.RegionHeld3
namespace Go.Proofs.YtlakglphjhoodaaDoor.Fl
open Go.RowKit Mm Law
set_option linter.unusedSimpArgs false
set_option linter.unusedSectionVars false
set_option linter.unusedVariables false
theorem one5 {y0 y1 y2 y3 y4 : Value} (h0 : y0.oneCell' = true) (h1 : y1.oneCell' = true) (h2 : y2.oneCell' = true) (h3 : y3.oneCell' = true) (h4 : y4.oneCell' = true) : ∀ u ∈ [y0, y1, y2, y3, y4], u.oneCell' = true := by simp [h0, h1, h2, h3, h4]
theorem sC_str {L : List (List UInt8)} : ∀ (j : Nat) (u : Value), (sC L)[j]? = some u → ∃ s, u = .string s := by
  intro j u h
  unfold sC at h
  rw [List.getElem?_map] at h
  cases hl : L[j]? with
  | none => rw [hl] at h; cases h
  | some s => rw [hl] at h; cases h; exact ⟨_, rfl⟩
theorem inC_int {L : List Int} : ∀ (j : Nat) (u : Value), (inC L)[j]? = some u → ∃ s, u = .int .i64 s := by
  intro j u h
  unfold inC at h
  rw [List.getElem?_map] at h
  cases hl : L[j]? with
  | none => rw [hl] at h; cases h
  | some s => rw [hl] at h; cases h; exact ⟨_, rfl⟩
def stepC (L : List StepV) : List Value := L.flatMap fun o => [.int .i64 o.kd, .int .i64 o.a, .int .i64 o.b, .int .i64 o.c, .string o.s]
theorem stepC_at (L : List StepV) (k : Nat) (o : StepV) (h : L[k]? = some o) : (stepC L)[k * 5]? = some (.int .i64 o.kd) ∧ (stepC L)[k * 5 + 1]? = some (.int .i64 o.a) ∧ (stepC L)[k * 5 + 2]? = some (.int .i64 o.b) ∧ (stepC L)[k * 5 + 3]? = some (.int .i64 o.c) ∧ (stepC L)[k * 5 + 4]? = some (.string o.s) := by
  have e := five_at (fun o : StepV => [Value.int .i64 o.kd, .int .i64 o.a, .int .i64 o.b, .int .i64 o.c, .string o.s]) (fun _ => rfl) L k o h
  exact ⟨e 0 (by decide), e 1 (by decide), e 2 (by decide), e 3 (by decide), e 4 (by decide)⟩
theorem own_cap {X : World} {B s n cap : Nat} {e : TypeId} {a : Option Addr} {xs : List Value} (h : X.ownsRow B e s (.slice a n cap) n xs) : n ≤ cap ∧ cap ≤ maxLen := by
  rcases h.2 with ⟨h0, h1⟩ | ⟨g, cap', cur, hv, _, _, hc, hm, _⟩
  · cases h0; exact ⟨Nat.le_refl _, Nat.zero_le _⟩
  · cases hv; exact ⟨hc, hm⟩
theorem sees_pre {X : World} {B cap : Nat} {a : Option Addr} {l : List Fld} {x : Fld} (h : X.ownsRow B 27 2 (.slice a (l.length + 1) cap) (l.length + 1) (fcells (l ++ [x]))) (hf : ∀ f ∈ l, f.1.size ≤ maxLen ∧ (Lit.int .i64 f.2).wf = true) : SeesF X (.slice a l.length cap) l := by
  obtain ⟨g, c, hv, hc, _, hg, hq⟩ := own_at h (by omega)
  cases hv
  obtain ⟨_, hcm⟩ := own_cap h
  refine ⟨_, cap, rfl, by omega, hcm, .inr ⟨g, 0, rfl, hg, fun j f hj => ?_⟩, hf⟩
  have hjl := (List.getElem?_eq_some_iff.1 hj).1
  have := fcells_at (l ++ [x]) j f (by rw [List.getElem?_append_left hjl]; exact hj)
  rw [Nat.zero_add, Nat.zero_add]
  exact ⟨hq _ _ this.1, hq _ _ this.2⟩
abbrev Hd4 (W : World) (g1 g2 o : Nat) (x0 x1 x2 x3 : Value) (X : World) : Prop :=
  X.cell? ⟨g1, o, none⟩ = some x0 ∧ X.cell? ⟨g1, o + 2, none⟩ = some x1 ∧ X.cell? ⟨g2, o, none⟩ = some x2 ∧ X.cell? ⟨g2, o + 2, none⟩ = some x3 ∧ Below W.heap.size W X
theorem Hd4.go {W X Y : World} {g1 g2 o : Nat} {x0 x1 x2 x3 : Value} (h1 : g1 < W.heap.size) (h2 : g2 < W.heap.size) (h : Hd4 W g1 g2 o x0 x1 x2 x3 X) (hb : Below X.heap.size X Y) : Hd4 W g1 g2 o x0 x1 x2 x3 Y := by
  obtain ⟨c0, c1, c2, c3, hB⟩ := h
  have e1 : ∀ i : Nat, Y.cell? ⟨g1, i, none⟩ = X.cell? ⟨g1, i, none⟩ := fun i => hb.cell (p := ⟨g1, i, none⟩) (Nat.lt_of_lt_of_le h1 hB.size)
  have e2 : ∀ i : Nat, Y.cell? ⟨g2, i, none⟩ = X.cell? ⟨g2, i, none⟩ := fun i => hb.cell (p := ⟨g2, i, none⟩) (Nat.lt_of_lt_of_le h2 hB.size)
  exact ⟨(e1 _).trans c0, (e1 _).trans c1, (e2 _).trans c2, (e2 _).trans c3, bnx hB hb⟩
theorem Fo2.cells {w X : World} {bk : List Bo} {hd : List Hp} {i y gh n ch : Nat} {b : Value} {p : Hp} (H : Fo2 w bk hd i b (.slice (some ⟨gh, 0, none⟩) n ch) X) (hp : hd[y]? = some p) : X.cell? ⟨gh, y * 5, none⟩ = some p.s.v ∧ X.cell? ⟨gh, y * 5 + 2, none⟩ = some p.i.v := by
  have hl := (List.getElem?_eq_some_iff.1 hp).1
  obtain ⟨g, c, e, _, _, _, hq⟩ := own_at H.oh (by omega)
  cases e
  have c0 := hq (y * 5 + 0) p.s.v (five_at Hp.cs (fun _ => rfl) hd y p hp 0 (by decide))
  have c2 := hq (y * 5 + 2) p.i.v (five_at Hp.cs (fun _ => rfl) hd y p hp 2 (by decide))
  exact ⟨c0, c2⟩
theorem step_app_keptK {B : Nat} {v : Value} {n : Nat} {xs : List Value} {w : World} (y0 y1 y2 y3 y4 : Value) (hy : ∀ u ∈ [y0, y1, y2, y3, y4], u.oneCell' = true) {ops : Array Oper} {o : Oper} {a : Act} {K : Act → World → Prop} {Q : Exit → Act → World → Prop} {E : Prop} (s x : Operand)
    (hown : w.ownsRow B 35 5 v n xs) (hgd : o.guard = none) (ho : o.op = .call { callee := .builtin .append, args := #[s, x], argTypes := #[28, 28] })
    (hs : a.eval s = v) (hx : a.eval x = .slice (some ⟨w.heap.size, 0, none⟩) 1 1) (hn : n ≤ 1000000) (hB : B ≤ w.heap.size)
    (h : ∀ v' w', w'.ownsRow B 35 5 v' (n + 1) (xs ++ [y0, y1, y2, y3, y4]) → Keeps (w.alloc (.cells #[y0, y1, y2, y3, y4] 35)) v v' w' → K (a.put o.dst v') w') :
    if Region.wanted o (yielded ops a.tmps) = true then Oper.wp Tryd.prog o a (w.alloc (.cells #[y0, y1, y2, y3, y4] 35)) K Q else E := by
  have hw : Region.wanted o (yielded ops a.tmps) = true := by simp [Region.wanted, hgd]
  rw [if_pos hw]
  obtain ⟨i0, hi, hz0, hz1, hz2⟩ := info_parts info_kept
  obtain ⟨v', w', hr, h2, h3⟩ := run_append_keep (P := Tryd.prog) (w.alloc (.cells #[y0, y1, y2, y3, y4] 35)) B 28 o.type 35 i0 _ 5 104 Tryd.underlying28 hi hz0 hz1 hz2 rfl (by decide) v n xs (hown.alloc _) ⟨w.heap.size, 0, none⟩ 1 1 [y0, y1, y2, y3, y4] rfl (cells_new w #[y0, y1, y2, y3, y4] _) hy (by decide) (by simp only [maxLen]; omega) (by omega) (by simp; omega)
  unfold Oper.wp execOp
  simp only [ho, resolve, invoke, builtin, Sem.run_bind, Sem.run_pure, Result.andThen_ok, List.map_toArray, List.map_cons, List.map_nil, hs, hx, hr]
  exact h v' w' h2 h3
theorem room_at (l : List Fld) (t : ByteArray) (z : Int) : (fcells (l ++ [(t, z)]))[l.length * 2]? = some (.string t) ∧ (fcells (l ++ [(t, z)]))[l.length * 2 + 1]? = some (.int .i64 z) :=
  fcells_at (l ++ [(t, z)]) l.length (t, z) (by rw [List.getElem?_append_right (Nat.le_refl _), Nat.sub_self]; rfl)
theorem sees_at {X : World} {a : Option Addr} {n cap : Nat} {l : List Fld} (h : SeesF X (.slice a n cap) l) (h0 : 0 < l.length) : ∃ g off, a = some ⟨g, off, none⟩ ∧ g < X.heap.size ∧ ∀ j f, l[j]? = some f → X.cell? ⟨g, off + j * 2, none⟩ = some (.string f.1) ∧ X.cell? ⟨g, off + (j * 2 + 1), none⟩ = some (.int .i64 f.2) := by
  obtain ⟨a', cap', e, _, _, hx, _⟩ := h
  cases e
  rcases hx with hx | hx
  · rw [hx] at h0; simp at h0
  · exact hx
theorem app_fldK {B : Nat} {v : Value} {n : Nat} {L : List Fld} {w : World} (t : ByteArray) (z : Int) {ops : Array Oper} {rest : List Oper} {o : Oper} {a : Act} {Q : Exit → Act → World → Prop} {s x : Operand}
    (hown : w.ownsRow B 27 2 v n (fcells L)) (hgd : o.guard = none) (ho : o.op = .call { callee := .builtin .append, args := #[s, x], argTypes := #[24, 24] })
    (hs : a.eval s = v) (hx : a.eval x = .slice (some ⟨w.heap.size, 0, none⟩) 1 1) (hn : n ≤ 1000000) (hB : B ≤ w.heap.size)
    (h : ∀ v' w', w'.ownsRow B 27 2 v' (n + 1) (fcells (L ++ [(t, z)])) → Keeps (w.alloc (.cells #[.string t, .int .i64 z] 27)) v v' w' → wpList Tryd.prog ops Q rest (a.put o.dst v') w') : wpList Tryd.prog ops Q (o :: rest) a (w.alloc (.cells #[.string t, .int .i64 z] 27)) := by
  obtain ⟨i0, hi, hz0, hz1, hz2⟩ := info_parts info_fld
  refine wpList_append_keep _ hgd s x 24 ho B 27 i0 _ 2 24 Tryd.underlying24 hi hz0 hz1 hz2 rfl (by decide) v n _ hs (hown.alloc _) ⟨w.heap.size, 0, none⟩ 1 1 [.string t, .int .i64 z] hx rfl (cells_new _ #[.string t, .int .i64 z] _)
    (by simp [Value.oneCell']) (by decide) (by simp only [maxLen]; omega) (by omega) (by simp; omega) ?_
  intro v' w' h1 h2
  exact h v' w' (by rw [fcells_snoc]; exact h1) h2
set_option maxRecDepth 100000 in
set_option maxHeartbeats 64000000 in
theorem own_walk (v : Value) (ws : List Int) (u : Value) (L : List StepV) (w : World) (hX : SeesS w v 1 ws.length (inC ws) ∧ ∀ z ∈ ws, (Lit.int .i64 z).wf = true) (hS : SeesS w u 5 L.length (stepC L) ∧ ∀ o ∈ L, o.wf) (hu : Used w) :
    Calls Tryd.prog 3 #[v, u] w fun e w' => e = .returned (.bool true) ∧ Below w.heap.size w w' := by
  have HLA := Lib.hid (fun w' (h : Below w.heap.size w w') => layout_any ws v w' (hX.1.below h) hX.2)
  have hlay := lay_L ws
  have hform := lay_form hlay
  generalize layL ws = l at *
  have HL := Lib.hid hlay
  have HFM := Lib.hid hform
  have hl0 := hlay.1
  have hl8 := hlay.2.1
  obtain ⟨aw, capw, rfl, hcapw, hcmw⟩ := hX.1.form
  obtain ⟨asp, caps, rfl, hcaps, hcms⟩ := hS.1.form
  have HSS := Lib.hid hS
  have HUS := Lib.hid hu
  unfold maxLen at hcmw hcms
  clear hX hS hu hlay hform
  go_enter Tryd.func3, Tryd.ntmps3
  go_wp2_with fail
  refine (HLA.out _ (Below.refl _ _)).mono ?_
  rintro e w1 ⟨f, rfl, hof, hb1⟩
  obtain ⟨pf, cf, rfl⟩ := own_len hof
  have HOF := Lib.hid hof
  have HB1 := Lib.hid hb1
  clear hof hb1
  go_upto_region 3 with (at_builtin; refine app_fldK ⟨#[114, 111, 111, 109]⟩ 77 HOF.out rfl rfl rfl rfl (by omega) HB1.out.size ?_; intro r' w2 hor hkr; obtain ⟨pr, cr, rfl⟩ := own_len hor)
  have HOR := Lib.hid hor
  have HB2 := Lib.hid (bel_keepsO (B := 0) (bal HB1.out (.cells #[.string ⟨#[114, 111, 111, 109]⟩, .int .i64 77] 27)) (HOF.out.alloc (.cells #[.string ⟨#[114, 111, 111, 109]⟩, .int .i64 77] 27)) hkr)
  clear hor hkr HOF HB1
  have hcr := own_cap HOR.out
  have i1 : (0 : Int) ≤ (l.length : Int) := by omega
  have i2 : (l.length : Int) ≤ (cr : Int) := by omega
  go_wp2_with fail
  refine (HLA.out _ HB2.out).mono ?_
  rintro e W0 ⟨bf, rfl, hob, hb3⟩
  obtain ⟨pb, cb, rfl⟩ := own_len hob
  have HB0 := Lib.hid (bnx HB2.out hb3)
  have HOR0 := Lib.hid (own_below HOR.out hb3 (Nat.le_refl _))
  have HSF := Lib.hid (own_sees hob HFM.out)
  have HSR := Lib.hid (sees_pre HOR0.out HFM.out)
  have HU0 := Lib.hid (HUS.out.below HB0.out)
  have HSC := Lib.hid (HSS.out.1.below HB0.out)
  have HST0 := Lib.hid (Fo.new W0 W0 (Below.refl _ _))
  clear hob hb3 HLA HB2 HOR
  go_wp2_with fail
  go_loopw [8, 9, 10, 11] (fun b h s i wr => ∃ (r : Nat) (bk : List Bo) (hd was : List Hp), r ≤ 2 ∧ i = .int .i64 (r : Int) ∧ was.length = hd.length ∧ bk.length ≤ 100 * r ∧ hd.length ≤ 200 * r ∧ Fo W0 bk hd was b h s wr) (fun _ _ _ i _ => 2 - (intOf i).toNat)
  case atStart => exact ⟨0, [], [], [], by omega, rfl, rfl, by simp, by simp, HST0.out⟩
  case round =>
    clear HST0
    obtain ⟨r, bk, hd, was, hr, rfl, hlen, hbk, hhd, hst⟩ := hrel
    have HST := Lib.hid hst
    have HLN := Lib.hid hlen
    obtain ⟨pk, ck, rfl⟩ := own_len hst.ob
    obtain ⟨ph, ch, rfl⟩ := own_len hst.oh
    obtain ⟨ps, cs, rfl⟩ := own_len hst.os
    have HBK := Lib.hid hbk
    have HHD := Lib.hid hhd
    clear hst hlen hbk hhd
    by_cases hlt : r < 2
    · have hq2i : (r : Int) < 2 := by omega
      go_wp2_with fail
      clear hq2i
      go_loopw [8, 9, 10, 12] (fun b h s i wx => ∃ (k : Nat) (bk : List Bo) (hd was : List Hp), k ≤ L.length ∧ k ≤ 100 ∧ i = .int .i64 (k : Int) ∧ was.length = hd.length ∧ bk.length ≤ 100 * r + k ∧ hd.length ≤ 200 * r + 2 * k ∧ Fo W0 bk hd was b h s wx) (fun _ _ _ i _ => L.length - (intOf i).toNat)
      case atStart => exact ⟨0, bk, hd, was, Nat.zero_le _, by omega, rfl, HLN.out, HBK.out, HHD.out, HST.out⟩
      case round =>
        clear HST HLN HBK HHD
        obtain ⟨k, bk, hd, was, hk, hk100, rfl, hlen, hbk, hhd, hst⟩ := hrel
        have HST := Lib.hid hst
        have HLN := Lib.hid hlen
        obtain ⟨pk, ck, rfl⟩ := own_len hst.ob
        obtain ⟨ph, ch, rfl⟩ := own_len hst.oh
        obtain ⟨ps, cs, rfl⟩ := own_len hst.os
        have HBK := Lib.hid hbk
        have HHD := Lib.hid hhd
        clear hst hlen hbk hhd
        have hr2 : r ≤ 1 := by omega
        have hnb : hd.length ≤ 1000000 := by have := HHD.out; omega
        have hnb2 : bk.length ≤ 1000000 := by have := HBK.out; omega
        have hbk65 : bk.length < 65536 := by have := HBK.out; omega
        have hnb3 : was.length ≤ 1000000 := by have := HLN.out; omega
        by_cases hin : k < L.length ∧ k < 100
        · have hii : (k : Int) < (L.length : Int) ∧ (k : Int) < 100 := by omega
          have j1 := hii.1
          have j2 := hii.2
          have j0 : (0 : Int) ≤ (k : Int) := by omega
          obtain ⟨_, gs, os, rfl, hgs, hqs⟩ := (HSC.out.below HST.out.bel).at (by omega)
          have hwf := HSS.out.2 L[k] (List.getElem_mem hin.1)
          have hkat := stepC_at L k L[k] (List.getElem?_eq_getElem hin.1)
          generalize L[k] = o at *
          obtain ⟨kd, A, B, C, st⟩ := o
          simp only at hkat
          have q0 := hqs _ _ hkat.1
          have q1 := hqs _ _ hkat.2.1
          have q2 := hqs _ _ hkat.2.2.1
          have q3 := hqs _ _ hkat.2.2.2.1
          have q4 := hqs _ _ hkat.2.2.2.2
          rw [← Nat.add_assoc] at q1 q2 q3 q4
          have HCA := Lib.hid (fun w' (h : Below W0.heap.size W0 w') => called_any l HL.out _ ⟨kd, A, B, C, st⟩ hwf w' (HSR.out.below h) (HU0.out.below h))
          have HRO := Lib.hid (fun w' (h : Below W0.heap.size W0 w') => roomy_any l HL.out _ ⟨kd, A, B, C, st⟩ hwf w' (HSR.out.below h))
          unfold StepV.val ClAns at HCA
          unfold StepV.val at HRO
          simp only at HCA HRO
          clear hii hqs hkat hwf
          go_upto_region 14 with fail
          have HOX := Lib.hid (Blk.new wr 30 #[.int .i64 kd, .int .i64 A, .int .i64 B, .int .i64 C, .string st])
          have HS1 := Lib.hid (HST.out.below (bal (Below.refl _ _) (.cells #[.int .i64 kd, .int .i64 A, .int .i64 B, .int .i64 C, .string st] 30)))
          generalize wr.alloc (.cells #[.int .i64 kd, .int .i64 A, .int .i64 B, .int .i64 C, .string st] 30) = X1 at *
          generalize hgo : wr.heap.size = go0 at HOX ⊢
          have b0 := HOX.out.cell 0
          have b1 := HOX.out.cell 1
          have b2 := HOX.out.cell 2
          have b3 := HOX.out.cell 3
          have b4 := HOX.out.cell 4
          have bl := HOX.out.lt
          clear q0 q1 q2 q3 q4 hgo HST
          have HLN1 := HLN
          have hnh1 := hnb
          have hnw1 := hnb3
          go_wp2_with fail
          refine (HCA.out _ HS1.out.bel).mono ?_
          rintro e Y1 ⟨u1, x1, xs1, ys1, rfl, hxl1, hou1, hyl1, hox1, hb1⟩
          obtain ⟨pu1, cu1, rfl⟩ := own_len hou1
          rw [hyl1] at hox1
          obtain ⟨px1, cx1, rfl⟩ := own_len hox1
          have HYL1 := Lib.hid hyl1
          have HOU1 := Lib.hid hou1
          have HOI1 := Lib.hid hox1
          have HLH1 := Lib.hid HS1.out.lowH
          have HLB1 := Lib.hid HS1.out.lowB
          have HSZ1 := Lib.hid HS1.out.bel.size
          have HT1 := Lib.hid (HS1.out.below hb1)
          have HBX1 := Lib.hid (HOX.out.below hb1 HOX.out.lt)
          clear hou1 hox1 hb1 hyl1 b0 b1 b2 b3 b4 bl
          go_upto_region 17 with fail
          go_wp2_with (at_builtin; refine app_kept (.slice pu1 xs1.length cu1) (.slice none 0 0) (.slice px1 l.length cx1) (.slice none 0 0) (.int .i64 0) (one5 rfl rfl rfl rfl rfl) HT1.out.oh rfl rfl rfl rfl hnh1 HT1.out.bel.size ?_; intro h1 Z1 hoh1 hkh1; refine Hid.out ?_)
          refine Lib.hid ?_
          obtain ⟨ph1, ch1, rfl⟩ := own_len hoh1
          have hbz1 := bal (Below.refl Y1.heap.size Y1) (.cells #[.slice pu1 xs1.length cu1, .slice none 0 0, .slice px1 l.length cx1, .slice none 0 0, .int .i64 0] 35)
          have HA1 := Lib.hid ((HT1.out.below hbz1).addH (q := ⟨⟨.slice pu1 xs1.length cu1, xs1.length, sC xs1⟩, ⟨.slice px1 l.length cx1, l.length, inC ys1⟩⟩) (N := X1.heap.size) (by have := HLN1.out; omega) (own_below HOU1.out hbz1 (Nat.le_refl _)) (own_below HOI1.out hbz1 (Nat.le_refl _)) HSZ1.out HLH1.out HLB1.out hoh1 hkh1)
          have HXB1 := Lib.hid (blk_keepsO (HBX1.out.below hbz1 HBX1.out.lt) (own_below HT1.out.oh hbz1 (Nat.le_refl _)) hkh1 (by decide))
          clear hoh1 hkh1 hbz1 HT1 HOU1 HOI1 HLH1 HLB1 HBX1
          have HFH1 := Lib.hid (HA1.out.fh hd.length _ (by rw [List.getElem?_append_right (Nat.le_refl _), Nat.sub_self]; rfl))
          have HCP1 := Lib.hid (copied_any xs1.length (sC xs1) hxl1 sC_str _ Z1 (SeesS.of_own HFH1.out.1))
          have HIN1 := Lib.hid (ints_any l.length (inC ys1) (by omega) inC_int)
          go_wp2_with fail
          refine (HCP1.out).mono ?_
          rintro e Q1 ⟨c1, rfl, hoc1, hbc1⟩
          obtain ⟨pc1, cc1, rfl⟩ := own_len hoc1
          have HOC1 := Lib.hid hoc1
          have HBC1 := Lib.hid hbc1
          clear hoc1 hbc1 HCP1
          go_wp2_with fail
          refine (HIN1.out _ _ (SeesS.of_own (own_below HFH1.out.2 HBC1.out (Nat.le_refl _)))).mono ?_
          rintro e R1 ⟨d1, rfl, hod1, hbd1⟩
          obtain ⟨pd1, cd1, rfl⟩ := own_len hod1
          have HOD1 := Lib.hid hod1
          have HAR1 := Lib.hid ((HA1.out.below HBC1.out).below hbd1)
          have HOC21 := Lib.hid (own_below HOC1.out hbd1 (Nat.le_refl _))
          have HXR1 := Lib.hid ((HXB1.out.below HBC1.out HXB1.out.lt).below hbd1 (Nat.lt_of_lt_of_le HXB1.out.lt HBC1.out.size))
          clear hod1 hbd1 HIN1 HA1 HXB1 HOC1 HBC1 HFH1
          go_wp2_with (at_builtin; refine app_kept (.slice pc1 xs1.length cc1) (.slice none 0 0) (.slice pd1 l.length cd1) (.slice none 0 0) (.int .i64 0) (one5 rfl rfl rfl rfl rfl) HAR1.out.os rfl rfl rfl rfl hnw1 HAR1.out.bel.size ?_; intro s1 V1 hos1 hks1; refine Hid.out ?_)
          refine Lib.hid ?_
          obtain ⟨ps1, cs1, rfl⟩ := own_len hos1
          have hbz1 := bal (Below.refl R1.heap.size R1) (.cells #[.slice pc1 xs1.length cc1, .slice none 0 0, .slice pd1 l.length cd1, .slice none 0 0, .int .i64 0] 35)
          have HS2 := Lib.hid ((HAR1.out.below hbz1).addS (q := ⟨⟨.slice pc1 xs1.length cc1, xs1.length, sC xs1⟩, ⟨.slice pd1 l.length cd1, l.length, inC ys1⟩⟩) (Fz.of_own (own_below HOC21.out hbz1 (Nat.le_refl _))) (Fz.of_own (own_below HOD1.out hbz1 (Nat.le_refl _))) (fun p hp => by
            rw [HLN1.out, List.getElem?_append_right (Nat.le_refl _), Nat.sub_self] at hp
            cases hp
            exact ⟨rfl, rfl, rfl, rfl, hxl1, by simp only; omega, ⟨xs1, rfl, rfl⟩, ⟨ys1, rfl, HYL1.out.symm⟩⟩) hos1 hks1)
          have HOX2 := Lib.hid (blk_keepsO (HXR1.out.below hbz1 HXR1.out.lt) (own_below HAR1.out.os hbz1 (Nat.le_refl _)) hks1 (by decide))
          clear hos1 hks1 hbz1 HAR1 HXR1 HOC21 HOD1
          obtain ⟨hd2, hhd2⟩ : ∃ z, z = hd ++ [(⟨⟨.slice pu1 xs1.length cu1, xs1.length, sC xs1⟩, ⟨.slice px1 l.length cx1, l.length, inC ys1⟩⟩ : Hp)] := ⟨_, rfl⟩
          obtain ⟨was2, hwas2⟩ : ∃ z, z = was ++ [(⟨⟨.slice pc1 xs1.length cc1, xs1.length, sC xs1⟩, ⟨.slice pd1 l.length cd1, l.length, inC ys1⟩⟩ : Hp)] := ⟨_, rfl⟩
          rw [← hhd2, ← hwas2] at HS2
          have HLN2 := Lib.hid (show was2.length = hd2.length by rw [hhd2, hwas2, List.length_append, List.length_append, HLN1.out]; rfl)
          have HHL2 := Lib.hid (show hd2.length = hd.length + 1 by rw [hhd2, List.length_append]; rfl)
          clear hhd2 hwas2
          clear HLN1 hnh1 hnw1
          have HHL2b := Lib.hid (show hd2.length ≤ 200 * r + 2 * k + 1 by have := HHL2.out; have := HHD.out; omega)
          by_cases hre : r = 1
          · have hri : ((r : Int) == 1) = true := by rw [hre]; rfl
            go_wp2_with fail
            go_roundw
            case rel => exact ⟨k + 1, bk, hd2, was2, by omega, by omega, by go_num, HLN2.out, by have := HBK.out; omega, by have := HHL2b.out; omega, HS2.out⟩
            case measure => simp [intOf]; omega
          · have hri : ((r : Int) == 1) = false := by rw [beq_eq_false_iff_ne]; omega
            go_upto_region 20 with fail
            clear hri
            have hnh2 : hd2.length ≤ 1000000 := by have := HHL2b.out; omega
            have hnw2 : was2.length ≤ 1000000 := by rw [HLN2.out]; exact hnh2
            have b0 := HOX2.out.cell 0
            have b1 := HOX2.out.cell 1
            have b2 := HOX2.out.cell 2
            have b3 := HOX2.out.cell 3
            have b4 := HOX2.out.cell 4
            have bl := HOX2.out.lt
            go_wp2_with fail
            refine (HCA.out _ HS2.out.bel).mono ?_
            rintro e Y2 ⟨u2, x2, xs2, ys2, rfl, hxl2, hou2, hyl2, hox2, hb2⟩
            obtain ⟨pu2, cu2, rfl⟩ := own_len hou2
            rw [hyl2] at hox2
            obtain ⟨px2, cx2, rfl⟩ := own_len hox2
            have HYL2 := Lib.hid hyl2
            have HOU2 := Lib.hid hou2
            have HOI2 := Lib.hid hox2
            have HLH2 := Lib.hid HS2.out.lowH
            have HLB2 := Lib.hid HS2.out.lowB
            have HSZ2 := Lib.hid HS2.out.bel.size
            have HT2 := Lib.hid (HS2.out.below hb2)
            have HBX2 := Lib.hid (HOX2.out.below hb2 HOX2.out.lt)
            clear hou2 hox2 hb2 hyl2 b0 b1 b2 b3 b4 bl
            go_upto_region 21 with fail
            go_wp2_with (at_builtin; refine app_kept (.slice pu2 xs2.length cu2) (.slice none 0 0) (.slice px2 l.length cx2) (.slice none 0 0) (.int .i64 0) (one5 rfl rfl rfl rfl rfl) HT2.out.oh rfl rfl rfl rfl hnh2 HT2.out.bel.size ?_; intro h2 Z2 hoh2 hkh2; refine Hid.out ?_)
            refine Lib.hid ?_
            obtain ⟨ph2, ch2, rfl⟩ := own_len hoh2
            have hbz2 := bal (Below.refl Y2.heap.size Y2) (.cells #[.slice pu2 xs2.length cu2, .slice none 0 0, .slice px2 l.length cx2, .slice none 0 0, .int .i64 0] 35)
            have HA2 := Lib.hid ((HT2.out.below hbz2).addH (q := ⟨⟨.slice pu2 xs2.length cu2, xs2.length, sC xs2⟩, ⟨.slice px2 l.length cx2, l.length, inC ys2⟩⟩) (N := V1.heap.size) (by have := HLN2.out; omega) (own_below HOU2.out hbz2 (Nat.le_refl _)) (own_below HOI2.out hbz2 (Nat.le_refl _)) HSZ2.out HLH2.out HLB2.out hoh2 hkh2)
            have HXB2 := Lib.hid (blk_keepsO (HBX2.out.below hbz2 HBX2.out.lt) (own_below HT2.out.oh hbz2 (Nat.le_refl _)) hkh2 (by decide))
            clear hoh2 hkh2 hbz2 HT2 HOU2 HOI2 HLH2 HLB2 HBX2
            have HFH2 := Lib.hid (HA2.out.fh hd2.length _ (by rw [List.getElem?_append_right (Nat.le_refl _), Nat.sub_self]; rfl))
            have HCP2 := Lib.hid (copied_any xs2.length (sC xs2) hxl2 sC_str _ Z2 (SeesS.of_own HFH2.out.1))
            have HIN2 := Lib.hid (ints_any l.length (inC ys2) (by omega) inC_int)
            go_wp2_with fail
            refine (HCP2.out).mono ?_
            rintro e Q2 ⟨c2, rfl, hoc2, hbc2⟩
            obtain ⟨pc2, cc2, rfl⟩ := own_len hoc2
            have HOC2 := Lib.hid hoc2
            have HBC2 := Lib.hid hbc2
            clear hoc2 hbc2 HCP2
            go_wp2_with fail
            refine (HIN2.out _ _ (SeesS.of_own (own_below HFH2.out.2 HBC2.out (Nat.le_refl _)))).mono ?_
            rintro e R2 ⟨d2, rfl, hod2, hbd2⟩
            obtain ⟨pd2, cd2, rfl⟩ := own_len hod2
            have HOD2 := Lib.hid hod2
            have HAR2 := Lib.hid ((HA2.out.below HBC2.out).below hbd2)
            have HOC22 := Lib.hid (own_below HOC2.out hbd2 (Nat.le_refl _))
            have HXR2 := Lib.hid ((HXB2.out.below HBC2.out HXB2.out.lt).below hbd2 (Nat.lt_of_lt_of_le HXB2.out.lt HBC2.out.size))
            clear hod2 hbd2 HIN2 HA2 HXB2 HOC2 HBC2 HFH2
            go_wp2_with (at_builtin; refine app_kept (.slice pc2 xs2.length cc2) (.slice none 0 0) (.slice pd2 l.length cd2) (.slice none 0 0) (.int .i64 0) (one5 rfl rfl rfl rfl rfl) HAR2.out.os rfl rfl rfl rfl hnw2 HAR2.out.bel.size ?_; intro s2 V2 hos2 hks2; refine Hid.out ?_)
            refine Lib.hid ?_
            obtain ⟨ps2, cs2, rfl⟩ := own_len hos2
            have hbz2 := bal (Below.refl R2.heap.size R2) (.cells #[.slice pc2 xs2.length cc2, .slice none 0 0, .slice pd2 l.length cd2, .slice none 0 0, .int .i64 0] 35)
            have HS3 := Lib.hid ((HAR2.out.below hbz2).addS (q := ⟨⟨.slice pc2 xs2.length cc2, xs2.length, sC xs2⟩, ⟨.slice pd2 l.length cd2, l.length, inC ys2⟩⟩) (Fz.of_own (own_below HOC22.out hbz2 (Nat.le_refl _))) (Fz.of_own (own_below HOD2.out hbz2 (Nat.le_refl _))) (fun p hp => by
              rw [HLN2.out, List.getElem?_append_right (Nat.le_refl _), Nat.sub_self] at hp
              cases hp
              exact ⟨rfl, rfl, rfl, rfl, hxl2, by simp only; omega, ⟨xs2, rfl, rfl⟩, ⟨ys2, rfl, HYL2.out.symm⟩⟩) hos2 hks2)
            have HOX3 := Lib.hid (blk_keepsO (HXR2.out.below hbz2 HXR2.out.lt) (own_below HAR2.out.os hbz2 (Nat.le_refl _)) hks2 (by decide))
            clear hos2 hks2 hbz2 HAR2 HXR2 HOC22 HOD2
            obtain ⟨hd3, hhd3⟩ : ∃ z, z = hd2 ++ [(⟨⟨.slice pu2 xs2.length cu2, xs2.length, sC xs2⟩, ⟨.slice px2 l.length cx2, l.length, inC ys2⟩⟩ : Hp)] := ⟨_, rfl⟩
            obtain ⟨was3, hwas3⟩ : ∃ z, z = was2 ++ [(⟨⟨.slice pc2 xs2.length cc2, xs2.length, sC xs2⟩, ⟨.slice pd2 l.length cd2, l.length, inC ys2⟩⟩ : Hp)] := ⟨_, rfl⟩
            rw [← hhd3, ← hwas3] at HS3
            have HLN3 := Lib.hid (show was3.length = hd3.length by rw [hhd3, hwas3, List.length_append, List.length_append, HLN2.out]; rfl)
            have HHL3 := Lib.hid (show hd3.length = hd2.length + 1 by rw [hhd3, List.length_append]; rfl)
            clear hhd3 hwas3
            have HHL3b := Lib.hid (show hd3.length ≤ 200 * r + 2 * k + 2 by have := HHL3.out; have := HHL2b.out; omega)
            have b0 := HOX3.out.cell 0
            have b1 := HOX3.out.cell 1
            have b2 := HOX3.out.cell 2
            have b3 := HOX3.out.cell 3
            have b4 := HOX3.out.cell 4
            have bl := HOX3.out.lt
            clear HHL2 HHL2b HHL3 HLN2 hnh2 hnw2
            go_wp2_with fail
            refine (HCA.out _ HS3.out.bel).mono ?_
            rintro e Y3 ⟨u3, x3, xs3, ys3, rfl, hxl3, hou3, hyl3, hox3, hb3⟩
            obtain ⟨pu3, cu3, rfl⟩ := own_len hou3
            rw [hyl3] at hox3
            obtain ⟨px3, cx3, rfl⟩ := own_len hox3
            have HOU3 := Lib.hid hou3
            have HOI3 := Lib.hid hox3
            have HBY3 := Lib.hid hb3
            have HBX3 := Lib.hid (HOX3.out.below hb3 HOX3.out.lt)
            clear hou3 hox3 hb3 hyl3 b0 b1 b2 b3 b4 bl
            have b0 := HBX3.out.cell 0
            have b1 := HBX3.out.cell 1
            have b2 := HBX3.out.cell 2
            have b3 := HBX3.out.cell 3
            have b4 := HBX3.out.cell 4
            have bl := HBX3.out.lt
            go_wp2_with fail
            refine (HRO.out _ (bnx HS3.out.bel HBY3.out)).mono ?_
            rintro e Z3 ⟨rfl, hb4⟩
            have HBZ3 := Lib.hid (bnx HBY3.out hb4)
            have HOU4 := Lib.hid (own_below HOU3.out hb4 (Nat.le_refl _))
            have HOI4 := Lib.hid (own_below HOI3.out hb4 (Nat.le_refl _))
            clear hb4 b0 b1 b2 b3 b4 bl HBX3 HBY3
            have HKP := Lib.hid (kept_any bk.length (by omega) Z3 V2.heap.size xs3.length l.length _ _ _ _ hxl3 (by omega) HBZ3.out.size HOU4.out HOI4.out)
            unfold KA at HKP
            go_wp2_with fail
            refine (HKP.out).mono ?_
            rintro e K3 ⟨g3, h3, rfl, hkf⟩
            obtain ⟨pg3, cg3, rfl⟩ := own_len hkf.og
            obtain ⟨pq3, cq3, rfl⟩ := own_len hkf.oh
            have HKF := Lib.hid hkf
            have HS4 := Lib.hid (HS3.out.below (HBZ3.out.trans hkf.bel))
            have HAP := Lib.hid (fun (j : Nat) (p : Hp) (hp : hd3[j]? = some p) => And.intro (And.intro (apart_low (HS3.out.lowH j p hp).1 HOU4.out (Nat.le_refl _)).symm (apart_low (HS3.out.lowH j p hp).1 hkf.og (Nat.le_refl _)).symm) (And.intro (apart_low (HS3.out.lowH j p hp).2 HOI4.out (Nat.le_refl _)).symm (apart_low (HS3.out.lowH j p hp).2 hkf.oh (Nat.le_refl _)).symm))
            clear hkf HKP
            go_wp2_with (at_builtin; refine app_kept (.slice pu3 xs3.length cu3) (.slice pg3 (xs3.length + 64) cg3) (.slice px3 l.length cx3) (.slice pq3 (l.length + 64) cq3) (.int .i64 (bk.length : Int)) (one5 rfl rfl rfl rfl rfl) HS4.out.ob rfl rfl rfl rfl hnb2 HS4.out.bel.size ?_; intro b5 V5 hob5 hkb5; refine Hid.out ?_)
            refine Lib.hid ?_
            obtain ⟨pb5, cb5, rfl⟩ := own_len hob5
            have hbz5 := bal (Below.refl K3.heap.size K3) (.cells #[.slice pu3 xs3.length cu3, .slice pg3 (xs3.length + 64) cg3, .slice px3 l.length cx3, .slice pq3 (l.length + 64) cq3, .int .i64 (bk.length : Int)] 35)
            have HS5 := Lib.hid ((HS4.out.below hbz5).addB (e := ⟨.slice pu3 xs3.length cu3, .slice pg3 (xs3.length + 64) cg3, .slice px3 l.length cx3, .slice pq3 (l.length + 64) cq3, xs3.length, l.length, bk.length⟩) ((HKF.out.ok hxl3 (by omega) (by omega)).below hbz5) HAP.out hob5 hkb5)
            clear hob5 hkb5 hbz5 HKF HAP HS4
            have HSN := Lib.hid (seen_any _ V5 _ _ (by simp; omega) HS5.out.ok HS5.out.ob)
            go_wp2_with fail
            refine (HSN.out).mono ?_
            rintro e V6 ⟨rfl, hb6⟩
            have HS6 := Lib.hid (HS5.out.below hb6)
            clear hb6 HS5 HSN
            obtain ⟨gr, _, er, _, _, hgr, qr⟩ := own_at (own_below HOR0.out HS6.out.bel (Nat.le_refl _)) (by omega)
            cases er
            have ra := room_at l ⟨#[114, 111, 111, 109]⟩ 77
            have r0 := qr _ _ ra.1
            have r1 := qr _ _ ra.2
            have hcr1 := hcr.1
            have m1 : (l.length : Int) < (l.length : Int) + 1 := by omega
            clear qr ra
            go_upto_region 30 with fail
            clear r0 r1 hgr m1
            obtain ⟨bk6, hbk6⟩ : ∃ z, z = bk ++ [(⟨.slice pu3 xs3.length cu3, .slice pg3 (xs3.length + 64) cg3, .slice px3 l.length cx3, .slice pq3 (l.length + 64) cq3, xs3.length, l.length, bk.length⟩ : Bo)] := ⟨_, rfl⟩
            rw [← hbk6] at HS6
            have HBL := Lib.hid (show bk6.length = bk.length + 1 by rw [hbk6, List.length_append]; rfl)
            clear hbk6
            obtain ⟨V7, hV7⟩ : ∃ W, W = V6 := ⟨V6, rfl⟩
            subst hV7
            go_wp2_with fail
            go_loopw [24] (fun i wx => ∃ y : Nat, y ≤ l.length ∧ i = .int .i64 (y : Int) ∧ Below V7.heap.size V7 wx) (fun i _ => l.length - (intOf i).toNat)
            case atStart => exact ⟨0, Nat.zero_le _, rfl, Below.refl _ _⟩
            case round =>
              obtain ⟨y, hy, rfl, hbel⟩ := hrel
              have HBV := Lib.hid hbel
              have HSV := Lib.hid (HS6.out.below hbel)
              clear hbel
              by_cases hly : y < l.length
              · have y1 : (y : Int) < (l.length : Int) := by omega
                have y0 : (0 : Int) ≤ (y : Int) := by omega
                obtain ⟨ga, oa, ea, hga, qa⟩ := sees_at (HSR.out.below HSV.out.bel) (by omega)
                cases ea
                obtain ⟨gb, ob, eb, hgb, qb⟩ := sees_at (HSF.out.below HSV.out.bel) (by omega)
                cases eb
                have k0 := qa y _ (List.getElem?_eq_getElem hly)
                have k1 := qb y _ (List.getElem?_eq_getElem hly)
                have hfw := (HFM.out l[y] (List.getElem_mem hly))
                have hqq := fld_neq l[y].1 l[y].2
                generalize l[y] = fy at *
                obtain ⟨fn, fb⟩ := fy
                have k00 := k0.1
                have k01 := k0.2
                have k10 := k1.1
                have k11 := k1.2
                simp only [← Nat.add_assoc] at k00 k01 k10 k11 hqq
                try simp only [Nat.zero_add] at k00 k01
                clear qa qb k0 k1 hfw
                go_upto_region 33 with fail
                go_quiet (fail)
                go_wp2_with fail
                go_roundw
                case rel => exact ⟨y + 1, by omega, by go_num, below_drewN HBV.out _⟩
                case measure => simp [intOf]; omega
              · have hny : ¬ (y : Int) < (l.length : Int) := by omega
                go_wp2_with fail
                go_roundw
                case rel => exact ⟨k + 1, bk6, hd3, was3, by omega, by omega, by go_num, HLN3.out, by have := HBL.out; have := HBK.out; omega, by have := HHL3b.out; omega, HSV.out⟩
                case measure => simp [intOf]; omega
        · have hni : ¬ ((k : Int) < (L.length : Int) ∧ (k : Int) < 100) := by omega
          have HRQ := Lib.hid (show bk.length ≤ 100 * (r + 1) ∧ hd.length ≤ 200 * (r + 1) by have := HBK.out; have := HHD.out; omega)
          by_cases hkl : (k : Int) < (L.length : Int)
          · have hk1 : ¬ (k : Int) < 100 := by omega
            go_wp2_with fail
            go_roundw
            case rel => exact ⟨r + 1, bk, hd, was, by omega, by go_num, HLN.out, HRQ.out.1, HRQ.out.2, HST.out⟩
            case measure => simp [intOf]; omega
          · go_wp2_with fail
            go_roundw
            case rel => exact ⟨r + 1, bk, hd, was, by omega, by go_num, HLN.out, HRQ.out.1, HRQ.out.2, HST.out⟩
            case measure => simp [intOf]; omega
    · have hnq : ¬ (r : Int) < 2 := by omega
      have HS0 := Lib.hid HST.out
      have hdb : hd.length ≤ 400 := by have := HHD.out; omega
      have bkb : bk.length ≤ 200 := by have := HBK.out; omega
      clear HBK HHD HST
      obtain ⟨V8, hV8⟩ : ∃ W, W = wr := ⟨wr, rfl⟩
      subst hV8
      go_wp2_with fail
      clear hnq
      go_loopw [25] (fun i wx => ∃ y : Nat, y ≤ hd.length ∧ i = .int .i64 (y : Int) ∧ Below V8.heap.size V8 wx) (fun i _ => hd.length - (intOf i).toNat)
      case atStart => exact ⟨0, Nat.zero_le _, rfl, Below.refl _ _⟩
      case round =>
        obtain ⟨y, hy, rfl, hbel⟩ := hrel
        have HBV := Lib.hid hbel
        have HSV := Lib.hid (HS0.out.below hbel)
        clear hbel
        by_cases hly : y < hd.length
        · have y1 : (y : Int) < (hd.length : Int) := by omega
          have y2 : (y : Int) < (was.length : Int) := by have := HLN.out; omega
          have y0 : (0 : Int) ≤ (y : Int) := by omega
          obtain ⟨p, hp⟩ : ∃ p, hd[y]? = some p := ⟨_, List.getElem?_eq_getElem hly⟩
          obtain ⟨q, hq⟩ : ∃ q, was[y]? = some q := ⟨_, List.getElem?_eq_getElem (by have := HLN.out; omega)⟩
          obtain ⟨a1, a2, a3, a4, _, _, ⟨Ls, l1, l2⟩, Is, m1, m2⟩ := HSV.out.eq y p q hp hq
          obtain ⟨o1, o2⟩ := HSV.out.fh y p hp
          obtain ⟨z1, z2⟩ := HSV.out.fw y q hq
          rw [← a1, ← a2, l1, l2] at z1
          rw [← a3, ← a4, m1, m2] at z2
          rw [l1, l2] at o1
          rw [m1, m2] at o2
          obtain ⟨gh, _, eh, _, _, hgh, qh⟩ := own_at HSV.out.oh (by omega)
          cases eh
          obtain ⟨gw, _, ew, _, _, hgw, qw⟩ := own_at HSV.out.os (by have := HLN.out; omega)
          cases ew
          have c0 := qh (y * 5 + 0) p.s.v (five_at Hp.cs (fun _ => rfl) hd y p hp 0 (by decide))
          have c2 := qh (y * 5 + 2) p.i.v (five_at Hp.cs (fun _ => rfl) hd y p hp 2 (by decide))
          have d0 := qw (y * 5 + 0) q.s.v (five_at Hp.cs (fun _ => rfl) was y q hq 0 (by decide))
          have d2 := qw (y * 5 + 2) q.i.v (five_at Hp.cs (fun _ => rfl) was y q hq 2 (by decide))
          rw [Nat.add_zero] at c0 d0
          clear hp hq a1 a2 a3 a4 l1 l2 m1 m2 qh qw
          generalize p.s.v = v1 at *
          generalize p.i.v = v2 at *
          generalize q.s.v = v3 at *
          generalize q.i.v = v4 at *
          obtain ⟨b1, e1, rfl⟩ := own_len o1
          obtain ⟨b2, e2, rfl⟩ := own_len o2
          obtain ⟨b3, e3, rfl, _, _⟩ := z1.form
          obtain ⟨b4, e4, rfl, _, _⟩ := z2.form
          have HY1 := Lib.hid (fun w' (hb : Below wr.heap.size wr w') => same_yes Ls _ _ w' (SeesS.of_own (own_below o1 hb (Nat.le_refl _))) (z1.below hb).sees)
          have HY2 := Lib.hid (fun w' (hb : Below wr.heap.size wr w') => alike_yes Is _ _ w' (SeesS.of_own (own_below o2 hb (Nat.le_refl _))) (z2.below hb).sees)
          have HKK := Lib.hid (show Hd4 wr gh gw (y * 5) (.slice b1 Ls.length e1) (.slice b2 Is.length e2) (.slice b3 Ls.length e3) (.slice b4 Is.length e4) wr from ⟨c0, c2, d0, d2, Below.refl _ _⟩)
          clear o1 o2 z1 z2 c0 c2 d0 d2
          go_upto_region 38 with fail
          have hK0 : Hd4 wr gh gw (y * 5) (.slice b1 Ls.length e1) (.slice b2 Is.length e2) (.slice b3 Ls.length e3) (.slice b4 Is.length e4) wr.drew := HKK.out.go hgh hgw (Below.refl _ _).drew
          go_region_held3 (fun w' => Hd4 wr gh gw (y * 5) (.slice b1 Ls.length e1) (.slice b2 Is.length e2) (.slice b3 Ls.length e3) (.slice b4 Is.length e4) w')
            (with_reducible (first | assumption | exact hK0 | exact hK2 | exact hK3 | fail))
            (first | (go_at_call 11; (with_reducible refine (HY1.out wr.drew (Below.refl wr.heap.size wr).drew).mono ?_); rintro e w2 ⟨rfl, hb2⟩; have hK2 := hK0.go hgh hgw hb2) | (go_at_call 12; (with_reducible refine (HY2.out w2 hK2.2.2.2.2).mono ?_); rintro e w3 ⟨rfl, hb3⟩; have hK3 := hK2.go hgh hgw hb3) | fail)
          have HBQ := Lib.hid (bnx HBV.out hK3.2.2.2.2)
          clear hK0 hK2 hK3 hb2 hb3
          go_wp2_with fail
          go_roundw
          case rel => exact ⟨y + 1, by omega, by go_num, HBQ.out⟩
          case measure => simp [intOf]; omega
        · have hny : ¬ (y : Int) < (hd.length : Int) := by omega
          have HF0 := Lib.hid (HSV.out.to2 HLN.out)
          clear HS0 HSV HLN hly hy
          obtain ⟨V9, hV9⟩ : ∃ W, W = wr := ⟨wr, rfl⟩
          subst hV9
          go_wp2_with fail
          clear hny
          go_loopw [8, 26] (fun b i wx => ∃ (y : Nat) (bk2 : List Bo), y ≤ hd.length ∧ i = .int .i64 (y : Int) ∧ bk2.length ≤ 200 + y ∧ Fo2 W0 bk2 hd y b (.slice ph hd.length ch) wx) (fun _ i _ => hd.length - (intOf i).toNat)
          case atStart => exact ⟨0, bk, Nat.zero_le _, rfl, by omega, HF0.out⟩
          case round =>
            clear HF0
            obtain ⟨y, bk2, hy, rfl, hbk2, hst⟩ := hrel
            have HST := Lib.hid hst
            obtain ⟨pk2, ck2, rfl⟩ := own_len hst.ob
            clear hst
            by_cases hly : y < hd.length
            · have y1 : (y : Int) < (hd.length : Int) := by omega
              have y0 : (0 : Int) ≤ (y : Int) := by omega
              obtain ⟨p, hp⟩ : ∃ p, hd[y]? = some p := ⟨_, List.getElem?_eq_getElem hly⟩
              have HSD := Lib.hid (HST.out.below (Below.refl wr.heap.size wr).drew)
              obtain ⟨o1, o2⟩ := HSD.out.fh y p (Nat.le_refl _) hp
              obtain ⟨t1, t2⟩ := HSD.out.bd y p hp
              obtain ⟨⟨sv, sn, sx⟩, ⟨iv, jn, jx⟩⟩ := p
              simp only at o1 o2 t1 t2
              obtain ⟨b1, e1, rfl⟩ := own_len o1
              obtain ⟨b2, e2, rfl⟩ := own_len o2
              obtain ⟨gh, _, eh, _, _, hgh, _⟩ := own_at HSD.out.oh (by omega)
              cases eh
              have hK0 := HSD.out.cells hp
              have hKW := HST.out.cells hp
              simp only at hK0 hKW
              have HP := Lib.hid hp
              have hbk3 : bk2.length < 65536 := by omega
              have hbk4 : bk2.length ≤ 1000000 := by omega
              have HKP := Lib.hid (kept_any bk2.length hbk3 wr.drew W0.heap.size sn jn _ _ _ _ t1 t2 HSD.out.bel.size o1 o2)
              unfold KA at HKP
              have HBK3 := Lib.hid hbk3
              clear o1 o2 hp hbk3
              go_upto_region 43 with fail
              go_region_held3 (fun w' => w'.cell? ⟨gh, y * 5, none⟩ = some (.slice b1 sn e1) ∧ w'.cell? ⟨gh, y * 5 + 2, none⟩ = some (.slice b2 jn e2))
                (with_reducible (first | assumption | exact hK0 | exact hK2 | exact hK3 | exact hK4 | fail))
                (first | (go_at_call 9; (with_reducible refine (HKP.out).mono ?_); rintro e w4 ⟨g3, h3, rfl, hkf⟩; obtain ⟨pg3, cg3, rfl⟩ := own_len hkf.og; obtain ⟨pq3, cq3, rfl⟩ := own_len hkf.oh; have HF1 := Lib.hid (Fo2.kept HSD.out HP.out HBK3.out hkf); have hK2 := HF1.out.1.cells HP.out; have hbz := bal (Below.refl w4.heap.size w4) (.cells #[.slice b1 sn e1, .slice pg3 (sn + 64) cg3, .slice b2 jn e2, .slice pq3 (jn + 64) cq3, .int .i64 (bk2.length : Int)] 35); have HF2 := Lib.hid (HF1.out.1.below hbz); have hK3 := HF2.out.cells HP.out; simp only at hK2 hK3; clear hkf) | (refine step_app_keptK (.slice b1 sn e1) (.slice pg3 (sn + 64) cg3) (.slice b2 jn e2) (.slice pq3 (jn + 64) cq3) (.int .i64 (bk2.length : Int)) (one5 rfl rfl rfl rfl rfl) (.tmp 205) (.tmp 219) HF1.out.1.ob (by rfl) (by rfl) (by rfl) (by rfl) hbk4 HF1.out.1.bel.size ?_; intro b5 w5 hob5 hkb5; obtain ⟨pb5, cb5, rfl⟩ := own_len hob5; have HF3 := Lib.hid (HF2.out.addB (HF1.out.2.1.below hbz) HF1.out.2.2 hob5 hkb5); have hK4 := HF3.out.cells HP.out; simp only at hK4; clear hob5 hkb5) | fail)
              go_wp2_with fail
              go_roundw
              case rel => exact ⟨y + 1, _, by omega, by go_num, by rw [List.length_append]; simp; omega, HF3.out⟩
              case measure => simp [intOf]; omega
            · have hny : ¬ (y : Int) < (hd.length : Int) := by omega
              have HSN := Lib.hid (seen_any bk2 wr _ _ (by omega) HST.out.ok HST.out.ob)
              have HKN := Lib.hid known_yes
              have HBF := Lib.hid (bnx HB0.out HST.out.bel)
              go_wp2_with fail
              refine (HSN.out).mono ?_
              rintro e x1 ⟨rfl, hc1⟩
              go_wp2_with fail
              refine (HKN.out _).mono ?_
              rintro e x2 ⟨rfl, hc2⟩
              go_wp2_with fail
              go_ret
              exact ⟨rfl, bnx (bnx HBF.out hc1) hc2⟩
end Go.Proofs.YtlakglphjhoodaaDoor.Fl
