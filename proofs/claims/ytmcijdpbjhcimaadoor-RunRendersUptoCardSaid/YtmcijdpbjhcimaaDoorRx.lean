/- RunRenders: twice. Printed by mktwice.py. -/
import Derived.Test.YtmcijdpbjhcimaaDoorRw
import Derived.Test.YtmcijdpbjhcimaaDoorHl
namespace Go.Proofs.YtmcijdpbjhcimaaDoor.Rn
open Go.RowKit Go.Shelf Mm
set_option linter.unusedVariables false
/-- while the replies are copied -/
structure TwS (w : World) (kd co te li : Int) (v : Value) (R : List Rep) (k : Nat) (sl : Value) (V : List Vs) (X : World) : Prop where
  bel : Below w.heap.size w X
  b1 : Blk X w.heap.size 25 #[.int .i64 kd, .int .i64 co, .int .i64 te, .int .i64 li, v]
  b2 : Blk X (w.heap.size + 1) 25 #[.int .i64 0, .int .i64 0, .int .i64 0, .int .i64 0, .slice none 0 0]
  b3 : Blk X (w.heap.size + 1 + 1) 25 #[.int .i64 kd, .int .i64 co, .int .i64 te, .int .i64 li, sl]
  or_ : OR (w.heap.size + 3) sl (R.take k) V X
theorem TwS.start (w : World) (kd co te li : Int) (v : Value) (R : List Rep) : TwS w kd co te li v R 0 (.slice none 0 0) [] (((w.alloc (.cells #[.int .i64 kd, .int .i64 co, .int .i64 te, .int .i64 li, v] 25)).alloc (.cells #[.int .i64 0, .int .i64 0, .int .i64 0, .int .i64 0, .slice none 0 0] 25)).alloc (.cells #[.int .i64 kd, .int .i64 co, .int .i64 te, .int .i64 li, .slice none 0 0] 25)) := by
  refine ⟨bal (bal (bal (Below.refl _ _) _) _) _, ((Blk.new w _ _).alloc _).alloc _, ?_, ?_, by rw [List.take_zero]; exact OR.nil _ _⟩
  · have := Blk.new (w.alloc (.cells #[.int .i64 kd, .int .i64 co, .int .i64 te, .int .i64 li, v] 25)) 25 #[.int .i64 0, .int .i64 0, .int .i64 0, .int .i64 0, .slice none 0 0]
    rw [World.size_alloc] at this
    exact this.alloc _
  · have := Blk.new ((w.alloc (.cells #[.int .i64 kd, .int .i64 co, .int .i64 te, .int .i64 li, v] 25)).alloc (.cells #[.int .i64 0, .int .i64 0, .int .i64 0, .int .i64 0, .slice none 0 0] 25)) 25 #[.int .i64 kd, .int .i64 co, .int .i64 te, .int .i64 li, .slice none 0 0]
    rw [World.size_alloc, World.size_alloc] at this
    exact this
theorem RegP.out {X X1 : World} {ny c : Nat} {l : List ByteArray} (h : RegP X ny c l X1) (hny : ny < X.heap.size) :
    ∃ g cap, l.length + 1 ≤ cap ∧ cap ≤ maxLen ∧ X1.ownsRow X.heap.size 9 1 (.slice (some ⟨g, 0, none⟩) (l.length + 1) cap) (l.length + 1) (ss (l ++ [behB])) ∧ Below ny X X1 ∧ X.heap.size ≤ X1.heap.size ∧
      (∀ cs t, Blk X ny t cs → Blk X1 ny t (cs.setIfInBounds c (.slice (some ⟨g, 0, none⟩) l.length cap))) ∧ ∀ (B : Nat) (e : TypeId) (s : Nat) (v : Value) (n : Nat) (xs : List Value), X.ownsRow B e s v n xs → ny < B → X1.ownsRow B e s v n xs := by
  obtain ⟨g, cap, Y, rfl, hb, hc, hm, ho⟩ := h
  refine ⟨g, cap, hc, hm, own_put ho (only_set _ _ _ _) hny, (hb.mono (Nat.le_of_lt hny)).setCell (p := ⟨ny, c, none⟩) (Nat.le_refl _) _, ?_, fun cs t hB => (hB.below hb hny).set_ c _, fun B e s v n xs h hB => own_put (own_below h hb (Nat.le_refl _)) (only_set _ _ _ _) hB⟩
  have h1 := (only_set Y ny c (.slice (some ⟨g, 0, none⟩) l.length cap)).size
  exact Nat.le_trans hb.size h1
theorem app_reply {B : Nat} {sl : Value} {n : Nat} {xs : List Value} {w : World} (y0 y1 y2 y3 y4 y5 y6 y7 y8 : Value) (hy : ∀ u ∈ [y0, y1, y2, y3, y4, y5, y6, y7, y8], u.oneCell' = true) {ops : Array Oper} {rest : List Oper} {o : Oper} {a : Act} {Q : Exit → Act → World → Prop} {s x : Operand}
    (hown : w.ownsRow B 30 9 sl n xs) (hgd : o.guard = none) (ho : o.op = .call { callee := .builtin .append, args := #[s, x], argTypes := #[23, 23] })
    (hs : a.eval s = sl) (hx : a.eval x = .slice (some ⟨w.heap.size, 0, none⟩) 1 1) (hn : n ≤ 429496729) (hB : B ≤ w.heap.size)
    (h : ∀ v' w', w'.ownsRow B 30 9 v' (n + 1) (xs ++ [y0, y1, y2, y3, y4, y5, y6, y7, y8]) → Keeps (w.alloc (.cells #[y0, y1, y2, y3, y4, y5, y6, y7, y8] 30)) sl v' w' → wpList Tryd.prog ops Q rest (a.put o.dst v') w') : wpList Tryd.prog ops Q (o :: rest) a (w.alloc (.cells #[y0, y1, y2, y3, y4, y5, y6, y7, y8] 30)) := by
  obtain ⟨i0, hi, hz0, hz1, hz2⟩ := info_parts info_reply
  exact wpList_append_keep _ hgd s x 23 ho B 30 i0 _ 9 144 Tryd.underlying23 hi hz0 hz1 hz2 rfl (by decide) sl n _ hs (hown.alloc _) ⟨w.heap.size, 0, none⟩ 1 1 [y0, y1, y2, y3, y4, y5, y6, y7, y8] hx rfl (cells_new _ #[y0, y1, y2, y3, y4, y5, y6, y7, y8] _)
    hy (by decide) (by simp only [maxLen]; omega) (by omega) (by simp; omega) h
theorem OR.put_low {B g : Nat} {sl : Value} {R : List Rep} {V : List Vs} {X Y : World} (h : OR B sl R V X) (hg : X.grownBy Y (some g)) (hlt : g < B) : OR B sl R V Y :=
  ⟨h.n, own_put h.own hg hlt, ⟨fun i r hr => own_put (h.fam.1 i r hr) hg hlt, h.fam.2⟩, h.fm⟩
/-- a round's end -/
theorem TwS.next {w wr X Y : World} {kd co te li : Int} {v : Value} {R : List Rep} {k : Nat} {sl sl' : Value} {V' : List Vs} {y : Rep} {u : Vs} (H : TwS w kd co te li v R k sl V' wr) (hT : R.take (k + 1) = R.take k ++ [y]) (hk : (R.take k).length = k) (hb : Below wr.heap.size wr X)
    (o1 : X.ownsRow wr.heap.size 9 1 (up u.p) (y.po.length + 1) (ss (y.po ++ [behB]))) (o2 : X.ownsRow wr.heap.size 9 1 (up u.e) (y.en.length + 1) (ss (y.en ++ [behB]))) (o3 : X.ownsRow wr.heap.size 9 1 (up u.l) (y.li.length + 1) (ss (y.li ++ [behB])))
    (a12 : Apart (up u.p) (up u.e)) (a13 : Apart (up u.p) (up u.l)) (a23 : Apart (up u.e) (up u.l)) (hf : Fm u.p y.po ∧ Fm u.e y.en ∧ Fm u.l y.li)
    (ho : Y.ownsRow (w.heap.size + 3) 30 9 sl' (k + 1) (rC (R.take k) V' ++ yC y u)) (hkp : Keeps X sl sl' Y) :
    TwS w kd co te li v R (k + 1) sl' (V' ++ [u]) (Y.setCell ⟨w.heap.size + 1 + 1, 4, none⟩ sl') := by
  have hsz : w.heap.size + 1 + 1 < wr.heap.size := H.b3.lt
  have hO := H.or_.below hb (Nat.le_refl _)
  have hlow : ∀ (i : Nat) (r : Rw), (tR (R.take k) V')[i]? = some r → ∀ g, r.v.ownBlock = some g → g < wr.heap.size := fun i r hr => own_ltO (H.or_.fam.1 i r hr)
  have hS : OR (w.heap.size + 3) sl' (R.take k ++ [y]) (V' ++ [u]) Y := hO.snoc (by omega) hlow o1 o2 o3 a12 a13 a23 hf (by rw [hk]; exact ho) hkp
  have hg := hkp.by
  have c1 := (H.b1.below hb H.b1.lt).grown hg (blk_apart (H.b1.below hb H.b1.lt) hO.own (by decide))
  have c2 := (H.b2.below hb H.b2.lt).grown hg (blk_apart (H.b2.below hb H.b2.lt) hO.own (by decide))
  have c3 := (H.b3.below hb H.b3.lt).grown hg (blk_apart (H.b3.below hb H.b3.lt) hO.own (by decide))
  have hbY : Below w.heap.size w Y := (bnx H.bel hb).grown hg (Nat.le_trans H.bel.size hb.size) (fun g hg => by have := (hO.own.lt g hg).1; omega)
  refine ⟨hbY.setCell (p := ⟨w.heap.size + 1 + 1, 4, none⟩) (by simp; omega) _, c1.far (p := ⟨w.heap.size + 1 + 1, 4, none⟩) (by simp; omega) _, c2.far (p := ⟨w.heap.size + 1 + 1, 4, none⟩) (by simp) _, c3.set_ 4 sl', ?_⟩
  rw [hT]
  exact hS.put_low (only_set _ _ _ _) (by omega)
theorem TwS.after {w wr X Y : World} {kd co te li : Int} {v : Value} {R : List Rep} {k n : Nat} {sl sl' : Value} {V' : List Vs} {xs : List Value} (H : TwS w kd co te li v R k sl V' wr) (hb : Below wr.heap.size wr X) (hkp : Keeps X sl sl' Y) (ho : Y.ownsRow (w.heap.size + 3) 30 9 sl' n xs) :
    (∃ a c, sl' = .slice a n c) ∧ Y.cell? ⟨w.heap.size + 1 + 1, 4, none⟩ = some sl ∧ Y.frozen? ⟨w.heap.size + 1 + 1, 4, none⟩ = false := by
  have hO := H.or_.below hb (Nat.le_refl _)
  have c3 := (H.b3.below hb H.b3.lt).grown hkp.by (blk_apart (H.b3.below hb H.b3.lt) hO.own (by decide))
  exact ⟨own_len ho, by rw [c3.cell]; rfl, c3.frozen 4⟩
theorem OR.low {A B : Nat} {sl : Value} {R : List Rep} {V : List Vs} {X : World} (h : OR B sl R V X) (hA : A ≤ B) : OR A sl R V X :=
  ⟨h.n, own_low h.own hA, ⟨fun i r hr => own_low (h.fam.1 i r hr) hA, h.fam.2⟩, h.fm⟩
/-- what is handed back is written -/
theorem TwS.last {w X : World} {kd co te li : Int} {v : Value} {R : List Rep} {sl : Value} {V' : List Vs} (H : TwS w kd co te li v R R.length sl V' X) :
    ∀ Y, Y = ((((X.setCell ⟨w.heap.size + 1, 0, none⟩ (.int .i64 kd)).setCell ⟨w.heap.size + 1, 1, none⟩ (.int .i64 co)).setCell ⟨w.heap.size + 1, 2, none⟩ (.int .i64 te)).setCell ⟨w.heap.size + 1, 3, none⟩ (.int .i64 li)).setCell ⟨w.heap.size + 1, 4, none⟩ sl →
      Blk Y (w.heap.size + 1) 25 #[.int .i64 kd, .int .i64 co, .int .i64 te, .int .i64 li, sl] ∧ OR w.heap.size sl R V' Y ∧ Below w.heap.size w Y := by
  rintro Y rfl
  have hg := gtrans (gtrans (gtrans (gtrans (only_set X (w.heap.size + 1) 0 (.int .i64 kd)) (only_set _ (w.heap.size + 1) 1 (.int .i64 co))) (only_set _ (w.heap.size + 1) 2 (.int .i64 te))) (only_set _ (w.heap.size + 1) 3 (.int .i64 li))) (only_set _ (w.heap.size + 1) 4 sl)
  have hb := ((((H.b2.set_ 0 (.int .i64 kd)).set_ 1 (.int .i64 co)).set_ 2 (.int .i64 te)).set_ 3 (.int .i64 li)).set_ 4 sl
  have ho := H.or_
  rw [List.take_length] at ho
  exact ⟨hb, (ho.put_low hg (by omega)).low (by omega), H.bel.grown hg H.bel.size (fun k hk => by cases hk; omega)⟩
theorem HdC.allocD {X W : World} {g q : Nat} {z : Value} (hg : g < X.heap.size) (h : HdC X g q z W) (o : Obj) : HdC X g q z (W.alloc o).drew := by
  have h1 := HdC.alloc hg h o
  exact ⟨h1.1, h1.2.drew⟩
theorem copy_done {X W : World} {ny n : Nat} {t : TypeId} {cs : Array Value} {v : Value} {l : List ByteArray} (h : W.ownsRow X.heap.size 9 1 v n ([] ++ ss l ++ ss [behB])) (hn : n = l.length + 1) (hb : Below X.heap.size X W) (hY : Blk X ny t cs) (c : Nat) :
    ∃ g cap, v = .slice (some ⟨g, 0, none⟩) (l.length + 1) cap ∧ l.length + 1 ≤ cap ∧ cap ≤ 9223372036854775807 ∧ (l.length : Int) ≤ (cap : Int) ∧ (0 : Int) ≤ (l.length : Int) ∧ W.frozen? ⟨ny, c, none⟩ = false ∧ W.ownsRow X.heap.size 9 1 (.slice (some ⟨g, 0, none⟩) (l.length + 1) cap) (l.length + 1) (ss (l ++ [behB])) := by
  subst hn
  obtain ⟨g, cap, rfl, hc, hm⟩ := own_cap h (by omega)
  refine ⟨g, cap, rfl, hc, hm, by omega, by omega, by rw [hb.frozen (p := ⟨ny, c, none⟩) hY.lt]; exact hY.frozen c, ?_⟩
  rw [ss_app]
  exact h
theorem sees_mark {X : World} {g : Nat} {t : TypeId} (h : Blk X g t #[.string ⟨#[98, 101, 104, 105, 110, 100]⟩]) : Sees X (.slice (some ⟨g, 0, none⟩) 1 1) (ss [behB]) := by
  refine ⟨some ⟨g, 0, none⟩, 1, rfl, (fun h => by cases h), Nat.le_refl _, by decide, .inr ⟨g, 0, rfl, h.lt, fun j u hj => ?_⟩⟩
  rw [Nat.zero_add, h.cell]
  cases j with
  | zero => simpa [ss, behB] using hj
  | succ j => simp [ss] at hj
theorem sees_one (X : World) (t : ByteArray) : Sees (X.alloc (.cells #[.string t] 9)) (.slice (some ⟨X.heap.size, 0, none⟩) 1 1) (ss [t]) := Sees.of_own (own_one X 9 #[.string t] (Nat.le_refl _))
set_option maxRecDepth 100000 in
set_option maxHeartbeats 4000000 in
theorem twice_any (w : World) (kd co te li : Int) (R : List Rep) (V : List Vs) (v : Value) (hv : RepsW w v R V) (hR : wR R ≤ 68719476736) :
    Calls Tryd.prog 4 #[.agg #[.int .i64 kd, .int .i64 co, .int .i64 te, .int .i64 li, v]] w fun e w' => ∃ sl V', e = .returned (.agg #[.int .i64 kd, .int .i64 co, .int .i64 te, .int .i64 li, sl]) ∧ OR w.heap.size sl R V' w' ∧ Below w.heap.size w w' := by
  obtain ⟨a0, cap, rfl, hcap, hcm⟩ := hv.form
  unfold maxLen at hcm
  have HV := Lib.hid hv
  have hRl := wR_len R
  clear hv
  go_enter Tryd.func4, Tryd.ntmps4
  go_wp2_with fail
  go_loopw [4, 5] (fun i _ wr => ∃ (k : Nat) (sl : Value) (V' : List Vs), k ≤ R.length ∧ i = .int .i64 (k : Int) ∧ TwS w kd co te li (.slice a0 R.length cap) R k sl V' wr) (fun i _ _ => R.length - (intOf i).toNat)
  case atStart => exact ⟨0, _, _, Nat.zero_le _, rfl, TwS.start w kd co te li _ R⟩
  case round =>
    obtain ⟨k, sl, V', hk, rfl, hs⟩ := hrel
    have HS := Lib.hid hs
    have c4 := hs.b1.cell 4
    clear hs
    by_cases hlt : k < R.length
    · obtain ⟨g, off, rfl, hg, hq⟩ := HV.out.at (by omega)
      obtain ⟨u, _, hx, hxw⟩ := hq k hlt
      obtain ⟨up1, ue, ul⟩ := u
      have hp := hxw.p
      have he := hxw.e
      have hl := hxw.l
      dsimp only at hp he hl
      obtain ⟨ap, cp, rfl, _, _⟩ := sees_form hp
      obtain ⟨ae, ce, rfl, _, _⟩ := sees_form he
      obtain ⟨al, cl, rfl, _, _⟩ := sees_form hl
      have HP := Lib.hid (hp.below HS.out.bel)
      have HE := Lib.hid (he.below HS.out.bel)
      have HL := Lib.hid (hl.below HS.out.bel)
      clear hp he hl
      obtain ⟨q0, q1, q2, q3, q4, q5, q6, q7, q8⟩ := hx.below HS.out.bel hg
      have HT := Lib.hid (show R.take (k + 1) = R.take k ++ [R[k]] from List.take_succ_eq_append_getElem hlt)
      have hyw := wR_mem (List.getElem_mem hlt)
      obtain ⟨_, _, z3, z4, _, z6⟩ := sizes_le R[k]
      have z3b := wL_len R[k].po
      have z4b := wL_len R[k].en
      have z6b := wL_len R[k].li
      generalize R[k] = y at *
      have hpn : y.po.length ≤ 4294967296 := by omega
      have hen : y.en.length ≤ 4294967296 := by omega
      have hln : y.li.length ≤ 4294967296 := by omega
      clear hq hx hxw z3 z4 z6 z3b z4b z6b hyw
      go_wp2_with fail
      clear q0 q1 q2 q3 q4 q5 q6 q7 q8 c4
      have HY0 := Lib.hid (Blk.new wr 30 #[.int .i64 y.kd, .bool y.fd, .string y.sp, .string y.wi, .slice ap y.po.length cp, .slice ae y.en.length ce, .string y.fi, .slice al y.li.length cl, .bool y.mo])
      have HB0 := Lib.hid (show Below wr.heap.size wr (wr.alloc (.cells #[.int .i64 y.kd, .bool y.fd, .string y.sp, .string y.wi, .slice ap y.po.length cp, .slice ae y.en.length ce, .string y.fi, .slice al y.li.length cl, .bool y.mo] 30)) from bal (Below.refl _ _) _)
      generalize hX0 : World.alloc wr _ = X0 at *
      clear hX0
      generalize hny : wr.heap.size = ny at *
      have HP0 := Lib.hid (HP.out.below (show Below wr.heap.size wr X0 from by rw [hny]; exact HB0.out))
      have HE0 := Lib.hid (HE.out.below (show Below wr.heap.size wr X0 from by rw [hny]; exact HB0.out))
      have HL0 := Lib.hid (HL.out.below (show Below wr.heap.size wr X0 from by rw [hny]; exact HB0.out))
      go_upto_region 7 with fail
      go_cut [] (fun wx => RegP X0 ny 4 y.po wx)
      case first =>
        have hgY : ny < X0.heap.size := HY0.out.lt
        have hU : HdC X0 ny 4 (.slice ap y.po.length cp) X0 := ⟨HY0.out.cell 4, Below.refl _ _⟩
        have hK0 : HdC X0 ny 4 (.slice ap y.po.length cp) X0.drew := ⟨HY0.out.cell 4, (Below.refl _ _).drew⟩
        have HA := Lib.hid (show ((X0.alloc (.cells #[] 9)).drew).ownsRow X0.heap.size 9 1 (.slice (some ⟨X0.heap.size, 0, none⟩) 0 0) 0 [] from own_empty X0 9 (Nat.le_refl _))
        have HSA := Lib.hid (show Sees ((X0.alloc (.cells #[] 9)).drew) (.slice ap y.po.length cp) (ss y.po) from (HP0.out.alloc _).drew)
        have HKA := Lib.hid (show HdC X0 ny 4 (.slice ap y.po.length cp) ((X0.alloc (.cells #[] 9)).drew) from HdC.allocD hgY hU _)
        have HBb := Lib.hid (show (((X0.alloc (.cells #[] 9)).alloc (.cells #[.string ⟨#[98, 101, 104, 105, 110, 100]⟩] 9)).drew).ownsRow X0.heap.size 9 1 (.slice (some ⟨X0.heap.size, 0, none⟩) 0 0) 0 [] from (own_empty X0 9 (Nat.le_refl _)).alloc _)
        have HSB := Lib.hid (show Sees (((X0.alloc (.cells #[] 9)).alloc (.cells #[.string ⟨#[98, 101, 104, 105, 110, 100]⟩] 9)).drew) (.slice ap y.po.length cp) (ss y.po) from ((HP0.out.alloc _).alloc _).drew)
        have HMB := Lib.hid (show Blk (((X0.alloc (.cells #[] 9)).alloc (.cells #[.string ⟨#[98, 101, 104, 105, 110, 100]⟩] 9)).drew) (X0.heap.size + 1) 9 #[.string ⟨#[98, 101, 104, 105, 110, 100]⟩] from by
          have h := Blk.new (X0.alloc (.cells #[] 9)) 9 #[.string ⟨#[98, 101, 104, 105, 110, 100]⟩]
          rw [World.size_alloc] at h
          exact h.drew)
        have HKB := Lib.hid (show HdC X0 ny 4 (.slice ap y.po.length cp) (((X0.alloc (.cells #[] 9)).alloc (.cells #[.string ⟨#[98, 101, 104, 105, 110, 100]⟩] 9)).drew) from HdC.allocD hgY (HdC.alloc hgY hU _) _)
        have HC := Lib.hid (show (((X0.alloc (.cells #[.string ⟨#[98, 101, 104, 105, 110, 100]⟩] 9)).alloc (.cells #[] 9)).drew).ownsRow X0.heap.size 9 1 (.slice (some ⟨X0.heap.size + 1, 0, none⟩) 0 0) 0 [] from by
          have h := own_empty (X0.alloc (.cells #[.string ⟨#[98, 101, 104, 105, 110, 100]⟩] 9)) 9 (B := X0.heap.size) (by simp)
          rw [World.size_alloc] at h
          exact h)
        have HSC := Lib.hid (show Sees (((X0.alloc (.cells #[.string ⟨#[98, 101, 104, 105, 110, 100]⟩] 9)).alloc (.cells #[] 9)).drew) (.slice ap y.po.length cp) (ss y.po) from ((HP0.out.alloc _).alloc _).drew)
        have HMC := Lib.hid (show Blk (((X0.alloc (.cells #[.string ⟨#[98, 101, 104, 105, 110, 100]⟩] 9)).alloc (.cells #[] 9)).drew) X0.heap.size 9 #[.string ⟨#[98, 101, 104, 105, 110, 100]⟩] from ((Blk.new X0 9 #[.string ⟨#[98, 101, 104, 105, 110, 100]⟩]).alloc _).drew)
        have HKC := Lib.hid (show HdC X0 ny 4 (.slice ap y.po.length cp) (((X0.alloc (.cells #[.string ⟨#[98, 101, 104, 105, 110, 100]⟩] 9)).alloc (.cells #[] 9)).drew) from HdC.allocD hgY (HdC.alloc hgY hU _) _)
        refine wp_region_last 11 (fun w' => HdC X0 ny 4 (.slice ap y.po.length cp) w') (by kernel_rfl) ?_
        refine wpLast_take (i := 1) (oi := { dst := some 21, op := Op.fieldAddr 30 (Operand.tmp 5) 4, type := 0, pos := "reachlaw17.go:158", after := #[], guard := none }) (v := ?_) rfl (by kernel_rfl) (by kernel_rfl) (by kernel_rfl) (by kernel_rfl) (fun _ _ _ h => h) (Or.inl ⟨by rfl, ?_⟩) (by assumption) ?_
        rotate_left
        · intro w hSw
          try dsimp only at hSw
          go_simp
          try with_reducible rfl
        try simp only [Act.put, List.setIfInBounds_toArray, List.set_cons_zero, List.set_cons_succ]
        refine wpLast_take (i := 2) (oi := { dst := some 22, op := Op.load 28 (Operand.tmp 21), type := 28, pos := "reachlaw17.go:158", after := #[{ on := 1, ground := Ground.data }], guard := none }) (v := ?_) rfl (by kernel_rfl) (by kernel_rfl) (by kernel_rfl) (by kernel_rfl) (fun _ _ _ h => h) (Or.inl ⟨by rfl, ?_⟩) (by assumption) ?_
        rotate_left
        · intro w hSw
          try dsimp only at hSw
          go_simp
          try with_reducible rfl
        try simp only [Act.put, List.setIfInBounds_toArray, List.set_cons_zero, List.set_cons_succ]
        refine wpLast_take (i := 6) (oi := { dst := some 26, op := Op.fieldAddr 30 (Operand.tmp 5) 4, type := 0, pos := "reachlaw17.go:158", after := #[], guard := none }) (v := ?_) rfl (by kernel_rfl) (by kernel_rfl) (by kernel_rfl) (by kernel_rfl) (fun _ _ _ h => h) (Or.inl ⟨by rfl, ?_⟩) (by assumption) ?_
        rotate_left
        · intro w hSw
          try dsimp only at hSw
          go_simp
          try with_reducible rfl
        try simp only [Act.put, List.setIfInBounds_toArray, List.set_cons_zero, List.set_cons_succ]
        refine wpLast_take (i := 7) (oi := { dst := some 27, op := Op.load 28 (Operand.tmp 26), type := 28, pos := "reachlaw17.go:158", after := #[{ on := 6, ground := Ground.data }], guard := none }) (v := ?_) rfl (by kernel_rfl) (by kernel_rfl) (by kernel_rfl) (by kernel_rfl) (fun _ _ _ h => h) (Or.inl ⟨by rfl, ?_⟩) (by assumption) ?_
        rotate_left
        · intro w hSw
          try dsimp only at hSw
          go_simp
          try with_reducible rfl
        try simp only [Act.put, List.setIfInBounds_toArray, List.set_cons_zero, List.set_cons_succ]
        refine wpLast_take (i := 8) (oi := { dst := some 28, op := Op.call { callee := Callee.builtin Builtin.len, args := #[Operand.tmp 27], argTypes := #[28] }, type := 3, pos := "reachlaw17.go:158", after := #[{ on := 7, ground := Ground.data }], guard := none }) (v := ?_) rfl (by kernel_rfl) (by kernel_rfl) (by kernel_rfl) (by kernel_rfl) (fun _ _ _ h => h) (Or.inl ⟨by rfl, ?_⟩) (by assumption) ?_
        rotate_left
        · intro w hSw
          try dsimp only at hSw
          go_simp
          try with_reducible rfl
        try simp only [Act.put, List.setIfInBounds_toArray, List.set_cons_zero, List.set_cons_succ]
        refine wpLast_ready (rs := [0, 4]) (by kernel_rfl) (by simp) ?_
        refine EachLast.cons (o := { dst := some 20, op := Op.buildSlice 28 0 #[], type := 28, pos := "reachlaw17.go:158", after := #[], guard := none }) rfl (fun K hK => ?_) ?_
        · go_simp
          have hS : HdC X0 ny 4 (.slice ap y.po.length cp) ((X0.alloc (.cells #[] 9)).drew) := HKA.out
          refine hK.out _ _ (fun _ => hS) ?_
          try simp only [Act.put, List.setIfInBounds_toArray, List.set_cons_zero, List.set_cons_succ]
          refine wpLast_ready (rs := [3, 4]) (by kernel_rfl) (by simp) ?_
          refine EachLast.cons (o := { dst := some 23, op := Op.call { callee := Callee.builtin Builtin.append, args := #[Operand.tmp 20, Operand.tmp 22], argTypes := #[28, 28] }, type := 28, pos := "reachlaw17.go:158", after := #[{ on := 0, ground := Ground.data }, { on := 2, ground := Ground.data }], guard := none }) rfl (fun K hK => ?_) ?_
          · refine step_app_ss (w := (X0.alloc (.cells #[] 9)).drew) (M := y.po) (.tmp 20) (.tmp 22) HA.out HSA.out ?gd ?go ?gs ?gx (by omega) HKA.out.2.size ?_
            case gd => rfl
            case go => rfl
            case gs => rfl
            case gx => rfl
            intro v1 w1 hown1 hb1 hgr1
            have hK1 : HdC X0 ny 4 (.slice ap y.po.length cp) w1 := HdC.go hgY HKA.out hb1
            refine hK.out _ _ (fun _ => hK1) ?_
            try simp only [Act.put, List.setIfInBounds_toArray, List.set_cons_zero, List.set_cons_succ]
            refine wpLast_ready (rs := [4]) (by kernel_rfl) (by simp) ?_
            refine EachLast.cons (o := { dst := some 24, op := Op.buildSlice 28 1 #[(0, Operand.const (Value.string { data := #[98, 101, 104, 105, 110, 100] }))], type := 28, pos := "reachlaw17.go:158", after := #[], guard := none }) rfl (fun K hK => ?_) ?_
            · go_simp
              have hS2 : HdC X0 ny 4 (.slice ap y.po.length cp) (w1.alloc (.cells #[.string ⟨#[98, 101, 104, 105, 110, 100]⟩] 9)) := HdC.alloc hgY hK1 _
              refine hK.out _ _ (fun _ => hS2) ?_
              try simp only [Act.put, List.setIfInBounds_toArray, List.set_cons_zero, List.set_cons_succ]
              refine wpLast_ready (rs := [5]) (by kernel_rfl) (by simp) ?_
              refine EachLast.cons (o := { dst := some 25, op := Op.call { callee := Callee.builtin Builtin.append, args := #[Operand.tmp 23, Operand.tmp 24], argTypes := #[28, 28] }, type := 28, pos := "reachlaw17.go:158", after := #[{ on := 3, ground := Ground.data }, { on := 4, ground := Ground.data }, { on := 3, ground := Ground.chain }], guard := none }) rfl (fun K hK => ?_) ?_
              · refine step_app_ss (w := w1.alloc (.cells #[.string ⟨#[98, 101, 104, 105, 110, 100]⟩] 9)) (M := [behB]) (.tmp 23) (.tmp 24) (hown1.alloc _) (sees_one w1 behB) ?gd ?go ?gs ?gx (by simp only [List.length_cons, List.length_nil]; omega) hS2.2.size ?_
                case gd => rfl
                case go => rfl
                case gs => rfl
                case gx => rfl
                intro v2 w2 hown2 hb2 hgr2
                have hK2 : HdC X0 ny 4 (.slice ap y.po.length cp) w2 := HdC.go hgY hS2 hb2
                obtain ⟨g2, cap2, hv2, hc2, hm2, i1, i0, hF2, hO2⟩ := copy_done (l := y.po) hown2 (by simp only [List.length_cons, List.length_nil]; omega) hK2.2 HY0.out 4
                subst hv2
                refine hK.out _ _ (fun _ => hK2) ?_
                try simp only [Act.put, List.setIfInBounds_toArray, List.set_cons_zero, List.set_cons_succ]
                have hc3 := hK2.1
                refine wpLast_take (i := 9) (oi := { dst := some 29, op := Op.slice 28 (Operand.tmp 25) none (some (Operand.tmp 28)) none, type := 28, pos := "reachlaw17.go:158", after := #[{ on := 5, ground := Ground.data }, { on := 8, ground := Ground.data }], guard := none }) (v := ?_) rfl (by kernel_rfl) (by kernel_rfl) (by kernel_rfl) (by kernel_rfl) (fun _ _ _ h => h) (Or.inl ⟨by rfl, ?_⟩) (by assumption) ?_
                rotate_left
                · intro w hSw
                  try dsimp only at hSw
                  go_simp
                  try with_reducible rfl
                try simp only [Act.put, List.setIfInBounds_toArray, List.set_cons_zero, List.set_cons_succ]
                refine wpLast_take (i := 10) (oi := { dst := some 30, op := Op.fieldAddr 30 (Operand.tmp 5) 4, type := 0, pos := "reachlaw17.go:158", after := #[{ on := 0, ground := Ground.phase }, { on := 1, ground := Ground.phase }, { on := 2, ground := Ground.phase }, { on := 3, ground := Ground.phase }, { on := 4, ground := Ground.phase }, { on := 5, ground := Ground.phase }, { on := 6, ground := Ground.phase }, { on := 7, ground := Ground.phase }, { on := 8, ground := Ground.phase }, { on := 9, ground := Ground.phase }], guard := none }) (v := ?_) rfl (by kernel_rfl) (by kernel_rfl) (by kernel_rfl) (by kernel_rfl) (fun _ _ _ h => h) (Or.inl ⟨by rfl, ?_⟩) (by assumption) ?_
                rotate_left
                · intro w hSw
                  try dsimp only at hSw
                  go_simp
                  try with_reducible rfl
                try simp only [Act.put, List.setIfInBounds_toArray, List.set_cons_zero, List.set_cons_succ]
                refine wpLast_ready (rs := [11]) (by kernel_rfl) (by simp) ?_
                refine EachLast.cons (o := { dst := none, op := Op.store 28 (Operand.tmp 30) (Operand.tmp 29), type := 0, pos := "reachlaw17.go:158", after := #[{ on := 10, ground := Ground.data }, { on := 9, ground := Ground.data }, { on := 5, ground := Ground.chain }, { on := 0, ground := Ground.phase }, { on := 1, ground := Ground.phase }, { on := 2, ground := Ground.phase }, { on := 3, ground := Ground.phase }, { on := 4, ground := Ground.phase }, { on := 5, ground := Ground.phase }, { on := 6, ground := Ground.phase }, { on := 7, ground := Ground.phase }, { on := 8, ground := Ground.phase }, { on := 9, ground := Ground.phase }], guard := none }) rfl (fun K hK => ?_) ?_
                · go_simp
                  refine hK.out _ _ (fun h => absurd rfl h) ?_
                  try simp only [Act.put, List.setIfInBounds_toArray, List.set_cons_zero, List.set_cons_succ]
                  refine wpLast_done (by kernel_rfl) ?_ _
                  go_wp2_with fail
                  go_meet
                  exact ⟨g2, cap2, w2, rfl, hK2.2, hc2, hm2, hO2⟩
                exact EachLast.nil
              exact EachLast.nil
            exact EachLast.nil
          refine EachLast.cons (o := { dst := some 24, op := Op.buildSlice 28 1 #[(0, Operand.const (Value.string { data := #[98, 101, 104, 105, 110, 100] }))], type := 28, pos := "reachlaw17.go:158", after := #[], guard := none }) rfl (fun K hK => ?_) ?_
          · go_simp
            have hS : HdC X0 ny 4 (.slice ap y.po.length cp) (((X0.alloc (.cells #[] 9)).alloc (.cells #[.string ⟨#[98, 101, 104, 105, 110, 100]⟩] 9)).drew) := HKB.out
            refine hK.out _ _ (fun _ => hS) ?_
            try simp only [Act.put, List.setIfInBounds_toArray, List.set_cons_zero, List.set_cons_succ]
            refine wpLast_ready (rs := [3]) (by kernel_rfl) (by simp) ?_
            refine EachLast.cons (o := { dst := some 23, op := Op.call { callee := Callee.builtin Builtin.append, args := #[Operand.tmp 20, Operand.tmp 22], argTypes := #[28, 28] }, type := 28, pos := "reachlaw17.go:158", after := #[{ on := 0, ground := Ground.data }, { on := 2, ground := Ground.data }], guard := none }) rfl (fun K hK => ?_) ?_
            · refine step_app_ss (w := ((X0.alloc (.cells #[] 9)).alloc (.cells #[.string ⟨#[98, 101, 104, 105, 110, 100]⟩] 9)).drew) (M := y.po) (.tmp 20) (.tmp 22) HBb.out HSB.out ?gd ?go ?gs ?gx (by omega) HKB.out.2.size ?_
              case gd => rfl
              case go => rfl
              case gs => rfl
              case gx => rfl
              intro v1 w1 hown1 hb1 hgr1
              have hK1 : HdC X0 ny 4 (.slice ap y.po.length cp) w1 := HdC.go hgY HKB.out hb1
              refine hK.out _ _ (fun _ => hK1) ?_
              try simp only [Act.put, List.setIfInBounds_toArray, List.set_cons_zero, List.set_cons_succ]
              refine wpLast_ready (rs := [5]) (by kernel_rfl) (by simp) ?_
              refine EachLast.cons (o := { dst := some 25, op := Op.call { callee := Callee.builtin Builtin.append, args := #[Operand.tmp 23, Operand.tmp 24], argTypes := #[28, 28] }, type := 28, pos := "reachlaw17.go:158", after := #[{ on := 3, ground := Ground.data }, { on := 4, ground := Ground.data }, { on := 3, ground := Ground.chain }], guard := none }) rfl (fun K hK => ?_) ?_
              · refine step_app_ss (w := w1) (M := [behB]) (.tmp 23) (.tmp 24) hown1 (sees_mark (HMB.out.grown hgr1 (by simp [Value.ownBlock]))) ?gd ?go ?gs ?gx (by simp only [List.length_cons, List.length_nil]; omega) hK1.2.size ?_
                case gd => rfl
                case go => rfl
                case gs => rfl
                case gx => rfl
                intro v2 w2 hown2 hb2 hgr2
                have hK2 : HdC X0 ny 4 (.slice ap y.po.length cp) w2 := HdC.go hgY hK1 hb2
                obtain ⟨g2, cap2, hv2, hc2, hm2, i1, i0, hF2, hO2⟩ := copy_done (l := y.po) hown2 (by simp only [List.length_cons, List.length_nil]; omega) hK2.2 HY0.out 4
                subst hv2
                refine hK.out _ _ (fun _ => hK2) ?_
                try simp only [Act.put, List.setIfInBounds_toArray, List.set_cons_zero, List.set_cons_succ]
                have hc3 := hK2.1
                refine wpLast_take (i := 9) (oi := { dst := some 29, op := Op.slice 28 (Operand.tmp 25) none (some (Operand.tmp 28)) none, type := 28, pos := "reachlaw17.go:158", after := #[{ on := 5, ground := Ground.data }, { on := 8, ground := Ground.data }], guard := none }) (v := ?_) rfl (by kernel_rfl) (by kernel_rfl) (by kernel_rfl) (by kernel_rfl) (fun _ _ _ h => h) (Or.inl ⟨by rfl, ?_⟩) (by assumption) ?_
                rotate_left
                · intro w hSw
                  try dsimp only at hSw
                  go_simp
                  try with_reducible rfl
                try simp only [Act.put, List.setIfInBounds_toArray, List.set_cons_zero, List.set_cons_succ]
                refine wpLast_take (i := 10) (oi := { dst := some 30, op := Op.fieldAddr 30 (Operand.tmp 5) 4, type := 0, pos := "reachlaw17.go:158", after := #[{ on := 0, ground := Ground.phase }, { on := 1, ground := Ground.phase }, { on := 2, ground := Ground.phase }, { on := 3, ground := Ground.phase }, { on := 4, ground := Ground.phase }, { on := 5, ground := Ground.phase }, { on := 6, ground := Ground.phase }, { on := 7, ground := Ground.phase }, { on := 8, ground := Ground.phase }, { on := 9, ground := Ground.phase }], guard := none }) (v := ?_) rfl (by kernel_rfl) (by kernel_rfl) (by kernel_rfl) (by kernel_rfl) (fun _ _ _ h => h) (Or.inl ⟨by rfl, ?_⟩) (by assumption) ?_
                rotate_left
                · intro w hSw
                  try dsimp only at hSw
                  go_simp
                  try with_reducible rfl
                try simp only [Act.put, List.setIfInBounds_toArray, List.set_cons_zero, List.set_cons_succ]
                refine wpLast_ready (rs := [11]) (by kernel_rfl) (by simp) ?_
                refine EachLast.cons (o := { dst := none, op := Op.store 28 (Operand.tmp 30) (Operand.tmp 29), type := 0, pos := "reachlaw17.go:158", after := #[{ on := 10, ground := Ground.data }, { on := 9, ground := Ground.data }, { on := 5, ground := Ground.chain }, { on := 0, ground := Ground.phase }, { on := 1, ground := Ground.phase }, { on := 2, ground := Ground.phase }, { on := 3, ground := Ground.phase }, { on := 4, ground := Ground.phase }, { on := 5, ground := Ground.phase }, { on := 6, ground := Ground.phase }, { on := 7, ground := Ground.phase }, { on := 8, ground := Ground.phase }, { on := 9, ground := Ground.phase }], guard := none }) rfl (fun K hK => ?_) ?_
                · go_simp
                  refine hK.out _ _ (fun h => absurd rfl h) ?_
                  try simp only [Act.put, List.setIfInBounds_toArray, List.set_cons_zero, List.set_cons_succ]
                  refine wpLast_done (by kernel_rfl) ?_ _
                  go_wp2_with fail
                  go_meet
                  exact ⟨g2, cap2, w2, rfl, hK2.2, hc2, hm2, hO2⟩
                exact EachLast.nil
              exact EachLast.nil
            exact EachLast.nil
          exact EachLast.nil
        refine EachLast.cons (o := { dst := some 24, op := Op.buildSlice 28 1 #[(0, Operand.const (Value.string { data := #[98, 101, 104, 105, 110, 100] }))], type := 28, pos := "reachlaw17.go:158", after := #[], guard := none }) rfl (fun K hK => ?_) ?_
        · go_simp
          have hS : HdC X0 ny 4 (.slice ap y.po.length cp) ((X0.alloc (.cells #[.string ⟨#[98, 101, 104, 105, 110, 100]⟩] 9)).drew) := HdC.allocD hgY hU _
          refine hK.out _ _ (fun _ => hS) ?_
          try simp only [Act.put, List.setIfInBounds_toArray, List.set_cons_zero, List.set_cons_succ]
          refine wpLast_ready (rs := [0]) (by kernel_rfl) (by simp) ?_
          refine EachLast.cons (o := { dst := some 20, op := Op.buildSlice 28 0 #[], type := 28, pos := "reachlaw17.go:158", after := #[], guard := none }) rfl (fun K hK => ?_) ?_
          · go_simp
            have hS : HdC X0 ny 4 (.slice ap y.po.length cp) (((X0.alloc (.cells #[.string ⟨#[98, 101, 104, 105, 110, 100]⟩] 9)).alloc (.cells #[] 9)).drew) := HKC.out
            refine hK.out _ _ (fun _ => hS) ?_
            try simp only [Act.put, List.setIfInBounds_toArray, List.set_cons_zero, List.set_cons_succ]
            refine wpLast_ready (rs := [3]) (by kernel_rfl) (by simp) ?_
            refine EachLast.cons (o := { dst := some 23, op := Op.call { callee := Callee.builtin Builtin.append, args := #[Operand.tmp 20, Operand.tmp 22], argTypes := #[28, 28] }, type := 28, pos := "reachlaw17.go:158", after := #[{ on := 0, ground := Ground.data }, { on := 2, ground := Ground.data }], guard := none }) rfl (fun K hK => ?_) ?_
            · refine step_app_ss (w := ((X0.alloc (.cells #[.string ⟨#[98, 101, 104, 105, 110, 100]⟩] 9)).alloc (.cells #[] 9)).drew) (M := y.po) (.tmp 20) (.tmp 22) HC.out HSC.out ?gd ?go ?gs ?gx (by omega) HKC.out.2.size ?_
              case gd => rfl
              case go => rfl
              case gs => rfl
              case gx => rfl
              intro v1 w1 hown1 hb1 hgr1
              have hK1 : HdC X0 ny 4 (.slice ap y.po.length cp) w1 := HdC.go hgY HKC.out hb1
              refine hK.out _ _ (fun _ => hK1) ?_
              try simp only [Act.put, List.setIfInBounds_toArray, List.set_cons_zero, List.set_cons_succ]
              refine wpLast_ready (rs := [5]) (by kernel_rfl) (by simp) ?_
              refine EachLast.cons (o := { dst := some 25, op := Op.call { callee := Callee.builtin Builtin.append, args := #[Operand.tmp 23, Operand.tmp 24], argTypes := #[28, 28] }, type := 28, pos := "reachlaw17.go:158", after := #[{ on := 3, ground := Ground.data }, { on := 4, ground := Ground.data }, { on := 3, ground := Ground.chain }], guard := none }) rfl (fun K hK => ?_) ?_
              · refine step_app_ss (w := w1) (M := [behB]) (.tmp 23) (.tmp 24) hown1 (sees_mark (HMC.out.grown hgr1 (by simp [Value.ownBlock]))) ?gd ?go ?gs ?gx (by simp only [List.length_cons, List.length_nil]; omega) hK1.2.size ?_
                case gd => rfl
                case go => rfl
                case gs => rfl
                case gx => rfl
                intro v2 w2 hown2 hb2 hgr2
                have hK2 : HdC X0 ny 4 (.slice ap y.po.length cp) w2 := HdC.go hgY hK1 hb2
                obtain ⟨g2, cap2, hv2, hc2, hm2, i1, i0, hF2, hO2⟩ := copy_done (l := y.po) hown2 (by simp only [List.length_cons, List.length_nil]; omega) hK2.2 HY0.out 4
                subst hv2
                refine hK.out _ _ (fun _ => hK2) ?_
                try simp only [Act.put, List.setIfInBounds_toArray, List.set_cons_zero, List.set_cons_succ]
                have hc3 := hK2.1
                refine wpLast_take (i := 9) (oi := { dst := some 29, op := Op.slice 28 (Operand.tmp 25) none (some (Operand.tmp 28)) none, type := 28, pos := "reachlaw17.go:158", after := #[{ on := 5, ground := Ground.data }, { on := 8, ground := Ground.data }], guard := none }) (v := ?_) rfl (by kernel_rfl) (by kernel_rfl) (by kernel_rfl) (by kernel_rfl) (fun _ _ _ h => h) (Or.inl ⟨by rfl, ?_⟩) (by assumption) ?_
                rotate_left
                · intro w hSw
                  try dsimp only at hSw
                  go_simp
                  try with_reducible rfl
                try simp only [Act.put, List.setIfInBounds_toArray, List.set_cons_zero, List.set_cons_succ]
                refine wpLast_take (i := 10) (oi := { dst := some 30, op := Op.fieldAddr 30 (Operand.tmp 5) 4, type := 0, pos := "reachlaw17.go:158", after := #[{ on := 0, ground := Ground.phase }, { on := 1, ground := Ground.phase }, { on := 2, ground := Ground.phase }, { on := 3, ground := Ground.phase }, { on := 4, ground := Ground.phase }, { on := 5, ground := Ground.phase }, { on := 6, ground := Ground.phase }, { on := 7, ground := Ground.phase }, { on := 8, ground := Ground.phase }, { on := 9, ground := Ground.phase }], guard := none }) (v := ?_) rfl (by kernel_rfl) (by kernel_rfl) (by kernel_rfl) (by kernel_rfl) (fun _ _ _ h => h) (Or.inl ⟨by rfl, ?_⟩) (by assumption) ?_
                rotate_left
                · intro w hSw
                  try dsimp only at hSw
                  go_simp
                  try with_reducible rfl
                try simp only [Act.put, List.setIfInBounds_toArray, List.set_cons_zero, List.set_cons_succ]
                refine wpLast_ready (rs := [11]) (by kernel_rfl) (by simp) ?_
                refine EachLast.cons (o := { dst := none, op := Op.store 28 (Operand.tmp 30) (Operand.tmp 29), type := 0, pos := "reachlaw17.go:158", after := #[{ on := 10, ground := Ground.data }, { on := 9, ground := Ground.data }, { on := 5, ground := Ground.chain }, { on := 0, ground := Ground.phase }, { on := 1, ground := Ground.phase }, { on := 2, ground := Ground.phase }, { on := 3, ground := Ground.phase }, { on := 4, ground := Ground.phase }, { on := 5, ground := Ground.phase }, { on := 6, ground := Ground.phase }, { on := 7, ground := Ground.phase }, { on := 8, ground := Ground.phase }, { on := 9, ground := Ground.phase }], guard := none }) rfl (fun K hK => ?_) ?_
                · go_simp
                  refine hK.out _ _ (fun h => absurd rfl h) ?_
                  try simp only [Act.put, List.setIfInBounds_toArray, List.set_cons_zero, List.set_cons_succ]
                  refine wpLast_done (by kernel_rfl) ?_ _
                  go_wp2_with fail
                  go_meet
                  exact ⟨g2, cap2, w2, rfl, hK2.2, hc2, hm2, hO2⟩
                exact EachLast.nil
              exact EachLast.nil
            exact EachLast.nil
          exact EachLast.nil
        exact EachLast.nil
      case rest =>
      obtain ⟨g0, c0, hc0, hm0, T0, hb0, hz0, hB0, hO0⟩ := RegP.out hcut HY0.out.lt
      clear hcut
      have HY1 := Lib.hid (hB0 _ _ HY0.out)
      have HB1 := Lib.hid (HB0.out.trans hb0)
      have HE1 := Lib.hid (HE.out.below (by rw [hny]; exact HB1.out))
      have HL1 := Lib.hid (HL.out.below (by rw [hny]; exact HB1.out))
      simp only [List.setIfInBounds_toArray, List.set_cons_zero, List.set_cons_succ] at HY1
      generalize wc = X1 at *
      go_upto_region 8 with fail
      go_cut [] (fun wx => RegP X1 ny 5 y.en wx)
      case first =>
        have hgY : ny < X1.heap.size := HY1.out.lt
        have hU : HdC X1 ny 5 (.slice ae y.en.length ce) X1 := ⟨HY1.out.cell 5, Below.refl _ _⟩
        have hK0 : HdC X1 ny 5 (.slice ae y.en.length ce) X1.drew := ⟨HY1.out.cell 5, (Below.refl _ _).drew⟩
        have HA := Lib.hid (show ((X1.alloc (.cells #[] 9)).drew).ownsRow X1.heap.size 9 1 (.slice (some ⟨X1.heap.size, 0, none⟩) 0 0) 0 [] from own_empty X1 9 (Nat.le_refl _))
        have HSA := Lib.hid (show Sees ((X1.alloc (.cells #[] 9)).drew) (.slice ae y.en.length ce) (ss y.en) from (HE1.out.alloc _).drew)
        have HKA := Lib.hid (show HdC X1 ny 5 (.slice ae y.en.length ce) ((X1.alloc (.cells #[] 9)).drew) from HdC.allocD hgY hU _)
        have HBb := Lib.hid (show (((X1.alloc (.cells #[] 9)).alloc (.cells #[.string ⟨#[98, 101, 104, 105, 110, 100]⟩] 9)).drew).ownsRow X1.heap.size 9 1 (.slice (some ⟨X1.heap.size, 0, none⟩) 0 0) 0 [] from (own_empty X1 9 (Nat.le_refl _)).alloc _)
        have HSB := Lib.hid (show Sees (((X1.alloc (.cells #[] 9)).alloc (.cells #[.string ⟨#[98, 101, 104, 105, 110, 100]⟩] 9)).drew) (.slice ae y.en.length ce) (ss y.en) from ((HE1.out.alloc _).alloc _).drew)
        have HMB := Lib.hid (show Blk (((X1.alloc (.cells #[] 9)).alloc (.cells #[.string ⟨#[98, 101, 104, 105, 110, 100]⟩] 9)).drew) (X1.heap.size + 1) 9 #[.string ⟨#[98, 101, 104, 105, 110, 100]⟩] from by
          have h := Blk.new (X1.alloc (.cells #[] 9)) 9 #[.string ⟨#[98, 101, 104, 105, 110, 100]⟩]
          rw [World.size_alloc] at h
          exact h.drew)
        have HKB := Lib.hid (show HdC X1 ny 5 (.slice ae y.en.length ce) (((X1.alloc (.cells #[] 9)).alloc (.cells #[.string ⟨#[98, 101, 104, 105, 110, 100]⟩] 9)).drew) from HdC.allocD hgY (HdC.alloc hgY hU _) _)
        have HC := Lib.hid (show (((X1.alloc (.cells #[.string ⟨#[98, 101, 104, 105, 110, 100]⟩] 9)).alloc (.cells #[] 9)).drew).ownsRow X1.heap.size 9 1 (.slice (some ⟨X1.heap.size + 1, 0, none⟩) 0 0) 0 [] from by
          have h := own_empty (X1.alloc (.cells #[.string ⟨#[98, 101, 104, 105, 110, 100]⟩] 9)) 9 (B := X1.heap.size) (by simp)
          rw [World.size_alloc] at h
          exact h)
        have HSC := Lib.hid (show Sees (((X1.alloc (.cells #[.string ⟨#[98, 101, 104, 105, 110, 100]⟩] 9)).alloc (.cells #[] 9)).drew) (.slice ae y.en.length ce) (ss y.en) from ((HE1.out.alloc _).alloc _).drew)
        have HMC := Lib.hid (show Blk (((X1.alloc (.cells #[.string ⟨#[98, 101, 104, 105, 110, 100]⟩] 9)).alloc (.cells #[] 9)).drew) X1.heap.size 9 #[.string ⟨#[98, 101, 104, 105, 110, 100]⟩] from ((Blk.new X1 9 #[.string ⟨#[98, 101, 104, 105, 110, 100]⟩]).alloc _).drew)
        have HKC := Lib.hid (show HdC X1 ny 5 (.slice ae y.en.length ce) (((X1.alloc (.cells #[.string ⟨#[98, 101, 104, 105, 110, 100]⟩] 9)).alloc (.cells #[] 9)).drew) from HdC.allocD hgY (HdC.alloc hgY hU _) _)
        refine wp_region_last 11 (fun w' => HdC X1 ny 5 (.slice ae y.en.length ce) w') (by kernel_rfl) ?_
        refine wpLast_take (i := 1) (oi := { dst := some 32, op := Op.fieldAddr 30 (Operand.tmp 5) 5, type := 0, pos := "reachlaw17.go:159", after := #[], guard := none }) (v := ?_) rfl (by kernel_rfl) (by kernel_rfl) (by kernel_rfl) (by kernel_rfl) (fun _ _ _ h => h) (Or.inl ⟨by rfl, ?_⟩) (by assumption) ?_
        rotate_left
        · intro w hSw
          try dsimp only at hSw
          go_simp
          try with_reducible rfl
        try simp only [Act.put, List.setIfInBounds_toArray, List.set_cons_zero, List.set_cons_succ]
        refine wpLast_take (i := 2) (oi := { dst := some 33, op := Op.load 28 (Operand.tmp 32), type := 28, pos := "reachlaw17.go:159", after := #[{ on := 1, ground := Ground.data }], guard := none }) (v := ?_) rfl (by kernel_rfl) (by kernel_rfl) (by kernel_rfl) (by kernel_rfl) (fun _ _ _ h => h) (Or.inl ⟨by rfl, ?_⟩) (by assumption) ?_
        rotate_left
        · intro w hSw
          try dsimp only at hSw
          go_simp
          try with_reducible rfl
        try simp only [Act.put, List.setIfInBounds_toArray, List.set_cons_zero, List.set_cons_succ]
        refine wpLast_take (i := 6) (oi := { dst := some 37, op := Op.fieldAddr 30 (Operand.tmp 5) 5, type := 0, pos := "reachlaw17.go:159", after := #[], guard := none }) (v := ?_) rfl (by kernel_rfl) (by kernel_rfl) (by kernel_rfl) (by kernel_rfl) (fun _ _ _ h => h) (Or.inl ⟨by rfl, ?_⟩) (by assumption) ?_
        rotate_left
        · intro w hSw
          try dsimp only at hSw
          go_simp
          try with_reducible rfl
        try simp only [Act.put, List.setIfInBounds_toArray, List.set_cons_zero, List.set_cons_succ]
        refine wpLast_take (i := 7) (oi := { dst := some 38, op := Op.load 28 (Operand.tmp 37), type := 28, pos := "reachlaw17.go:159", after := #[{ on := 6, ground := Ground.data }], guard := none }) (v := ?_) rfl (by kernel_rfl) (by kernel_rfl) (by kernel_rfl) (by kernel_rfl) (fun _ _ _ h => h) (Or.inl ⟨by rfl, ?_⟩) (by assumption) ?_
        rotate_left
        · intro w hSw
          try dsimp only at hSw
          go_simp
          try with_reducible rfl
        try simp only [Act.put, List.setIfInBounds_toArray, List.set_cons_zero, List.set_cons_succ]
        refine wpLast_take (i := 8) (oi := { dst := some 39, op := Op.call { callee := Callee.builtin Builtin.len, args := #[Operand.tmp 38], argTypes := #[28] }, type := 3, pos := "reachlaw17.go:159", after := #[{ on := 7, ground := Ground.data }], guard := none }) (v := ?_) rfl (by kernel_rfl) (by kernel_rfl) (by kernel_rfl) (by kernel_rfl) (fun _ _ _ h => h) (Or.inl ⟨by rfl, ?_⟩) (by assumption) ?_
        rotate_left
        · intro w hSw
          try dsimp only at hSw
          go_simp
          try with_reducible rfl
        try simp only [Act.put, List.setIfInBounds_toArray, List.set_cons_zero, List.set_cons_succ]
        refine wpLast_ready (rs := [0, 4]) (by kernel_rfl) (by simp) ?_
        refine EachLast.cons (o := { dst := some 31, op := Op.buildSlice 28 0 #[], type := 28, pos := "reachlaw17.go:159", after := #[], guard := none }) rfl (fun K hK => ?_) ?_
        · go_simp
          have hS : HdC X1 ny 5 (.slice ae y.en.length ce) ((X1.alloc (.cells #[] 9)).drew) := HKA.out
          refine hK.out _ _ (fun _ => hS) ?_
          try simp only [Act.put, List.setIfInBounds_toArray, List.set_cons_zero, List.set_cons_succ]
          refine wpLast_ready (rs := [3, 4]) (by kernel_rfl) (by simp) ?_
          refine EachLast.cons (o := { dst := some 34, op := Op.call { callee := Callee.builtin Builtin.append, args := #[Operand.tmp 31, Operand.tmp 33], argTypes := #[28, 28] }, type := 28, pos := "reachlaw17.go:159", after := #[{ on := 0, ground := Ground.data }, { on := 2, ground := Ground.data }], guard := none }) rfl (fun K hK => ?_) ?_
          · refine step_app_ss (w := (X1.alloc (.cells #[] 9)).drew) (M := y.en) (.tmp 31) (.tmp 33) HA.out HSA.out ?gd ?go ?gs ?gx (by omega) HKA.out.2.size ?_
            case gd => rfl
            case go => rfl
            case gs => rfl
            case gx => rfl
            intro v1 w1 hown1 hb1 hgr1
            have hK1 : HdC X1 ny 5 (.slice ae y.en.length ce) w1 := HdC.go hgY HKA.out hb1
            refine hK.out _ _ (fun _ => hK1) ?_
            try simp only [Act.put, List.setIfInBounds_toArray, List.set_cons_zero, List.set_cons_succ]
            refine wpLast_ready (rs := [4]) (by kernel_rfl) (by simp) ?_
            refine EachLast.cons (o := { dst := some 35, op := Op.buildSlice 28 1 #[(0, Operand.const (Value.string { data := #[98, 101, 104, 105, 110, 100] }))], type := 28, pos := "reachlaw17.go:159", after := #[], guard := none }) rfl (fun K hK => ?_) ?_
            · go_simp
              have hS2 : HdC X1 ny 5 (.slice ae y.en.length ce) (w1.alloc (.cells #[.string ⟨#[98, 101, 104, 105, 110, 100]⟩] 9)) := HdC.alloc hgY hK1 _
              refine hK.out _ _ (fun _ => hS2) ?_
              try simp only [Act.put, List.setIfInBounds_toArray, List.set_cons_zero, List.set_cons_succ]
              refine wpLast_ready (rs := [5]) (by kernel_rfl) (by simp) ?_
              refine EachLast.cons (o := { dst := some 36, op := Op.call { callee := Callee.builtin Builtin.append, args := #[Operand.tmp 34, Operand.tmp 35], argTypes := #[28, 28] }, type := 28, pos := "reachlaw17.go:159", after := #[{ on := 3, ground := Ground.data }, { on := 4, ground := Ground.data }, { on := 3, ground := Ground.chain }], guard := none }) rfl (fun K hK => ?_) ?_
              · refine step_app_ss (w := w1.alloc (.cells #[.string ⟨#[98, 101, 104, 105, 110, 100]⟩] 9)) (M := [behB]) (.tmp 34) (.tmp 35) (hown1.alloc _) (sees_one w1 behB) ?gd ?go ?gs ?gx (by simp only [List.length_cons, List.length_nil]; omega) hS2.2.size ?_
                case gd => rfl
                case go => rfl
                case gs => rfl
                case gx => rfl
                intro v2 w2 hown2 hb2 hgr2
                have hK2 : HdC X1 ny 5 (.slice ae y.en.length ce) w2 := HdC.go hgY hS2 hb2
                obtain ⟨g2, cap2, hv2, hc2, hm2, i1, i0, hF2, hO2⟩ := copy_done (l := y.en) hown2 (by simp only [List.length_cons, List.length_nil]; omega) hK2.2 HY1.out 5
                subst hv2
                refine hK.out _ _ (fun _ => hK2) ?_
                try simp only [Act.put, List.setIfInBounds_toArray, List.set_cons_zero, List.set_cons_succ]
                have hc3 := hK2.1
                refine wpLast_take (i := 9) (oi := { dst := some 40, op := Op.slice 28 (Operand.tmp 36) none (some (Operand.tmp 39)) none, type := 28, pos := "reachlaw17.go:159", after := #[{ on := 5, ground := Ground.data }, { on := 8, ground := Ground.data }], guard := none }) (v := ?_) rfl (by kernel_rfl) (by kernel_rfl) (by kernel_rfl) (by kernel_rfl) (fun _ _ _ h => h) (Or.inl ⟨by rfl, ?_⟩) (by assumption) ?_
                rotate_left
                · intro w hSw
                  try dsimp only at hSw
                  go_simp
                  try with_reducible rfl
                try simp only [Act.put, List.setIfInBounds_toArray, List.set_cons_zero, List.set_cons_succ]
                refine wpLast_take (i := 10) (oi := { dst := some 41, op := Op.fieldAddr 30 (Operand.tmp 5) 5, type := 0, pos := "reachlaw17.go:159", after := #[{ on := 0, ground := Ground.phase }, { on := 1, ground := Ground.phase }, { on := 2, ground := Ground.phase }, { on := 3, ground := Ground.phase }, { on := 4, ground := Ground.phase }, { on := 5, ground := Ground.phase }, { on := 6, ground := Ground.phase }, { on := 7, ground := Ground.phase }, { on := 8, ground := Ground.phase }, { on := 9, ground := Ground.phase }], guard := none }) (v := ?_) rfl (by kernel_rfl) (by kernel_rfl) (by kernel_rfl) (by kernel_rfl) (fun _ _ _ h => h) (Or.inl ⟨by rfl, ?_⟩) (by assumption) ?_
                rotate_left
                · intro w hSw
                  try dsimp only at hSw
                  go_simp
                  try with_reducible rfl
                try simp only [Act.put, List.setIfInBounds_toArray, List.set_cons_zero, List.set_cons_succ]
                refine wpLast_ready (rs := [11]) (by kernel_rfl) (by simp) ?_
                refine EachLast.cons (o := { dst := none, op := Op.store 28 (Operand.tmp 41) (Operand.tmp 40), type := 0, pos := "reachlaw17.go:159", after := #[{ on := 10, ground := Ground.data }, { on := 9, ground := Ground.data }, { on := 5, ground := Ground.chain }, { on := 0, ground := Ground.phase }, { on := 1, ground := Ground.phase }, { on := 2, ground := Ground.phase }, { on := 3, ground := Ground.phase }, { on := 4, ground := Ground.phase }, { on := 5, ground := Ground.phase }, { on := 6, ground := Ground.phase }, { on := 7, ground := Ground.phase }, { on := 8, ground := Ground.phase }, { on := 9, ground := Ground.phase }], guard := none }) rfl (fun K hK => ?_) ?_
                · go_simp
                  refine hK.out _ _ (fun h => absurd rfl h) ?_
                  try simp only [Act.put, List.setIfInBounds_toArray, List.set_cons_zero, List.set_cons_succ]
                  refine wpLast_done (by kernel_rfl) ?_ _
                  go_wp2_with fail
                  go_meet
                  exact ⟨g2, cap2, w2, rfl, hK2.2, hc2, hm2, hO2⟩
                exact EachLast.nil
              exact EachLast.nil
            exact EachLast.nil
          refine EachLast.cons (o := { dst := some 35, op := Op.buildSlice 28 1 #[(0, Operand.const (Value.string { data := #[98, 101, 104, 105, 110, 100] }))], type := 28, pos := "reachlaw17.go:159", after := #[], guard := none }) rfl (fun K hK => ?_) ?_
          · go_simp
            have hS : HdC X1 ny 5 (.slice ae y.en.length ce) (((X1.alloc (.cells #[] 9)).alloc (.cells #[.string ⟨#[98, 101, 104, 105, 110, 100]⟩] 9)).drew) := HKB.out
            refine hK.out _ _ (fun _ => hS) ?_
            try simp only [Act.put, List.setIfInBounds_toArray, List.set_cons_zero, List.set_cons_succ]
            refine wpLast_ready (rs := [3]) (by kernel_rfl) (by simp) ?_
            refine EachLast.cons (o := { dst := some 34, op := Op.call { callee := Callee.builtin Builtin.append, args := #[Operand.tmp 31, Operand.tmp 33], argTypes := #[28, 28] }, type := 28, pos := "reachlaw17.go:159", after := #[{ on := 0, ground := Ground.data }, { on := 2, ground := Ground.data }], guard := none }) rfl (fun K hK => ?_) ?_
            · refine step_app_ss (w := ((X1.alloc (.cells #[] 9)).alloc (.cells #[.string ⟨#[98, 101, 104, 105, 110, 100]⟩] 9)).drew) (M := y.en) (.tmp 31) (.tmp 33) HBb.out HSB.out ?gd ?go ?gs ?gx (by omega) HKB.out.2.size ?_
              case gd => rfl
              case go => rfl
              case gs => rfl
              case gx => rfl
              intro v1 w1 hown1 hb1 hgr1
              have hK1 : HdC X1 ny 5 (.slice ae y.en.length ce) w1 := HdC.go hgY HKB.out hb1
              refine hK.out _ _ (fun _ => hK1) ?_
              try simp only [Act.put, List.setIfInBounds_toArray, List.set_cons_zero, List.set_cons_succ]
              refine wpLast_ready (rs := [5]) (by kernel_rfl) (by simp) ?_
              refine EachLast.cons (o := { dst := some 36, op := Op.call { callee := Callee.builtin Builtin.append, args := #[Operand.tmp 34, Operand.tmp 35], argTypes := #[28, 28] }, type := 28, pos := "reachlaw17.go:159", after := #[{ on := 3, ground := Ground.data }, { on := 4, ground := Ground.data }, { on := 3, ground := Ground.chain }], guard := none }) rfl (fun K hK => ?_) ?_
              · refine step_app_ss (w := w1) (M := [behB]) (.tmp 34) (.tmp 35) hown1 (sees_mark (HMB.out.grown hgr1 (by simp [Value.ownBlock]))) ?gd ?go ?gs ?gx (by simp only [List.length_cons, List.length_nil]; omega) hK1.2.size ?_
                case gd => rfl
                case go => rfl
                case gs => rfl
                case gx => rfl
                intro v2 w2 hown2 hb2 hgr2
                have hK2 : HdC X1 ny 5 (.slice ae y.en.length ce) w2 := HdC.go hgY hK1 hb2
                obtain ⟨g2, cap2, hv2, hc2, hm2, i1, i0, hF2, hO2⟩ := copy_done (l := y.en) hown2 (by simp only [List.length_cons, List.length_nil]; omega) hK2.2 HY1.out 5
                subst hv2
                refine hK.out _ _ (fun _ => hK2) ?_
                try simp only [Act.put, List.setIfInBounds_toArray, List.set_cons_zero, List.set_cons_succ]
                have hc3 := hK2.1
                refine wpLast_take (i := 9) (oi := { dst := some 40, op := Op.slice 28 (Operand.tmp 36) none (some (Operand.tmp 39)) none, type := 28, pos := "reachlaw17.go:159", after := #[{ on := 5, ground := Ground.data }, { on := 8, ground := Ground.data }], guard := none }) (v := ?_) rfl (by kernel_rfl) (by kernel_rfl) (by kernel_rfl) (by kernel_rfl) (fun _ _ _ h => h) (Or.inl ⟨by rfl, ?_⟩) (by assumption) ?_
                rotate_left
                · intro w hSw
                  try dsimp only at hSw
                  go_simp
                  try with_reducible rfl
                try simp only [Act.put, List.setIfInBounds_toArray, List.set_cons_zero, List.set_cons_succ]
                refine wpLast_take (i := 10) (oi := { dst := some 41, op := Op.fieldAddr 30 (Operand.tmp 5) 5, type := 0, pos := "reachlaw17.go:159", after := #[{ on := 0, ground := Ground.phase }, { on := 1, ground := Ground.phase }, { on := 2, ground := Ground.phase }, { on := 3, ground := Ground.phase }, { on := 4, ground := Ground.phase }, { on := 5, ground := Ground.phase }, { on := 6, ground := Ground.phase }, { on := 7, ground := Ground.phase }, { on := 8, ground := Ground.phase }, { on := 9, ground := Ground.phase }], guard := none }) (v := ?_) rfl (by kernel_rfl) (by kernel_rfl) (by kernel_rfl) (by kernel_rfl) (fun _ _ _ h => h) (Or.inl ⟨by rfl, ?_⟩) (by assumption) ?_
                rotate_left
                · intro w hSw
                  try dsimp only at hSw
                  go_simp
                  try with_reducible rfl
                try simp only [Act.put, List.setIfInBounds_toArray, List.set_cons_zero, List.set_cons_succ]
                refine wpLast_ready (rs := [11]) (by kernel_rfl) (by simp) ?_
                refine EachLast.cons (o := { dst := none, op := Op.store 28 (Operand.tmp 41) (Operand.tmp 40), type := 0, pos := "reachlaw17.go:159", after := #[{ on := 10, ground := Ground.data }, { on := 9, ground := Ground.data }, { on := 5, ground := Ground.chain }, { on := 0, ground := Ground.phase }, { on := 1, ground := Ground.phase }, { on := 2, ground := Ground.phase }, { on := 3, ground := Ground.phase }, { on := 4, ground := Ground.phase }, { on := 5, ground := Ground.phase }, { on := 6, ground := Ground.phase }, { on := 7, ground := Ground.phase }, { on := 8, ground := Ground.phase }, { on := 9, ground := Ground.phase }], guard := none }) rfl (fun K hK => ?_) ?_
                · go_simp
                  refine hK.out _ _ (fun h => absurd rfl h) ?_
                  try simp only [Act.put, List.setIfInBounds_toArray, List.set_cons_zero, List.set_cons_succ]
                  refine wpLast_done (by kernel_rfl) ?_ _
                  go_wp2_with fail
                  go_meet
                  exact ⟨g2, cap2, w2, rfl, hK2.2, hc2, hm2, hO2⟩
                exact EachLast.nil
              exact EachLast.nil
            exact EachLast.nil
          exact EachLast.nil
        refine EachLast.cons (o := { dst := some 35, op := Op.buildSlice 28 1 #[(0, Operand.const (Value.string { data := #[98, 101, 104, 105, 110, 100] }))], type := 28, pos := "reachlaw17.go:159", after := #[], guard := none }) rfl (fun K hK => ?_) ?_
        · go_simp
          have hS : HdC X1 ny 5 (.slice ae y.en.length ce) ((X1.alloc (.cells #[.string ⟨#[98, 101, 104, 105, 110, 100]⟩] 9)).drew) := HdC.allocD hgY hU _
          refine hK.out _ _ (fun _ => hS) ?_
          try simp only [Act.put, List.setIfInBounds_toArray, List.set_cons_zero, List.set_cons_succ]
          refine wpLast_ready (rs := [0]) (by kernel_rfl) (by simp) ?_
          refine EachLast.cons (o := { dst := some 31, op := Op.buildSlice 28 0 #[], type := 28, pos := "reachlaw17.go:159", after := #[], guard := none }) rfl (fun K hK => ?_) ?_
          · go_simp
            have hS : HdC X1 ny 5 (.slice ae y.en.length ce) (((X1.alloc (.cells #[.string ⟨#[98, 101, 104, 105, 110, 100]⟩] 9)).alloc (.cells #[] 9)).drew) := HKC.out
            refine hK.out _ _ (fun _ => hS) ?_
            try simp only [Act.put, List.setIfInBounds_toArray, List.set_cons_zero, List.set_cons_succ]
            refine wpLast_ready (rs := [3]) (by kernel_rfl) (by simp) ?_
            refine EachLast.cons (o := { dst := some 34, op := Op.call { callee := Callee.builtin Builtin.append, args := #[Operand.tmp 31, Operand.tmp 33], argTypes := #[28, 28] }, type := 28, pos := "reachlaw17.go:159", after := #[{ on := 0, ground := Ground.data }, { on := 2, ground := Ground.data }], guard := none }) rfl (fun K hK => ?_) ?_
            · refine step_app_ss (w := ((X1.alloc (.cells #[.string ⟨#[98, 101, 104, 105, 110, 100]⟩] 9)).alloc (.cells #[] 9)).drew) (M := y.en) (.tmp 31) (.tmp 33) HC.out HSC.out ?gd ?go ?gs ?gx (by omega) HKC.out.2.size ?_
              case gd => rfl
              case go => rfl
              case gs => rfl
              case gx => rfl
              intro v1 w1 hown1 hb1 hgr1
              have hK1 : HdC X1 ny 5 (.slice ae y.en.length ce) w1 := HdC.go hgY HKC.out hb1
              refine hK.out _ _ (fun _ => hK1) ?_
              try simp only [Act.put, List.setIfInBounds_toArray, List.set_cons_zero, List.set_cons_succ]
              refine wpLast_ready (rs := [5]) (by kernel_rfl) (by simp) ?_
              refine EachLast.cons (o := { dst := some 36, op := Op.call { callee := Callee.builtin Builtin.append, args := #[Operand.tmp 34, Operand.tmp 35], argTypes := #[28, 28] }, type := 28, pos := "reachlaw17.go:159", after := #[{ on := 3, ground := Ground.data }, { on := 4, ground := Ground.data }, { on := 3, ground := Ground.chain }], guard := none }) rfl (fun K hK => ?_) ?_
              · refine step_app_ss (w := w1) (M := [behB]) (.tmp 34) (.tmp 35) hown1 (sees_mark (HMC.out.grown hgr1 (by simp [Value.ownBlock]))) ?gd ?go ?gs ?gx (by simp only [List.length_cons, List.length_nil]; omega) hK1.2.size ?_
                case gd => rfl
                case go => rfl
                case gs => rfl
                case gx => rfl
                intro v2 w2 hown2 hb2 hgr2
                have hK2 : HdC X1 ny 5 (.slice ae y.en.length ce) w2 := HdC.go hgY hK1 hb2
                obtain ⟨g2, cap2, hv2, hc2, hm2, i1, i0, hF2, hO2⟩ := copy_done (l := y.en) hown2 (by simp only [List.length_cons, List.length_nil]; omega) hK2.2 HY1.out 5
                subst hv2
                refine hK.out _ _ (fun _ => hK2) ?_
                try simp only [Act.put, List.setIfInBounds_toArray, List.set_cons_zero, List.set_cons_succ]
                have hc3 := hK2.1
                refine wpLast_take (i := 9) (oi := { dst := some 40, op := Op.slice 28 (Operand.tmp 36) none (some (Operand.tmp 39)) none, type := 28, pos := "reachlaw17.go:159", after := #[{ on := 5, ground := Ground.data }, { on := 8, ground := Ground.data }], guard := none }) (v := ?_) rfl (by kernel_rfl) (by kernel_rfl) (by kernel_rfl) (by kernel_rfl) (fun _ _ _ h => h) (Or.inl ⟨by rfl, ?_⟩) (by assumption) ?_
                rotate_left
                · intro w hSw
                  try dsimp only at hSw
                  go_simp
                  try with_reducible rfl
                try simp only [Act.put, List.setIfInBounds_toArray, List.set_cons_zero, List.set_cons_succ]
                refine wpLast_take (i := 10) (oi := { dst := some 41, op := Op.fieldAddr 30 (Operand.tmp 5) 5, type := 0, pos := "reachlaw17.go:159", after := #[{ on := 0, ground := Ground.phase }, { on := 1, ground := Ground.phase }, { on := 2, ground := Ground.phase }, { on := 3, ground := Ground.phase }, { on := 4, ground := Ground.phase }, { on := 5, ground := Ground.phase }, { on := 6, ground := Ground.phase }, { on := 7, ground := Ground.phase }, { on := 8, ground := Ground.phase }, { on := 9, ground := Ground.phase }], guard := none }) (v := ?_) rfl (by kernel_rfl) (by kernel_rfl) (by kernel_rfl) (by kernel_rfl) (fun _ _ _ h => h) (Or.inl ⟨by rfl, ?_⟩) (by assumption) ?_
                rotate_left
                · intro w hSw
                  try dsimp only at hSw
                  go_simp
                  try with_reducible rfl
                try simp only [Act.put, List.setIfInBounds_toArray, List.set_cons_zero, List.set_cons_succ]
                refine wpLast_ready (rs := [11]) (by kernel_rfl) (by simp) ?_
                refine EachLast.cons (o := { dst := none, op := Op.store 28 (Operand.tmp 41) (Operand.tmp 40), type := 0, pos := "reachlaw17.go:159", after := #[{ on := 10, ground := Ground.data }, { on := 9, ground := Ground.data }, { on := 5, ground := Ground.chain }, { on := 0, ground := Ground.phase }, { on := 1, ground := Ground.phase }, { on := 2, ground := Ground.phase }, { on := 3, ground := Ground.phase }, { on := 4, ground := Ground.phase }, { on := 5, ground := Ground.phase }, { on := 6, ground := Ground.phase }, { on := 7, ground := Ground.phase }, { on := 8, ground := Ground.phase }, { on := 9, ground := Ground.phase }], guard := none }) rfl (fun K hK => ?_) ?_
                · go_simp
                  refine hK.out _ _ (fun h => absurd rfl h) ?_
                  try simp only [Act.put, List.setIfInBounds_toArray, List.set_cons_zero, List.set_cons_succ]
                  refine wpLast_done (by kernel_rfl) ?_ _
                  go_wp2_with fail
                  go_meet
                  exact ⟨g2, cap2, w2, rfl, hK2.2, hc2, hm2, hO2⟩
                exact EachLast.nil
              exact EachLast.nil
            exact EachLast.nil
          exact EachLast.nil
        exact EachLast.nil
      case rest =>
      obtain ⟨g1, c1, hc1, hm1, T1, hb1, hz1, hB1, hO1⟩ := RegP.out hcut HY1.out.lt
      clear hcut
      have HY2 := Lib.hid (hB1 _ _ HY1.out)
      have HB2 := Lib.hid (HB1.out.trans hb1)
      have HL2 := Lib.hid (HL.out.below (by rw [hny]; exact HB2.out))
      simp only [List.setIfInBounds_toArray, List.set_cons_zero, List.set_cons_succ] at HY2
      have T0b := hO1 _ _ _ _ _ _ T0 HY0.out.lt
      generalize wc = X2 at *
      go_upto_region 9 with fail
      go_cut [] (fun wx => RegP X2 ny 7 y.li wx)
      case first =>
        have hgY : ny < X2.heap.size := HY2.out.lt
        have hU : HdC X2 ny 7 (.slice al y.li.length cl) X2 := ⟨HY2.out.cell 7, Below.refl _ _⟩
        have hK0 : HdC X2 ny 7 (.slice al y.li.length cl) X2.drew := ⟨HY2.out.cell 7, (Below.refl _ _).drew⟩
        have HA := Lib.hid (show ((X2.alloc (.cells #[] 9)).drew).ownsRow X2.heap.size 9 1 (.slice (some ⟨X2.heap.size, 0, none⟩) 0 0) 0 [] from own_empty X2 9 (Nat.le_refl _))
        have HSA := Lib.hid (show Sees ((X2.alloc (.cells #[] 9)).drew) (.slice al y.li.length cl) (ss y.li) from (HL2.out.alloc _).drew)
        have HKA := Lib.hid (show HdC X2 ny 7 (.slice al y.li.length cl) ((X2.alloc (.cells #[] 9)).drew) from HdC.allocD hgY hU _)
        have HBb := Lib.hid (show (((X2.alloc (.cells #[] 9)).alloc (.cells #[.string ⟨#[98, 101, 104, 105, 110, 100]⟩] 9)).drew).ownsRow X2.heap.size 9 1 (.slice (some ⟨X2.heap.size, 0, none⟩) 0 0) 0 [] from (own_empty X2 9 (Nat.le_refl _)).alloc _)
        have HSB := Lib.hid (show Sees (((X2.alloc (.cells #[] 9)).alloc (.cells #[.string ⟨#[98, 101, 104, 105, 110, 100]⟩] 9)).drew) (.slice al y.li.length cl) (ss y.li) from ((HL2.out.alloc _).alloc _).drew)
        have HMB := Lib.hid (show Blk (((X2.alloc (.cells #[] 9)).alloc (.cells #[.string ⟨#[98, 101, 104, 105, 110, 100]⟩] 9)).drew) (X2.heap.size + 1) 9 #[.string ⟨#[98, 101, 104, 105, 110, 100]⟩] from by
          have h := Blk.new (X2.alloc (.cells #[] 9)) 9 #[.string ⟨#[98, 101, 104, 105, 110, 100]⟩]
          rw [World.size_alloc] at h
          exact h.drew)
        have HKB := Lib.hid (show HdC X2 ny 7 (.slice al y.li.length cl) (((X2.alloc (.cells #[] 9)).alloc (.cells #[.string ⟨#[98, 101, 104, 105, 110, 100]⟩] 9)).drew) from HdC.allocD hgY (HdC.alloc hgY hU _) _)
        have HC := Lib.hid (show (((X2.alloc (.cells #[.string ⟨#[98, 101, 104, 105, 110, 100]⟩] 9)).alloc (.cells #[] 9)).drew).ownsRow X2.heap.size 9 1 (.slice (some ⟨X2.heap.size + 1, 0, none⟩) 0 0) 0 [] from by
          have h := own_empty (X2.alloc (.cells #[.string ⟨#[98, 101, 104, 105, 110, 100]⟩] 9)) 9 (B := X2.heap.size) (by simp)
          rw [World.size_alloc] at h
          exact h)
        have HSC := Lib.hid (show Sees (((X2.alloc (.cells #[.string ⟨#[98, 101, 104, 105, 110, 100]⟩] 9)).alloc (.cells #[] 9)).drew) (.slice al y.li.length cl) (ss y.li) from ((HL2.out.alloc _).alloc _).drew)
        have HMC := Lib.hid (show Blk (((X2.alloc (.cells #[.string ⟨#[98, 101, 104, 105, 110, 100]⟩] 9)).alloc (.cells #[] 9)).drew) X2.heap.size 9 #[.string ⟨#[98, 101, 104, 105, 110, 100]⟩] from ((Blk.new X2 9 #[.string ⟨#[98, 101, 104, 105, 110, 100]⟩]).alloc _).drew)
        have HKC := Lib.hid (show HdC X2 ny 7 (.slice al y.li.length cl) (((X2.alloc (.cells #[.string ⟨#[98, 101, 104, 105, 110, 100]⟩] 9)).alloc (.cells #[] 9)).drew) from HdC.allocD hgY (HdC.alloc hgY hU _) _)
        refine wp_region_last 11 (fun w' => HdC X2 ny 7 (.slice al y.li.length cl) w') (by kernel_rfl) ?_
        refine wpLast_take (i := 1) (oi := { dst := some 43, op := Op.fieldAddr 30 (Operand.tmp 5) 7, type := 0, pos := "reachlaw17.go:160", after := #[], guard := none }) (v := ?_) rfl (by kernel_rfl) (by kernel_rfl) (by kernel_rfl) (by kernel_rfl) (fun _ _ _ h => h) (Or.inl ⟨by rfl, ?_⟩) (by assumption) ?_
        rotate_left
        · intro w hSw
          try dsimp only at hSw
          go_simp
          try with_reducible rfl
        try simp only [Act.put, List.setIfInBounds_toArray, List.set_cons_zero, List.set_cons_succ]
        refine wpLast_take (i := 2) (oi := { dst := some 44, op := Op.load 28 (Operand.tmp 43), type := 28, pos := "reachlaw17.go:160", after := #[{ on := 1, ground := Ground.data }], guard := none }) (v := ?_) rfl (by kernel_rfl) (by kernel_rfl) (by kernel_rfl) (by kernel_rfl) (fun _ _ _ h => h) (Or.inl ⟨by rfl, ?_⟩) (by assumption) ?_
        rotate_left
        · intro w hSw
          try dsimp only at hSw
          go_simp
          try with_reducible rfl
        try simp only [Act.put, List.setIfInBounds_toArray, List.set_cons_zero, List.set_cons_succ]
        refine wpLast_take (i := 6) (oi := { dst := some 48, op := Op.fieldAddr 30 (Operand.tmp 5) 7, type := 0, pos := "reachlaw17.go:160", after := #[], guard := none }) (v := ?_) rfl (by kernel_rfl) (by kernel_rfl) (by kernel_rfl) (by kernel_rfl) (fun _ _ _ h => h) (Or.inl ⟨by rfl, ?_⟩) (by assumption) ?_
        rotate_left
        · intro w hSw
          try dsimp only at hSw
          go_simp
          try with_reducible rfl
        try simp only [Act.put, List.setIfInBounds_toArray, List.set_cons_zero, List.set_cons_succ]
        refine wpLast_take (i := 7) (oi := { dst := some 49, op := Op.load 28 (Operand.tmp 48), type := 28, pos := "reachlaw17.go:160", after := #[{ on := 6, ground := Ground.data }], guard := none }) (v := ?_) rfl (by kernel_rfl) (by kernel_rfl) (by kernel_rfl) (by kernel_rfl) (fun _ _ _ h => h) (Or.inl ⟨by rfl, ?_⟩) (by assumption) ?_
        rotate_left
        · intro w hSw
          try dsimp only at hSw
          go_simp
          try with_reducible rfl
        try simp only [Act.put, List.setIfInBounds_toArray, List.set_cons_zero, List.set_cons_succ]
        refine wpLast_take (i := 8) (oi := { dst := some 50, op := Op.call { callee := Callee.builtin Builtin.len, args := #[Operand.tmp 49], argTypes := #[28] }, type := 3, pos := "reachlaw17.go:160", after := #[{ on := 7, ground := Ground.data }], guard := none }) (v := ?_) rfl (by kernel_rfl) (by kernel_rfl) (by kernel_rfl) (by kernel_rfl) (fun _ _ _ h => h) (Or.inl ⟨by rfl, ?_⟩) (by assumption) ?_
        rotate_left
        · intro w hSw
          try dsimp only at hSw
          go_simp
          try with_reducible rfl
        try simp only [Act.put, List.setIfInBounds_toArray, List.set_cons_zero, List.set_cons_succ]
        refine wpLast_ready (rs := [0, 4]) (by kernel_rfl) (by simp) ?_
        refine EachLast.cons (o := { dst := some 42, op := Op.buildSlice 28 0 #[], type := 28, pos := "reachlaw17.go:160", after := #[], guard := none }) rfl (fun K hK => ?_) ?_
        · go_simp
          have hS : HdC X2 ny 7 (.slice al y.li.length cl) ((X2.alloc (.cells #[] 9)).drew) := HKA.out
          refine hK.out _ _ (fun _ => hS) ?_
          try simp only [Act.put, List.setIfInBounds_toArray, List.set_cons_zero, List.set_cons_succ]
          refine wpLast_ready (rs := [3, 4]) (by kernel_rfl) (by simp) ?_
          refine EachLast.cons (o := { dst := some 45, op := Op.call { callee := Callee.builtin Builtin.append, args := #[Operand.tmp 42, Operand.tmp 44], argTypes := #[28, 28] }, type := 28, pos := "reachlaw17.go:160", after := #[{ on := 0, ground := Ground.data }, { on := 2, ground := Ground.data }], guard := none }) rfl (fun K hK => ?_) ?_
          · refine step_app_ss (w := (X2.alloc (.cells #[] 9)).drew) (M := y.li) (.tmp 42) (.tmp 44) HA.out HSA.out ?gd ?go ?gs ?gx (by omega) HKA.out.2.size ?_
            case gd => rfl
            case go => rfl
            case gs => rfl
            case gx => rfl
            intro v1 w1 hown1 hb1 hgr1
            have hK1 : HdC X2 ny 7 (.slice al y.li.length cl) w1 := HdC.go hgY HKA.out hb1
            refine hK.out _ _ (fun _ => hK1) ?_
            try simp only [Act.put, List.setIfInBounds_toArray, List.set_cons_zero, List.set_cons_succ]
            refine wpLast_ready (rs := [4]) (by kernel_rfl) (by simp) ?_
            refine EachLast.cons (o := { dst := some 46, op := Op.buildSlice 28 1 #[(0, Operand.const (Value.string { data := #[98, 101, 104, 105, 110, 100] }))], type := 28, pos := "reachlaw17.go:160", after := #[], guard := none }) rfl (fun K hK => ?_) ?_
            · go_simp
              have hS2 : HdC X2 ny 7 (.slice al y.li.length cl) (w1.alloc (.cells #[.string ⟨#[98, 101, 104, 105, 110, 100]⟩] 9)) := HdC.alloc hgY hK1 _
              refine hK.out _ _ (fun _ => hS2) ?_
              try simp only [Act.put, List.setIfInBounds_toArray, List.set_cons_zero, List.set_cons_succ]
              refine wpLast_ready (rs := [5]) (by kernel_rfl) (by simp) ?_
              refine EachLast.cons (o := { dst := some 47, op := Op.call { callee := Callee.builtin Builtin.append, args := #[Operand.tmp 45, Operand.tmp 46], argTypes := #[28, 28] }, type := 28, pos := "reachlaw17.go:160", after := #[{ on := 3, ground := Ground.data }, { on := 4, ground := Ground.data }, { on := 3, ground := Ground.chain }], guard := none }) rfl (fun K hK => ?_) ?_
              · refine step_app_ss (w := w1.alloc (.cells #[.string ⟨#[98, 101, 104, 105, 110, 100]⟩] 9)) (M := [behB]) (.tmp 45) (.tmp 46) (hown1.alloc _) (sees_one w1 behB) ?gd ?go ?gs ?gx (by simp only [List.length_cons, List.length_nil]; omega) hS2.2.size ?_
                case gd => rfl
                case go => rfl
                case gs => rfl
                case gx => rfl
                intro v2 w2 hown2 hb2 hgr2
                have hK2 : HdC X2 ny 7 (.slice al y.li.length cl) w2 := HdC.go hgY hS2 hb2
                obtain ⟨g2, cap2, hv2, hc2, hm2, i1, i0, hF2, hO2⟩ := copy_done (l := y.li) hown2 (by simp only [List.length_cons, List.length_nil]; omega) hK2.2 HY2.out 7
                subst hv2
                refine hK.out _ _ (fun _ => hK2) ?_
                try simp only [Act.put, List.setIfInBounds_toArray, List.set_cons_zero, List.set_cons_succ]
                have hc3 := hK2.1
                refine wpLast_take (i := 9) (oi := { dst := some 51, op := Op.slice 28 (Operand.tmp 47) none (some (Operand.tmp 50)) none, type := 28, pos := "reachlaw17.go:160", after := #[{ on := 5, ground := Ground.data }, { on := 8, ground := Ground.data }], guard := none }) (v := ?_) rfl (by kernel_rfl) (by kernel_rfl) (by kernel_rfl) (by kernel_rfl) (fun _ _ _ h => h) (Or.inl ⟨by rfl, ?_⟩) (by assumption) ?_
                rotate_left
                · intro w hSw
                  try dsimp only at hSw
                  go_simp
                  try with_reducible rfl
                try simp only [Act.put, List.setIfInBounds_toArray, List.set_cons_zero, List.set_cons_succ]
                refine wpLast_take (i := 10) (oi := { dst := some 52, op := Op.fieldAddr 30 (Operand.tmp 5) 7, type := 0, pos := "reachlaw17.go:160", after := #[{ on := 0, ground := Ground.phase }, { on := 1, ground := Ground.phase }, { on := 2, ground := Ground.phase }, { on := 3, ground := Ground.phase }, { on := 4, ground := Ground.phase }, { on := 5, ground := Ground.phase }, { on := 6, ground := Ground.phase }, { on := 7, ground := Ground.phase }, { on := 8, ground := Ground.phase }, { on := 9, ground := Ground.phase }], guard := none }) (v := ?_) rfl (by kernel_rfl) (by kernel_rfl) (by kernel_rfl) (by kernel_rfl) (fun _ _ _ h => h) (Or.inl ⟨by rfl, ?_⟩) (by assumption) ?_
                rotate_left
                · intro w hSw
                  try dsimp only at hSw
                  go_simp
                  try with_reducible rfl
                try simp only [Act.put, List.setIfInBounds_toArray, List.set_cons_zero, List.set_cons_succ]
                refine wpLast_ready (rs := [11]) (by kernel_rfl) (by simp) ?_
                refine EachLast.cons (o := { dst := none, op := Op.store 28 (Operand.tmp 52) (Operand.tmp 51), type := 0, pos := "reachlaw17.go:160", after := #[{ on := 10, ground := Ground.data }, { on := 9, ground := Ground.data }, { on := 5, ground := Ground.chain }, { on := 0, ground := Ground.phase }, { on := 1, ground := Ground.phase }, { on := 2, ground := Ground.phase }, { on := 3, ground := Ground.phase }, { on := 4, ground := Ground.phase }, { on := 5, ground := Ground.phase }, { on := 6, ground := Ground.phase }, { on := 7, ground := Ground.phase }, { on := 8, ground := Ground.phase }, { on := 9, ground := Ground.phase }], guard := none }) rfl (fun K hK => ?_) ?_
                · go_simp
                  refine hK.out _ _ (fun h => absurd rfl h) ?_
                  try simp only [Act.put, List.setIfInBounds_toArray, List.set_cons_zero, List.set_cons_succ]
                  refine wpLast_done (by kernel_rfl) ?_ _
                  go_wp2_with fail
                  go_meet
                  exact ⟨g2, cap2, w2, rfl, hK2.2, hc2, hm2, hO2⟩
                exact EachLast.nil
              exact EachLast.nil
            exact EachLast.nil
          refine EachLast.cons (o := { dst := some 46, op := Op.buildSlice 28 1 #[(0, Operand.const (Value.string { data := #[98, 101, 104, 105, 110, 100] }))], type := 28, pos := "reachlaw17.go:160", after := #[], guard := none }) rfl (fun K hK => ?_) ?_
          · go_simp
            have hS : HdC X2 ny 7 (.slice al y.li.length cl) (((X2.alloc (.cells #[] 9)).alloc (.cells #[.string ⟨#[98, 101, 104, 105, 110, 100]⟩] 9)).drew) := HKB.out
            refine hK.out _ _ (fun _ => hS) ?_
            try simp only [Act.put, List.setIfInBounds_toArray, List.set_cons_zero, List.set_cons_succ]
            refine wpLast_ready (rs := [3]) (by kernel_rfl) (by simp) ?_
            refine EachLast.cons (o := { dst := some 45, op := Op.call { callee := Callee.builtin Builtin.append, args := #[Operand.tmp 42, Operand.tmp 44], argTypes := #[28, 28] }, type := 28, pos := "reachlaw17.go:160", after := #[{ on := 0, ground := Ground.data }, { on := 2, ground := Ground.data }], guard := none }) rfl (fun K hK => ?_) ?_
            · refine step_app_ss (w := ((X2.alloc (.cells #[] 9)).alloc (.cells #[.string ⟨#[98, 101, 104, 105, 110, 100]⟩] 9)).drew) (M := y.li) (.tmp 42) (.tmp 44) HBb.out HSB.out ?gd ?go ?gs ?gx (by omega) HKB.out.2.size ?_
              case gd => rfl
              case go => rfl
              case gs => rfl
              case gx => rfl
              intro v1 w1 hown1 hb1 hgr1
              have hK1 : HdC X2 ny 7 (.slice al y.li.length cl) w1 := HdC.go hgY HKB.out hb1
              refine hK.out _ _ (fun _ => hK1) ?_
              try simp only [Act.put, List.setIfInBounds_toArray, List.set_cons_zero, List.set_cons_succ]
              refine wpLast_ready (rs := [5]) (by kernel_rfl) (by simp) ?_
              refine EachLast.cons (o := { dst := some 47, op := Op.call { callee := Callee.builtin Builtin.append, args := #[Operand.tmp 45, Operand.tmp 46], argTypes := #[28, 28] }, type := 28, pos := "reachlaw17.go:160", after := #[{ on := 3, ground := Ground.data }, { on := 4, ground := Ground.data }, { on := 3, ground := Ground.chain }], guard := none }) rfl (fun K hK => ?_) ?_
              · refine step_app_ss (w := w1) (M := [behB]) (.tmp 45) (.tmp 46) hown1 (sees_mark (HMB.out.grown hgr1 (by simp [Value.ownBlock]))) ?gd ?go ?gs ?gx (by simp only [List.length_cons, List.length_nil]; omega) hK1.2.size ?_
                case gd => rfl
                case go => rfl
                case gs => rfl
                case gx => rfl
                intro v2 w2 hown2 hb2 hgr2
                have hK2 : HdC X2 ny 7 (.slice al y.li.length cl) w2 := HdC.go hgY hK1 hb2
                obtain ⟨g2, cap2, hv2, hc2, hm2, i1, i0, hF2, hO2⟩ := copy_done (l := y.li) hown2 (by simp only [List.length_cons, List.length_nil]; omega) hK2.2 HY2.out 7
                subst hv2
                refine hK.out _ _ (fun _ => hK2) ?_
                try simp only [Act.put, List.setIfInBounds_toArray, List.set_cons_zero, List.set_cons_succ]
                have hc3 := hK2.1
                refine wpLast_take (i := 9) (oi := { dst := some 51, op := Op.slice 28 (Operand.tmp 47) none (some (Operand.tmp 50)) none, type := 28, pos := "reachlaw17.go:160", after := #[{ on := 5, ground := Ground.data }, { on := 8, ground := Ground.data }], guard := none }) (v := ?_) rfl (by kernel_rfl) (by kernel_rfl) (by kernel_rfl) (by kernel_rfl) (fun _ _ _ h => h) (Or.inl ⟨by rfl, ?_⟩) (by assumption) ?_
                rotate_left
                · intro w hSw
                  try dsimp only at hSw
                  go_simp
                  try with_reducible rfl
                try simp only [Act.put, List.setIfInBounds_toArray, List.set_cons_zero, List.set_cons_succ]
                refine wpLast_take (i := 10) (oi := { dst := some 52, op := Op.fieldAddr 30 (Operand.tmp 5) 7, type := 0, pos := "reachlaw17.go:160", after := #[{ on := 0, ground := Ground.phase }, { on := 1, ground := Ground.phase }, { on := 2, ground := Ground.phase }, { on := 3, ground := Ground.phase }, { on := 4, ground := Ground.phase }, { on := 5, ground := Ground.phase }, { on := 6, ground := Ground.phase }, { on := 7, ground := Ground.phase }, { on := 8, ground := Ground.phase }, { on := 9, ground := Ground.phase }], guard := none }) (v := ?_) rfl (by kernel_rfl) (by kernel_rfl) (by kernel_rfl) (by kernel_rfl) (fun _ _ _ h => h) (Or.inl ⟨by rfl, ?_⟩) (by assumption) ?_
                rotate_left
                · intro w hSw
                  try dsimp only at hSw
                  go_simp
                  try with_reducible rfl
                try simp only [Act.put, List.setIfInBounds_toArray, List.set_cons_zero, List.set_cons_succ]
                refine wpLast_ready (rs := [11]) (by kernel_rfl) (by simp) ?_
                refine EachLast.cons (o := { dst := none, op := Op.store 28 (Operand.tmp 52) (Operand.tmp 51), type := 0, pos := "reachlaw17.go:160", after := #[{ on := 10, ground := Ground.data }, { on := 9, ground := Ground.data }, { on := 5, ground := Ground.chain }, { on := 0, ground := Ground.phase }, { on := 1, ground := Ground.phase }, { on := 2, ground := Ground.phase }, { on := 3, ground := Ground.phase }, { on := 4, ground := Ground.phase }, { on := 5, ground := Ground.phase }, { on := 6, ground := Ground.phase }, { on := 7, ground := Ground.phase }, { on := 8, ground := Ground.phase }, { on := 9, ground := Ground.phase }], guard := none }) rfl (fun K hK => ?_) ?_
                · go_simp
                  refine hK.out _ _ (fun h => absurd rfl h) ?_
                  try simp only [Act.put, List.setIfInBounds_toArray, List.set_cons_zero, List.set_cons_succ]
                  refine wpLast_done (by kernel_rfl) ?_ _
                  go_wp2_with fail
                  go_meet
                  exact ⟨g2, cap2, w2, rfl, hK2.2, hc2, hm2, hO2⟩
                exact EachLast.nil
              exact EachLast.nil
            exact EachLast.nil
          exact EachLast.nil
        refine EachLast.cons (o := { dst := some 46, op := Op.buildSlice 28 1 #[(0, Operand.const (Value.string { data := #[98, 101, 104, 105, 110, 100] }))], type := 28, pos := "reachlaw17.go:160", after := #[], guard := none }) rfl (fun K hK => ?_) ?_
        · go_simp
          have hS : HdC X2 ny 7 (.slice al y.li.length cl) ((X2.alloc (.cells #[.string ⟨#[98, 101, 104, 105, 110, 100]⟩] 9)).drew) := HdC.allocD hgY hU _
          refine hK.out _ _ (fun _ => hS) ?_
          try simp only [Act.put, List.setIfInBounds_toArray, List.set_cons_zero, List.set_cons_succ]
          refine wpLast_ready (rs := [0]) (by kernel_rfl) (by simp) ?_
          refine EachLast.cons (o := { dst := some 42, op := Op.buildSlice 28 0 #[], type := 28, pos := "reachlaw17.go:160", after := #[], guard := none }) rfl (fun K hK => ?_) ?_
          · go_simp
            have hS : HdC X2 ny 7 (.slice al y.li.length cl) (((X2.alloc (.cells #[.string ⟨#[98, 101, 104, 105, 110, 100]⟩] 9)).alloc (.cells #[] 9)).drew) := HKC.out
            refine hK.out _ _ (fun _ => hS) ?_
            try simp only [Act.put, List.setIfInBounds_toArray, List.set_cons_zero, List.set_cons_succ]
            refine wpLast_ready (rs := [3]) (by kernel_rfl) (by simp) ?_
            refine EachLast.cons (o := { dst := some 45, op := Op.call { callee := Callee.builtin Builtin.append, args := #[Operand.tmp 42, Operand.tmp 44], argTypes := #[28, 28] }, type := 28, pos := "reachlaw17.go:160", after := #[{ on := 0, ground := Ground.data }, { on := 2, ground := Ground.data }], guard := none }) rfl (fun K hK => ?_) ?_
            · refine step_app_ss (w := ((X2.alloc (.cells #[.string ⟨#[98, 101, 104, 105, 110, 100]⟩] 9)).alloc (.cells #[] 9)).drew) (M := y.li) (.tmp 42) (.tmp 44) HC.out HSC.out ?gd ?go ?gs ?gx (by omega) HKC.out.2.size ?_
              case gd => rfl
              case go => rfl
              case gs => rfl
              case gx => rfl
              intro v1 w1 hown1 hb1 hgr1
              have hK1 : HdC X2 ny 7 (.slice al y.li.length cl) w1 := HdC.go hgY HKC.out hb1
              refine hK.out _ _ (fun _ => hK1) ?_
              try simp only [Act.put, List.setIfInBounds_toArray, List.set_cons_zero, List.set_cons_succ]
              refine wpLast_ready (rs := [5]) (by kernel_rfl) (by simp) ?_
              refine EachLast.cons (o := { dst := some 47, op := Op.call { callee := Callee.builtin Builtin.append, args := #[Operand.tmp 45, Operand.tmp 46], argTypes := #[28, 28] }, type := 28, pos := "reachlaw17.go:160", after := #[{ on := 3, ground := Ground.data }, { on := 4, ground := Ground.data }, { on := 3, ground := Ground.chain }], guard := none }) rfl (fun K hK => ?_) ?_
              · refine step_app_ss (w := w1) (M := [behB]) (.tmp 45) (.tmp 46) hown1 (sees_mark (HMC.out.grown hgr1 (by simp [Value.ownBlock]))) ?gd ?go ?gs ?gx (by simp only [List.length_cons, List.length_nil]; omega) hK1.2.size ?_
                case gd => rfl
                case go => rfl
                case gs => rfl
                case gx => rfl
                intro v2 w2 hown2 hb2 hgr2
                have hK2 : HdC X2 ny 7 (.slice al y.li.length cl) w2 := HdC.go hgY hK1 hb2
                obtain ⟨g2, cap2, hv2, hc2, hm2, i1, i0, hF2, hO2⟩ := copy_done (l := y.li) hown2 (by simp only [List.length_cons, List.length_nil]; omega) hK2.2 HY2.out 7
                subst hv2
                refine hK.out _ _ (fun _ => hK2) ?_
                try simp only [Act.put, List.setIfInBounds_toArray, List.set_cons_zero, List.set_cons_succ]
                have hc3 := hK2.1
                refine wpLast_take (i := 9) (oi := { dst := some 51, op := Op.slice 28 (Operand.tmp 47) none (some (Operand.tmp 50)) none, type := 28, pos := "reachlaw17.go:160", after := #[{ on := 5, ground := Ground.data }, { on := 8, ground := Ground.data }], guard := none }) (v := ?_) rfl (by kernel_rfl) (by kernel_rfl) (by kernel_rfl) (by kernel_rfl) (fun _ _ _ h => h) (Or.inl ⟨by rfl, ?_⟩) (by assumption) ?_
                rotate_left
                · intro w hSw
                  try dsimp only at hSw
                  go_simp
                  try with_reducible rfl
                try simp only [Act.put, List.setIfInBounds_toArray, List.set_cons_zero, List.set_cons_succ]
                refine wpLast_take (i := 10) (oi := { dst := some 52, op := Op.fieldAddr 30 (Operand.tmp 5) 7, type := 0, pos := "reachlaw17.go:160", after := #[{ on := 0, ground := Ground.phase }, { on := 1, ground := Ground.phase }, { on := 2, ground := Ground.phase }, { on := 3, ground := Ground.phase }, { on := 4, ground := Ground.phase }, { on := 5, ground := Ground.phase }, { on := 6, ground := Ground.phase }, { on := 7, ground := Ground.phase }, { on := 8, ground := Ground.phase }, { on := 9, ground := Ground.phase }], guard := none }) (v := ?_) rfl (by kernel_rfl) (by kernel_rfl) (by kernel_rfl) (by kernel_rfl) (fun _ _ _ h => h) (Or.inl ⟨by rfl, ?_⟩) (by assumption) ?_
                rotate_left
                · intro w hSw
                  try dsimp only at hSw
                  go_simp
                  try with_reducible rfl
                try simp only [Act.put, List.setIfInBounds_toArray, List.set_cons_zero, List.set_cons_succ]
                refine wpLast_ready (rs := [11]) (by kernel_rfl) (by simp) ?_
                refine EachLast.cons (o := { dst := none, op := Op.store 28 (Operand.tmp 52) (Operand.tmp 51), type := 0, pos := "reachlaw17.go:160", after := #[{ on := 10, ground := Ground.data }, { on := 9, ground := Ground.data }, { on := 5, ground := Ground.chain }, { on := 0, ground := Ground.phase }, { on := 1, ground := Ground.phase }, { on := 2, ground := Ground.phase }, { on := 3, ground := Ground.phase }, { on := 4, ground := Ground.phase }, { on := 5, ground := Ground.phase }, { on := 6, ground := Ground.phase }, { on := 7, ground := Ground.phase }, { on := 8, ground := Ground.phase }, { on := 9, ground := Ground.phase }], guard := none }) rfl (fun K hK => ?_) ?_
                · go_simp
                  refine hK.out _ _ (fun h => absurd rfl h) ?_
                  try simp only [Act.put, List.setIfInBounds_toArray, List.set_cons_zero, List.set_cons_succ]
                  refine wpLast_done (by kernel_rfl) ?_ _
                  go_wp2_with fail
                  go_meet
                  exact ⟨g2, cap2, w2, rfl, hK2.2, hc2, hm2, hO2⟩
                exact EachLast.nil
              exact EachLast.nil
            exact EachLast.nil
          exact EachLast.nil
        exact EachLast.nil
      case rest =>
      obtain ⟨g2, c2, hc2, hm2, T2, hb2, hz2, hB2, hO2⟩ := RegP.out hcut HY2.out.lt
      clear hcut
      have HY3 := Lib.hid (hB2 _ _ HY2.out)
      have HB3 := Lib.hid (HB2.out.trans hb2)
      simp only [List.setIfInBounds_toArray, List.set_cons_zero, List.set_cons_succ] at HY3
      have T0c := hO2 _ _ _ _ _ _ T0b HY0.out.lt
      have T1c := hO2 _ _ _ _ _ _ T1 HY1.out.lt
      generalize wc = X3 at *
      subst hny
      have HN := Lib.hid (fun (cs : Obj) (sl' : Value) (Y : World) (ho : Y.ownsRow (w.heap.size + 3) 30 9 sl' (k + 1) (rC (R.take k) V' ++ yC y ⟨.slice (some ⟨g0, 0, none⟩) y.po.length c0, .slice (some ⟨g1, 0, none⟩) y.en.length c1, .slice (some ⟨g2, 0, none⟩) y.li.length c2⟩)) (hkp : Keeps (X3.alloc cs) sl sl' Y) => HS.out.next (u := ⟨.slice (some ⟨g0, 0, none⟩) y.po.length c0, .slice (some ⟨g1, 0, none⟩) y.en.length c1, .slice (some ⟨g2, 0, none⟩) y.li.length c2⟩) HT.out (by rw [List.length_take]; omega) (bal HB3.out cs) ((own_low T0c (Nat.le_of_lt HY0.out.lt)).alloc cs) ((own_low T1c (Nat.le_of_lt HY1.out.lt)).alloc cs) ((own_low T2 (Nat.le_of_lt HY2.out.lt)).alloc cs) (apart_new T0 T1 (Nat.le_refl _)) (apart_new T0 T2 hz1) (apart_new T1 T2 (Nat.le_refl _)) ⟨⟨g0, c0, rfl, hc0, hm0⟩, ⟨g1, c1, rfl, hc1, hm1⟩, ⟨g2, c2, rfl, hc2, hm2⟩⟩ ho hkp)
      have HO3 := Lib.hid (show X3.ownsRow (w.heap.size + 3) 30 9 sl k (rC (R.take k) V') from by
        have h := (HS.out.or_.below HB3.out (Nat.le_refl _)).own
        rw [List.length_take, Nat.min_eq_left hk] at h
        exact h)
      have HB3b := Lib.hid (HS.out.b3.below HB3.out HS.out.b3.lt)
      have hz9 : w.heap.size + 3 ≤ X3.heap.size := by have h1 := HS.out.b3.lt; have h2 := HB3.out.size; omega
      obtain ⟨a9, c9, hsl⟩ := own_len HO3.out
      subst hsl
      have HYC := Lib.hid (show ∀ u ∈ [Value.int .i64 y.kd, .bool y.fd, .string y.sp, .string y.wi, .slice (some ⟨g0, 0, none⟩) y.po.length c0, .slice (some ⟨g1, 0, none⟩) y.en.length c1, .string y.fi, .slice (some ⟨g2, 0, none⟩) y.li.length c2, .bool y.mo], u.oneCell' = true from by simp [Value.oneCell'])
      have hk4 : k ≤ 429496729 := by omega
      have k3 := HB3b.out.cell 4
      have ky := HY3.out.cell
      clear T0 T1 T2 T0b T0c T1c hb0 hb1 hb2 hz0 hz1 hz2 hB0 hB1 hB2 hO0 hO1 hO2 hc0 hc1 hc2 hm0 hm1 hm2
      go_wp2_with (at_builtin; refine app_reply (.int .i64 y.kd) (.bool y.fd) (.string y.sp) (.string y.wi) (.slice (some ⟨g0, 0, none⟩) y.po.length c0) (.slice (some ⟨g1, 0, none⟩) y.en.length c1) (.string y.fi) (.slice (some ⟨g2, 0, none⟩) y.li.length c2) (.bool y.mo) HYC.out HO3.out rfl rfl rfl rfl hk4 hz9 ?_; intro v4 Y ho4 hkp4; have hNX := HN.out _ v4 Y ho4 hkp4; obtain ⟨⟨av4, cv4, hv4⟩, k5, k6⟩ := HS.out.after (bal HB3.out _) hkp4 ho4; subst hv4)
      go_roundw
      case rel => exact ⟨k + 1, _, _, by omega, by go_num, hNX⟩
      case measure => simp [intOf]; omega
    · obtain rfl : k = R.length := by omega
      have HO3 := Lib.hid HS.out.or_.own
      obtain ⟨a9, c9, hsl⟩ := own_len HO3.out
      subst hsl
      have HLS := Lib.hid HS.out.last
      rw [List.take_length] at HLS
      have k3 := HS.out.b3.cell
      have k2 := HS.out.b2.cell
      have f2 := HS.out.b2.frozen
      go_wp2_with fail
      have HF := Lib.hid (HLS.out _ rfl)
      generalize World.setCell _ _ _ = W at *
      obtain ⟨hbw, hor, hbel⟩ := HF.out
      have kw := hbw.cell
      clear k3 k2 f2 HLS c4
      exact bodyPost_ret (v := .agg #[.int .i64 kd, .int .i64 co, .int .i64 te, .int .i64 li, .slice a9 R.length c9]) (by simp [results, Tryd.results4, go_sem, kw]) rfl ⟨_, V', rfl, hor, hbel⟩
end Go.Proofs.YtmcijdpbjhcimaaDoor.Rn
