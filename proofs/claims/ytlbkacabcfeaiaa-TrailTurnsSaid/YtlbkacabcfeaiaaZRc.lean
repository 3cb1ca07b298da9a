/- Patterns: the program closes a bracket. -/
import Derived.Test.YtlbkacabcfeaiaaZRw
namespace Go.Proofs.Ytlbkacabcfeaiaa.Tl
open Go.RowKit Mm
set_option linter.unusedVariables false
theorem Rq.cForm {W X : World} {g : Nat} {stk : List (List T × List T)} {ch ps : List T} {out : Value} {R : List Rw} {c p : Rw} {S : Nat → Prop} (h : Rq W g stk ch ps out R c p S X) : ∃ a cap xs, c = ⟨.slice a ch.length cap, ch.length, xs⟩ := by
  obtain ⟨a, cap, hv⟩ := own_len (h.fam.1 _ _ (at_c R c p))
  have hn := h.trc.1
  obtain ⟨cv, cn, cx⟩ := c
  dsimp only at hv hn
  subst hn
  exact ⟨a, cap, cx, by rw [hv]⟩
theorem Rq.pForm {W X : World} {g : Nat} {stk : List (List T × List T)} {ch ps : List T} {out : Value} {R : List Rw} {c p : Rw} {S : Nat → Prop} (h : Rq W g stk ch ps out R c p S X) : ∃ a cap xs, p = ⟨.slice a ps.length cap, ps.length, xs⟩ := by
  obtain ⟨a, cap, hv⟩ := own_len (h.fam.1 _ _ (at_p R c p))
  have hn := h.trp.1
  obtain ⟨cv, cn, cx⟩ := p
  dsimp only at hv hn
  subst hn
  exact ⟨a, cap, cx, by rw [hv]⟩
theorem bdS_parts (st : St) : bdL st.ch + bdL st.ps ≤ bdS st := by unfold bdS; omega
theorem bdS_top {st : St} {k : List (List T × List T)} {o : List T × List T} (h : st.stk = k ++ [o]) : bdL o.1 + bdL o.2 + bdL st.ch + bdL st.ps ≤ bdS st := by
  unfold bdS
  rw [h, List.map_append, sum_app]
  simp only [List.map_cons, List.map_nil, List.sum_cons, List.sum_nil]
  omega
set_option maxRecDepth 100000 in
set_option maxHeartbeats 8000000 in
theorem close_none {W X : World} {g : Nat} {s : ByteArray} {pos it : Nat} {ch ps : List T} {out : Value} {R : List Rw} {c p : Rw} {S : Nat → Prop} (h : Rd W g s ⟨pos, it, [], ch, ps⟩ out R c p S X) :
    Calls Try.prog 26 #[.pointer (some ⟨g, 0, none⟩)] X fun e w' => e = .returned (.bool false) ∧ X = w' := by
  obtain ⟨a, cap, rfl⟩ := own_len h.q.row
  have q3 := Blk.c3 h.blk
  clear h
  dsimp only [List.length_nil] at q3
  go_enter Try.func26, Try.ntmps26
  go_wp2_with fail
  go_ret
  exact ⟨rfl, rfl⟩
set_option maxRecDepth 100000 in
set_option maxHeartbeats 8000000 in
theorem close_any {W X : World} {g : Nat} {s : ByteArray} {pos it : Nat} {k : List (List T × List T)} {o : List T × List T} {ch ps : List T} {out : Value} {R : List Rw} {c p : Rw} {S : Nat → Prop} (h : Rd W g s ⟨pos, it, k ++ [o], ch, ps⟩ out R c p S X) (hk : k.length ≤ 32) (hp : pos ≤ 1000) (hb : bdL o.2 + bdL ch + bdL ps ≤ 80000) :
    Calls Try.prog 26 #[.pointer (some ⟨g, 0, none⟩)] X fun e w' => e = .returned (.bool true) ∧ ∃ out' R' c' p' S', Rd W g s ⟨pos + 1, it, k, o.1, o.2 ++ [whole ch ps]⟩ out' R' c' p' S' w' := by
  obtain ⟨ac, cc, xc, rfl⟩ := h.q.cForm
  obtain ⟨ap, cp, xp, rfl⟩ := h.q.pForm
  obtain ⟨R0, c0, p0, go, cap, rfl, hc1, hc2, hgo, hgg, k0, k1, hq⟩ := h.q.shut
  obtain ⟨ac0, cc0, xc0, rfl⟩ := hq.cForm
  obtain ⟨ap0, cp0, xp0, rfl⟩ := hq.pForm
  dsimp only at k0 k1
  have q1 := Blk.c1 h.blk
  have q3 := Blk.c3 h.blk
  have q4 := Blk.c4 h.blk
  have q5 := Blk.c5 h.blk
  dsimp only at q1 q3 q4 q5
  have HH := Lib.hid h
  have HQ := Lib.hid hq
  have hol := bdL_len o.2
  have HW := Lib.hid (whole_any X S _ _ _ _ ch ps (Fz.of_own (h.q.fam.1 _ _ (at_c R _ _))) h.q.trc.2 (Fz.of_own (h.q.fam.1 _ _ (at_p R _ _))) h.q.trp.2 (by omega) (fun k hk => (h.q.sb k hk).lt))
  dsimp only at HW
  unfold maxLen at hc2
  clear h hq
  go_enter Try.func26, Try.ntmps26
  go_wp2_with fail
  refine HW.out.mono ?_
  rintro e w1 ⟨u, rfl, hu, hb1⟩
  have HQ1 := Lib.hid (HQ.out.more hb1)
  have HB1 := Lib.hid (HH.out.blk.below hb1 HH.out.blk.lt)
  have HU := Lib.hid (made hu)
  have e0 := (hb1.cell (p := ⟨go, k.length * 2, none⟩) hgo).trans k0
  have e1 := (hb1.cell (p := ⟨go, k.length * 2 + 1, none⟩) hgo).trans k1
  have q3 := Blk.c3 HB1.out
  have f3 := HB1.out.frozen 3
  have f4 := HB1.out.frozen 4
  have f5 := HB1.out.frozen 5
  have q4 := Blk.c4 HB1.out
  have q5 := Blk.c5 HB1.out
  dsimp only at q3 q4 q5
  clear k0 k1 q1 HW
  go_upto_region 7 with fail
  have hgr := gtrans (gtrans (only_set w1 g 4 (.slice ac0 o.1.length cc0)) (only_set _ g 5 (.slice ap0 o.2.length cp0))) (only_set _ g 3 (.slice (some ⟨go, 0, none⟩) k.length cap))
  have HZ := Lib.hid (show Rd W g s ⟨pos, it, k, o.1, o.2⟩ (.slice (some ⟨go, 0, none⟩) k.length cap) R0 ⟨.slice ac0 o.1.length cc0, o.1.length, xc0⟩ ⟨.slice ap0 o.2.length cp0, o.2.length, xp0⟩ (Sy S X w1) _ from ⟨((HQ1.out.set 4 (.slice ac0 o.1.length cc0)).set 5 (.slice ap0 o.2.length cp0)).set 3 (.slice (some ⟨go, 0, none⟩) k.length cap), ((HB1.out.set_ 4 (.slice ac0 o.1.length cc0)).set_ 5 (.slice ap0 o.2.length cp0)).set_ 3 (.slice (some ⟨go, 0, none⟩) k.length cap)⟩)
  have HUZ := Lib.hid (HU.out.keep (fun _ h => h) (fun k hk hl => hgr.block k hl (HQ1.out.apart k hk)))
  clear hgr hu HU HQ1 HB1 hb1 q3 q4 q5 f3 f4 f5 e0 e1
  generalize World.setCell _ _ _ = Z at *
  obtain ⟨ty, pay, rfl⟩ := HUZ.out.form
  have z5 := Blk.c5 HZ.out.blk
  have HN := Lib.hid (fun (Y : World) (v' : Value) (ho : Y.ownsRow W.heap.size 57 1 v' (o.2.length + 1) (xp0 ++ [.iface ty pay])) (hk : Keeps (Z.alloc (.cells #[.iface ty pay] 57)) (.slice ap0 o.2.length cp0) v' Y) => (HZ.out.q.beside (bal (Below.refl _ _) (.cells #[.iface ty pay] 57))).pushed (HZ.out.blk.alloc (.cells #[.iface ty pay] 57)) (HUZ.out.low (bal (Below.refl _ _) _)) ho hk)
  have HRW := Lib.hid (HZ.out.q.fam.1 _ _ (at_p R0 _ _))
  have hbs := HZ.out.q.base
  dsimp only at z5 HRW
  clear HQ HH hgo hgg hc1 hc2
  go_wp2_with (at_builtin; refine app_tree Try.underlying50 rfl HRW.out rfl rfl rfl rfl (by omega) hbs ?_; intro v' Y ho hk9; have hF := HN.out Y v' ho hk9; obtain ⟨⟨a9, c9, hv9⟩, hB9, hRd9⟩ := hF; have f5 := hB9.frozen 5; have b5 := Blk.c5 hB9; have b1 := Blk.c1 hB9; have f1 := hB9.frozen 1; subst hv9)
  go_ret
  exact ⟨rfl, _, _, _, _, _, hRd9.pos (pos + 1)⟩
end Go.Proofs.Ytlbkacabcfeaiaa.Tl
