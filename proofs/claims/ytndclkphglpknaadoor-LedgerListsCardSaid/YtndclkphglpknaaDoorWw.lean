/- Whole: what it answers. -/
import Derived.Test.YtndclkphglpknaaDoorWk
namespace Go.Proofs.YtndclkphglpknaaDoor.Lg
open Go.RowKit Mm Go.Shelf
attribute [local go_sem] Oper.semAt_some
theorem info_rec : (Tryd.prog.info? 40).map (fun i => (i.zero, i.size, i.bytes)) = some (some (.agg #[.int .i64 0, .int .i64 0, .string ⟨#[]⟩]), 3, 32) := by kernel_rfl
theorem whl_len (l : List UInt8) : (whl l).length ≤ l.length := by have := recs_len l l.length 0 1 (by omega) (by omega); unfold whl; omega
theorem raC_one (x : RA) : ∀ u ∈ raC x, u.oneCell' = true := by simp [raC, Value.oneCell']
abbrev AxW (tmps : Nat → RA → Array Value) (b0 B : Nat) (x : RA) (a' : Act) (W : World) : Prop := ∃ Bx u, B < Bx ∧ Blk W Bx 40 #[.int .i64 x.sq, .int .i64 x.kd, .string (str x.tx)] ∧ Boxed W b0 24 u ∧ some Bx ≠ u.ownBlock ∧ a' = { tmps := tmps Bx x, defers := [] }
theorem boxed_uniq {W : World} {B : Nat} {t : TypeId} {u v : Value} (h : Boxed W B t u) (k : Boxed W B t v) : u = v := by
  have h1 := h.cell
  rw [k.cell] at h1
  exact (Option.some.inj h1).symm
theorem ne_new {W : World} {B : Nat} {e : TypeId} {s n : Nat} {v : Value} {xs : List Value} (h : W.ownsRow B e s v n xs) : some W.heap.size ≠ v.ownBlock := fun e => (row_ne h) e.symm
theorem blk_own {β : Type} {g : Nat} {t : TypeId} {cs : Array Value} : Own (fun (_ : β) W => Blk W g t cs) := fun s X Y row hs hg hrow =>
  (hg.block g hs.lt (fun e' => by obtain ⟨o, ho, hc⟩ := hrow g e'.symm; rw [show X.heap[g]? = _ from hs] at ho; cases ho; cases hc)).trans hs
theorem ax_own {tmps : Nat → RA → Array Value} {b0 B B' : Nat} (x : RA) (a' : Act) : OwnFrom B' (fun (_ : Unit) W => AxW tmps b0 B x a' W) := Own.from (fun s X Y row hs hg hrow => by
  obtain ⟨Bx, u, h1, h2, h3, h4, h5⟩ := hs
  exact ⟨Bx, u, h1, blk_own s X Y row h2 hg hrow, boxed_own b0 24 (fun _ => u) s X Y row h3 hg hrow, h4, h5⟩) _
set_option maxRecDepth 100000 in
set_option maxHeartbeats 4000000 in
theorem whole_any (l : List UInt8) (hl : l.length ≤ 1000000) (v : Value) (w : World) (hS : Sees w v (bytesV l)) :
    Calls Tryd.prog 7 #[v] w fun e w' => ∃ u, e = .returned (.tuple #[u, .int .i64 (whE l), .int .i64 (codeOf l (whE l))]) ∧ w'.ownsRow w.heap.size 40 3 u (whl l).length (rasC (whl l)) ∧ Below w.heap.size w w' := by
  have HS := Lib.hid hS
  obtain ⟨a0, cap0, rfl, hN, hcap, hcm, hx⟩ := hS
  have hbl := bytesV_len l
  rw [hbl] at HS hcap ⊢
  unfold maxLen at hcm
  clear hx hN hbl
  refine (callsIn_wide (n := 6)).1 ?_
  refine callsIn_of_wp_marks Tryd.func7 rfl trivial ?_ rfl
  simp only [Tryd.ntmps7, List.size_toArray, List.length_cons, List.length_nil, Nat.reduceAdd, Nat.reduceSub, Array.replicate_succ, Array.replicate_zero, List.push_toArray, List.append_toArray, List.nil_append, List.cons_append]
  gi_wp2_with (refine ⟨trivial, ?_⟩; gi_at_call 15; refine (callsIn_wide.2 (walk_fn _ _ _ _)).mono ?_; rintro e w' ⟨rfl, rfl⟩)
  have hsv : Sees w (.slice a0 l.length cap0) (bytesV l) := HS.out
  generalize hv0 : Value.slice a0 l.length cap0 = v0 at *
  have b0 := Boxed.new w 24 (.slice none 0 0)
  have b1 := Boxed.new (w.alloc (.cells #[.slice none 0 0] 24)) 3 (.int .i64 0)
  have b2 := Boxed.new ((w.alloc (.cells #[.slice none 0 0] 24)).alloc (.cells #[.int .i64 0] 3)) 22 v0
  simp only [World.size_alloc] at b1 b2
  have hB0 : Below w.heap.size w (((w.alloc (.cells #[.slice none 0 0] 24)).alloc (.cells #[.int .i64 0] 3)).alloc (.cells #[v0] 22)) := bal (bal (bal (Below.refl _ _) _) _) _
  replace b0 := (b0.alloc (.cells #[.int .i64 0] 3)).alloc (.cells #[v0] 22)
  replace b1 := b1.alloc (.cells #[v0] 22)
  have hWs : (((w.alloc (.cells #[.slice none 0 0] 24)).alloc (.cells #[.int .i64 0] 3)).alloc (.cells #[v0] 22)).heap.size = w.heap.size + 1 + 1 + 1 := by simp
  obtain ⟨W0, hW0⟩ : ∃ W0, ((w.alloc (.cells #[.slice none 0 0] 24)).alloc (.cells #[.int .i64 0] 3)).alloc (.cells #[v0] 22) = W0 := ⟨_, rfl⟩
  rw [hW0] at b0 b1 b2 hB0 hWs ⊢
  clear hW0
  refine wpIn_rangeFunc_ownH rfl (by omega) (gf := 25) (lb := #[.pointer (some ⟨w.heap.size + 1 + 1, 0, none⟩)]) rfl trivial (enters_of Tryd.func25 (by kernel_rfl) rfl)
    (walk_stops l hl v0 w hsv (w.heap.size + 1 + 1) _ (by omega) W0 hB0 b2) (fun h k => KpW.t h k) (KpW.b (w := W0) (by omega) (by omega)) (Below.refl _ _) (fun _ => rfl)
    (fun pre W => ((∃ u, Boxed W w.heap.size 24 u ∧ W.ownsRow w.heap.size 40 3 u pre.length (rasC pre) ∧ True) ∧ Boxed W (w.heap.size + 1) 3 (.int .i64 (endOf 0 pre)) ∧ Blk W (w.heap.size + 1 + 1) 22 #[v0]) ∧ Below w.heap.size w W)
    (fun _ _ _ => False)
    (OwnFrom.and (Own.from (fun s X Y row hs hg hr => ⟨holdsRow_own (β := List RA) w.heap.size w.heap.size 24 40 3 (fun pre => pre.length) rasC (fun _ _ => True) s X Y row hs.1 hg hr, boxed_own (w.heap.size + 1) 3 (fun pre => .int .i64 (endOf 0 pre)) s X Y row hs.2.1 hg hr, blk_own (β := List RA) s X Y row hs.2.2 hg hr⟩) _) (ownFrom_below (Nat.le_refl _) (by omega)))
    (fun _ _ _ _ _ hs _ _ => hs)
    ⟨⟨⟨_, b0, World.ownsRow_nil _ _ _ _, trivial⟩, b1, b2⟩, hB0⟩
    (AxW (fun Bx x => #[v0, undef, .slice none 0 0, .int .i64 0, .int .i64 0, .pointer (some ⟨w.heap.size, 0, none⟩), .pointer (some ⟨w.heap.size + 1, 0, none⟩), .int .i64 x.pl, .pointer (some ⟨Bx, 0, none⟩), undef, undef, undef, v0, .func (.func 25) #[] #[.pointer (some ⟨w.heap.size + 1 + 1, 0, none⟩)], .int .i64 x.pl, .agg #[.int .i64 x.sq, .int .i64 x.kd, .string (str x.tx)], undef, undef, undef, undef, undef, undef, undef, undef, undef, undef, undef, undef, undef, undef, undef, undef, undef, undef, undef, undef, undef, undef, undef, undef, undef, undef, undef, undef]) w.heap.size (w.heap.size + 1 + 1)) (fun x a' => ax_own x a') ?assign ?body ?done ?stop
  case assign =>
    rintro lp pre x W K ⟨⟨⟨u, hu, hr, _⟩, he, hb⟩, hbel⟩ hK
    gi_wp2
    exact hK _ _ ((KeepsOthers.alloc _ _).from _) ⟨(Below.refl _ _).alloc hbel.size _, Below.heap_alloc _ _ _ hb.lt⟩ ⟨⟨⟨u, hu.alloc _, hr.alloc _, trivial⟩, he.alloc _, hb.alloc _⟩, bal hbel _⟩ ⟨W.heap.size, u, by have := hb.lt; omega, Blk.new W _ _, hu.alloc _, ne_new hr, rfl⟩
  case body =>
    rintro lp pre x a' W _ _ ⟨⟨⟨u, hu, hr, _⟩, he, hb⟩, hbel⟩ ⟨Bx, u0, hBx, hX, hu0, hne, rfl⟩ hlen
    obtain rfl := boxed_uniq hu0 hu
    obtain ⟨i0, hi, hz0, hz1, hz2⟩ := info_parts info_rec
    have hNL := whl_len l
    have cu := hu.cell
    have cx := hX.cell
    clear hu0
    have hhp := x.hp
    have hht := x.ht
    have hsl : (str x.tx).size = x.tx.length := str_size _
    have HU := Lib.hid hu
    have HE := Lib.hid he
    have HB := Lib.hid hb
    have HR := Lib.hid hr
    have HBL := Lib.hid hbel
    have HXX := Lib.hid hX
    clear hu he hb hr hbel hX
    gi_wp2_with (gi_at_builtin; refine wpListIn_append_own _ rfl _ _ 24 rfl w.heap.size 40 i0 _ 3 32 Tryd.underlying24 hi hz0 hz1 hz2 rfl (by decide) _ _ _ rfl (HR.out.alloc _) ⟨W.heap.size, 0, none⟩ 1 1 (raC x) rfl rfl (cells_new _ #[.int .i64 x.sq, .int .i64 x.kd, .string (str x.tx)] _) (raC_one x) (by unfold maxLen; omega) (by omega) (by have := HBL.out.size; simp; omega) ?_; intro v' w1 hown' hgrow _; obtain ⟨g', cap', rfl⟩ := ownsRow_succ hown'; obtain ⟨hv1, hv2, hr2, hk2, hb2⟩ := HU.out.appended (by decide) HR.out HBL.out.size (Nat.le_refl _) hown' hgrow; have hg2 : World.grownBy _ w1 u0.ownBlock := hgrow; have hX1 := (HXX.out.alloc _).grown hg2 hne; have cx1 := hX1.cell; have hE1 := (HE.out.alloc _).kept hg2 (HE.out.not_row (by decide) HR.out); have hB1 := (HB.out.alloc _).grown hg2 (blk_apart HB.out HR.out (by decide)); have hc1 := hv1.cell; have hf1 := hv1.frozen; have ce1 := hE1.cell; have fe1 := hE1.frozen; clear hgrow)
    have hE2 := hE1.other (B' := w.heap.size) (by omega) (.slice (some ⟨g', 0, none⟩) (pre.length + 1) cap')
    have hE3 := hE2.set (.int .i64 ((x.pl : Int) + (x.tx.length : Int) + 20))
    have hr3 := hr2.kept (grownBy_setCell' _ (w.heap.size + 1) (.int .i64 ((x.pl : Int) + (x.tx.length : Int) + 20))) (.inr (hE2.not_row (by decide) hr2).symm)
    have hB3 := (hB1.far (p := ⟨w.heap.size, 0, none⟩) (by simp; omega) (.slice (some ⟨g', 0, none⟩) (pre.length + 1) cap')).far (p := ⟨w.heap.size + 1, 0, none⟩) (by simp) (.int .i64 ((x.pl : Int) + (x.tx.length : Int) + 20))
    have hb3 := hb2.setCell (p := ⟨w.heap.size + 1, 0, none⟩) (by simp) (.int .i64 ((x.pl : Int) + (x.tx.length : Int) + 20))
    have hv3 := hv2.other (B' := w.heap.size + 1) (by omega) (.int .i64 ((x.pl : Int) + (x.tx.length : Int) + 20))
    have hval : (Value.int .i64 ((x.pl : Int) + (x.tx.length : Int) + 20)) = .int .i64 ((endOf 0 (pre ++ [x]) : Nat) : Int) := by rw [endOf_snoc]; simp
    rw [hval] at hE3 hr3 hB3 hb3 hv3 ⊢
    rw [← rasC_snoc] at hr3
    exact ⟨(hk2.trans (KeepsOthers.setCell _ _ _)).from _, ⟨hb3, hB3.trans HB.out.symm⟩, ⟨⟨⟨_, hv3, by rw [List.length_append]; exact hr3, trivial⟩, hE3, hB3⟩, HBL.out.trans hb3⟩⟩
  case done =>
    rintro D ys W hD rfl ⟨⟨⟨u, hu, hr, _⟩, he, hb⟩, hbel⟩ hK
    subst hv0
    have cu := hu.cell
    have he' : Boxed W (w.heap.size + 1) 3 (.int .i64 (whE l)) := he
    have ce := he'.cell
    have HEB := Lib.hid he'
    have hle : whE l ≤ l.length := (recs_end l l.length 0 1 (by omega) (by omega)).2
    have HNO := Lib.hid (show ¬ nextOk l (whE l) (1 + (whl l).length) from (recs_end l l.length 0 1 (by omega) (by omega)).1)
    have HB := Lib.hid hb
    have HR := Lib.hid hr
    have HBL := Lib.hid hbel
    have HK := Lib.hid hK
    clear he hb hr hbel he'
    by_cases hN : whE l = l.length
    · have HC := Lib.hid (show codeOf l (whE l) = 0 from by unfold codeOf; rw [if_pos hN])
      have hn : ((whE l : Int) == (l.length : Int)) = true := by rw [hN]; simp
      clear hN
      gi_wp2
      gi_quiet (fail)
      gi_wp2
      have hK2 : (W.drewN nq).heap[D]? = some (.deferred (some [])) := HK.out
      refine ⟨by simp, .inl ⟨_, _, rfl, run_takeDeferred hK2, ?_⟩⟩
      refine ⟨.tuple #[u, .int .i64 (whE l), .int .i64 0], by simp [results, Tryd.f7, go_sem], u, by rw [HC.out], ownsRow_putObj (own_drewN HR.out nq) _ hK2 rfl, ?_⟩
      exact (below_drewN HBL.out nq).trans (belowK_b (w := w) (Nat.le_refl _) _ D _ _ (by omega) hK2 rfl rfl)
    · have hn : ((whE l : Int) == (l.length : Int)) = false := by rw [beq_eq_false_iff_ne]; omega
      have HRD := Lib.hid (read_any l (.slice a0 l.length cap0) (whE l) W (HS.out.below HBL.out))
      by_cases h0 : rdE (l.drop (whE l)) = 0
      · have HC := Lib.hid (show codeOf l (whE l) = 192 from by unfold codeOf; rw [if_neg hN, if_pos h0])
        have hv := readV_ok (l := l) (k := whE l) hle h0
        have HRD2 := Lib.hid (by have := HRD.out; rw [hv] at this; exact this)
        clear hN h0 hv HRD
        gi_wp2_with (refine ⟨trivial, ?_⟩; gi_at_call 12; refine (callsIn_wide.2 HRD2.out).mono ?_; rintro e w1 ⟨rfl, hb1⟩)
        generalize hW2 : World.alloc w1 _ = W2
        have hb2 : Below W.heap.size W W2 := by rw [← hW2]; exact bal hb1 _
        clear hW2 hb1 HRD2
        have cu2 := (show Boxed W2 w.heap.size 24 u from (hb2.block _ hu.lt).trans hu).cell
        have ce2 := (show Boxed W2 (w.heap.size + 1) 3 (.int .i64 (whE l)) from (hb2.block _ HEB.out.lt).trans HEB.out).cell
        gi_quiet (fail)
        gi_wp2
        have hK2 : (W2.drewN nq).heap[D]? = some (.deferred (some [])) := (hb2.block D (Array.getElem?_eq_some_iff.1 HK.out).1).trans HK.out
        refine ⟨by simp, .inl ⟨_, _, rfl, run_takeDeferred hK2, ?_⟩⟩
        refine ⟨.tuple #[u, .int .i64 (whE l), .int .i64 192], by simp [results, Tryd.f7, go_sem], u, by rw [HC.out], ownsRow_putObj (own_drewN (own_below HR.out hb2 (Nat.le_refl _)) nq) _ hK2 rfl, ?_⟩
        exact (below_drewN (HBL.out.trans (hb2.mono HBL.out.size)) nq).trans (belowK_b (w := w) (Nat.le_refl _) _ D _ _ (by omega) hK2 rfl rfl)
      · have HC := Lib.hid (show codeOf l (whE l) = rdE (l.drop (whE l)) from by unfold codeOf; rw [if_neg hN, if_neg h0])
        have hv := readV_err (l := l) (k := whE l) hle rfl h0
        have HRD2 := Lib.hid (by have := HRD.out; rw [hv] at this; exact this)
        have hne : (rdE (l.drop (whE l)) == 0) = false := by rw [beq_eq_false_iff_ne]; exact h0
        clear hN h0 hv HRD
        gi_wp2_with (refine ⟨trivial, ?_⟩; gi_at_call 12; refine (callsIn_wide.2 HRD2.out).mono ?_; rintro e w1 ⟨rfl, hb1⟩)
        generalize hW2 : World.alloc w1 _ = W2
        have hb2 : Below W.heap.size W W2 := by rw [← hW2]; exact bal hb1 _
        clear hW2 hb1 HRD2
        have cu2 := (show Boxed W2 w.heap.size 24 u from (hb2.block _ hu.lt).trans hu).cell
        have ce2 := (show Boxed W2 (w.heap.size + 1) 3 (.int .i64 (whE l)) from (hb2.block _ HEB.out.lt).trans HEB.out).cell
        gi_quiet (fail)
        gi_wp2
        have hK2 : (W2.drewN nq).heap[D]? = some (.deferred (some [])) := (hb2.block D (Array.getElem?_eq_some_iff.1 HK.out).1).trans HK.out
        refine ⟨by simp, .inl ⟨_, _, rfl, run_takeDeferred hK2, ?_⟩⟩
        refine ⟨.tuple #[u, .int .i64 (whE l), .int .i64 (rdE (l.drop (whE l)))], by simp [results, Tryd.f7, go_sem], u, by rw [HC.out], ownsRow_putObj (own_drewN (own_below HR.out hb2 (Nat.le_refl _)) nq) _ hK2 rfl, ?_⟩
        exact (below_drewN (HBL.out.trans (hb2.mono HBL.out.size)) nq).trans (belowK_b (w := w) (Nat.le_refl _) _ D _ _ (by omega) hK2 rfl rfl)
  case stop =>
    rintro D c pre W _ _ h _
    exact h.elim
end Go.Proofs.YtndclkphglpknaaDoor.Lg
