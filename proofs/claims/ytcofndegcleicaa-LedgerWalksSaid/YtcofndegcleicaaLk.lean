/- LedgerWalks. -/
import Derived.Test.YtcofndegcleicaaLr
namespace Go.Proofs.Ytcofndegcleicaa.Lg
open Go.RowKit Mm Go.Shelf
attribute [local go_sem] Oper.semAt_some
set_option maxRecDepth 100000 in
set_option maxHeartbeats 4000000 in
theorem walks_walk (v : Value) (l : List UInt8) (stop : Int) (hstop : (Lit.int .i64 stop).wf = true) (w : World) (hS : Sees w v (bytesV l)) :
    Calls Try.prog 8 #[v, .int .i64 stop] w fun e w' => e = .returned (.bool true) ∧ Below w.heap.size w w' := by
  have HS := Lib.hid hS
  obtain ⟨a0, cap0, rfl, hN, hcap, hcm, hx⟩ := hS
  have hbl := bytesV_len l
  rw [hbl] at HS hcap ⊢
  unfold maxLen at hcm
  clear hx hN hbl
  refine (callsIn_wide (n := 8)).1 ?_
  refine callsIn_of_wp_marks Try.func8 rfl trivial ?_ rfl
  simp only [Try.ntmps8, List.size_toArray, List.length_cons, List.length_nil, Nat.reduceAdd, Nat.reduceSub, Array.replicate_succ, Array.replicate_zero, List.push_toArray, List.append_toArray, List.nil_append, List.cons_append]
  by_cases hl : 200000 < l.length
  · gi_wp2
    refine ⟨.bool true, by simp [results, Try.f8, go_sem], rfl, bal (bal (Below.refl _ w) _) _⟩
  · have hl' : l.length ≤ 200000 := by omega
    clear hl
    have hfn := fn_nil 32
    have hst : -9223372036854775808 ≤ stop ∧ stop ≤ 9223372036854775807 := by have h := hstop; simp [Lit.wf, IntKind.min, IntKind.max, IntKind.bits, IntKind.signed] at h; omega
    have HRW := Lib.hid (fun w' (h : Below w.heap.size w w') => rwhole_any l (by omega) _ w' (HS.out.below h))
    gi_wp2_with (first | (refine ⟨trivial, ?_⟩; gi_at_call 19; refine (callsIn_wide.2 (fixed_yes _)).mono ?_; rintro e w1 ⟨rfl, hb1⟩; have g1 := bnx (bal (bal (Below.refl _ w) (.cells #[.int .i64 stop] 3)) (.cells #[.bool false] 4)) hb1) | (refine ⟨trivial, ?_⟩; gi_at_call 22; refine (callsIn_wide.2 (HRW.out _ g1)).mono ?_; rintro e w2 ⟨u, rfl, ho, hb2⟩; have HO := Lib.hid ho; have HB1 := Lib.hid hb1; have HB2 := Lib.hid hb2; obtain ⟨au, cu, rfl⟩ := own_len ho; clear ho hb1 hb2 g1) | (refine ⟨trivial, ?_⟩; gi_at_call 23; refine (callsIn_wide.2 (walk_fn _ _ _ _)).mono ?_; rintro e w' ⟨rfl, rfl⟩))
    have hE0 : Env w w.heap.size (w.heap.size + 1) w2.heap.size (w2.heap.size + 1) (.int .i64 stop) (.slice au (whl l).length cu) (.slice a0 l.length cap0) w1.heap.size ((whl l).map keyA) (((w2.alloc (.cells #[.slice au (whl l).length cu] 43)).alloc (.cells #[.slice a0 l.length cap0] 22)).alloc (.cells #[.int .i64 0] 3)) := by
      have s1 := Blk.new w 3 #[.int .i64 stop]
      have s2 := s1.alloc (.cells #[.bool false] 4)
      have r1 := Blk.new (w.alloc (.cells #[.int .i64 stop] 3)) 4 #[.bool false]
      rw [World.size_alloc] at r1
      have b12 := HB1.out.trans (HB2.out.mono HB1.out.size)
      have s3 := s2.below b12 s2.lt
      have r3 := r1.below b12 r1.lt
      have d1 := Blk.new (w2.alloc (.cells #[.slice au (whl l).length cu] 43)) 22 #[.slice a0 l.length cap0]
      rw [World.size_alloc] at d1
      have w3 := Blk.new w2 43 #[.slice au (whl l).length cu]
      exact ⟨((s3.alloc _).alloc _).alloc _, ((r3.alloc _).alloc _).alloc _, (w3.alloc _).alloc _, d1.alloc _, own_below (own_below (own_below (show w2.ownsRow w1.heap.size 27 3 (.slice au (whl l).length cu) ((whl l).map keyA).length _ from by rw [List.length_map]; exact HO.out) ((Below.refl _ _).alloc (Nat.le_refl _) _) (Nat.le_refl _)) ((Below.refl _ _).alloc (Nat.le_refl _) _) (Nat.le_refl _)) ((Below.refl _ _).alloc (Nat.le_refl _) _) (Nat.le_refl _), bal (bal (bal ((bal (bal (Below.refl _ _) _) _).trans (b12.mono (by simp; omega))) _) _) _⟩
    have hO0 : Blk (((w2.alloc (.cells #[.slice au (whl l).length cu] 43)).alloc (.cells #[.slice a0 l.length cap0] 22)).alloc (.cells #[.int .i64 0] 3)) (w2.heap.size + 1 + 1) 3 #[.int .i64 0] := by
      have := Blk.new ((w2.alloc (.cells #[.slice au (whl l).length cu] 43)).alloc (.cells #[.slice a0 l.length cap0] 22)) 3 #[.int .i64 0]
      simpa using this
    have hz : w.heap.size + 2 ≤ w2.heap.size := by have h1 := HB1.out.size; have h2 := HB2.out.size; simp at h1; omega
    have hX0 : (((w2.alloc (.cells #[.slice au (whl l).length cu] 43)).alloc (.cells #[.slice a0 l.length cap0] 22)).alloc (.cells #[.int .i64 0] 3)).heap.size = w2.heap.size + 3 := by simp
    generalize (((w2.alloc (.cells #[.slice au (whl l).length cu] 43)).alloc (.cells #[.slice a0 l.length cap0] 22)).alloc (.cells #[.int .i64 0] 3)) = X0 at *
    have cO := hO0.cell 0
    simp only [List.getElem?_toArray, List.getElem?_cons_zero] at cO
    have HE0 := Lib.hid hE0
    have HO0 := Lib.hid hO0
    have HX0 := Lib.hid hX0
    clear hE0 hO0 hX0 HRW HB1 HB2 HO
    refine wpIn_loop_rounds 3 ?_
    rw [roundsIn_succ]
    gi_wp2
    refine walks_range _ _ _ _ _ _ _ _ _ _ _ _ _ _ _ _ _ _ _ _ _ _ _ _ _ _ _ _ _ _ _ _ _ _ _ _ _ _ _ _ _ _ _ _ _ _ _ _ _ _ _ _ _ _ _ _ _ _ _ _ _ _ _ _ _ _ _ _ _ _ _ _ _ _ _ _ _ _ _ _ _ _ _ _ _ _ _ _ _ _ _ l (by omega) _ w HS.out _ w1.heap.size _ _ _ _ (w2.heap.size + 1 + 1) _ _ stop 0 (.slice au (whl l).length cu) [] [] _ _ (fun a' w' h => ⟨h, h⟩) hst (.inl rfl) ?_ (fun D hD => by cases hD) ?_ ?_
    case refine_1 => have := HX0.out; omega
    case refine_2 => exact ⟨(HE0.out.alloc _).alloc _, (HO0.out.alloc _).alloc _, (Blk.new X0 _ _).alloc _, by have := Blk.new (X0.alloc (.cells #[.int .i64 0] 3)) 3 #[.int .i64 0]; rw [World.size_alloc] at this; exact this, fun D hD => by cases hD⟩
    rintro D0 X1 k p hD0 hK0 hi1 he1
    have cW1 := hi1.1.2.2.1.cell 0
    have cS1 := hi1.1.1.cell 0
    have cO1 := hi1.2.1.cell 0
    have cK1 := hi1.2.2.1.cell 0
    simp only [List.getElem?_toArray, List.getElem?_cons_zero] at cW1 cS1 cO1 cK1
    have HI1 := Lib.hid hi1
    have HK0 := Lib.hid hK0
    have HX1 := Lib.hid (show X0.heap.size + 2 ≤ D0 from by simpa using hD0)
    clear hi1 hK0 hD0 cO
    have ht : ((k : Int) != ((whl l).length : Int)) = false ∨ (((k : Int) != ((whl l).length : Int)) = true ∧ ((k : Int) != stop) = false) ∨ (((k : Int) != ((whl l).length : Int)) = true ∧ ((k : Int) != stop) = true ∧ stop ≤ 0 ∧ ((k : Int) != 1) = false) := by
      simp only [bne_eq_false_iff_eq, bne_iff_ne]
      rcases he1 with h | ⟨_, h, h2⟩
      · omega
      · omega
    clear he1
    rcases ht with h1 | ⟨h1, h2⟩ | ⟨h1, h2, h3, h4⟩
    all_goals
      gi_wp2
      have hE2 := (HI1.out.1.alloc (.cells #[.int .i64 1] 3))
      have hO2 := Blk.new X1 3 #[.int .i64 1]
      have hM2 : Marks [D0] (X1.alloc (.cells #[.int .i64 1] 3)) := fun D hD => by
        have e : D = D0 := by simpa using hD
        subst e
        exact (Below.heap_alloc _ _ _ (Array.getElem?_eq_some_iff.1 HK0.out).1).trans HK0.out
      have hz2 : X0.heap.size + 2 ≤ X1.heap.size := by have := HX1.out; have := (Array.getElem?_eq_some_iff.1 HK0.out).1; omega
      have hX2 : (X1.alloc (.cells #[.int .i64 1] 3)).heap.size = X1.heap.size + 1 := by simp
      generalize (X1.alloc (.cells #[.int .i64 1] 3)) = X2 at *
      have cO2 := hO2.cell 0
      simp only [List.getElem?_toArray, List.getElem?_cons_zero] at cO2
      have HE2 := Lib.hid hE2
      have HO2 := Lib.hid hO2
      have HM2 := Lib.hid hM2
      have HX2 := Lib.hid hX2
      clear hE2 hO2 hM2 hX2 cW1 cS1 cO1 cK1 HI1
      rw [roundsIn_succ]
      gi_wp2
      refine walks_range _ _ _ _ _ _ _ _ _ _ _ _ _ _ _ _ _ _ _ _ _ _ _ _ _ _ _ _ _ _ _ _ _ _ _ _ _ _ _ _ _ _ _ _ _ _ _ _ _ _ _ _ _ _ _ _ _ _ _ _ _ _ _ _ _ _ _ _ _ _ _ _ _ _ _ _ _ _ _ _ _ _ _ _ _ _ _ _ _ _ _ l (by omega) _ w HS.out _ w1.heap.size _ _ _ _ X1.heap.size _ _ stop 1 (.slice au (whl l).length cu) [D0] _ _ _ (fun a' w' h => ⟨h, h⟩) hst (.inr rfl) ?_ ?_ ?_ ?_
      case refine_1 => have := HX0.out; have := HX2.out; omega
      case refine_2 => intro D hD; have := (Array.getElem?_eq_some_iff.1 (HM2.out D hD)).1; simp; omega
      case refine_3 => exact ⟨(HE2.out.alloc _).alloc _, (HO2.out.alloc _).alloc _, (Blk.new X2 _ _).alloc _, by have := Blk.new (X2.alloc (.cells #[.int .i64 0] 3)) 3 #[.int .i64 0]; rw [World.size_alloc] at this; exact this, fun D hD => (marks_below (marks_below HM2.out ((Below.refl _ _).alloc (Nat.le_refl _) _)) ((Below.refl _ _).alloc (Nat.le_refl _) _)) D hD⟩
      rintro D1 X3 k2 p2 hD1 hK1 hi3 he3
      have cW3 := hi3.1.2.2.1.cell 0
      have cR3 := hi3.1.2.1.cell 0
      have fR3 := hi3.1.2.1.frozen 0
      have cO3 := hi3.2.1.cell 0
      have cK3 := hi3.2.2.1.cell 0
      simp only [List.getElem?_toArray, List.getElem?_cons_zero] at cW3 cR3 cO3 cK3
      have h5 : ((k2 : Int) != ((whl l).length : Int)) = false := by
        simp only [bne_eq_false_iff_eq]
        rcases he3 with h | ⟨h, _⟩
        · omega
        · cases h
      have HI3 := Lib.hid hi3
      have HK3 := Lib.hid hK1
      have HD1 := Lib.hid hD1
      clear hi3 hK1 hD1 he3 cO2
      gi_wp2
      have hr4 := HI3.out.1.2.1.alloc (.cells #[.int .i64 2] 3)
      have cO4 := (Blk.new X3 3 #[.int .i64 2]).cell 0
      have cR4 := hr4.cell 0
      have fR4 := hr4.frozen 0
      have hb4 := bal HI3.out.1.2.2.2.2.2 (.cells #[.int .i64 2] 3)
      have hm0 : (X3.alloc (.cells #[.int .i64 2] 3)).heap[D0]? = some (.deferred (some [])) := by
        have h := HI3.out.2.2.2.2 D0 (by simp)
        exact (Below.heap_alloc _ _ _ (Array.getElem?_eq_some_iff.1 h).1).trans h
      have hm1 : (X3.alloc (.cells #[.int .i64 2] 3)).heap[D1]? = some (.deferred (some [])) :=
        (Below.heap_alloc _ _ _ (Array.getElem?_eq_some_iff.1 HK3.out).1).trans HK3.out
      simp only [List.getElem?_toArray, List.getElem?_cons_zero] at cO4 cR4
      generalize (X3.alloc (.cells #[.int .i64 2] 3)) = X4 at *
      have HR4 := Lib.hid hr4
      have HB4 := Lib.hid hb4
      have HM0 := Lib.hid hm0
      have HM1 := Lib.hid hm1
      clear hr4 hb4 hm0 hm1 HI3 cR3 fR3 cO3 cK3 cW3
      rw [roundsIn_succ]
      gi_wp2
      have hD01 : D0 ≠ D1 := by
        have a1 := HD1.out
        have a2 := HX2.out
        have a3 := (Array.getElem?_eq_some_iff.1 HK0.out).1
        simp at a1
        omega
      have nb0 : D0 ≠ w.heap.size + 1 := fun e => by have h := HM0.out; rw [e, show X4.heap[w.heap.size + 1]? = _ from HR4.out] at h; cases h
      have nb1 : D1 ≠ w.heap.size + 1 := fun e => by have h := HM1.out; rw [e, show X4.heap[w.heap.size + 1]? = _ from HR4.out] at h; cases h
      have y1 : (X4.setCell ⟨w.heap.size + 1, 0, none⟩ (.bool true)).heap[D1]? = some (.deferred (some [])) := (Below.heap_setCell _ _ _ _ (by simpa using nb1)).trans HM1.out
      have y0 : (X4.setCell ⟨w.heap.size + 1, 0, none⟩ (.bool true)).heap[D0]? = some (.deferred (some [])) := (Below.heap_setCell _ _ _ _ (by simpa using nb0)).trans HM0.out
      have yr : Blk (X4.setCell ⟨w.heap.size + 1, 0, none⟩ (.bool true)) (w.heap.size + 1) 4 #[.bool true] := by have := HR4.out.set_ 0 (.bool true); exact this
      have yb : Below w.heap.size w (X4.setCell ⟨w.heap.size + 1, 0, none⟩ (.bool true)) := HB4.out.setCell (by simp) _
      generalize (X4.setCell ⟨w.heap.size + 1, 0, none⟩ (.bool true)) = Y at *
      have y2 : (Y.putObj D1 (.deferred none)).heap[D0]? = some (.deferred (some [])) := (World.putObj_heap_other hD01).trans y0
      have yr2 : Blk ((Y.putObj D1 (.deferred none)).putObj D0 (.deferred none)) (w.heap.size + 1) 4 #[.bool true] := (World.putObj_heap_other (Ne.symm nb0)).trans ((World.putObj_heap_other (Ne.symm nb1)).trans yr)
      have cr2 := yr2.cell 0
      simp only [List.getElem?_toArray, List.getElem?_cons_zero] at cr2
      refine ⟨by simp, .inl ⟨_, _, rfl, run_takeDeferred y1, by simp, .inl ⟨_, _, rfl, run_takeDeferred y2, ?_⟩⟩⟩
      have b1 : Below w.heap.size w (Y.putObj D1 (.deferred none)) := yb.trans (belowK_b (w := w) (Nat.le_refl _) _ D1 _ _ ?_ y1 rfl rfl)
      refine ⟨.bool true, by simp [results, Try.f8, go_sem, cr2], rfl, b1.trans (belowK_b (w := w) (Nat.le_refl _) _ D0 _ _ ?_ y2 rfl rfl)⟩
      · have := HX1.out; have := HX0.out; omega
      · have := HD1.out; have := HX2.out; have := HX0.out; simp at *; omega
end Go.Proofs.Ytcofndegcleicaa.Lg
