/- LedgerInside. -/
import Derived.Test.YtcofndegcleicaaNs
import Derived.Laws.EntriesVeiled
namespace Go.Proofs.Ytcofndegcleicaa.Lg
open Go.RowKit Mm Go.Shelf
attribute [local go_sem] Oper.semAt_some
set_option maxRecDepth 100000 in
set_option maxHeartbeats 4000000 in
theorem inside_walk (v : Value) (l : List UInt8) (inner : Int) (hinn : (Lit.int .i64 inner).wf = true) (outer : Int) (hout : (Lit.int .i64 outer).wf = true) (w : World) (hS : Sees w v (bytesV l)) :
    Calls Try.prog 9 #[v, .int .i64 inner, .int .i64 outer] w fun e w' => e = .returned (.bool true) ∧ Below w.heap.size w w' := by
  have HS := Lib.hid hS
  obtain ⟨a0, cap0, rfl, hN, hcap, hcm, hx⟩ := hS
  have hbl := bytesV_len l
  rw [hbl] at HS hcap ⊢
  unfold maxLen at hcm
  clear hx hN hbl
  have hi1 : -9223372036854775808 ≤ inner ∧ inner ≤ 9223372036854775807 := by have h := hinn; simp [Lit.wf, IntKind.min, IntKind.max, IntKind.bits, IntKind.signed] at h; omega
  have hi2 : -9223372036854775808 ≤ outer ∧ outer ≤ 9223372036854775807 := by have h := hout; simp [Lit.wf, IntKind.min, IntKind.max, IntKind.bits, IntKind.signed] at h; omega
  refine (callsIn_wide (n := 8)).1 ?_
  refine callsIn_of_wp_marks Try.func9 rfl trivial ?_ rfl
  simp only [Try.ntmps9, List.size_toArray, List.length_cons, List.length_nil, Nat.reduceAdd, Nat.reduceSub, Array.replicate_succ, Array.replicate_zero, List.push_toArray, List.append_toArray, List.nil_append, List.cons_append]
  have hs0 : St w [(w.heap.size + 1 + 1, 4, #[.bool false]), (w.heap.size + 1, 3, #[.int .i64 outer]), (w.heap.size, 3, #[.int .i64 inner])] [] (((w.alloc (.cells #[.int .i64 inner] 3)).alloc (.cells #[.int .i64 outer] 3)).alloc (.cells #[.bool false] 4)) := by
    have h0 : St w [] [] w := ⟨fun p hp => by simp at hp, Below.refl _ _, fun p hp => by simp at hp⟩
    have := ((h0.new 3 #[.int .i64 inner]).new 3 #[.int .i64 outer]).new 4 #[.bool false]
    simpa using this
  have HS0 := Lib.hid hs0
  clear hs0
  by_cases hl : 3000 < l.length
  · gi_wp2_with (refine ⟨trivial, ?_⟩; gi_at_call 19; refine (callsIn_wide.2 (fixed_yes _)).mono ?_; rintro e w1 ⟨rfl, hb1⟩; have HB := Lib.hid (HS0.out.below hb1); have cR := HB.out.head.cell 0; have fR := HB.out.head.frozen 0; simp only [List.getElem?_toArray, List.getElem?_cons_zero] at cR; clear hb1)
    have cz := ((HB.out.set (by simp; omega) (by omega) 0 (.bool true)).head).cell 0
    simp at cz
    exact ⟨.bool true, by simp [results, Try.f9, go_sem, cz], rfl, (HB.out.set (by simp; omega) (by omega) 0 (.bool true)).bel⟩
  · have hl' : l.length ≤ 3000 := by omega
    clear hl
    have hfn := fn_nil 32
    have HRW := Lib.hid (fun w' (h : Below w.heap.size w w') => rwhole_any l (by omega) _ w' (HS.out.below h))
    gi_wp2_with (first | (refine ⟨trivial, ?_⟩; gi_at_call 19; refine (callsIn_wide.2 (fixed_yes _)).mono ?_; rintro e w1 ⟨rfl, hb1⟩; have HB1 := Lib.hid hb1; clear hb1) | (refine ⟨trivial, ?_⟩; gi_at_call 22; refine (callsIn_wide.2 (HRW.out _ (HS0.out.below HB1.out).bel)).mono ?_; rintro e w2 ⟨u, rfl, ho, hb2⟩; have HO := Lib.hid ho; have HB2 := Lib.hid hb2; obtain ⟨RL, au, cu, rfl, hcu, hcum, hbr, hbt, hrw⟩ := own_blks ho; have HBR := Lib.hid hbr; have HBT := Lib.hid hbt; have HRO := Lib.hid hrw; clear ho hb2 hbr hbt hrw) | (refine ⟨trivial, ?_⟩; gi_at_call 23; refine (callsIn_wide.2 (walk_fn _ _ _ _)).mono ?_; rintro e w' ⟨rfl, rfl⟩))
    have hs2 := (HS0.out.below HB1.out).below HB2.out
    have hs3 := (((((hs2.pushes HBR.out).new 43 #[.slice au (whl l).length cu]).new 22 #[.slice a0 l.length cap0]).new 50 #[.func (.func 32) #[] #[.pointer (some ⟨w2.heap.size + 1, 0, none⟩)]]).new 3 #[.int .i64 0])
    simp only [World.size_alloc] at hs3
    have hz : w.heap.size + 3 ≤ w1.heap.size := by have h1 := HB1.out.size; simp at h1; omega
    have hz2 : w1.heap.size ≤ w2.heap.size := HB2.out.size
    have hrl : ∀ q ∈ RL, q.1 < w2.heap.size := fun q hq => (HBR.out q hq).lt
    generalize hW3 : ((((w2.alloc (.cells #[.slice au (whl l).length cu] 43)).alloc (.cells #[.slice a0 l.length cap0] 22)).alloc (.cells #[.func (.func 32) #[] #[.pointer (some ⟨w2.heap.size + 1, 0, none⟩)]] 50)).alloc (.cells #[.int .i64 0] 3)) = W3 at *
    have hd : ∀ q ∈ ((w2.heap.size + 1 + 1, 50, #[.func (.func 32) #[] #[.pointer (some ⟨w2.heap.size + 1, 0, none⟩)]]) :: (w2.heap.size + 1, 22, #[.slice a0 l.length cap0]) :: (w2.heap.size, 43, #[.slice au (whl l).length cu]) :: (RL ++ [(w.heap.size + 1 + 1, 4, #[.bool false]), (w.heap.size + 1, 3, #[.int .i64 outer]), (w.heap.size, 3, #[.int .i64 inner])]) : BL), q.1 ≠ w2.heap.size + 1 + 1 + 1 := by
      intro q hq
      simp only [List.mem_cons, List.mem_append, List.not_mem_nil, or_false] at hq
      rcases hq with rfl | rfl | rfl | hq | rfl | rfl | rfl <;> first | (have := hrl _ hq; omega) | (simp <;> omega)
    have hdr : ∀ q ∈ ((w2.heap.size + 1 + 1, 50, #[.func (.func 32) #[] #[.pointer (some ⟨w2.heap.size + 1, 0, none⟩)]]) :: (w2.heap.size + 1, 22, #[.slice a0 l.length cap0]) :: (w2.heap.size, 43, #[.slice au (whl l).length cu]) :: (RL ++ [(w.heap.size + 1, 3, #[.int .i64 outer]), (w.heap.size, 3, #[.int .i64 inner])]) : BL), q.1 ≠ w.heap.size + 1 + 1 := by
      intro q hq
      simp only [List.mem_cons, List.mem_append, List.not_mem_nil, or_false] at hq
      rcases hq with rfl | rfl | rfl | hq | rfl | rfl <;> first | (have := (HBT.out _ hq).2; omega) | (simp <;> omega)
    have hww : ∀ q ∈ ((w2.heap.size + 1 + 1, 50, #[.func (.func 32) #[] #[.pointer (some ⟨w2.heap.size + 1, 0, none⟩)]]) :: (w2.heap.size + 1, 22, #[.slice a0 l.length cap0]) :: (w2.heap.size, 43, #[.slice au (whl l).length cu]) :: (RL ++ [(w.heap.size + 1, 3, #[.int .i64 outer]), (w.heap.size, 3, #[.int .i64 inner])]) : BL), q ∈ ((w2.heap.size + 1 + 1, 50, #[.func (.func 32) #[] #[.pointer (some ⟨w2.heap.size + 1, 0, none⟩)]]) :: (w2.heap.size + 1, 22, #[.slice a0 l.length cap0]) :: (w2.heap.size, 43, #[.slice au (whl l).length cu]) :: (RL ++ [(w.heap.size + 1 + 1, 4, #[.bool false]), (w.heap.size + 1, 3, #[.int .i64 outer]), (w.heap.size, 3, #[.int .i64 inner])]) : BL) := by
      intro q hq
      simp only [List.mem_cons, List.mem_append, List.not_mem_nil, or_false] at hq ⊢
      rcases hq with h | h | h | h | h | h <;> simp [h]
    have hm1 : (w.heap.size, 3, #[.int .i64 inner]) ∈ ((w2.heap.size + 1 + 1, 50, #[.func (.func 32) #[] #[.pointer (some ⟨w2.heap.size + 1, 0, none⟩)]]) :: (w2.heap.size + 1, 22, #[.slice a0 l.length cap0]) :: (w2.heap.size, 43, #[.slice au (whl l).length cu]) :: (RL ++ [(w.heap.size + 1 + 1, 4, #[.bool false]), (w.heap.size + 1, 3, #[.int .i64 outer]), (w.heap.size, 3, #[.int .i64 inner])]) : BL) := by simp
    have hm2 : (w.heap.size + 1, 3, #[.int .i64 outer]) ∈ ((w2.heap.size + 1 + 1, 50, #[.func (.func 32) #[] #[.pointer (some ⟨w2.heap.size + 1, 0, none⟩)]]) :: (w2.heap.size + 1, 22, #[.slice a0 l.length cap0]) :: (w2.heap.size, 43, #[.slice au (whl l).length cu]) :: (RL ++ [(w.heap.size + 1 + 1, 4, #[.bool false]), (w.heap.size + 1, 3, #[.int .i64 outer]), (w.heap.size, 3, #[.int .i64 inner])]) : BL) := by simp
    have hm3 : (w.heap.size + 1 + 1, 4, #[.bool false]) ∈ ((w2.heap.size + 1 + 1, 50, #[.func (.func 32) #[] #[.pointer (some ⟨w2.heap.size + 1, 0, none⟩)]]) :: (w2.heap.size + 1, 22, #[.slice a0 l.length cap0]) :: (w2.heap.size, 43, #[.slice au (whl l).length cu]) :: (RL ++ [(w.heap.size + 1 + 1, 4, #[.bool false]), (w.heap.size + 1, 3, #[.int .i64 outer]), (w.heap.size, 3, #[.int .i64 inner])]) : BL) := by simp
    have hm4 : (w2.heap.size, 43, #[.slice au (whl l).length cu]) ∈ ((w2.heap.size + 1 + 1, 50, #[.func (.func 32) #[] #[.pointer (some ⟨w2.heap.size + 1, 0, none⟩)]]) :: (w2.heap.size + 1, 22, #[.slice a0 l.length cap0]) :: (w2.heap.size, 43, #[.slice au (whl l).length cu]) :: (RL ++ [(w.heap.size + 1 + 1, 4, #[.bool false]), (w.heap.size + 1, 3, #[.int .i64 outer]), (w.heap.size, 3, #[.int .i64 inner])]) : BL) := by simp
    have hm5 : (w2.heap.size + 1 + 1, 50, #[.func (.func 32) #[] #[.pointer (some ⟨w2.heap.size + 1, 0, none⟩)]]) ∈ ((w2.heap.size + 1 + 1, 50, #[.func (.func 32) #[] #[.pointer (some ⟨w2.heap.size + 1, 0, none⟩)]]) :: (w2.heap.size + 1, 22, #[.slice a0 l.length cap0]) :: (w2.heap.size, 43, #[.slice au (whl l).length cu]) :: (RL ++ [(w.heap.size + 1 + 1, 4, #[.bool false]), (w.heap.size + 1, 3, #[.int .i64 outer]), (w.heap.size, 3, #[.int .i64 inner])]) : BL) := by simp
    have hm6 : (w2.heap.size + 1, 22, #[.slice a0 l.length cap0]) ∈ ((w2.heap.size + 1 + 1, 50, #[.func (.func 32) #[] #[.pointer (some ⟨w2.heap.size + 1, 0, none⟩)]]) :: (w2.heap.size + 1, 22, #[.slice a0 l.length cap0]) :: (w2.heap.size, 43, #[.slice au (whl l).length cu]) :: (RL ++ [(w.heap.size + 1 + 1, 4, #[.bool false]), (w.heap.size + 1, 3, #[.int .i64 outer]), (w.heap.size, 3, #[.int .i64 inner])]) : BL) := by simp
    have hmr : ∀ q ∈ RL, q ∈ ((w2.heap.size + 1 + 1, 50, #[.func (.func 32) #[] #[.pointer (some ⟨w2.heap.size + 1, 0, none⟩)]]) :: (w2.heap.size + 1, 22, #[.slice a0 l.length cap0]) :: (w2.heap.size, 43, #[.slice au (whl l).length cu]) :: (RL ++ [(w.heap.size + 1 + 1, 4, #[.bool false]), (w.heap.size + 1, 3, #[.int .i64 outer]), (w.heap.size, 3, #[.int .i64 inner])]) : BL) := by intro q hq; simp [hq]
    have hRW : RowK RL au ((whl l).map keyA) := fun Y hY h => HRO.out Y hY (by simpa using h)
    generalize ((w2.heap.size + 1 + 1, 50, #[.func (.func 32) #[] #[.pointer (some ⟨w2.heap.size + 1, 0, none⟩)]]) :: (w2.heap.size + 1, 22, #[.slice a0 l.length cap0]) :: (w2.heap.size, 43, #[.slice au (whl l).length cu]) :: (RL ++ [(w.heap.size + 1 + 1, 4, #[.bool false]), (w.heap.size + 1, 3, #[.int .i64 outer]), (w.heap.size, 3, #[.int .i64 inner])]) : BL) = L0 at *
    generalize ((w2.heap.size + 1 + 1, 50, #[.func (.func 32) #[] #[.pointer (some ⟨w2.heap.size + 1, 0, none⟩)]]) :: (w2.heap.size + 1, 22, #[.slice a0 l.length cap0]) :: (w2.heap.size, 43, #[.slice au (whl l).length cu]) :: (RL ++ [(w.heap.size + 1, 3, #[.int .i64 outer]), (w.heap.size, 3, #[.int .i64 inner])]) : BL) = L1 at *
    have HS3 := Lib.hid hs3
    have HD := Lib.hid hd
    have HDR := Lib.hid hdr
    have HWW := Lib.hid hww
    have HRW' := Lib.hid hRW
    have HMR := Lib.hid hmr
    clear hs3 hW3 hs2 hd hdr hww hRW hmr HRW HB1 HB2 HRO HBT HBR hrl
    refine inside_outer _ _ _ _ _ _ _ _ _ _ _ _ _ _ _ _ _ _ _ _ _ _ _ _ _ _ _ _ _ _ _ _ _ _ _ _ _ _ _ _ _ _ _ _ _ _ _ _ _ _ _ _ _ _ _ _ _ _ _ _ _ _ _ _ _ _ _ _ _ _ _ _ _ _ _ _ _ _ _ _ _ _ _ _ _ _ _ _ _ _ _ _ _ _ _ _ _ _ _ _ _ _ _ _ _ _ _ _ _ _ _ _ _ l (by omega) _ w HS.out _ L0 RL [] au cu w.heap.size (w.heap.size + 1) _ _ _ (w2.heap.size + 1) _ inner outer [] _ _ (fun a' w' h => ⟨h, h⟩) hcum HRW'.out hm1 hm2 hm4 hm5 hm6 HMR.out HD.out (fun D hD => by simp at hD) (by omega) hi1 hi2 HS3.out ?_
    rintro D0 X1 k hD0 hK0 hs4 he4
    have cN := hs4.head.cell 0
    have fN := hs4.head.frozen 0
    have cW := (hs4.tail.blks _ hm4).cell 0
    have cU := (hs4.tail.blks _ hm2).cell 0
    have cF := (hs4.tail.blks _ hm5).cell 0
    have nF : w2.heap.size + 1 + 1 ≠ w2.heap.size + 1 + 1 + 1 := by omega
    simp only [List.getElem?_toArray, List.getElem?_cons_zero] at cN cW cU cF
    have hs5 := ((hs4.mark hK0).set HD.out (by omega) 0 (.int .i64 0))
    have HS5 := Lib.hid hs5
    have HK0 := Lib.hid hK0
    have HD0 := Lib.hid hD0
    have HS3Z := HS3.out.bel.size
    clear hs4 hs5 hK0 hD0 HS3
    have ht : ((k : Int) != ((whl l).length : Int)) = false ∨ (((k : Int) != ((whl l).length : Int)) = true ∧ ((k : Int) != outer) = false) := by
      simp only [bne_eq_false_iff_eq, bne_iff_ne]
      omega
    clear he4
    rcases ht with ht | ⟨ht, ht2⟩
    all_goals
      gi_wp2
      refine inside_third _ _ _ _ _ _ _ _ _ _ _ _ _ _ _ _ _ _ _ _ _ _ _ _ _ _ _ _ _ _ _ _ _ _ _ _ _ _ _ _ _ _ _ _ _ _ _ _ _ _ _ _ _ _ _ _ _ _ _ _ _ _ _ _ _ _ _ _ _ _ _ _ _ _ _ _ _ _ _ _ _ _ _ _ _ _ _ _ _ _ _ _ _ _ _ _ _ _ _ _ _ _ _ _ _ _ _ _ _ _ _ _ _ l (by omega) _ w HS.out _ L0 RL [D0] au cu w.heap.size (w.heap.size + 1) _ _ _ (w2.heap.size + 1) _ _ _ hcum HRW'.out hm4 hm6 HMR.out HD.out ?_ (by omega) HS5.out ?_
      · intro D hD
        obtain rfl : D = D0 := by simpa using hD
        exact Nat.lt_of_lt_of_le (Array.getElem?_eq_some_iff.1 HK0.out).1 (by simp [World.setCell])
      rintro D1 X3 hD1 hK1 hs6
      have cN3 := hs6.head.cell 0
      have cW3 := (hs6.tail.blks _ hm4).cell 0
      have cR3 := (hs6.tail.blks _ hm3).cell 0
      have fR3 := (hs6.tail.blks _ hm3).frozen 0
      simp only [List.getElem?_toArray, List.getElem?_cons_zero] at cN3 cW3 cR3
      have hee : (((whl l).length : Int) == ((whl l).length : Int)) = true := by simp
      have hs7 : St w ((w.heap.size + 1 + 1, 4, #[.bool true]) :: L1) [D0] (X3.setCell ⟨w.heap.size + 1 + 1, 0, none⟩ (.bool true)) :=
        ((hs6.tail.weak HWW.out).push (p := (w.heap.size + 1 + 1, 4, #[.bool false])) (hs6.tail.blks _ hm3)).set HDR.out (by omega) 0 (.bool true)
      have HS7 := Lib.hid hs7
      have HK1 := Lib.hid hK1
      have HD1 := Lib.hid hD1
      have nb1 : D1 ≠ w.heap.size + 1 + 1 := hs6.tail.mark_ne hK1 hm3
      have HS6 := Lib.hid hs6
      clear hs6 hs7 hK1 hD1 cN cW cU cF fN
      gi_wp2
      have hD01 : D0 ≠ D1 := by
        have a1 := HD1.out
        have a3 := (Array.getElem?_eq_some_iff.1 HK0.out).1
        simp [World.setCell] at a1
        omega
      have y0 := HS7.out.marks D0 (by simp)
      have nb0 : D0 ≠ w.heap.size + 1 + 1 := fun e => by
        have h2 : _ = _ := HS7.out.head
        simp only at h2
        rw [e, h2] at y0
        cases y0
      have y1 : (X3.setCell ⟨w.heap.size + 1 + 1, 0, none⟩ (.bool true)).heap[D1]? = some (.deferred (some [])) := (Below.heap_setCell _ _ _ _ (by simpa using nb1)).trans HK1.out
      have yr := HS7.out.head
      have yb := HS7.out.bel
      generalize (X3.setCell ⟨w.heap.size + 1 + 1, 0, none⟩ (.bool true)) = Y at *
      have y2 : (Y.putObj D1 (.deferred none)).heap[D0]? = some (.deferred (some [])) := (World.putObj_heap_other hD01).trans y0
      have yr2 : Blk ((Y.putObj D1 (.deferred none)).putObj D0 (.deferred none)) (w.heap.size + 1 + 1) 4 #[.bool true] := Blk.unput (Blk.unput yr nb1) nb0
      have cr2 := yr2.cell 0
      simp only [List.getElem?_toArray, List.getElem?_cons_zero] at cr2
      refine ⟨by simp, .inl ⟨_, _, rfl, run_takeDeferred y1, by simp, .inl ⟨_, _, rfl, run_takeDeferred y2, ?_⟩⟩⟩
      have b1 : Below w.heap.size w (Y.putObj D1 (.deferred none)) := yb.trans (belowK_b (w := w) (Nat.le_refl _) _ D1 _ _ ?_ y1 rfl rfl)
      refine ⟨.bool true, by simp [results, Try.f9, go_sem, cr2], rfl, b1.trans (belowK_b (w := w) (Nat.le_refl _) _ D0 _ _ ?_ y2 rfl rfl)⟩
      · have := HD0.out; omega
      · have := HD1.out; have := HD0.out; have := (Array.getElem?_eq_some_iff.1 HK0.out).1; simp [World.setCell] at *; omega
end Go.Proofs.Ytcofndegcleicaa.Lg
