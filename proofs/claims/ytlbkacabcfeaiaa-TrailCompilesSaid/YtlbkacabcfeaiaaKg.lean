/- Patterns: the reference's suffixes. -/
import Derived.Test.YtlbkacabcfeaiaaKf
namespace Go.Proofs.Ytlbkacabcfeaiaa.Tl
open Go.RowKit Mm
set_option linter.unusedVariables false
/-- what a call of the reader leaves -/
structure Out (W : World) (g : Nat) (s : ByteArray) (deep : Nat) (N : List Nd) (X : World) (pos it : Nat) (bad : Int) (M : List Nd) (nv : Value) (Y : World) : Prop where
  rf : Rf W g s pos it deep bad (N ++ M) nv Y
  fr : Fr X Y
  nk : NewK X M
theorem Out.start {W X : World} {g : Nat} {s : ByteArray} {pos it deep : Nat} {bad : Int} {N : List Nd} {nv : Value} (h : Rf W g s pos it deep bad N nv X) : Out W g s deep N X pos it bad [] nv X := ⟨by rw [List.append_nil]; exact h, Fr.refl _, NewK.nil _⟩
theorem Out.trans {W X Y Z : World} {g : Nat} {s : ByteArray} {p i d p' i' : Nat} {b b' : Int} {N M K : List Nd} {v v' : Value} (h : Out W g s d N X p i b M v Y) (k : Out W g s d (N ++ M) Y p' i' b' K v' Z) : Out W g s d N X p' i' b' (M ++ K) v' Z :=
  ⟨by rw [← List.append_assoc]; exact k.rf, h.fr.trans k.fr, h.nk.app k.nk h.fr.1⟩
theorem Out.put {W X Y Z : World} {g : Nat} {s : ByteArray} {p i d p' i' : Nat} {b b' : Int} {N M : List Nd} {v : Value} (h : Out W g s d N X p i b M v Y) (hg : Y.grownBy Z (some g)) (hb : Blk Z g 67 (rfC s p' i' d b' v)) : Out W g s d N X p' i' b' M v Z := by
  obtain ⟨h1, h2⟩ := h.rf.put hg hb
  exact ⟨h1, h.fr.trans h2, h.nk⟩
def isSuf (c : UInt8) : Prop := c = 42 ∨ c = 43 ∨ c = 63
/-- a suffix's node made -/
theorem Out.more {W X Y Z : World} {g : Nat} {s : ByteArray} {p i d : Nat} {b : Int} {N M : List Nd} {v : Value} {nd : Nd} (h : Out W g s d N X p i b M v Y) (hr : ∃ v', Rf W g s p i d b (N ++ M ++ [nd]) v' Z) (hf : Fr Y Z) (hn : ∀ g, nd.kv.ownBlock = some g → X.heap.size ≤ g) : ∃ v', Out W g s d N X p i b (M ++ [nd]) v' Z := by
  obtain ⟨v', hr⟩ := hr
  exact ⟨v', by rw [← List.append_assoc]; exact hr, h.fr.trans hf, h.nk.app (NewK.one hn) (Nat.le_refl _)⟩
theorem kid_one (X : World) (k : Nat) : Fz (X.alloc (.cells #[.int .i64 (k : Int)] 3)) 3 1 (.slice (some ⟨X.heap.size, 0, none⟩) 1 1) ([k] : List Nat).length (iv [k]) := by
  refine ⟨_, 1, rfl, Nat.le_refl _, by decide, rfl, .inr ⟨X.heap.size, _, rfl, heap_alloc_new X _, fun j u h => ?_⟩⟩
  match j, h with
  | 0, h => exact h
  | j + 1, h => simp [iv] at h
/-- how far the suffixes are read -/
def SufR (s : ByteArray) (pos it : Nat) (t : T) (pos' it' : Nat) (bad' : Int) (t' : T) : Prop :=
  (bad' = -1 ∧ pos' ≤ s.size ∧ it' ≤ 48 ∧ ∀ stk ch ps, res (xs s) ⟨pos, it, stk, ch, ps ++ [t]⟩ = res (xs s) ⟨pos', it', stk, ch, ps ++ [t']⟩) ∨
  (∃ b : Nat, bad' = (b : Int) ∧ pos' ≤ s.size ∧ it' ≤ 49 ∧ ∀ stk ch ps, res (xs s) ⟨pos, it, stk, ch, ps ++ [t]⟩ = .err b)
structure SufI (s : ByteArray) (pos it : Nat) (t : T) (N M : List Nd) (k : Nat) (pos' it' : Nat) (bad' : Int) (t' : T) : Prop where
  den : Den (N ++ M) k t'
  wt : bd t' + 16 * pos ≤ bd t + 16 * pos'
  ge : pos ≤ pos'
  le : pos' ≤ s.size
  cnt : M.length + 4 * pos ≤ 4 * pos'
  its : it' ≤ 49
  r : SufR s pos it t pos' it' bad' t'
theorem suf_step {s : ByteArray} {pos it : Nat} {t : T} {N M : List Nd} {k p q i : Nat} {t' : T} {c : UInt8} {nd : Nd} (h : SufI s pos it t N M k p i (-1) t') (hq : Same (xs s) p q) (hge : p ≤ q) (hc : (xs s)[q]? = some c) (hs : isSuf c) (hnk : nd.kind = sufK c) (hks : nd.kids = [k]) :
    SufI s pos it t N (M ++ [nd]) (N ++ M).length (q + 1) (i + 1) (if 48 ≤ i ∧ (-1 : Int) < 0 then (q : Int) else -1) (.suf t' c) := by
  have hql : q < s.size := by have := (List.getElem?_eq_some_iff.1 hc).1; rw [xs_len] at this; exact this
  have hi : i ≤ 48 := by
    rcases h.r with ⟨_, _, h, _⟩ | ⟨b, hb, _⟩
    · exact h
    · omega
  refine ⟨?_, ?_, ?_, by omega, ?_, by omega, ?_⟩
  · have h1 := h.den.more (M := [nd])
    rw [List.append_assoc] at h1
    refine .suf _ nd k t' c ?_ hnk hks hs h1
    rw [← List.append_assoc]
    exact snoc_get _ _
  · have := h.wt
    simp only [bd]
    omega
  · have := h.ge; omega
  · have := h.cnt
    rw [List.length_append, List.length_cons, List.length_nil]
    omega
  · have hres : ∀ stk ch ps, res (xs s) ⟨pos, it, stk, ch, ps ++ [t]⟩ = res (xs s) ⟨q, i, stk, ch, ps ++ [t']⟩ := by
      rcases h.r with ⟨_, _, _, h⟩ | ⟨b, hb, _⟩
      · exact fun stk ch ps => (h stk ch ps).trans (hq i stk ch _)
      · omega
    by_cases h48 : 48 ≤ i
    · rw [if_pos ⟨h48, by decide⟩]
      exact .inr ⟨q, rfl, by omega, by omega, fun stk ch ps => (hres stk ch ps).trans (st_42e hs hc (.inr h48))⟩
    · rw [if_neg (fun h2 => h48 h2.1)]
      exact .inl ⟨rfl, by omega, by omega, fun stk ch ps => (hres stk ch ps).trans (res_inl (st_42 hs hc (by omega)))⟩
theorem suf_peek {s : ByteArray} {pos it : Nat} {t : T} {N M : List Nd} {k p q i : Nat} {t' : T} (h : SufI s pos it t N M k p i (-1) t') (hq : Same (xs s) p q) (hge : p ≤ q) (hle : q ≤ s.size) : SufI s pos it t N M k q i (-1) t' := by
  refine ⟨h.den, by have := h.wt; omega, by have := h.ge; omega, hle, by have := h.cnt; omega, h.its, ?_⟩
  rcases h.r with ⟨_, _, h1, h2⟩ | ⟨b, hb, _⟩
  · exact .inl ⟨rfl, hle, h1, fun stk ch ps => (h2 stk ch ps).trans (hq i stk ch _)⟩
  · omega
theorem byte_of {x : List UInt8} {q : Nat} {c : UInt8} (hc0 : c ≠ 0) (h : byteAt x q = c.toNat) : x[q]? = some c := by
  unfold byteAt at h
  cases hx : x[q]? with
  | none =>
    rw [hx] at h
    exact absurd (UInt8.toNat_inj.1 (show c.toNat = (0 : UInt8).toNat from h.symm)) hc0
  | some d =>
    rw [hx] at h
    have h2 : d.toNat = c.toNat := h
    rw [UInt8.toNat_inj.1 h2]
set_option maxRecDepth 100000 in
set_option maxHeartbeats 8000000 in
theorem suffixed_any {W X : World} {g : Nat} {s : ByteArray} {pos it deep : Nat} {N : List Nd} {nv : Value} {k : Nat} {t : T} (h : Rf W g s pos it deep (-1) N nv X) (hk : Den N k t) (hpos : pos ≤ s.size) (hit : it ≤ 48) (hN : N.length ≤ 90000) (hs : s.size ≤ 256) :
    Calls Try.prog 43 #[.pointer (some ⟨g, 0, none⟩), .int .i64 (k : Int)] X fun e w' => ∃ (k' : Nat) (M : List Nd) (nv' : Value) (pos' it' : Nat) (bad' : Int) (t' : T), e = .returned (.int .i64 (k' : Int)) ∧ Out W g s deep N X pos' it' bad' M nv' w' ∧ SufI s pos it t N M k' pos' it' bad' t' ∧
      (bad' = -1 → (∀ c, (xs s)[pos']? = some c → ¬ isSuf c) ∧ (xs s)[pos']? ≠ some 32) := by
  have HS := Lib.hid (Out.start h)
  have HI := Lib.hid (show SufI s pos it t N [] k pos it (-1) t from ⟨by rw [List.append_nil]; exact hk, by omega, Nat.le_refl _, hpos, by simp, by omega, .inl ⟨rfl, hpos, hit, fun _ _ _ => rfl⟩⟩)
  have hkl := hk.lt
  clear h hk
  go_enter Try.func43, Try.ntmps43
  go_wp2_with fail
  go_loopw [1] (fun v wr => ∃ (k' : Nat) (M : List Nd) (nv' : Value) (pos' it' : Nat) (bad' : Int) (t' : T), v = .int .i64 (k' : Int) ∧ Out W g s deep N X pos' it' bad' M nv' wr ∧ SufI s pos it t N M k' pos' it' bad' t') (fun _ wr => 2001 - posR g wr)
  case atStart => exact ⟨k, [], nv, pos, it, -1, t, rfl, HS.out, HI.out⟩
  case round =>
    obtain ⟨k', M, nv', p, i, b, t', rfl, hO, hI⟩ := hrel
    have HO := Lib.hid hO
    have HI2 := Lib.hid hI
    have q4 := Blk.f4 hO.rf.blk
    have hcnt := hI.cnt
    have hple := hI.le
    have hmu := posR_of hO.rf.blk
    have hit2 := hI.its
    by_cases hb : b < 0
    · have hb1 : b = -1 := by
        rcases hI.r with ⟨h, _⟩ | ⟨c, h, _⟩
        · exact h
        · omega
      subst hb1
      have HP := Lib.hid (peek_any wr g s p i deep _ _ hO.rf.blk (by omega) (by omega))
      clear hO hI HS HI
      go_wp2_with fail
      refine HP.out.mono ?_
      rintro e w1 ⟨q, rfl, hpk, hn32⟩
      have HO1 := Lib.hid (HO.out.put hpk.grow hpk.blk)
      have HPK := Lib.hid hpk
      have hge := hpk.ge
      have hqle : q ≤ s.size := by rcases hpk.le with h | h <;> omega
      have q1 := Blk.f1 hpk.blk
      have hf1 := hpk.blk.frozen 1
      have HIT := Lib.hid (ritem_any w1 g q s q i deep (-1) nv' hpk.blk (by omega))
      clear hpk q4
      by_cases hsf : ∃ c, (xs s)[q]? = some c ∧ isSuf c
      · obtain ⟨c, hc, hsc⟩ := hsf
        have hql : q < s.size := by have := (List.getElem?_eq_some_iff.1 hc).1; rw [xs_len] at this; exact this
        have HST := Lib.hid (fun nd h1 h2 => suf_step (nd := nd) HI2.out HPK.out.same hge hc hsc h1 h2)
        have hby : ((byteAt (xs s) q : Nat) : Int) = (c.toNat : Int) := by unfold byteAt; rw [hc]; rfl
        obtain ⟨b2, hb2⟩ : ∃ b2, b2 = if 48 ≤ i ∧ (-1 : Int) < 0 then (q : Int) else -1 := ⟨_, rfl⟩
        rw [← hb2] at HIT HST
        clear hb2 hn32 hc
        generalize byteAt (xs s) q = y at *
        rcases hsc with rfl | rfl | rfl
        · have hbyI : (y : Int) = 42 := hby
          clear hby
          go_wp2_with fail
          refine HIT.out.mono ?_
          rintro e w2 ⟨rfl, hb2, hg2⟩
          have HO2 := Lib.hid (HO1.out.put hg2 hb2)
          have q12 := Blk.f1 hb2
          have hf2 := hb2.frozen 1
          have HO3 := Lib.hid (HO2.out.put (only_set _ _ 1 _) (Blk.s1 HO2.out.rf.blk (q + 1)))
          clear hb2 hg2 q1 hf1
          go_upto_region 13 with fail
          have HO4 := Lib.hid (show Out W g s deep N X (q + 1) (i + 1) b2 M nv' (w2.setCell ⟨g, 1, none⟩ (.int .i64 ((q : Int) + 1))) from HO3.out)
          clear HO3 q12 hf2
          generalize World.setCell _ _ _ = w3 at *
          have HND := Lib.hid (node_any (HO4.out.rf.below ((Below.refl _ w3).alloc (Nat.le_refl _) (.cells #[.int .i64 (k' : Int)] 3))) ⟨6, ⟨#[]⟩, false, .slice (some ⟨w3.heap.size, 0, none⟩) 1 1, [k']⟩ (kid_one w3 k') (by rw [List.length_append]; omega))
          go_wp2_with fail
          refine HND.out.mono ?_
          rintro e w4 ⟨rfl, hR4, hF4⟩
          obtain ⟨v4, hO5⟩ := HO4.out.more hR4 ((Fr.below ((Below.refl _ w3).alloc (Nat.le_refl _) _)).trans hF4) (fun z hz => by cases hz; exact HO4.out.fr.1)
          have HO5 := Lib.hid hO5
          clear hR4 hF4 hO5
          go_wp2_with fail
          go_roundw
          case rel => exact ⟨(N ++ M).length, M ++ [⟨6, ⟨#[]⟩, false, .slice (some ⟨w3.heap.size, 0, none⟩) 1 1, [k']⟩], v4, q + 1, i + 1, b2, _, by simp, HO5.out, HST.out _ rfl rfl⟩
          case measure =>
            rw [posR_of HO5.out.rf.blk, hmu]
            omega
        · have hbyI : (y : Int) = 43 := hby
          clear hby
          go_wp2_with fail
          refine HIT.out.mono ?_
          rintro e w2 ⟨rfl, hb2, hg2⟩
          have HO2 := Lib.hid (HO1.out.put hg2 hb2)
          have q12 := Blk.f1 hb2
          have hf2 := hb2.frozen 1
          have HO3 := Lib.hid (HO2.out.put (only_set _ _ 1 _) (Blk.s1 HO2.out.rf.blk (q + 1)))
          clear hb2 hg2 q1 hf1
          go_upto_region 13 with fail
          have HO4 := Lib.hid (show Out W g s deep N X (q + 1) (i + 1) b2 M nv' (w2.setCell ⟨g, 1, none⟩ (.int .i64 ((q : Int) + 1))) from HO3.out)
          clear HO3 q12 hf2
          generalize World.setCell _ _ _ = w3 at *
          have HND := Lib.hid (node_any (HO4.out.rf.below ((Below.refl _ w3).alloc (Nat.le_refl _) (.cells #[.int .i64 (k' : Int)] 3))) ⟨7, ⟨#[]⟩, false, .slice (some ⟨w3.heap.size, 0, none⟩) 1 1, [k']⟩ (kid_one w3 k') (by rw [List.length_append]; omega))
          go_wp2_with fail
          refine HND.out.mono ?_
          rintro e w4 ⟨rfl, hR4, hF4⟩
          obtain ⟨v4, hO5⟩ := HO4.out.more hR4 ((Fr.below ((Below.refl _ w3).alloc (Nat.le_refl _) _)).trans hF4) (fun z hz => by cases hz; exact HO4.out.fr.1)
          have HO5 := Lib.hid hO5
          clear hR4 hF4 hO5
          go_wp2_with fail
          go_roundw
          case rel => exact ⟨(N ++ M).length, M ++ [⟨7, ⟨#[]⟩, false, .slice (some ⟨w3.heap.size, 0, none⟩) 1 1, [k']⟩], v4, q + 1, i + 1, b2, _, by simp, HO5.out, HST.out _ rfl rfl⟩
          case measure =>
            rw [posR_of HO5.out.rf.blk, hmu]
            omega
        · have hbyI : (y : Int) = 63 := hby
          clear hby
          go_wp2_with fail
          refine HIT.out.mono ?_
          rintro e w2 ⟨rfl, hb2, hg2⟩
          have HO2 := Lib.hid (HO1.out.put hg2 hb2)
          have q12 := Blk.f1 hb2
          have hf2 := hb2.frozen 1
          have HO3 := Lib.hid (HO2.out.put (only_set _ _ 1 _) (Blk.s1 HO2.out.rf.blk (q + 1)))
          clear hb2 hg2 q1 hf1
          go_upto_region 13 with fail
          have HO4 := Lib.hid (show Out W g s deep N X (q + 1) (i + 1) b2 M nv' (w2.setCell ⟨g, 1, none⟩ (.int .i64 ((q : Int) + 1))) from HO3.out)
          clear HO3 q12 hf2
          generalize World.setCell _ _ _ = w3 at *
          have HND := Lib.hid (node_any (HO4.out.rf.below ((Below.refl _ w3).alloc (Nat.le_refl _) (.cells #[.int .i64 (k' : Int)] 3))) ⟨8, ⟨#[]⟩, false, .slice (some ⟨w3.heap.size, 0, none⟩) 1 1, [k']⟩ (kid_one w3 k') (by rw [List.length_append]; omega))
          go_wp2_with fail
          refine HND.out.mono ?_
          rintro e w4 ⟨rfl, hR4, hF4⟩
          obtain ⟨v4, hO5⟩ := HO4.out.more hR4 ((Fr.below ((Below.refl _ w3).alloc (Nat.le_refl _) _)).trans hF4) (fun z hz => by cases hz; exact HO4.out.fr.1)
          have HO5 := Lib.hid hO5
          clear hR4 hF4 hO5
          go_wp2_with fail
          go_roundw
          case rel => exact ⟨(N ++ M).length, M ++ [⟨8, ⟨#[]⟩, false, .slice (some ⟨w3.heap.size, 0, none⟩) 1 1, [k']⟩], v4, q + 1, i + 1, b2, _, by simp, HO5.out, HST.out _ rfl rfl⟩
          case measure =>
            rw [posR_of HO5.out.rf.blk, hmu]
            omega
      · have hns : ∀ c, isSuf c → ¬ byteAt (xs s) q = c.toNat := fun c hc h => hsf ⟨c, byte_of (by rcases hc with rfl | rfl | rfl <;> decide) h, hc⟩
        have h42 : ¬ ((byteAt (xs s) q : Nat) : Int) = 42 := fun h => hns 42 (.inl rfl) (by have : (42 : UInt8).toNat = 42 := rfl; omega)
        have h43 : ¬ ((byteAt (xs s) q : Nat) : Int) = 43 := fun h => hns 43 (.inr (.inl rfl)) (by have : (43 : UInt8).toNat = 43 := rfl; omega)
        have h63 : ¬ ((byteAt (xs s) q : Nat) : Int) = 63 := fun h => hns 63 (.inr (.inr rfl)) (by have : (63 : UInt8).toNat = 63 := rfl; omega)
        have HSF := Lib.hid hsf
        have HN32 := Lib.hid hn32
        clear hsf hns hn32
        generalize hyy : byteAt (xs s) q = y at *
        clear hyy
        go_wp2_with fail
        go_ret
        exact ⟨k', M, nv', q, i, -1, t', rfl, HO1.out, suf_peek HI2.out HPK.out.same hge hqle, fun _ => ⟨fun c hc hs => HSF.out ⟨c, hc, hs⟩, HN32.out⟩⟩
    · clear hO hI
      go_wp2_with fail
      go_ret
      exact ⟨k', rfl, M, nv', p, i, b, HO.out, ⟨t', HI2.out⟩, fun h => absurd h (by omega)⟩
end Go.Proofs.Ytlbkacabcfeaiaa.Tl
