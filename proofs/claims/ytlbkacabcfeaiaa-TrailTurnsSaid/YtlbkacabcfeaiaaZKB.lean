/- Texts of one kind, put together: Kg, Kh, Ki, Kj. -/
import Derived.Test.YtlbkacabcfeaiaaZKA
/- Patterns: the reference's suffixes. -/
namespace Go.Proofs.Ytlbkacabcfeaiaa.Tl
open Go.RowKit Mm
set_option linter.unusedVariables false
/-- what a call of the reader leaves -/
structure Out (W : World) (g : Nat) (s : ByteArray) (deep : Nat) (N : List Nd) (X : World) (pos it : Nat) (bad : Int) (M : List Nd) (nv : Value) (Y : World) : Prop where
  rf : Rf W g s pos it deep bad (N ++ M) nv Y
  fr : Fr X Y
  nk : NewK X M
theorem Out.start {W X : World} {g : Nat} {s : ByteArray} {pos it deep : Nat} {bad : Int} {N : List Nd} {nv : Value} (h : Rf W g s pos it deep bad N nv X) : Out W g s deep N X pos it bad [] nv X := ⟨by rw [List.append_nil]; exact h, Fr.refl _, NewK.nil _⟩
theorem Out.trans {W X Y Z : World} {g : Nat} {s : ByteArray} {p i d p' i' : Nat} {b b' : Int} {N M K : List Nd} {v v' : Value} (h : Out W g s d N X p i b M v Y) (k : Out W g s d (N ++ M) Y p' i' b' K v' Z) : Out W g s d N X p' i' b' (M ++ K) v' Z :=
  ⟨by rw [← List.append_assoc]; exact k.rf, h.fr.trans k.fr, h.nk.app k.nk h.fr.1⟩
theorem Out.put {W X Y Z : World} {g : Nat} {s : ByteArray} {p i d p' i' : Nat} {b b' : Int} {N M : List Nd} {v : Value} (h : Out W g s d N X p i b M v Y) (hg : Y.grownBy Z (some g)) (hb : Blk Z g 67 (rfC s p' i' d b' v)) : Out W g s d N X p' i' b' M v Z := by
  obtain ⟨h1, h2⟩ := h.rf.put hg hb
  exact ⟨h1, h.fr.trans h2, h.nk⟩
def isSuf (c : UInt8) : Prop := c = 42 ∨ c = 43 ∨ c = 63
/-- a suffix's node made -/
theorem Out.more {W X Y Z : World} {g : Nat} {s : ByteArray} {p i d : Nat} {b : Int} {N M : List Nd} {v : Value} {nd : Nd} (h : Out W g s d N X p i b M v Y) (hr : ∃ v', Rf W g s p i d b (N ++ M ++ [nd]) v' Z) (hf : Fr Y Z) (hn : ∀ g, nd.kv.ownBlock = some g → X.heap.size ≤ g) : ∃ v', Out W g s d N X p i b (M ++ [nd]) v' Z := by
  obtain ⟨v', hr⟩ := hr
  exact ⟨v', by rw [← List.append_assoc]; exact hr, h.fr.trans hf, h.nk.app (NewK.one hn) (Nat.le_refl _)⟩
theorem kid_one (X : World) (k : Nat) : Fz (X.alloc (.cells #[.int .i64 (k : Int)] 3)) 3 1 (.slice (some ⟨X.heap.size, 0, none⟩) 1 1) ([k] : List Nat).length (iv [k]) := by
  refine ⟨_, 1, rfl, Nat.le_refl _, by decide, rfl, .inr ⟨X.heap.size, _, rfl, heap_alloc_new X _, fun j u h => ?_⟩⟩
  match j, h with
  | 0, h => exact h
  | j + 1, h => simp [iv] at h
/-- how far the suffixes are read -/
def SufR (s : ByteArray) (pos it : Nat) (t : T) (pos' it' : Nat) (bad' : Int) (t' : T) : Prop :=
  (bad' = -1 ∧ pos' ≤ s.size ∧ it' ≤ 48 ∧ ∀ stk ch ps, res (xs s) ⟨pos, it, stk, ch, ps ++ [t]⟩ = res (xs s) ⟨pos', it', stk, ch, ps ++ [t']⟩) ∨
  (∃ b : Nat, bad' = (b : Int) ∧ pos' ≤ s.size ∧ it' ≤ 49 ∧ ∀ stk ch ps, res (xs s) ⟨pos, it, stk, ch, ps ++ [t]⟩ = .err b)
structure SufI (s : ByteArray) (pos it : Nat) (t : T) (N M : List Nd) (k : Nat) (pos' it' : Nat) (bad' : Int) (t' : T) : Prop where
  den : Den (N ++ M) k t'
  wt : bd t' + 16 * pos ≤ bd t + 16 * pos'
  ge : pos ≤ pos'
  le : pos' ≤ s.size
  cnt : M.length + 4 * pos ≤ 4 * pos'
  its : it' ≤ 49
  r : SufR s pos it t pos' it' bad' t'
theorem suf_step {s : ByteArray} {pos it : Nat} {t : T} {N M : List Nd} {k p q i : Nat} {t' : T} {c : UInt8} {nd : Nd} (h : SufI s pos it t N M k p i (-1) t') (hq : Same (xs s) p q) (hge : p ≤ q) (hc : (xs s)[q]? = some c) (hs : isSuf c) (hnk : nd.kind = sufK c) (hks : nd.kids = [k]) :
    SufI s pos it t N (M ++ [nd]) (N ++ M).length (q + 1) (i + 1) (if 48 ≤ i ∧ (-1 : Int) < 0 then (q : Int) else -1) (.suf t' c) := by
  have hql : q < s.size := by have := (List.getElem?_eq_some_iff.1 hc).1; rw [xs_len] at this; exact this
  have hi : i ≤ 48 := by
    rcases h.r with ⟨_, _, h, _⟩ | ⟨b, hb, _⟩
    · exact h
    · omega
  refine ⟨?_, ?_, ?_, by omega, ?_, by omega, ?_⟩
  · have h1 := h.den.more (M := [nd])
    rw [List.append_assoc] at h1
    refine .suf _ nd k t' c ?_ hnk hks hs h1
    rw [← List.append_assoc]
    exact snoc_get _ _
  · have := h.wt
    simp only [bd]
    omega
  · have := h.ge; omega
  · have := h.cnt
    rw [List.length_append, List.length_cons, List.length_nil]
    omega
  · have hres : ∀ stk ch ps, res (xs s) ⟨pos, it, stk, ch, ps ++ [t]⟩ = res (xs s) ⟨q, i, stk, ch, ps ++ [t']⟩ := by
      rcases h.r with ⟨_, _, _, h⟩ | ⟨b, hb, _⟩
      · exact fun stk ch ps => (h stk ch ps).trans (hq i stk ch _)
      · omega
    by_cases h48 : 48 ≤ i
    · rw [if_pos ⟨h48, by decide⟩]
      exact .inr ⟨q, rfl, by omega, by omega, fun stk ch ps => (hres stk ch ps).trans (st_42e hs hc (.inr h48))⟩
    · rw [if_neg (fun h2 => h48 h2.1)]
      exact .inl ⟨rfl, by omega, by omega, fun stk ch ps => (hres stk ch ps).trans (res_inl (st_42 hs hc (by omega)))⟩
theorem suf_peek {s : ByteArray} {pos it : Nat} {t : T} {N M : List Nd} {k p q i : Nat} {t' : T} (h : SufI s pos it t N M k p i (-1) t') (hq : Same (xs s) p q) (hge : p ≤ q) (hle : q ≤ s.size) : SufI s pos it t N M k q i (-1) t' := by
  refine ⟨h.den, by have := h.wt; omega, by have := h.ge; omega, hle, by have := h.cnt; omega, h.its, ?_⟩
  rcases h.r with ⟨_, _, h1, h2⟩ | ⟨b, hb, _⟩
  · exact .inl ⟨rfl, hle, h1, fun stk ch ps => (h2 stk ch ps).trans (hq i stk ch _)⟩
  · omega
theorem byte_of {x : List UInt8} {q : Nat} {c : UInt8} (hc0 : c ≠ 0) (h : byteAt x q = c.toNat) : x[q]? = some c := by
  unfold byteAt at h
  cases hx : x[q]? with
  | none =>
    rw [hx] at h
    exact absurd (UInt8.toNat_inj.1 (show c.toNat = (0 : UInt8).toNat from h.symm)) hc0
  | some d =>
    rw [hx] at h
    have h2 : d.toNat = c.toNat := h
    rw [UInt8.toNat_inj.1 h2]
set_option maxRecDepth 100000 in
set_option maxHeartbeats 8000000 in
theorem suffixed_any {W X : World} {g : Nat} {s : ByteArray} {pos it deep : Nat} {N : List Nd} {nv : Value} {k : Nat} {t : T} (h : Rf W g s pos it deep (-1) N nv X) (hk : Den N k t) (hpos : pos ≤ s.size) (hit : it ≤ 48) (hN : N.length ≤ 90000) (hs : s.size ≤ 256) :
    Calls Try.prog 43 #[.pointer (some ⟨g, 0, none⟩), .int .i64 (k : Int)] X fun e w' => ∃ (k' : Nat) (M : List Nd) (nv' : Value) (pos' it' : Nat) (bad' : Int) (t' : T), e = .returned (.int .i64 (k' : Int)) ∧ Out W g s deep N X pos' it' bad' M nv' w' ∧ SufI s pos it t N M k' pos' it' bad' t' ∧
      (bad' = -1 → (∀ c, (xs s)[pos']? = some c → ¬ isSuf c) ∧ (xs s)[pos']? ≠ some 32) := by
  have HS := Lib.hid (Out.start h)
  have HI := Lib.hid (show SufI s pos it t N [] k pos it (-1) t from ⟨by rw [List.append_nil]; exact hk, by omega, Nat.le_refl _, hpos, by simp, by omega, .inl ⟨rfl, hpos, hit, fun _ _ _ => rfl⟩⟩)
  have hkl := hk.lt
  clear h hk
  go_enter Try.func43, Try.ntmps43
  go_wp2_with fail
  go_loopw [1] (fun v wr => ∃ (k' : Nat) (M : List Nd) (nv' : Value) (pos' it' : Nat) (bad' : Int) (t' : T), v = .int .i64 (k' : Int) ∧ Out W g s deep N X pos' it' bad' M nv' wr ∧ SufI s pos it t N M k' pos' it' bad' t') (fun _ wr => 2001 - posR g wr)
  case atStart => exact ⟨k, [], nv, pos, it, -1, t, rfl, HS.out, HI.out⟩
  case round =>
    obtain ⟨k', M, nv', p, i, b, t', rfl, hO, hI⟩ := hrel
    have HO := Lib.hid hO
    have HI2 := Lib.hid hI
    have q4 := Blk.f4 hO.rf.blk
    have hcnt := hI.cnt
    have hple := hI.le
    have hmu := posR_of hO.rf.blk
    have hit2 := hI.its
    by_cases hb : b < 0
    · have hb1 : b = -1 := by
        rcases hI.r with ⟨h, _⟩ | ⟨c, h, _⟩
        · exact h
        · omega
      subst hb1
      have HP := Lib.hid (peek_any wr g s p i deep _ _ hO.rf.blk (by omega) (by omega))
      clear hO hI HS HI
      go_wp2_with fail
      refine HP.out.mono ?_
      rintro e w1 ⟨q, rfl, hpk, hn32⟩
      have HO1 := Lib.hid (HO.out.put hpk.grow hpk.blk)
      have HPK := Lib.hid hpk
      have hge := hpk.ge
      have hqle : q ≤ s.size := by rcases hpk.le with h | h <;> omega
      have q1 := Blk.f1 hpk.blk
      have hf1 := hpk.blk.frozen 1
      have HIT := Lib.hid (ritem_any w1 g q s q i deep (-1) nv' hpk.blk (by omega))
      clear hpk q4
      by_cases hsf : ∃ c, (xs s)[q]? = some c ∧ isSuf c
      · obtain ⟨c, hc, hsc⟩ := hsf
        have hql : q < s.size := by have := (List.getElem?_eq_some_iff.1 hc).1; rw [xs_len] at this; exact this
        have HST := Lib.hid (fun nd h1 h2 => suf_step (nd := nd) HI2.out HPK.out.same hge hc hsc h1 h2)
        have hby : ((byteAt (xs s) q : Nat) : Int) = (c.toNat : Int) := by unfold byteAt; rw [hc]; rfl
        obtain ⟨b2, hb2⟩ : ∃ b2, b2 = if 48 ≤ i ∧ (-1 : Int) < 0 then (q : Int) else -1 := ⟨_, rfl⟩
        rw [← hb2] at HIT HST
        clear hb2 hn32 hc
        generalize byteAt (xs s) q = y at *
        rcases hsc with rfl | rfl | rfl
        · have hbyI : (y : Int) = 42 := hby
          clear hby
          go_wp2_with fail
          refine HIT.out.mono ?_
          rintro e w2 ⟨rfl, hb2, hg2⟩
          have HO2 := Lib.hid (HO1.out.put hg2 hb2)
          have q12 := Blk.f1 hb2
          have hf2 := hb2.frozen 1
          have HO3 := Lib.hid (HO2.out.put (only_set _ _ 1 _) (Blk.s1 HO2.out.rf.blk (q + 1)))
          clear hb2 hg2 q1 hf1
          go_upto_region 13 with fail
          have HO4 := Lib.hid (show Out W g s deep N X (q + 1) (i + 1) b2 M nv' (w2.setCell ⟨g, 1, none⟩ (.int .i64 ((q : Int) + 1))) from HO3.out)
          clear HO3 q12 hf2
          generalize World.setCell _ _ _ = w3 at *
          have HND := Lib.hid (node_any (HO4.out.rf.below ((Below.refl _ w3).alloc (Nat.le_refl _) (.cells #[.int .i64 (k' : Int)] 3))) ⟨6, ⟨#[]⟩, false, .slice (some ⟨w3.heap.size, 0, none⟩) 1 1, [k']⟩ (kid_one w3 k') (by rw [List.length_append]; omega))
          go_wp2_with fail
          refine HND.out.mono ?_
          rintro e w4 ⟨rfl, hR4, hF4⟩
          obtain ⟨v4, hO5⟩ := HO4.out.more hR4 ((Fr.below ((Below.refl _ w3).alloc (Nat.le_refl _) _)).trans hF4) (fun z hz => by cases hz; exact HO4.out.fr.1)
          have HO5 := Lib.hid hO5
          clear hR4 hF4 hO5
          go_wp2_with fail
          go_roundw
          case rel => exact ⟨(N ++ M).length, M ++ [⟨6, ⟨#[]⟩, false, .slice (some ⟨w3.heap.size, 0, none⟩) 1 1, [k']⟩], v4, q + 1, i + 1, b2, _, by simp, HO5.out, HST.out _ rfl rfl⟩
          case measure =>
            rw [posR_of HO5.out.rf.blk, hmu]
            omega
        · have hbyI : (y : Int) = 43 := hby
          clear hby
          go_wp2_with fail
          refine HIT.out.mono ?_
          rintro e w2 ⟨rfl, hb2, hg2⟩
          have HO2 := Lib.hid (HO1.out.put hg2 hb2)
          have q12 := Blk.f1 hb2
          have hf2 := hb2.frozen 1
          have HO3 := Lib.hid (HO2.out.put (only_set _ _ 1 _) (Blk.s1 HO2.out.rf.blk (q + 1)))
          clear hb2 hg2 q1 hf1
          go_upto_region 13 with fail
          have HO4 := Lib.hid (show Out W g s deep N X (q + 1) (i + 1) b2 M nv' (w2.setCell ⟨g, 1, none⟩ (.int .i64 ((q : Int) + 1))) from HO3.out)
          clear HO3 q12 hf2
          generalize World.setCell _ _ _ = w3 at *
          have HND := Lib.hid (node_any (HO4.out.rf.below ((Below.refl _ w3).alloc (Nat.le_refl _) (.cells #[.int .i64 (k' : Int)] 3))) ⟨7, ⟨#[]⟩, false, .slice (some ⟨w3.heap.size, 0, none⟩) 1 1, [k']⟩ (kid_one w3 k') (by rw [List.length_append]; omega))
          go_wp2_with fail
          refine HND.out.mono ?_
          rintro e w4 ⟨rfl, hR4, hF4⟩
          obtain ⟨v4, hO5⟩ := HO4.out.more hR4 ((Fr.below ((Below.refl _ w3).alloc (Nat.le_refl _) _)).trans hF4) (fun z hz => by cases hz; exact HO4.out.fr.1)
          have HO5 := Lib.hid hO5
          clear hR4 hF4 hO5
          go_wp2_with fail
          go_roundw
          case rel => exact ⟨(N ++ M).length, M ++ [⟨7, ⟨#[]⟩, false, .slice (some ⟨w3.heap.size, 0, none⟩) 1 1, [k']⟩], v4, q + 1, i + 1, b2, _, by simp, HO5.out, HST.out _ rfl rfl⟩
          case measure =>
            rw [posR_of HO5.out.rf.blk, hmu]
            omega
        · have hbyI : (y : Int) = 63 := hby
          clear hby
          go_wp2_with fail
          refine HIT.out.mono ?_
          rintro e w2 ⟨rfl, hb2, hg2⟩
          have HO2 := Lib.hid (HO1.out.put hg2 hb2)
          have q12 := Blk.f1 hb2
          have hf2 := hb2.frozen 1
          have HO3 := Lib.hid (HO2.out.put (only_set _ _ 1 _) (Blk.s1 HO2.out.rf.blk (q + 1)))
          clear hb2 hg2 q1 hf1
          go_upto_region 13 with fail
          have HO4 := Lib.hid (show Out W g s deep N X (q + 1) (i + 1) b2 M nv' (w2.setCell ⟨g, 1, none⟩ (.int .i64 ((q : Int) + 1))) from HO3.out)
          clear HO3 q12 hf2
          generalize World.setCell _ _ _ = w3 at *
          have HND := Lib.hid (node_any (HO4.out.rf.below ((Below.refl _ w3).alloc (Nat.le_refl _) (.cells #[.int .i64 (k' : Int)] 3))) ⟨8, ⟨#[]⟩, false, .slice (some ⟨w3.heap.size, 0, none⟩) 1 1, [k']⟩ (kid_one w3 k') (by rw [List.length_append]; omega))
          go_wp2_with fail
          refine HND.out.mono ?_
          rintro e w4 ⟨rfl, hR4, hF4⟩
          obtain ⟨v4, hO5⟩ := HO4.out.more hR4 ((Fr.below ((Below.refl _ w3).alloc (Nat.le_refl _) _)).trans hF4) (fun z hz => by cases hz; exact HO4.out.fr.1)
          have HO5 := Lib.hid hO5
          clear hR4 hF4 hO5
          go_wp2_with fail
          go_roundw
          case rel => exact ⟨(N ++ M).length, M ++ [⟨8, ⟨#[]⟩, false, .slice (some ⟨w3.heap.size, 0, none⟩) 1 1, [k']⟩], v4, q + 1, i + 1, b2, _, by simp, HO5.out, HST.out _ rfl rfl⟩
          case measure =>
            rw [posR_of HO5.out.rf.blk, hmu]
            omega
      · have hns : ∀ c, isSuf c → ¬ byteAt (xs s) q = c.toNat := fun c hc h => hsf ⟨c, byte_of (by rcases hc with rfl | rfl | rfl <;> decide) h, hc⟩
        have h42 : ¬ ((byteAt (xs s) q : Nat) : Int) = 42 := fun h => hns 42 (.inl rfl) (by have : (42 : UInt8).toNat = 42 := rfl; omega)
        have h43 : ¬ ((byteAt (xs s) q : Nat) : Int) = 43 := fun h => hns 43 (.inr (.inl rfl)) (by have : (43 : UInt8).toNat = 43 := rfl; omega)
        have h63 : ¬ ((byteAt (xs s) q : Nat) : Int) = 63 := fun h => hns 63 (.inr (.inr rfl)) (by have : (63 : UInt8).toNat = 63 := rfl; omega)
        have HSF := Lib.hid hsf
        have HN32 := Lib.hid hn32
        clear hsf hns hn32
        generalize hyy : byteAt (xs s) q = y at *
        clear hyy
        go_wp2_with fail
        go_ret
        exact ⟨k', M, nv', q, i, -1, t', rfl, HO1.out, suf_peek HI2.out HPK.out.same hge hqle, fun _ => ⟨fun c hc hs => HSF.out ⟨c, hc, hs⟩, HN32.out⟩⟩
    · clear hO hI
      go_wp2_with fail
      go_ret
      exact ⟨k', rfl, M, nv', p, i, b, HO.out, ⟨t', HI2.out⟩, fun h => absurd h (by omega)⟩
end Go.Proofs.Ytlbkacabcfeaiaa.Tl
/- Patterns: the reference's atoms. -/
namespace Go.Proofs.Ytlbkacabcfeaiaa.Tl
open Go.RowKit Mm
set_option linter.unusedVariables false
/-- how far a pattern is read -/
def PatR (s : ByteArray) (deep pos it : Nat) (N M : List Nd) (k pos' it' : Nat) (bad' : Int) : Prop :=
  (bad' = -1 ∧ pos' ≤ s.size ∧ it' ≤ 48 ∧ ∃ ch ps, Den (N ++ M) k (whole ch ps) ∧ bdL ch + bdL ps + 16 * pos ≤ 16 * pos' ∧ ((xs s)[pos']? = none ∨ (xs s)[pos']? = some 41) ∧ ∀ stk : List (List T × List T), stk.length = deep → res (xs s) ⟨pos, it, stk, [], []⟩ = res (xs s) ⟨pos', it', stk, ch, ps⟩) ∨
  (∃ b : Nat, bad' = (b : Int) ∧ pos' + deep ≤ s.size + 33 ∧ it' ≤ 49 ∧ ∀ stk : List (List T × List T), stk.length = deep → res (xs s) ⟨pos, it, stk, [], []⟩ = .err b)
def PatQ (W X : World) (g : Nat) (s : ByteArray) (deep : Nat) (N : List Nd) (pos it : Nat) (e : Ending) (w' : World) : Prop :=
  ∃ (k : Nat) (M : List Nd) (nv' : Value) (pos' it' : Nat) (bad' : Int), e = .returned (.int .i64 (k : Int)) ∧ Out W g s deep N X pos' it' bad' M nv' w' ∧ pos ≤ pos' ∧ M.length + 4 * pos ≤ 4 * pos' + 2 ∧ PatR s deep pos it N M k pos' it' bad'
def PatC (s : ByteArray) (n : Nat) : Prop := ∀ (W X : World) (g pos it deep : Nat) (N : List Nd) (nv : Value), Rf W g s pos it deep (-1) N nv X → pos ≤ s.size → s.size - pos ≤ n → it ≤ 48 → deep ≤ 32 → N.length ≤ 4 * pos + 4 →
  Calls Try.prog 19 #[.pointer (some ⟨g, 0, none⟩)] X (PatQ W X g s deep N pos it)
/-- how far an atom is read -/
def AtomR (s : ByteArray) (deep pos it : Nat) (ps : List T) (N M : List Nd) (k pos' it' : Nat) (bad' : Int) : Prop :=
  (bad' = -1 ∧ pos' ≤ s.size ∧ it' ≤ 48 ∧ ∃ t, Den (N ++ M) k t ∧ bd t + 16 * pos ≤ 16 * pos' ∧ ∀ (stk : List (List T × List T)) (ch : List T), stk.length = deep → res (xs s) ⟨pos, it, stk, ch, ps⟩ = res (xs s) ⟨pos', it', stk, ch, ps ++ [t]⟩) ∨
  (∃ b : Nat, bad' = (b : Int) ∧ pos' + deep ≤ s.size + 33 ∧ it' ≤ 49 ∧ ∀ (stk : List (List T × List T)) (ch : List T), stk.length = deep → res (xs s) ⟨pos, it, stk, ch, ps⟩ = .err b)
def AtomQ (W X : World) (g : Nat) (s : ByteArray) (deep : Nat) (N : List Nd) (pos it : Nat) (ps : List T) (e : Ending) (w' : World) : Prop :=
  ∃ (k : Nat) (M : List Nd) (nv' : Value) (pos' it' : Nat) (bad' : Int), e = .returned (.int .i64 (k : Int)) ∧ Out W g s deep N X pos' it' bad' M nv' w' ∧ pos ≤ pos' ∧ M.length + 4 * pos ≤ 4 * pos' ∧ AtomR s deep pos it ps N M k pos' it' bad'
theorem item_bad {i p : Nat} (h : i ≤ 48) : (if 48 ≤ i ∧ (-1 : Int) < 0 then (p : Int) else -1) = if 48 ≤ i then (p : Int) else -1 := by
  by_cases h1 : 48 ≤ i
  · rw [if_pos h1, if_pos ⟨h1, by decide⟩]
  · rw [if_neg h1, if_neg (fun h2 => h1 h2.1)]
section
variable {W X : World} {g : Nat} {s : ByteArray} {pos it deep : Nat} {N : List Nd} {nv : Value} {ps : List T}
set_option maxRecDepth 100000 in
set_option maxHeartbeats 8000000 in
theorem atom_dot (h : Rf W g s pos it deep (-1) N nv X) (hc : (xs s)[pos]? = some 46) (hit : it ≤ 48) (hdp : deep ≤ 32) (hN : N.length ≤ 90000) (hs : s.size ≤ 256) :
    Calls Try.prog 42 #[.pointer (some ⟨g, 0, none⟩), .int .u8 46] X (AtomQ W X g s deep N pos it ps) := by
  have hpl : pos < s.size := by have := (List.getElem?_eq_some_iff.1 hc).1; rw [xs_len] at this; exact this
  have HO := Lib.hid (Out.start h)
  have q1 := Blk.f1 h.blk
  have HIT := Lib.hid (ritem_any X g pos s _ _ _ _ _ h.blk (by omega))
  rw [item_bad hit] at HIT
  have HR := Lib.hid (show AtomR s deep pos it ps N [⟨1, ⟨#[]⟩, false, .slice none 0 0, []⟩] N.length (pos + 1) (it + 1) (if 48 ≤ it then (pos : Int) else -1) from by
    by_cases h48 : 48 ≤ it
    · rw [if_pos h48]
      exact .inr ⟨pos, rfl, by omega, by omega, fun stk ch _ => st_46e hc h48⟩
    · rw [if_neg h48]
      exact .inl ⟨rfl, by omega, by omega, .leaf [46] false false false, .any _ _ (snoc_get N _) rfl, by simp only [bd, List.length_cons, List.length_nil]; omega, fun stk ch _ => res_inl (st_46 hc (by omega))⟩)
  generalize (if 48 ≤ it then (pos : Int) else -1) = b at *
  clear h hc
  go_enter Try.func42, Try.ntmps42
  go_wp2_with fail
  refine HIT.out.mono ?_
  rintro e w1 ⟨rfl, hb1, hg1⟩
  have HO1 := Lib.hid (HO.out.put hg1 hb1)
  have q11 := Blk.f1 hb1
  have hf1 := hb1.frozen 1
  have HO2 := Lib.hid (HO1.out.put (only_set _ _ 1 _) (Blk.s1 HO1.out.rf.blk (pos + 1)))
  clear hb1 hg1 q1
  go_upto_region 4 with fail
  have HO3 := Lib.hid (show Out W g s deep N X (pos + 1) (it + 1) b [] nv (w1.setCell ⟨g, 1, none⟩ (.int .i64 ((pos : Int) + 1))) from HO2.out)
  clear HO2 q11 hf1
  generalize World.setCell _ _ _ = w2 at *
  have HND := Lib.hid (node_any HO3.out.rf ⟨1, ⟨#[]⟩, false, .slice none 0 0, []⟩ (kid_nil _) (by rw [List.append_nil]; omega))
  rw [List.append_nil] at HND
  go_wp2_with fail
  refine HND.out.mono ?_
  rintro e w3 ⟨rfl, hR3, hF3⟩
  obtain ⟨v3, hO3⟩ := HO3.out.more (nd := ⟨1, ⟨#[]⟩, false, .slice none 0 0, []⟩) (by rw [List.append_nil]; exact hR3) hF3 (fun z hz => by cases hz)
  have HO4 := Lib.hid hO3
  clear hR3 hF3 hO3
  go_wp2_with fail
  go_ret
  exact ⟨_, _, _, _, _, _, rfl, HO4.out, by omega, by simp; omega, HR.out⟩
theorem letter_other {c : UInt8} (h : isLetter c = true) : Other c := by
  refine ⟨?_, ?_, ?_, ?_, ?_, ?_, ?_, ?_, ?_⟩ <;> (rintro rfl; exact absurd h (by decide))
/-- a name read behind an item -/
theorem nam_res {deny : Bool} {i : Nat} (hl : atB isLetter (xs s) i = true) (hpi : pos ≤ i) (hs : s.size ≤ 256) (hdp : deep ≤ 32) (hit : it ≤ 48)
    (h1 : it < 48 → ∀ (stk : List (List T × List T)) (ch : List T), res (xs s) ⟨pos, it, stk, ch, ps⟩ = namR (xs s) ⟨i, it + 1, stk, ch, ps⟩ deny)
    (h2 : 48 ≤ it → ∀ (stk : List (List T × List T)) (ch : List T), res (xs s) ⟨pos, it, stk, ch, ps⟩ = .err pos) :
    AtomR s deep pos it ps N [namN s i deny] N.length (nameEnd (xs s) i) (it + 1) (if nameLong (xs s) i = true ∧ (if 48 ≤ it then (pos : Int) else -1) < 0 then (i : Int) else if 48 ≤ it then (pos : Int) else -1) := by
  have hne := name_end hl
  have hxl := xs_len s
  by_cases h48 : 48 ≤ it
  · rw [if_pos h48, if_neg (fun h => by have := h.2; omega)]
    exact .inr ⟨pos, rfl, by omega, by omega, fun stk ch _ => h2 h48 stk ch⟩
  · rw [if_neg h48]
    by_cases hlg : nameLong (xs s) i = true
    · rw [if_pos ⟨hlg, by decide⟩]
      refine .inr ⟨i, rfl, by omega, by omega, fun stk ch _ => ?_⟩
      rw [h1 (by omega)]
      unfold namR
      rw [if_pos hlg]
    · rw [if_neg (fun h => hlg h.1)]
      refine .inl ⟨rfl, by omega, by omega, nameT (xs s) i deny, nam_den N s i deny (by omega) (by omega), ?_, fun stk ch _ => ?_⟩
      · unfold nameT
        simp only [bd, List.length_take, List.length_drop]
        omega
      · rw [h1 (by omega)]
        unfold namR
        rw [if_neg hlg]
set_option maxRecDepth 100000 in
set_option maxHeartbeats 8000000 in
theorem atom_let (h : Rf W g s pos it deep (-1) N nv X) {c : UInt8} (hc : (xs s)[pos]? = some c) (hlet : isLetter c = true) (hit : it ≤ 48) (hdp : deep ≤ 32) (hN : N.length ≤ 90000) (hs : s.size ≤ 256) :
    Calls Try.prog 42 #[.pointer (some ⟨g, 0, none⟩), .int .u8 (c.toNat : Int)] X (AtomQ W X g s deep N pos it ps) := by
  have hpl : pos < s.size := by have := (List.getElem?_eq_some_iff.1 hc).1; rw [xs_len] at this; exact this
  have hat : atB isLetter (xs s) pos = true := by unfold atB; rw [hc]; exact hlet
  have hot := letter_other hlet
  have HO := Lib.hid (Out.start h)
  have q1 := Blk.f1 h.blk
  have HIT := Lib.hid (ritem_any X g pos s _ _ _ _ _ h.blk (by omega))
  rw [item_bad hit] at HIT
  have hne := name_end hat
  have HLT := Lib.hid (rletter_any c X)
  rw [hlet] at HLT
  have HR := Lib.hid (nam_res (N := N) (deny := false) (ps := ps) hat (Nat.le_refl _) hs hdp hit (fun h => fun stk ch => st_let hot hc h hlet) (fun h => fun stk ch => st_lete hot hc (by rw [hlet, decide_eq_false (by omega)]; rfl)))
  have hb : ¬ ((c.toNat : Nat) : Int) = 46 := fun e => hot.2.2.2.2.2.2.2.1 (UInt8.toNat_inj.1 (by have : (46 : UInt8).toNat = 46 := rfl; omega))
  have HNM := Lib.hid (fun (w : World) (b : Int) (h : Rf W g s pos (it + 1) deep b N nv w) => rname_any h (by omega) hat (by omega) false)
  generalize (if 48 ≤ it then (pos : Int) else -1) = b at *
  clear h hc hlet hot hat
  go_enter Try.func42, Try.ntmps42
  go_wp2_with fail
  refine HLT.out.mono ?_
  rintro e w0 ⟨rfl, rfl⟩
  go_wp2_with fail
  refine HIT.out.mono ?_
  rintro e w1 ⟨rfl, hb1, hg1⟩
  have HO1 := Lib.hid (HO.out.put hg1 hb1)
  have HR1 := Lib.hid (show Rf W g s pos (it + 1) deep b N nv w1 from by have := HO1.out.rf; rw [List.append_nil] at this; exact this)
  clear hb1 hg1 q1
  go_wp2_with fail
  refine (HNM.out _ _ HR1.out).mono ?_
  rintro e w3 ⟨rfl, ⟨v3, hR3⟩, hF3⟩
  have HO4 := Lib.hid (show Out W g s deep N X _ _ _ [namN s pos false] v3 w3 from ⟨hR3, HO1.out.fr.trans hF3, NewK.one (fun z hz => by cases hz)⟩)
  clear hR3 hF3
  go_wp2_with fail
  go_ret
  exact ⟨_, _, _, _, _, _, rfl, HO4.out, by omega, by simp only [List.length_cons, List.length_nil]; omega, HR.out⟩
end
end Go.Proofs.Ytlbkacabcfeaiaa.Tl
/- Patterns: the reference's atoms: denials, brackets, what is no atom. -/
namespace Go.Proofs.Ytlbkacabcfeaiaa.Tl
open Go.RowKit Mm
set_option linter.unusedVariables false
section
variable {W X : World} {g : Nat} {s : ByteArray} {pos it deep : Nat} {N : List Nd} {nv : Value} {ps : List T}
set_option maxRecDepth 100000 in
set_option maxHeartbeats 8000000 in
theorem atom_bad (h : Rf W g s pos it deep (-1) N nv X) {c : UInt8} (hc : (xs s)[pos]? = some c) (hlet : isLetter c = false) (h46 : c ≠ 46) (h33 : c ≠ 33) (h40 : c ≠ 40) (h32 : c ≠ 32) (h41 : c ≠ 41) (h124 : c ≠ 124) (hsf : isSuf c → ps = []) (hit : it ≤ 48) (hdp : deep ≤ 32) (hs : s.size ≤ 256) :
    Calls Try.prog 42 #[.pointer (some ⟨g, 0, none⟩), .int .u8 (c.toNat : Int)] X (AtomQ W X g s deep N pos it ps) := by
  have hpl : pos < s.size := by have := (List.getElem?_eq_some_iff.1 hc).1; rw [xs_len] at this; exact this
  have HO := Lib.hid (Out.start h)
  have q1 := Blk.f1 h.blk
  have HRF := Lib.hid (refuse_any X g pos s _ _ _ _ _ h.blk)
  rw [if_pos (by decide)] at HRF
  have HLT := Lib.hid (rletter_any c X)
  rw [hlet] at HLT
  have HR := Lib.hid (show AtomR s deep pos it ps N [] 0 pos it (pos : Int) from .inr ⟨pos, rfl, by omega, by omega, fun stk ch _ => by
    by_cases hs : isSuf c
    · exact st_42e hs hc (.inl (hsf hs))
    · exact st_lete ⟨h32, h40, h41, fun e => hs (.inl e), fun e => hs (.inr (.inl e)), fun e => hs (.inr (.inr e)), h124, h46, h33⟩ hc (by rw [hlet]; rfl)⟩)
  have b46 : ¬ ((c.toNat : Nat) : Int) = 46 := fun e => h46 (UInt8.toNat_inj.1 (by have : (46 : UInt8).toNat = 46 := rfl; omega))
  have b33 : ¬ ((c.toNat : Nat) : Int) = 33 := fun e => h33 (UInt8.toNat_inj.1 (by have : (33 : UInt8).toNat = 33 := rfl; omega))
  have b40 : ¬ ((c.toNat : Nat) : Int) = 40 := fun e => h40 (UInt8.toNat_inj.1 (by have : (40 : UInt8).toNat = 40 := rfl; omega))
  clear h hc hlet h46 h33 h40 h32 h41 h124 hsf
  go_enter Try.func42, Try.ntmps42
  go_wp2_with fail
  refine HLT.out.mono ?_
  rintro e w0 ⟨rfl, rfl⟩
  go_wp2_with fail
  refine HRF.out.mono ?_
  rintro e w1 ⟨rfl, hb1, hg1⟩
  have HO1 := Lib.hid (HO.out.put hg1 hb1)
  clear hb1 hg1
  go_wp2_with fail
  go_ret
  exact ⟨0, [], _, _, _, _, rfl, HO1.out, Nat.le_refl _, by simp, HR.out⟩
set_option maxRecDepth 100000 in
set_option maxHeartbeats 8000000 in
theorem atom_not (h : Rf W g s pos it deep (-1) N nv X) (hc : (xs s)[pos]? = some 33) (hit : it ≤ 48) (hdp : deep ≤ 32) (hN : N.length ≤ 90000) (hs : s.size ≤ 256) :
    Calls Try.prog 42 #[.pointer (some ⟨g, 0, none⟩), .int .u8 33] X (AtomQ W X g s deep N pos it ps) := by
  have hpl : pos < s.size := by have := (List.getElem?_eq_some_iff.1 hc).1; rw [xs_len] at this; exact this
  have HO := Lib.hid (Out.start h)
  have q1 := Blk.f1 h.blk
  have HIT := Lib.hid (ritem_any X g pos s _ _ _ _ _ h.blk (by omega))
  rw [item_bad hit] at HIT
  have HLT := Lib.hid (show Calls Try.prog 47 #[.int .u8 33] X fun e w' => e = .returned (.bool false) ∧ X = w' from rletter_any 33 X)
  have HE := Lib.hid (fun (hl : atB isLetter (xs s) (pos + 1) = true) => nam_res (N := N) (deny := true) (ps := ps) hl (Nat.le_succ pos) hs hdp hit (fun h => fun stk ch => st_33 hc h hl) (fun h => fun stk ch => st_33e hc h))
  have HF := Lib.hid (show atB isLetter (xs s) (pos + 1) = false → AtomR s deep pos it ps N [] 0 (pos + 1) (it + 1) (if (if 48 ≤ it then (pos : Int) else -1) < 0 then ((pos + 1 : Nat) : Int) else if 48 ≤ it then (pos : Int) else -1) from fun hl => by
    by_cases h48 : 48 ≤ it
    · rw [if_pos h48, if_neg (by omega)]
      exact .inr ⟨pos, rfl, by omega, by omega, fun stk ch _ => st_33e hc h48⟩
    · rw [if_neg h48, if_pos (by decide)]
      exact .inr ⟨pos + 1, rfl, by omega, by omega, fun stk ch _ => st_33f hc (by omega) hl⟩)
  generalize (if 48 ≤ it then (pos : Int) else -1) = b at *
  clear h hc
  go_enter Try.func42, Try.ntmps42
  go_wp2_with fail
  refine HLT.out.mono ?_
  rintro e w0 ⟨rfl, rfl⟩
  go_wp2_with fail
  refine HIT.out.mono ?_
  rintro e w1 ⟨rfl, hb1, hg1⟩
  have HO1 := Lib.hid (HO.out.put hg1 hb1)
  have q11 := Blk.f1 hb1
  have hf1 := hb1.frozen 1
  have HO2 := Lib.hid (HO1.out.put (only_set _ _ 1 _) (Blk.s1 HO1.out.rf.blk (pos + 1)))
  clear hb1 hg1 q1
  go_upto_region 11 with fail
  have HO3 := Lib.hid (show Out W g s deep N X (pos + 1) (it + 1) b [] nv (w1.setCell ⟨g, 1, none⟩ (.int .i64 ((pos : Int) + 1))) from HO2.out)
  clear HO2 q11 hf1
  generalize World.setCell _ _ _ = w2 at *
  have q12 := Blk.f1 HO3.out.rf.blk
  have HLA := Lib.hid (letterAt_any w2 g (pos + 1) s _ _ _ _ _ HO3.out.rf.blk (by omega) (by omega))
  have HRF := Lib.hid (refuse_any w2 g (pos + 1) s _ _ _ _ _ HO3.out.rf.blk)
  have HR3 := Lib.hid (show Rf W g s (pos + 1) (it + 1) deep b N nv w2 from by have := HO3.out.rf; rw [List.append_nil] at this; exact this)
  cases hl : atB isLetter (xs s) (pos + 1) with
  | false =>
    rw [hl] at HLA
    have HR := Lib.hid (HF.out hl)
    obtain ⟨b2, hb2⟩ : ∃ b2, b2 = if b < 0 then ((pos + 1 : Nat) : Int) else b := ⟨_, rfl⟩
    rw [← hb2] at HR HRF
    clear hb2 hl
    go_wp2_with fail
    refine HLA.out.mono ?_
    rintro e w3 ⟨rfl, rfl⟩
    go_wp2_with fail
    refine HRF.out.mono ?_
    rintro e w3 ⟨rfl, hb3, hg3⟩
    have HO4 := Lib.hid (HO3.out.put hg3 hb3)
    clear hb3 hg3
    go_wp2_with fail
    go_ret
    exact ⟨0, [], _, _, _, _, rfl, HO4.out, by omega, by simp only [List.length_nil]; omega, HR.out⟩
  | true =>
    rw [hl] at HLA
    have HR := Lib.hid (HE.out hl)
    have hne := name_end hl
    have HNM := Lib.hid (rname_any HR3.out (by omega) hl (by omega) true)
    clear hl
    go_wp2_with fail
    refine HLA.out.mono ?_
    rintro e w3 ⟨rfl, rfl⟩
    go_wp2_with fail
    refine HNM.out.mono ?_
    rintro e w3 ⟨rfl, ⟨v3, hR4⟩, hF4⟩
    have HO4 := Lib.hid (show Out W g s deep N X _ _ _ [namN s (pos + 1) true] v3 w3 from ⟨hR4, HO3.out.fr.trans hF4, NewK.one (fun z hz => by cases hz)⟩)
    clear hR4 hF4
    go_wp2_with fail
    go_ret
    exact ⟨_, _, _, _, _, _, rfl, HO4.out, by omega, by simp only [List.length_cons, List.length_nil]; omega, HR.out⟩
theorem NewK.mono {X Y : World} {M : List Nd} (h : NewK Y M) (hs : X.heap.size ≤ Y.heap.size) : NewK X M := fun d hd g hg => Nat.le_trans hs (h d hd g hg)
theorem open_res {p q i k : Nat} {M : List Nd} {b : Int} (hR : PatR s (deep + 1) (pos + 1) it N M k p i b) (hge : p ≤ q) (hle : q ≤ s.size ∨ q = p) (hst : (xs s)[p]? ≠ some 32 → q = p) (hc : (xs s)[pos]? = some 40) (hd : deep < 32) :
    AtomR s deep pos it ps N M k (q + 1) i (if byteAt (xs s) q = 41 then b else if b < 0 then (q : Int) else b) := by
  have h40 : ∀ (stk : List (List T × List T)) (ch : List T), stk.length = deep → res (xs s) ⟨pos, it, stk, ch, ps⟩ = res (xs s) ⟨pos + 1, it, stk ++ [(ch, ps)], [], []⟩ := fun stk ch hl => res_inl (st_40 hc (by omega))
  rcases hR with ⟨rfl, h1, h2, ch', ps', hden, hbd, hend, hres⟩ | ⟨b0, rfl, h1, h2, hres⟩
  · rcases hend with hx | hx
    · obtain rfl := hst (by rw [hx]; intro h; cases h)
      have hby : ¬ byteAt (xs s) q = 41 := by unfold byteAt; rw [hx]; decide
      rw [if_neg hby, if_pos (by decide)]
      refine .inr ⟨q, rfl, by omega, by omega, fun stk ch hl => ?_⟩
      rw [h40 stk ch hl, hres _ (by simp [hl]), st_end hx, if_neg (by simp)]
    · obtain rfl := hst (by rw [hx]; intro h; cases h)
      have hby : byteAt (xs s) q = 41 := by unfold byteAt; rw [hx]; rfl
      have hql : q < s.size := by have := (List.getElem?_eq_some_iff.1 hx).1; rw [xs_len] at this; exact this
      rw [if_pos hby]
      have hw := bd_whole ch' ps'
      refine .inl ⟨rfl, by omega, h2, whole ch' ps', hden, by omega, fun stk ch hl => ?_⟩
      rw [h40 stk ch hl, hres _ (by simp [hl])]
      exact res_inl (st_41 hx)
  · have hb : (if byteAt (xs s) q = 41 then (b0 : Int) else if (b0 : Int) < 0 then (q : Int) else (b0 : Int)) = (b0 : Int) := by
      rw [if_neg (show ¬ (b0 : Int) < 0 from by omega)]
      split <;> rfl
    rw [hb]
    refine .inr ⟨b0, rfl, by omega, h2, fun stk ch hl => ?_⟩
    rw [h40 stk ch hl]
    exact hres _ (by simp [hl])
set_option maxRecDepth 100000 in
set_option maxHeartbeats 8000000 in
theorem atom_open {n : Nat} (hp : ∀ m, m < n → PatC s m) (h : Rf W g s pos it deep (-1) N nv X) (hc : (xs s)[pos]? = some 40) (hn : s.size - pos ≤ n) (hit : it ≤ 48) (hdp : deep ≤ 32) (hN : N.length ≤ 4 * pos + 4) (hs : s.size ≤ 256) :
    Calls Try.prog 42 #[.pointer (some ⟨g, 0, none⟩), .int .u8 40] X (AtomQ W X g s deep N pos it ps) := by
  have hpl : pos < s.size := by have := (List.getElem?_eq_some_iff.1 hc).1; rw [xs_len] at this; exact this
  have HO := Lib.hid (Out.start h)
  have q1 := Blk.f1 h.blk
  have q3 := Blk.f3 h.blk
  have hf1 := h.blk.frozen 1
  have hf3 := h.blk.frozen 3
  have HLT := Lib.hid (show Calls Try.prog 47 #[.int .u8 40] X fun e w' => e = .returned (.bool false) ∧ X = w' from rletter_any 40 X)
  by_cases hd : 32 ≤ deep
  · have HRF := Lib.hid (refuse_any X g pos s _ _ _ _ _ h.blk)
    rw [if_pos (by decide)] at HRF
    have HR := Lib.hid (show AtomR s deep pos it ps N [] 0 pos it (pos : Int) from .inr ⟨pos, rfl, by omega, by omega, fun stk ch hl => st_40e hc (by omega)⟩)
    clear h hc hp
    go_enter Try.func42, Try.ntmps42
    go_wp2_with fail
    refine HLT.out.mono ?_
    rintro e w0 ⟨rfl, rfl⟩
    go_wp2_with fail
    refine HRF.out.mono ?_
    rintro e w1 ⟨rfl, hb1, hg1⟩
    have HO1 := Lib.hid (HO.out.put hg1 hb1)
    clear hb1 hg1
    go_wp2_with fail
    go_ret
    exact ⟨0, [], _, _, _, _, rfl, HO1.out, Nat.le_refl _, by simp, HR.out⟩
  · obtain ⟨h1, f1⟩ := h.put (only_set X g 1 (.int .i64 ((pos : Int) + 1))) (Blk.s1 h.blk (pos + 1))
    obtain ⟨h2, f2⟩ := h1.put (only_set _ g 3 (.int .i64 ((deep : Int) + 1))) (Blk.s3 h1.blk (deep + 1))
    have HF2 := Lib.hid (f1.trans f2)
    have HPT := Lib.hid (hp (n - 1) (by omega) W _ g (pos + 1) it (deep + 1) N nv h2 (by omega) (by omega) hit (by omega) (by omega))
    have HH2 := Lib.hid h2
    clear h hp h1 h2 f1 f2
    go_enter Try.func42, Try.ntmps42
    go_wp2_with fail
    refine HLT.out.mono ?_
    rintro e w0 ⟨rfl, rfl⟩
    go_wp2_with fail
    generalize (X.setCell ⟨g, 1, none⟩ (.int .i64 ((pos : Int) + 1))).setCell ⟨g, 3, none⟩ (.int .i64 ((deep : Int) + 1)) = w2 at *
    refine HPT.out.mono ?_
    rintro e w3 ⟨k, M, nv', p, i, b, rfl, hO3, hpge, hcnt, hR⟩
    have hp2 : p ≤ 300 := by
      rcases hR with ⟨_, h, _⟩ | ⟨_, _, h, _⟩ <;> omega
    have HPK := Lib.hid (peek_any w3 g s p i (deep + 1) b nv' hO3.rf.blk (by omega) (by omega))
    have HO3 := Lib.hid hO3
    have HR := Lib.hid hR
    clear hO3 hR
    go_wp2_with fail
    refine HPK.out.mono ?_
    rintro e w4 ⟨q, rfl, hpk, hn32⟩
    have hge := hpk.ge
    have hqle : q ≤ 300 := by rcases hpk.le with h | h <;> omega
    have HAR := Lib.hid (open_res (ps := ps) HR.out hge hpk.le hpk.stay hc (by omega))
    have HO4 := Lib.hid (HO3.out.put hpk.grow hpk.blk)
    have HRF := Lib.hid (refuse_any w4 g q s q i (deep + 1) b nv' hpk.blk)
    have q14 := Blk.f1 hpk.blk
    clear hpk hn32 HPT HR HPK
    obtain ⟨b2, hb2⟩ : ∃ b2, b2 = if byteAt (xs s) q = 41 then b else if b < 0 then (q : Int) else b := ⟨_, rfl⟩
    rw [← hb2] at HAR
    by_cases h41 : byteAt (xs s) q = 41
    · rw [if_pos h41] at hb2
      subst hb2
      have hI : ((byteAt (xs s) q : Nat) : Int) = 41 := by omega
      clear h41 q14
      generalize byteAt (xs s) q = y at *
      have q41 := Blk.f1 HO4.out.rf.blk
      have q43 := Blk.f3 HO4.out.rf.blk
      have f41 := HO4.out.rf.blk.frozen 1
      have f43 := HO4.out.rf.blk.frozen 3
      obtain ⟨h6, f6⟩ := HO4.out.rf.put (only_set _ g 1 (.int .i64 ((q : Int) + 1))) (Blk.s1 HO4.out.rf.blk (q + 1))
      obtain ⟨h7, f7⟩ := h6.put (only_set _ g 3 (.int .i64 (deep : Int))) (Blk.s3 h6.blk deep)
      have HO7 := Lib.hid (show Out W g s deep N X (q + 1) i b2 M nv' _ from ⟨h7, ((HF2.out.trans HO4.out.fr).trans f6).trans f7, HO4.out.nk.mono HF2.out.1⟩)
      clear h6 f6 h7 f7
      go_wp2_with fail
      go_ret
      exact ⟨k, M, nv', q + 1, i, b2, rfl, HO7.out, by omega, by omega, HAR.out⟩
    · rw [if_neg h41] at hb2
      rw [← hb2] at HRF
      clear hb2
      have hI : ¬ ((byteAt (xs s) q : Nat) : Int) = 41 := by omega
      clear h41
      generalize byteAt (xs s) q = y at *
      go_wp2_with fail
      refine HRF.out.mono ?_
      rintro e w5 ⟨rfl, hb5, hg5⟩
      have HO5 := Lib.hid (HO4.out.put hg5 hb5)
      clear hb5 hg5 q14
      have q51 := Blk.f1 HO5.out.rf.blk
      have q53 := Blk.f3 HO5.out.rf.blk
      have f51 := HO5.out.rf.blk.frozen 1
      have f53 := HO5.out.rf.blk.frozen 3
      obtain ⟨h6, f6⟩ := HO5.out.rf.put (only_set _ g 1 (.int .i64 ((q : Int) + 1))) (Blk.s1 HO5.out.rf.blk (q + 1))
      obtain ⟨h7, f7⟩ := h6.put (only_set _ g 3 (.int .i64 (deep : Int))) (Blk.s3 h6.blk deep)
      have HO7 := Lib.hid (show Out W g s deep N X (q + 1) i b2 M nv' _ from ⟨h7, ((HF2.out.trans HO5.out.fr).trans f6).trans f7, HO5.out.nk.mono HF2.out.1⟩)
      clear h6 f6 h7 f7
      go_wp2_with fail
      go_ret
      exact ⟨k, M, nv', q + 1, i, b2, rfl, HO7.out, by omega, by omega, HAR.out⟩
end
end Go.Proofs.Ytlbkacabcfeaiaa.Tl
/- Patterns: the reference's lines. -/
namespace Go.Proofs.Ytlbkacabcfeaiaa.Tl
open Go.RowKit Mm
set_option linter.unusedVariables false
theorem atom_any {W X : World} {g : Nat} {s : ByteArray} {pos it deep : Nat} {N : List Nd} {nv : Value} {ps : List T} {n : Nat} (hp : ∀ m, m < n → PatC s m) (h : Rf W g s pos it deep (-1) N nv X) {c : UInt8} (hc : (xs s)[pos]? = some c) (h32 : c ≠ 32) (h41 : c ≠ 41) (h124 : c ≠ 124) (hsf : isSuf c → ps = []) (hn : s.size - pos ≤ n) (hit : it ≤ 48) (hdp : deep ≤ 32) (hN : N.length ≤ 4 * pos + 4) (hs : s.size ≤ 256) :
    Calls Try.prog 42 #[.pointer (some ⟨g, 0, none⟩), .int .u8 (c.toNat : Int)] X (AtomQ W X g s deep N pos it ps) := by
  have hpl : pos < s.size := by have := (List.getElem?_eq_some_iff.1 hc).1; rw [xs_len] at this; exact this
  by_cases h46 : c = 46
  · subst h46; exact atom_dot h hc hit hdp (by omega) hs
  by_cases h33 : c = 33
  · subst h33; exact atom_not h hc hit hdp (by omega) hs
  by_cases h40 : c = 40
  · subst h40; exact atom_open hp h hc hn hit hdp hN hs
  cases hl : isLetter c with
  | true => exact atom_let h hc hl hit hdp (by omega) hs
  | false => exact atom_bad h hc hl h46 h33 h40 h32 h41 h124 hsf hit hdp hs
/-- an own row of numbers goes on beside the reader -/
theorem Rf.app {W Y Y' : World} {g : Nat} {s : ByteArray} {pos it deep : Nat} {bad : Int} {N : List Nd} {nv lv lv' : Value} {o : Obj} {B n : Nat} {l : List Value} (h : Rf W g s pos it deep bad N nv Y) (hrow : Y.ownsRow B 3 1 lv n l) (hB : W.heap.size ≤ B) (sep : ∀ d ∈ N, ∀ z, d.kv.ownBlock = some z → lv.ownBlock ≠ some z) (hk : Keeps (Y.alloc o) lv lv' Y') : Rf W g s pos it deep bad N nv Y' := by
  have h1 := h.below ((Below.refl _ Y).alloc (Nat.le_refl _) o)
  have hr := hrow.alloc o
  have hg := hk.by
  have hl := h1.bel.size
  refine ⟨h.lt, ⟨hg.os.trans h1.bel.os, hg.tape.trans h1.bel.tape, hg.output.trans h1.bel.output, Nat.le_trans hl hg.size, fun k hk2 hne => (hg.block k (Nat.lt_of_lt_of_le hk2 hl) (fun e => ?_)).trans (h1.bel.block k hk2 hne)⟩, h1.blk.grown hg (blk_apart h1.blk hr (by decide)), own_grown h1.row hg (own_apart h1.row hr (by decide)), fun d hd => ?_⟩
  · have := (hr.lt k e.symm).1
    omega
  · exact Fz.keep (h1.kid d hd) fun z hz => hg.block z (Fz.lt (h1.kid d hd) z hz) fun e => sep d hd z hz e.symm
theorem Fr.app {X Y Y' : World} {lv lv' : Value} {o : Obj} {B n : Nat} {l : List Value} (h : Fr X Y) (hrow : Y.ownsRow B 3 1 lv n l) (hB : X.heap.size ≤ B) (hk : Keeps (Y.alloc o) lv lv' Y') : Fr X Y' := by
  have hr := hrow.alloc o
  have hg := hk.by
  have h1 := h.trans (Fr.below ((Below.refl _ Y).alloc (Nat.le_refl _) o))
  refine ⟨Nat.le_trans h1.1 hg.size, fun z c hz => ?_⟩
  have hzl := (Array.getElem?_eq_some_iff.1 hz).1
  refine (hg.block z (Nat.lt_of_lt_of_le hzl h1.1) fun e => ?_).trans (h1.2 z c hz)
  have := (hr.lt z e.symm).1
  omega
/-- rows of kids are not the row that grows -/
def Sep (M : List Nd) (lv : Value) : Prop := ∀ d ∈ M, ∀ z, d.kv.ownBlock = some z → lv.ownBlock ≠ some z
theorem Sep.app {M K : List Nd} {lv : Value} (h : Sep M lv) (k : Sep K lv) : Sep (M ++ K) lv := fun d hd => by
  rcases List.mem_append.1 hd with hd | hd
  · exact h d hd
  · exact k d hd
theorem Sep.new {Y : World} {K : List Nd} {lv : Value} {B n : Nat} {l : List Value} (h : NewK Y K) (hr : Y.ownsRow B 3 1 lv n l) : Sep K lv := fun d hd z hz e => by
  have := h d hd z hz
  have := (hr.lt z e).2
  omega
theorem Sep.old {W X Y : World} {g : Nat} {s : ByteArray} {pos it deep : Nat} {bad : Int} {N : List Nd} {nv lv : Value} {n : Nat} {l : List Value} (h : Rf W g s pos it deep bad N nv X) (hr : Y.ownsRow X.heap.size 3 1 lv n l) : Sep N lv := fun d hd z hz e => by
  have := Fz.lt (h.kid d hd) z hz
  have := (hr.lt z e).1
  omega
theorem Sep.keeps {W Y Y' : World} {g : Nat} {s : ByteArray} {pos it deep : Nat} {bad : Int} {N M : List Nd} {nv lv lv' : Value} {o : Obj} (h : Rf W g s pos it deep bad (N ++ M) nv Y) (hs : Sep M lv) (hk : Keeps (Y.alloc o) lv lv' Y') : Sep M lv' := fun d hd z hz e => by
  rcases hk with ⟨h1, _⟩ | ⟨h1, _⟩
  · rw [h1] at e
    exact hs d hd z hz e
  · rw [h1] at e
    have h2 := Fz.lt (h.kid d (List.mem_append_right _ hd)) z hz
    cases e
    rw [World.size_alloc] at h2
    omega
/-- how far a line is read -/
def LineR (s : ByteArray) (deep pos it : Nat) (N M : List Nd) (k pos' it' : Nat) (bad' : Int) : Prop :=
  (bad' = -1 ∧ pos' ≤ s.size ∧ it' ≤ 48 ∧ ∃ ps, Den (N ++ M) k (mkSeq ps) ∧ bdL ps + 16 * pos ≤ 16 * pos' ∧ ((xs s)[pos']? = none ∨ (xs s)[pos']? = some 41 ∨ (xs s)[pos']? = some 124) ∧ ∀ (stk : List (List T × List T)) (ch : List T), stk.length = deep → res (xs s) ⟨pos, it, stk, ch, []⟩ = res (xs s) ⟨pos', it', stk, ch, ps⟩) ∨
  (∃ b : Nat, bad' = (b : Int) ∧ pos' + deep ≤ s.size + 33 ∧ it' ≤ 49 ∧ ∀ (stk : List (List T × List T)) (ch : List T), stk.length = deep → res (xs s) ⟨pos, it, stk, ch, []⟩ = .err b)
def LineQ (W X : World) (g : Nat) (s : ByteArray) (deep : Nat) (N : List Nd) (pos it : Nat) (e : Ending) (w' : World) : Prop :=
  ∃ (k : Nat) (M : List Nd) (nv' : Value) (pos' it' : Nat) (bad' : Int), e = .returned (.int .i64 (k : Int)) ∧ Out W g s deep N X pos' it' bad' M nv' w' ∧ pos ≤ pos' ∧ M.length + 4 * pos ≤ 4 * pos' + 1 ∧ LineR s deep pos it N M k pos' it' bad'
/-- what holds between the atoms of a line -/
structure LineI (s : ByteArray) (deep pos it : Nat) (N M : List Nd) (ks : List Nat) (ps : List T) (pos' it' : Nat) (bad' : Int) : Prop where
  den : DenL (N ++ M) ks ps
  wt : bdL ps + 16 * pos ≤ 16 * pos'
  ge : pos ≤ pos'
  cnt : M.length + 4 * pos ≤ 4 * pos'
  r : (bad' = -1 ∧ pos' ≤ s.size ∧ it' ≤ 48 ∧ (∀ (stk : List (List T × List T)) (ch : List T), stk.length = deep → res (xs s) ⟨pos, it, stk, ch, []⟩ = res (xs s) ⟨pos', it', stk, ch, ps⟩) ∧ (ps ≠ [] → (∀ c, (xs s)[pos']? = some c → ¬ isSuf c) ∧ (xs s)[pos']? ≠ some 32)) ∨
    (∃ b : Nat, bad' = (b : Int) ∧ pos' ≤ s.size ∧ it' ≤ 49 ∧ ∀ (stk : List (List T × List T)) (ch : List T), stk.length = deep → res (xs s) ⟨pos, it, stk, ch, []⟩ = .err b)
section
variable {s : ByteArray} {deep pos it : Nat} {N M : List Nd} {ks : List Nat} {ps : List T} {p i : Nat}
/-- a line ends -/
theorem line_ends {b : Int} {K : List Nd} {k : Nat} (h : LineI s deep pos it N M ks ps p i b) (hden : Den (N ++ (M ++ K)) k (mkSeq ps)) (hdp : deep ≤ 32) {q : Nat} (hq : Same (xs s) p q) (hge : p ≤ q) (hle : q ≤ s.size) (hend : b = -1 → ((xs s)[q]? = none ∨ (xs s)[q]? = some 41 ∨ (xs s)[q]? = some 124)) : LineR s deep pos it N (M ++ K) k q i b := by
  rcases h.r with ⟨rfl, h1, h2, h3, h4⟩ | ⟨b0, rfl, h1, h2, h3⟩
  · exact .inl ⟨rfl, hle, h2, ps, hden, by have := h.wt; omega, hend rfl, fun stk ch hl => (h3 stk ch hl).trans (hq i stk ch _)⟩
  · exact .inr ⟨b0, rfl, by omega, h2, h3⟩
/-- an atom and its suffixes behind the others -/
theorem line_goes {M2 M3 : List Nd} {k k' q p2 i2 p3 i3 : Nat} {b3 : Int} {t t' : T} (h : LineI s deep pos it N M ks ps p i (-1)) (hq : Same (xs s) p q) (hge : p ≤ q)
    (hden : Den (N ++ M ++ M2 ++ M3) k' t') (hw1 : bd t + 16 * q ≤ 16 * p2) (hw2 : bd t' + 16 * p2 ≤ bd t + 16 * p3) (hg1 : q ≤ p2) (hg2 : p2 ≤ p3) (hc1 : M2.length + 4 * q ≤ 4 * p2) (hc2 : M3.length + 4 * p2 ≤ 4 * p3)
    (hr1 : ∀ (stk : List (List T × List T)) (ch : List T), stk.length = deep → res (xs s) ⟨q, i, stk, ch, ps⟩ = res (xs s) ⟨p2, i2, stk, ch, ps ++ [t]⟩) (hr2 : SufR s p2 i2 t p3 i3 b3 t') (hns : b3 = -1 → (∀ c, (xs s)[p3]? = some c → ¬ isSuf c) ∧ (xs s)[p3]? ≠ some 32) :
    LineI s deep pos it N (M ++ M2 ++ M3) (ks ++ [k']) (ps ++ [t']) p3 i3 b3 := by
  have e : N ++ (M ++ M2 ++ M3) = N ++ M ++ M2 ++ M3 := by simp
  refine ⟨?_, ?_, ?_, ?_, ?_⟩
  · rw [e]
    exact (h.den.more.more).app (.one hden)
  · have := h.wt
    rw [bdL_app]
    simp only [bdL]
    omega
  · have := h.ge; omega
  · have := h.cnt
    rw [List.length_append, List.length_append]
    omega
  · rcases h.r with ⟨_, h1, h2, h3, h4⟩ | ⟨b0, hb, _⟩
    · have hall : ∀ (stk : List (List T × List T)) (ch : List T), stk.length = deep → res (xs s) ⟨pos, it, stk, ch, []⟩ = res (xs s) ⟨p2, i2, stk, ch, ps ++ [t]⟩ := fun stk ch hl => ((h3 stk ch hl).trans (hq i stk ch _)).trans (hr1 stk ch hl)
      rcases hr2 with ⟨rfl, k1, k2, k3⟩ | ⟨b0, rfl, k1, k2, k3⟩
      · exact .inl ⟨rfl, k1, k2, fun stk ch hl => (hall stk ch hl).trans (k3 stk ch ps), fun _ => hns rfl⟩
      · exact .inr ⟨b0, rfl, k1, k2, fun stk ch hl => (hall stk ch hl).trans (k3 stk ch ps)⟩
    · omega
end
end Go.Proofs.Ytlbkacabcfeaiaa.Tl
