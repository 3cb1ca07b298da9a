/- Patterns: the reference reads a pattern. -/
import Derived.Test.YtlbkacabcfeaiaaKk
namespace Go.Proofs.Ytlbkacabcfeaiaa.Tl
open Go.RowKit Mm
set_option linter.unusedVariables false
set_option maxRecDepth 100000 in
set_option maxHeartbeats 8000000 in
/-- a line of a reader that has refused -/
theorem line_bad {W X : World} {g : Nat} {s : ByteArray} {pos it deep : Nat} {b : Int} {N : List Nd} {nv : Value} (h : Rf W g s pos it deep b N nv X) (hb : 0 ≤ b) (hN : N.length ≤ 90000) :
    Calls Try.prog 30 #[.pointer (some ⟨g, 0, none⟩)] X fun e w' => ∃ (k : Nat) (M : List Nd) (nv' : Value), e = .returned (.int .i64 (k : Int)) ∧ Out W g s deep N X pos it b M nv' w' ∧ M.length ≤ 1 := by
  have HS := Lib.hid (Out.start h)
  have HJ := Lib.hid (rjoin_any h 4 (.inl rfl) (.slice none 0 0) [] [] (kid_nil X) (DenL.nil _) (by simp [bdL]) hN)
  have q4 := Blk.f4 h.blk
  clear h
  go_enter Try.func30, Try.ntmps30
  go_wp2_with fail
  go_loopw [3] (fun lv wr => lv = .slice none 0 0 ∧ X = wr) (fun _ wr => 0)
  case atStart => exact ⟨rfl, rfl⟩
  case round =>
    obtain ⟨rfl, rfl⟩ := hrel
    go_wp2_with fail
    refine HJ.out.mono ?_
    rintro e w2 ⟨k, M2, nv2, rfl, hR2, hF2, hN2, hM2, hden⟩
    go_wp2_with fail
    go_ret
    exact ⟨k, M2, nv2, rfl, ⟨hR2, hF2, hN2⟩, hM2⟩
/-- what holds between the lines of a pattern -/
structure PatI (s : ByteArray) (deep pos it : Nat) (N M : List Nd) (ks : List Nat) (p i : Nat) (b : Int) : Prop where
  ge : pos ≤ p
  cnt : M.length + 4 * pos ≤ 4 * p + 1
  kl : ks.length ≤ p + 1
  r : (b = -1 ∧ p ≤ s.size ∧ i ≤ 48 ∧ ∃ ch ps, DenL (N ++ M) ks (ch ++ [mkSeq ps]) ∧ bdL ch + bdL ps + 16 * pos ≤ 16 * p ∧ ((xs s)[p]? = none ∨ (xs s)[p]? = some 41 ∨ (xs s)[p]? = some 124) ∧ ∀ stk : List (List T × List T), stk.length = deep → res (xs s) ⟨pos, it, stk, [], []⟩ = res (xs s) ⟨p, i, stk, ch, ps⟩) ∨
    (∃ b0 : Nat, b = (b0 : Int) ∧ p + deep ≤ s.size + 33 ∧ i ≤ 49 ∧ ∀ stk : List (List T × List T), stk.length = deep → res (xs s) ⟨pos, it, stk, [], []⟩ = .err b0)
section
variable {s : ByteArray} {deep pos it : Nat} {N M M2 : List Nd} {ks : List Nat} {p i k p2 i2 : Nat} {b2 : Int}
theorem pat_start (h : LineR s deep pos it N M k p i b2) (hge : pos ≤ p) (hc : M.length + 4 * pos ≤ 4 * p + 1) : PatI s deep pos it N M [k] p i b2 := by
  refine ⟨hge, hc, by simp, ?_⟩
  rcases h with ⟨rfl, h1, h2, ps, h3, h4, h5, h6⟩ | ⟨b0, rfl, h1, h2, h3⟩
  · exact .inl ⟨rfl, h1, h2, [], ps, .one h3, by simp only [bdL]; omega, h5, fun stk hl => h6 stk [] hl⟩
  · exact .inr ⟨b0, rfl, h1, h2, fun stk hl => h3 stk [] hl⟩
theorem pat_next (h : PatI s deep pos it N M ks p i (-1)) (hx : (xs s)[p]? = some 124) (hi : i < 48) (hl : LineR s deep (p + 1) (i + 1) (N ++ M) M2 k p2 i2 b2) (hc : M2.length + 4 * (p + 1) ≤ 4 * p2 + 1) (hge : p + 1 ≤ p2) : PatI s deep pos it N (M ++ M2) (ks ++ [k]) p2 i2 b2 := by
  refine ⟨by have := h.ge; omega, by have := h.cnt; rw [List.length_append]; omega, by have := h.kl; rw [List.length_append, List.length_cons, List.length_nil]; omega, ?_⟩
  rcases h.r with ⟨_, h1, h2, ch, ps, h3, h4, h5, h6⟩ | ⟨b0, hb, _⟩
  · have hs : ∀ stk : List (List T × List T), stk.length = deep → res (xs s) ⟨pos, it, stk, [], []⟩ = res (xs s) ⟨p + 1, i + 1, stk, ch ++ [mkSeq ps], []⟩ := fun stk hl => (h6 stk hl).trans (res_inl (st_124 hx hi))
    rcases hl with ⟨rfl, k1, k2, ps', k3, k4, k5, k6⟩ | ⟨b0, rfl, k1, k2, k3⟩
    · refine .inl ⟨rfl, k1, k2, ch ++ [mkSeq ps], ps', ?_, ?_, k5, fun stk hl => (hs stk hl).trans (k6 stk _ hl)⟩
      · rw [← List.append_assoc]
        exact h3.more.app (.one k3)
      · have := bd_mkSeq ps
        rw [bdL_app]
        simp only [bdL]
        omega
    · exact .inr ⟨b0, rfl, k1, k2, fun stk hl => (hs stk hl).trans (k3 stk _ hl)⟩
  · omega
theorem pat_full (h : PatI s deep pos it N M ks p i (-1)) (hx : (xs s)[p]? = some 124) (hi : 48 ≤ i) (hdp : deep ≤ 32) (hM : M2.length ≤ 1) : PatI s deep pos it N (M ++ M2) (ks ++ [k]) (p + 1) (i + 1) (p : Int) := by
  refine ⟨by have := h.ge; omega, by have := h.cnt; rw [List.length_append]; omega, by have := h.kl; rw [List.length_append, List.length_cons, List.length_nil]; omega, ?_⟩
  rcases h.r with ⟨_, h1, h2, ch, ps, h3, h4, h5, h6⟩ | ⟨b0, hb, _⟩
  · exact .inr ⟨p, rfl, by omega, by omega, fun stk hl => (h6 stk hl).trans (st_124e hx hi)⟩
  · omega
theorem pat_peek {q : Nat} (h : PatI s deep pos it N M ks p i (-1)) (hq : (xs s)[p]? ≠ some 32 → q = p) : q = p := by
  rcases h.r with ⟨_, h1, h2, ch, ps, h3, h4, h5, h6⟩ | ⟨b0, hb, _⟩
  · apply hq
    rcases h5 with h5 | h5 | h5 <;> rw [h5] <;> intro h <;> cases h
  · omega
end
set_option maxRecDepth 100000 in
set_option maxHeartbeats 16000000 in
theorem pattern_any {s : ByteArray} {n : Nat} (hs : s.size ≤ 256) (hp : ∀ m, m < n → PatC s m) : PatC s n := by
  intro W X g pos it deep N nv h hpos hn hit hdp hN
  have HL := Lib.hid (line_any hp h hpos hn hit hdp hN hs)
  have HX := Lib.hid h
  have HPC := Lib.hid hp
  have hWX := h.bel.size
  clear h hp
  go_enter Try.func19, Try.ntmps19
  go_wp2_with fail
  refine HL.out.mono ?_
  rintro e w1 ⟨k1, M1, nv1, p1, i1, b1, rfl, hO1, hg1, hc1, hR1⟩
  have hA1 : Below w1.heap.size w1 (w1.alloc (.cells #[.int .i64 (k1 : Int)] 3)) := (Below.refl _ w1).alloc (Nat.le_refl _) _
  have HO1 := Lib.hid (show Out W g s deep N X p1 i1 b1 M1 nv1 (w1.alloc (.cells #[.int .i64 (k1 : Int)] 3)) from ⟨hO1.rf.below hA1, hO1.fr.trans (Fr.below hA1), hO1.nk⟩)
  have HI1 := Lib.hid (pat_start hR1 hg1 hc1)
  have HR1 := Lib.hid (show (w1.alloc (.cells #[.int .i64 (k1 : Int)] 3)).ownsRow X.heap.size 3 1 (.slice (some ⟨w1.heap.size, 0, none⟩) 1 1) ([k1] : List Nat).length (iv [k1]) from own_one w1 3 #[.int .i64 (k1 : Int)] hO1.fr.1)
  have HS1 := Lib.hid (show Sep M1 (.slice (some ⟨w1.heap.size, 0, none⟩) 1 1) from fun d hd z hz e => by
    have := Fz.lt (hO1.rf.kid d (List.mem_append_right _ hd)) z hz
    have e2 : w1.heap.size = z := Option.some.inj e
    omega)
  clear hO1 hR1 hA1
  go_wp2_with fail
  go_loopw [4] (fun lv wr => ∃ (M : List Nd) (nv' : Value) (ks : List Nat) (p i : Nat) (b : Int), Out W g s deep N X p i b M nv' wr ∧ wr.ownsRow X.heap.size 3 1 lv ks.length (iv ks) ∧ Sep M lv ∧ PatI s deep pos it N M ks p i b) (fun _ wr => 2001 - posR g wr)
  case atStart => exact ⟨M1, nv1, [k1], p1, i1, b1, HO1.out, HR1.out, HS1.out, HI1.out⟩
  case round =>
    clear HO1 HR1 HS1 HI1 HL
    obtain ⟨M, nv', ks, p, i, b, hO, hrow, hsep, hI⟩ := hrel
    have HO := Lib.hid hO
    have HI := Lib.hid hI
    have HROW := Lib.hid hrow
    have HSEP := Lib.hid hsep
    have q4 := Blk.f4 hO.rf.blk
    have hcnt := hI.cnt
    have hkl := hI.kl
    have hge := hI.ge
    have hmu := posR_of hO.rf.blk
    have hp2 : p ≤ 300 := by rcases hI.r with ⟨_, h, _⟩ | ⟨_, _, h, _⟩ <;> omega
    obtain ⟨al, cl, rfl⟩ := own_len hrow
    by_cases hb : b < 0
    · have hb1 : b = -1 ∧ i ≤ 48 ∧ p ≤ s.size := by
        rcases hI.r with ⟨h, h1, h2, _⟩ | ⟨c, h, _⟩
        · exact ⟨h, h2, h1⟩
        · omega
      obtain ⟨rfl, hi48, hple⟩ := hb1
      have HP := Lib.hid (peek_any wr g s p i deep _ _ hO.rf.blk (by omega) (by omega))
      clear hO hI hrow hsep
      go_wp2_with fail
      refine HP.out.mono ?_
      rintro e w2 ⟨q, rfl, hpk, hn32⟩
      obtain rfl := pat_peek HI.out hpk.stay
      have HO2 := Lib.hid (HO.out.put hpk.grow hpk.blk)
      have q1 := Blk.f1 hpk.blk
      have hf1 := hpk.blk.frozen 1
      have q42 := Blk.f4 hpk.blk
      have HROW2 := Lib.hid (own_fr HROW.out (Fr.blk hpk.grow HO.out.rf.blk))
      have HIT := Lib.hid (ritem_any w2 g q s q i deep (-1) nv' hpk.blk (by omega))
      rw [item_bad hi48] at HIT
      clear hpk q4 HROW hn32 HP
      by_cases hx : (xs s)[q]? = some 124
      · have hI0 : ((byteAt (xs s) q : Nat) : Int) = 124 := byte_some hx
        have hql : q < s.size := by have := (List.getElem?_eq_some_iff.1 hx).1; rw [xs_len] at this; exact this
        generalize byteAt (xs s) q = y at *
        go_wp2_with fail
        refine HIT.out.mono ?_
        rintro e w3 ⟨rfl, hb3, hg3⟩
        have HO3 := Lib.hid (HO2.out.put hg3 hb3)
        have q13 := Blk.f1 hb3
        have hf3 := hb3.frozen 1
        have HROW3 := Lib.hid (own_fr HROW2.out (Fr.blk hg3 HO2.out.rf.blk))
        have HO4 := Lib.hid (HO3.out.put (only_set _ _ 1 _) (Blk.s1 HO3.out.rf.blk (q + 1)))
        have HROW4 := Lib.hid (own_fr HROW3.out (Fr.blk (only_set w3 g 1 (.int .i64 ((q + 1 : Nat) : Int))) hb3))
        clear hb3 hg3 q1 hf1 q42
        go_upto_region 6 with fail
        have HO5 := Lib.hid (show Out W g s deep N X (q + 1) (i + 1) (if 48 ≤ i then (q : Int) else -1) M nv' (w3.setCell ⟨g, 1, none⟩ (.int .i64 ((q : Int) + 1))) from HO4.out)
        have HROW5 := Lib.hid (show (w3.setCell ⟨g, 1, none⟩ (.int .i64 ((q : Int) + 1))).ownsRow X.heap.size 3 1 (.slice al ks.length cl) ks.length (iv ks) from HROW4.out)
        clear HO4 HROW4 q13 hf3
        generalize World.setCell _ _ _ = w4 at *
        by_cases h48 : 48 ≤ i
        · rw [if_pos h48] at HO5
          have HLN := Lib.hid (line_bad HO5.out.rf (by omega) (by rw [List.length_append]; omega))
          go_wp2_with fail
          refine HLN.out.mono ?_
          rintro e w5 ⟨k5, M5, nv5, rfl, hO6, hM5⟩
          have HO6 := Lib.hid (HO5.out.trans hO6)
          have HROW6 := Lib.hid (own_fr HROW5.out hO6.fr)
          have HS6 := Lib.hid (HSEP.out.app (Sep.new hO6.nk HROW5.out))
          have HI6 := Lib.hid (pat_full (M2 := M5) (k := k5) HI.out hx h48 hdp hM5)
          have hX6 := HO6.out.fr.1
          clear hO6 HLN h48 hM5
          go_wp2_with (at_builtin; refine app_int (k := k5) rfl HROW6.out rfl rfl rfl rfl (by simp) (by omega) hX6 ?_; intro v9 w9 ho9 hk9)
          have hR9 := HO6.out.rf.app HROW6.out hWX (Sep.app (Sep.old HX.out HROW6.out) HS6.out) hk9
          have HO9 := Lib.hid (show Out W g s deep N X (q + 1) (i + 1) (q : Int) (M ++ M5) nv5 w9 from ⟨hR9, HO6.out.fr.app HROW6.out (Nat.le_refl _) hk9, HO6.out.nk⟩)
          have HS9 := Lib.hid (Sep.keeps HO6.out.rf HS6.out hk9)
          clear hR9 hk9
          go_roundw
          case rel => exact ⟨M ++ M5, nv5, ks ++ [k5], q + 1, i + 1, q, HO9.out, ho9, HS9.out, HI6.out⟩
          case measure =>
            rw [posR_of HO9.out.rf.blk, hmu]
            omega
        · rw [if_neg h48] at HO5
          have HLN := Lib.hid (line_any HPC.out HO5.out.rf (by omega) (by omega) (by omega) hdp (by rw [List.length_append]; omega) hs)
          go_wp2_with fail
          refine HLN.out.mono ?_
          rintro e w5 ⟨k5, M5, nv5, p5, i5, b5, rfl, hO6, hg6, hc6, hR6⟩
          have HO6 := Lib.hid (HO5.out.trans hO6)
          have HROW6 := Lib.hid (own_fr HROW5.out hO6.fr)
          have HS6 := Lib.hid (HSEP.out.app (Sep.new hO6.nk HROW5.out))
          have HI6 := Lib.hid (pat_next HI.out hx (by omega) hR6 hc6 hg6)
          have hX6 := HO6.out.fr.1
          clear hO6 HLN h48 hR6
          go_wp2_with (at_builtin; refine app_int (k := k5) rfl HROW6.out rfl rfl rfl rfl (by simp) (by omega) hX6 ?_; intro v9 w9 ho9 hk9)
          have hR9 := HO6.out.rf.app HROW6.out hWX (Sep.app (Sep.old HX.out HROW6.out) HS6.out) hk9
          have HO9 := Lib.hid (show Out W g s deep N X p5 i5 b5 (M ++ M5) nv5 w9 from ⟨hR9, HO6.out.fr.app HROW6.out (Nat.le_refl _) hk9, HO6.out.nk⟩)
          have HS9 := Lib.hid (Sep.keeps HO6.out.rf HS6.out hk9)
          clear hR9 hk9
          go_roundw
          case rel => exact ⟨M ++ M5, nv5, ks ++ [k5], p5, i5, b5, HO9.out, ho9, HS9.out, HI6.out⟩
          case measure =>
            rw [posR_of HO9.out.rf.blk, hmu]
            omega
      · have hI0 : ¬ ((byteAt (xs s) q : Nat) : Int) = 124 := fun e => hx (byte_of (by decide) (by have : (124 : UInt8).toNat = 124 := rfl; omega))
        have hI1 : (((byteAt (xs s) q : Nat) : Int) == 124) = false := beq_eq_false_iff_ne.2 hI0
        rcases HI.out.r with ⟨_, h1, h2, ch, ps, h3, h4, h5, h6⟩ | ⟨b0, hb0, _⟩
        · have hwt : bdL (ch ++ [mkSeq ps]) ≤ 50000 := by
            have := bd_mkSeq ps
            rw [bdL_app]
            simp only [bdL]
            omega
          have HJ := Lib.hid (rjoin_any HO2.out.rf 5 (.inr rfl) (.slice al ks.length cl) ks (ch ++ [mkSeq ps]) (Fz.of_own HROW2.out) h3 hwt (by rw [List.length_append]; omega))
          have HE := Lib.hid (show ∀ (K : List Nd) (k : Nat), Den (N ++ (M ++ K)) k (whole ch ps) → PatR s deep pos it N (M ++ K) k q i (-1) from fun K k hd => .inl ⟨rfl, h1, h2, ch, ps, hd, h4, by rcases h5 with h | h | h; exact .inl h; exact .inr h; exact absurd h hx, h6⟩)
          clear hx h3 h4 h5 h6
          generalize byteAt (xs s) q = y at *
          go_wp2_with fail
          refine HJ.out.mono ?_
          rintro e w3 ⟨k, M3, nv3, rfl, hR3, hF3, hN3, hM3, hden⟩
          go_wp2_with fail
          go_ret
          exact ⟨k, M ++ M3, nv3, q, i, -1, rfl, HO2.out.trans ⟨hR3, hF3, hN3⟩, hge, by rw [List.length_append]; omega, HE.out M3 k (by rw [← List.append_assoc]; exact hden)⟩
        · omega
    · have HE := Lib.hid (show PatR s deep pos it N M 0 p i b from by
        rcases hI.r with ⟨h, _⟩ | h
        · omega
        · exact .inr h)
      clear hO hI hrow hsep
      have hb0 : 0 ≤ b := by omega
      go_wp2_with fail
      go_ret
      exact ⟨0, M, nv', p, i, b, rfl, HO.out, hge, by omega, HE.out⟩
theorem patC_all (s : ByteArray) (hs : s.size ≤ 256) (n : Nat) : PatC s n := by
  induction n using Nat.strongRecOn with
  | _ n ih => exact pattern_any hs ih
end Go.Proofs.Ytlbkacabcfeaiaa.Tl
