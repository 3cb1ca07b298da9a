/- Patterns: the reference's atoms: denials, brackets, what is no atom. -/
import Derived.Test.YtlbkacabcfeaiaaKh
namespace Go.Proofs.Ytlbkacabcfeaiaa.Tl
open Go.RowKit Mm
set_option linter.unusedVariables false
section
variable {W X : World} {g : Nat} {s : ByteArray} {pos it deep : Nat} {N : List Nd} {nv : Value} {ps : List T}
set_option maxRecDepth 100000 in
set_option maxHeartbeats 8000000 in
theorem atom_bad (h : Rf W g s pos it deep (-1) N nv X) {c : UInt8} (hc : (xs s)[pos]? = some c) (hlet : isLetter c = false) (h46 : c ≠ 46) (h33 : c ≠ 33) (h40 : c ≠ 40) (h32 : c ≠ 32) (h41 : c ≠ 41) (h124 : c ≠ 124) (hsf : isSuf c → ps = []) (hit : it ≤ 48) (hdp : deep ≤ 32) (hs : s.size ≤ 256) :
    Calls Try.prog 42 #[.pointer (some ⟨g, 0, none⟩), .int .u8 (c.toNat : Int)] X (AtomQ W X g s deep N pos it ps) := by
  have hpl : pos < s.size := by have := (List.getElem?_eq_some_iff.1 hc).1; rw [xs_len] at this; exact this
  have HO := Lib.hid (Out.start h)
  have q1 := Blk.f1 h.blk
  have HRF := Lib.hid (refuse_any X g pos s _ _ _ _ _ h.blk)
  rw [if_pos (by decide)] at HRF
  have HLT := Lib.hid (rletter_any c X)
  rw [hlet] at HLT
  have HR := Lib.hid (show AtomR s deep pos it ps N [] 0 pos it (pos : Int) from .inr ⟨pos, rfl, by omega, by omega, fun stk ch _ => by
    by_cases hs : isSuf c
    · exact st_42e hs hc (.inl (hsf hs))
    · exact st_lete ⟨h32, h40, h41, fun e => hs (.inl e), fun e => hs (.inr (.inl e)), fun e => hs (.inr (.inr e)), h124, h46, h33⟩ hc (by rw [hlet]; rfl)⟩)
  have b46 : ¬ ((c.toNat : Nat) : Int) = 46 := fun e => h46 (UInt8.toNat_inj.1 (by have : (46 : UInt8).toNat = 46 := rfl; omega))
  have b33 : ¬ ((c.toNat : Nat) : Int) = 33 := fun e => h33 (UInt8.toNat_inj.1 (by have : (33 : UInt8).toNat = 33 := rfl; omega))
  have b40 : ¬ ((c.toNat : Nat) : Int) = 40 := fun e => h40 (UInt8.toNat_inj.1 (by have : (40 : UInt8).toNat = 40 := rfl; omega))
  clear h hc hlet h46 h33 h40 h32 h41 h124 hsf
  go_enter Try.func42, Try.ntmps42
  go_wp2_with fail
  refine HLT.out.mono ?_
  rintro e w0 ⟨rfl, rfl⟩
  go_wp2_with fail
  refine HRF.out.mono ?_
  rintro e w1 ⟨rfl, hb1, hg1⟩
  have HO1 := Lib.hid (HO.out.put hg1 hb1)
  clear hb1 hg1
  go_wp2_with fail
  go_ret
  exact ⟨0, [], _, _, _, _, rfl, HO1.out, Nat.le_refl _, by simp, HR.out⟩
set_option maxRecDepth 100000 in
set_option maxHeartbeats 8000000 in
theorem atom_not (h : Rf W g s pos it deep (-1) N nv X) (hc : (xs s)[pos]? = some 33) (hit : it ≤ 48) (hdp : deep ≤ 32) (hN : N.length ≤ 90000) (hs : s.size ≤ 256) :
    Calls Try.prog 42 #[.pointer (some ⟨g, 0, none⟩), .int .u8 33] X (AtomQ W X g s deep N pos it ps) := by
  have hpl : pos < s.size := by have := (List.getElem?_eq_some_iff.1 hc).1; rw [xs_len] at this; exact this
  have HO := Lib.hid (Out.start h)
  have q1 := Blk.f1 h.blk
  have HIT := Lib.hid (ritem_any X g pos s _ _ _ _ _ h.blk (by omega))
  rw [item_bad hit] at HIT
  have HLT := Lib.hid (show Calls Try.prog 47 #[.int .u8 33] X fun e w' => e = .returned (.bool false) ∧ X = w' from rletter_any 33 X)
  have HE := Lib.hid (fun (hl : atB isLetter (xs s) (pos + 1) = true) => nam_res (N := N) (deny := true) (ps := ps) hl (Nat.le_succ pos) hs hdp hit (fun h => fun stk ch => st_33 hc h hl) (fun h => fun stk ch => st_33e hc h))
  have HF := Lib.hid (show atB isLetter (xs s) (pos + 1) = false → AtomR s deep pos it ps N [] 0 (pos + 1) (it + 1) (if (if 48 ≤ it then (pos : Int) else -1) < 0 then ((pos + 1 : Nat) : Int) else if 48 ≤ it then (pos : Int) else -1) from fun hl => by
    by_cases h48 : 48 ≤ it
    · rw [if_pos h48, if_neg (by omega)]
      exact .inr ⟨pos, rfl, by omega, by omega, fun stk ch _ => st_33e hc h48⟩
    · rw [if_neg h48, if_pos (by decide)]
      exact .inr ⟨pos + 1, rfl, by omega, by omega, fun stk ch _ => st_33f hc (by omega) hl⟩)
  generalize (if 48 ≤ it then (pos : Int) else -1) = b at *
  clear h hc
  go_enter Try.func42, Try.ntmps42
  go_wp2_with fail
  refine HLT.out.mono ?_
  rintro e w0 ⟨rfl, rfl⟩
  go_wp2_with fail
  refine HIT.out.mono ?_
  rintro e w1 ⟨rfl, hb1, hg1⟩
  have HO1 := Lib.hid (HO.out.put hg1 hb1)
  have q11 := Blk.f1 hb1
  have hf1 := hb1.frozen 1
  have HO2 := Lib.hid (HO1.out.put (only_set _ _ 1 _) (Blk.s1 HO1.out.rf.blk (pos + 1)))
  clear hb1 hg1 q1
  go_upto_region 11 with fail
  have HO3 := Lib.hid (show Out W g s deep N X (pos + 1) (it + 1) b [] nv (w1.setCell ⟨g, 1, none⟩ (.int .i64 ((pos : Int) + 1))) from HO2.out)
  clear HO2 q11 hf1
  generalize World.setCell _ _ _ = w2 at *
  have q12 := Blk.f1 HO3.out.rf.blk
  have HLA := Lib.hid (letterAt_any w2 g (pos + 1) s _ _ _ _ _ HO3.out.rf.blk (by omega) (by omega))
  have HRF := Lib.hid (refuse_any w2 g (pos + 1) s _ _ _ _ _ HO3.out.rf.blk)
  have HR3 := Lib.hid (show Rf W g s (pos + 1) (it + 1) deep b N nv w2 from by have := HO3.out.rf; rw [List.append_nil] at this; exact this)
  cases hl : atB isLetter (xs s) (pos + 1) with
  | false =>
    rw [hl] at HLA
    have HR := Lib.hid (HF.out hl)
    obtain ⟨b2, hb2⟩ : ∃ b2, b2 = if b < 0 then ((pos + 1 : Nat) : Int) else b := ⟨_, rfl⟩
    rw [← hb2] at HR HRF
    clear hb2 hl
    go_wp2_with fail
    refine HLA.out.mono ?_
    rintro e w3 ⟨rfl, rfl⟩
    go_wp2_with fail
    refine HRF.out.mono ?_
    rintro e w3 ⟨rfl, hb3, hg3⟩
    have HO4 := Lib.hid (HO3.out.put hg3 hb3)
    clear hb3 hg3
    go_wp2_with fail
    go_ret
    exact ⟨0, [], _, _, _, _, rfl, HO4.out, by omega, by simp only [List.length_nil]; omega, HR.out⟩
  | true =>
    rw [hl] at HLA
    have HR := Lib.hid (HE.out hl)
    have hne := name_end hl
    have HNM := Lib.hid (rname_any HR3.out (by omega) hl (by omega) true)
    clear hl
    go_wp2_with fail
    refine HLA.out.mono ?_
    rintro e w3 ⟨rfl, rfl⟩
    go_wp2_with fail
    refine HNM.out.mono ?_
    rintro e w3 ⟨rfl, ⟨v3, hR4⟩, hF4⟩
    have HO4 := Lib.hid (show Out W g s deep N X _ _ _ [namN s (pos + 1) true] v3 w3 from ⟨hR4, HO3.out.fr.trans hF4, NewK.one (fun z hz => by cases hz)⟩)
    clear hR4 hF4
    go_wp2_with fail
    go_ret
    exact ⟨_, _, _, _, _, _, rfl, HO4.out, by omega, by simp only [List.length_cons, List.length_nil]; omega, HR.out⟩
theorem NewK.mono {X Y : World} {M : List Nd} (h : NewK Y M) (hs : X.heap.size ≤ Y.heap.size) : NewK X M := fun d hd g hg => Nat.le_trans hs (h d hd g hg)
theorem open_res {p q i k : Nat} {M : List Nd} {b : Int} (hR : PatR s (deep + 1) (pos + 1) it N M k p i b) (hge : p ≤ q) (hle : q ≤ s.size ∨ q = p) (hst : (xs s)[p]? ≠ some 32 → q = p) (hc : (xs s)[pos]? = some 40) (hd : deep < 32) :
    AtomR s deep pos it ps N M k (q + 1) i (if byteAt (xs s) q = 41 then b else if b < 0 then (q : Int) else b) := by
  have h40 : ∀ (stk : List (List T × List T)) (ch : List T), stk.length = deep → res (xs s) ⟨pos, it, stk, ch, ps⟩ = res (xs s) ⟨pos + 1, it, stk ++ [(ch, ps)], [], []⟩ := fun stk ch hl => res_inl (st_40 hc (by omega))
  rcases hR with ⟨rfl, h1, h2, ch', ps', hden, hbd, hend, hres⟩ | ⟨b0, rfl, h1, h2, hres⟩
  · rcases hend with hx | hx
    · obtain rfl := hst (by rw [hx]; intro h; cases h)
      have hby : ¬ byteAt (xs s) q = 41 := by unfold byteAt; rw [hx]; decide
      rw [if_neg hby, if_pos (by decide)]
      refine .inr ⟨q, rfl, by omega, by omega, fun stk ch hl => ?_⟩
      rw [h40 stk ch hl, hres _ (by simp [hl]), st_end hx, if_neg (by simp)]
    · obtain rfl := hst (by rw [hx]; intro h; cases h)
      have hby : byteAt (xs s) q = 41 := by unfold byteAt; rw [hx]; rfl
      have hql : q < s.size := by have := (List.getElem?_eq_some_iff.1 hx).1; rw [xs_len] at this; exact this
      rw [if_pos hby]
      have hw := bd_whole ch' ps'
      refine .inl ⟨rfl, by omega, h2, whole ch' ps', hden, by omega, fun stk ch hl => ?_⟩
      rw [h40 stk ch hl, hres _ (by simp [hl])]
      exact res_inl (st_41 hx)
  · have hb : (if byteAt (xs s) q = 41 then (b0 : Int) else if (b0 : Int) < 0 then (q : Int) else (b0 : Int)) = (b0 : Int) := by
      rw [if_neg (show ¬ (b0 : Int) < 0 from by omega)]
      split <;> rfl
    rw [hb]
    refine .inr ⟨b0, rfl, by omega, h2, fun stk ch hl => ?_⟩
    rw [h40 stk ch hl]
    exact hres _ (by simp [hl])
set_option maxRecDepth 100000 in
set_option maxHeartbeats 8000000 in
theorem atom_open {n : Nat} (hp : ∀ m, m < n → PatC s m) (h : Rf W g s pos it deep (-1) N nv X) (hc : (xs s)[pos]? = some 40) (hn : s.size - pos ≤ n) (hit : it ≤ 48) (hdp : deep ≤ 32) (hN : N.length ≤ 4 * pos + 4) (hs : s.size ≤ 256) :
    Calls Try.prog 42 #[.pointer (some ⟨g, 0, none⟩), .int .u8 40] X (AtomQ W X g s deep N pos it ps) := by
  have hpl : pos < s.size := by have := (List.getElem?_eq_some_iff.1 hc).1; rw [xs_len] at this; exact this
  have HO := Lib.hid (Out.start h)
  have q1 := Blk.f1 h.blk
  have q3 := Blk.f3 h.blk
  have hf1 := h.blk.frozen 1
  have hf3 := h.blk.frozen 3
  have HLT := Lib.hid (show Calls Try.prog 47 #[.int .u8 40] X fun e w' => e = .returned (.bool false) ∧ X = w' from rletter_any 40 X)
  by_cases hd : 32 ≤ deep
  · have HRF := Lib.hid (refuse_any X g pos s _ _ _ _ _ h.blk)
    rw [if_pos (by decide)] at HRF
    have HR := Lib.hid (show AtomR s deep pos it ps N [] 0 pos it (pos : Int) from .inr ⟨pos, rfl, by omega, by omega, fun stk ch hl => st_40e hc (by omega)⟩)
    clear h hc hp
    go_enter Try.func42, Try.ntmps42
    go_wp2_with fail
    refine HLT.out.mono ?_
    rintro e w0 ⟨rfl, rfl⟩
    go_wp2_with fail
    refine HRF.out.mono ?_
    rintro e w1 ⟨rfl, hb1, hg1⟩
    have HO1 := Lib.hid (HO.out.put hg1 hb1)
    clear hb1 hg1
    go_wp2_with fail
    go_ret
    exact ⟨0, [], _, _, _, _, rfl, HO1.out, Nat.le_refl _, by simp, HR.out⟩
  · obtain ⟨h1, f1⟩ := h.put (only_set X g 1 (.int .i64 ((pos : Int) + 1))) (Blk.s1 h.blk (pos + 1))
    obtain ⟨h2, f2⟩ := h1.put (only_set _ g 3 (.int .i64 ((deep : Int) + 1))) (Blk.s3 h1.blk (deep + 1))
    have HF2 := Lib.hid (f1.trans f2)
    have HPT := Lib.hid (hp (n - 1) (by omega) W _ g (pos + 1) it (deep + 1) N nv h2 (by omega) (by omega) hit (by omega) (by omega))
    have HH2 := Lib.hid h2
    clear h hp h1 h2 f1 f2
    go_enter Try.func42, Try.ntmps42
    go_wp2_with fail
    refine HLT.out.mono ?_
    rintro e w0 ⟨rfl, rfl⟩
    go_wp2_with fail
    generalize (X.setCell ⟨g, 1, none⟩ (.int .i64 ((pos : Int) + 1))).setCell ⟨g, 3, none⟩ (.int .i64 ((deep : Int) + 1)) = w2 at *
    refine HPT.out.mono ?_
    rintro e w3 ⟨k, M, nv', p, i, b, rfl, hO3, hpge, hcnt, hR⟩
    have hp2 : p ≤ 300 := by
      rcases hR with ⟨_, h, _⟩ | ⟨_, _, h, _⟩ <;> omega
    have HPK := Lib.hid (peek_any w3 g s p i (deep + 1) b nv' hO3.rf.blk (by omega) (by omega))
    have HO3 := Lib.hid hO3
    have HR := Lib.hid hR
    clear hO3 hR
    go_wp2_with fail
    refine HPK.out.mono ?_
    rintro e w4 ⟨q, rfl, hpk, hn32⟩
    have hge := hpk.ge
    have hqle : q ≤ 300 := by rcases hpk.le with h | h <;> omega
    have HAR := Lib.hid (open_res (ps := ps) HR.out hge hpk.le hpk.stay hc (by omega))
    have HO4 := Lib.hid (HO3.out.put hpk.grow hpk.blk)
    have HRF := Lib.hid (refuse_any w4 g q s q i (deep + 1) b nv' hpk.blk)
    have q14 := Blk.f1 hpk.blk
    clear hpk hn32 HPT HR HPK
    obtain ⟨b2, hb2⟩ : ∃ b2, b2 = if byteAt (xs s) q = 41 then b else if b < 0 then (q : Int) else b := ⟨_, rfl⟩
    rw [← hb2] at HAR
    by_cases h41 : byteAt (xs s) q = 41
    · rw [if_pos h41] at hb2
      subst hb2
      have hI : ((byteAt (xs s) q : Nat) : Int) = 41 := by omega
      clear h41 q14
      generalize byteAt (xs s) q = y at *
      have q41 := Blk.f1 HO4.out.rf.blk
      have q43 := Blk.f3 HO4.out.rf.blk
      have f41 := HO4.out.rf.blk.frozen 1
      have f43 := HO4.out.rf.blk.frozen 3
      obtain ⟨h6, f6⟩ := HO4.out.rf.put (only_set _ g 1 (.int .i64 ((q : Int) + 1))) (Blk.s1 HO4.out.rf.blk (q + 1))
      obtain ⟨h7, f7⟩ := h6.put (only_set _ g 3 (.int .i64 (deep : Int))) (Blk.s3 h6.blk deep)
      have HO7 := Lib.hid (show Out W g s deep N X (q + 1) i b2 M nv' _ from ⟨h7, ((HF2.out.trans HO4.out.fr).trans f6).trans f7, HO4.out.nk.mono HF2.out.1⟩)
      clear h6 f6 h7 f7
      go_wp2_with fail
      go_ret
      exact ⟨k, M, nv', q + 1, i, b2, rfl, HO7.out, by omega, by omega, HAR.out⟩
    · rw [if_neg h41] at hb2
      rw [← hb2] at HRF
      clear hb2
      have hI : ¬ ((byteAt (xs s) q : Nat) : Int) = 41 := by omega
      clear h41
      generalize byteAt (xs s) q = y at *
      go_wp2_with fail
      refine HRF.out.mono ?_
      rintro e w5 ⟨rfl, hb5, hg5⟩
      have HO5 := Lib.hid (HO4.out.put hg5 hb5)
      clear hb5 hg5 q14
      have q51 := Blk.f1 HO5.out.rf.blk
      have q53 := Blk.f3 HO5.out.rf.blk
      have f51 := HO5.out.rf.blk.frozen 1
      have f53 := HO5.out.rf.blk.frozen 3
      obtain ⟨h6, f6⟩ := HO5.out.rf.put (only_set _ g 1 (.int .i64 ((q : Int) + 1))) (Blk.s1 HO5.out.rf.blk (q + 1))
      obtain ⟨h7, f7⟩ := h6.put (only_set _ g 3 (.int .i64 (deep : Int))) (Blk.s3 h6.blk deep)
      have HO7 := Lib.hid (show Out W g s deep N X (q + 1) i b2 M nv' _ from ⟨h7, ((HF2.out.trans HO5.out.fr).trans f6).trans f7, HO5.out.nk.mono HF2.out.1⟩)
      clear h6 f6 h7 f7
      go_wp2_with fail
      go_ret
      exact ⟨k, M, nv', q + 1, i, b2, rfl, HO7.out, by omega, by omega, HAR.out⟩
end
end Go.Proofs.Ytlbkacabcfeaiaa.Tl
