/- Patterns: the reference reads a line. -/
import Derived.Test.YtlbkacabcfeaiaaKj
namespace Go.Proofs.Ytlbkacabcfeaiaa.Tl
open Go.RowKit Mm
set_option linter.unusedVariables false
theorem Out.drewN {W X Y : World} {g : Nat} {s : ByteArray} {p i d : Nat} {b : Int} {N M : List Nd} {v : Value} (h : Out W g s d N X p i b M v Y) (n : Nat) : Out W g s d N X p i b M v (Y.drewN n) :=
  ⟨h.rf.below (below_drewN (Below.refl _ _) n), h.fr.trans (Fr.below (below_drewN (Below.refl _ _) n)), h.nk⟩
theorem byte_none {x : List UInt8} {q : Nat} (h : x[q]? = none) : ((byteAt x q : Nat) : Int) = 0 := by unfold byteAt; rw [h]; rfl
theorem byte_some {x : List UInt8} {q : Nat} {c : UInt8} (h : x[q]? = some c) : ((byteAt x q : Nat) : Int) = (c.toNat : Int) := by unfold byteAt; rw [h]; rfl
theorem u8_ne {c : UInt8} {k : Nat} (hk : k < 256) (h : c ≠ UInt8.ofNat k) : ¬ ((c.toNat : Nat) : Int) = (k : Int) := no_byte hk h
set_option maxRecDepth 100000 in
set_option maxHeartbeats 16000000 in
theorem line_any {W X : World} {g : Nat} {s : ByteArray} {pos it deep : Nat} {N : List Nd} {nv : Value} {n : Nat} (hp : ∀ m, m < n → PatC s m) (h : Rf W g s pos it deep (-1) N nv X) (hpos : pos ≤ s.size) (hn : s.size - pos ≤ n) (hit : it ≤ 48) (hdp : deep ≤ 32) (hN : N.length ≤ 4 * pos + 4) (hs : s.size ≤ 256) :
    Calls Try.prog 30 #[.pointer (some ⟨g, 0, none⟩)] X (LineQ W X g s deep N pos it) := by
  have HS := Lib.hid (Out.start h)
  have HX := Lib.hid h
  have HPC := Lib.hid hp
  have hWX := h.bel.size
  have HI := Lib.hid (show LineI s deep pos it N [] [] [] pos it (-1) from ⟨DenL.nil _, by simp [bdL], Nat.le_refl _, by simp, .inl ⟨rfl, hpos, hit, fun _ _ _ => rfl, fun h => absurd rfl h⟩⟩)
  clear h hp
  go_enter Try.func30, Try.ntmps30
  go_wp2_with fail
  go_loopw [3] (fun lv wr => ∃ (M : List Nd) (nv' : Value) (ks : List Nat) (ps : List T) (p i : Nat) (b : Int), Out W g s deep N X p i b M nv' wr ∧ wr.ownsRow X.heap.size 3 1 lv ks.length (iv ks) ∧ Sep M lv ∧ LineI s deep pos it N M ks ps p i b) (fun _ wr => 2001 - posR g wr)
  case atStart => exact ⟨[], nv, [], [], pos, it, -1, HS.out, World.ownsRow_nil _ _ _ _, fun d hd => by (cases hd), HI.out⟩
  case round =>
    obtain ⟨M, nv', ks, ps, p, i, b, hO, hrow, hsep, hI⟩ := hrel
    have HO := Lib.hid hO
    have HI2 := Lib.hid hI
    have q4 := Blk.f4 hO.rf.blk
    have hcnt := hI.cnt
    have hmu := posR_of hO.rf.blk
    have hpge := hI.ge
    have hks : ks.length ≤ 3000 ∧ bdL ps ≤ 20000 ∧ p ≤ s.size := by
      have h1 := hI.wt
      have h2 := bdL_len ps
      have h3 := hI.den.1
      rcases hI.r with ⟨_, h, _⟩ | ⟨_, _, h, _⟩ <;> omega
    obtain ⟨hkl, hbl, hple⟩ := hks
    have HROW := Lib.hid hrow
    have HSEP := Lib.hid hsep
    obtain ⟨al, cl, rfl⟩ := own_len hrow
    by_cases hb : b < 0
    · have hb1 : b = -1 ∧ i ≤ 48 := by
        rcases hI.r with ⟨h, _, h2, _⟩ | ⟨c, h, _⟩
        · exact ⟨h, h2⟩
        · omega
      obtain ⟨rfl, hi48⟩ := hb1
      have HP := Lib.hid (peek_any wr g s p i deep _ _ hO.rf.blk (by omega) (by omega))
      clear hO hI HS HI hrow hsep
      go_wp2_with fail
      refine HP.out.mono ?_
      rintro e w1 ⟨q, rfl, hpk, hn32⟩
      have HO1 := Lib.hid (HO.out.put hpk.grow hpk.blk)
      have hge := hpk.ge
      have hqle : q ≤ s.size := by rcases hpk.le with h | h <;> omega
      have q0 := Blk.f0 hpk.blk
      have q1 := Blk.f1 hpk.blk
      have HSM := Lib.hid hpk.same
      have hrow1 : w1.ownsRow X.heap.size 3 1 (.slice al ks.length cl) ks.length (iv ks) := own_fr HROW.out (Fr.blk hpk.grow HO.out.rf.blk)
      have HROW1 := Lib.hid hrow1
      have HSF := Lib.hid (show ∀ c, (xs s)[q]? = some c → isSuf c → ps = [] from fun c hc hs => by
        rcases HI2.out.r with ⟨_, _, _, _, h4⟩ | ⟨b0, hb0, _⟩
        · by_cases hps : ps = []
          · exact hps
          · obtain ⟨h5, h6⟩ := h4 hps
            rw [hpk.stay h6] at hc
            exact absurd hs (h5 c hc)
        · omega)
      have HJ := Lib.hid (fun n => rjoin_any (HO1.out.drewN n).rf 4 (.inl rfl) (.slice al ks.length cl) ks ps (Fz.of_own (own_drewN hrow1 n)) HI2.out.den (by omega) (by rw [List.length_append]; omega))
      clear hpk hrow1 q4 HROW
      have hqI : (0 : Int) ≤ (q : Int) := by omega
      by_cases hbrk : (xs s)[q]? = none ∨ (xs s)[q]? = some 41 ∨ (xs s)[q]? = some 124
      · have HEND := Lib.hid (fun (K : List Nd) (k : Nat) (hd : Den (N ++ (M ++ K)) k (mkSeq ps)) => line_ends HI2.out hd hdp HSM.out hge hqle (fun _ => hbrk))
        have HBK := Lib.hid hbrk
        rcases hbrk with hx | hx | hx
        · have hI0 := byte_none hx
          have hqs : (s.size : Int) ≤ (q : Int) := by
            have := List.getElem?_eq_none_iff.1 hx
            rw [xs_len] at this
            omega
          clear hx hn32
          generalize byteAt (xs s) q = y at *
          go_wp2_with fail
          go_quiet (fail)
          go_wp2_with fail
          refine (HJ.out _).mono ?_
          rintro e w2 ⟨k, M2, nv2, rfl, hR2, hF2, hN2, hM2, hden⟩
          go_wp2_with fail
          go_ret
          exact ⟨k, M ++ M2, nv2, q, i, -1, rfl, (HO1.out.drewN _).trans ⟨hR2, hF2, hN2⟩, by omega, by rw [List.length_append]; omega, HEND.out M2 k (by rw [← List.append_assoc]; exact hden)⟩
        · have hI0 : ((byteAt (xs s) q : Nat) : Int) = 41 := byte_some hx
          clear hx hn32
          generalize byteAt (xs s) q = y at *
          go_wp2_with fail
          go_quiet (fail)
          go_wp2_with fail
          refine (HJ.out _).mono ?_
          rintro e w2 ⟨k, M2, nv2, rfl, hR2, hF2, hN2, hM2, hden⟩
          go_wp2_with fail
          go_ret
          exact ⟨k, M ++ M2, nv2, q, i, -1, rfl, (HO1.out.drewN _).trans ⟨hR2, hF2, hN2⟩, by omega, by rw [List.length_append]; omega, HEND.out M2 k (by rw [← List.append_assoc]; exact hden)⟩
        · have hI0 : ((byteAt (xs s) q : Nat) : Int) = 124 := byte_some hx
          clear hx hn32
          generalize byteAt (xs s) q = y at *
          go_wp2_with fail
          go_quiet (fail)
          go_wp2_with fail
          refine (HJ.out _).mono ?_
          rintro e w2 ⟨k, M2, nv2, rfl, hR2, hF2, hN2, hM2, hden⟩
          go_wp2_with fail
          go_ret
          exact ⟨k, M ++ M2, nv2, q, i, -1, rfl, (HO1.out.drewN _).trans ⟨hR2, hF2, hN2⟩, by omega, by rw [List.length_append]; omega, HEND.out M2 k (by rw [← List.append_assoc]; exact hden)⟩
      · obtain ⟨c, hc⟩ : ∃ c, (xs s)[q]? = some c := by
          cases hx : (xs s)[q]? with
          | none => exact absurd (.inl hx) hbrk
          | some c => exact ⟨c, rfl⟩
        have hql : q < s.size := by have := (List.getElem?_eq_some_iff.1 hc).1; rw [xs_len] at this; exact this
        have h41 : c ≠ 41 := fun e => hbrk (.inr (.inl (by rw [hc, e])))
        have h124 : c ≠ 124 := fun e => hbrk (.inr (.inr (by rw [hc, e])))
        have h32 : c ≠ 32 := fun e => hn32 (by rw [hc, e])
        have HA := Lib.hid (show ∀ n : Nat, Calls Try.prog 42 #[.pointer (some ⟨g, 0, none⟩), .int .u8 ((byteAt (xs s) q : Nat) : Int)] (w1.drewN n) (AtomQ W (w1.drewN n) g s deep (N ++ M) q i ps) from fun n => by
          rw [byte_some hc]
          exact atom_any HPC.out (HO1.out.drewN n).rf hc h32 h41 h124 (HSF.out c hc) (by omega) hi48 hdp (by rw [List.length_append]; omega) hs)
        have b41 : ¬ ((byteAt (xs s) q : Nat) : Int) = 41 := by rw [byte_some hc]; exact u8_ne (by decide) h41
        have b124 : ¬ ((byteAt (xs s) q : Nat) : Int) = 124 := by rw [byte_some hc]; exact u8_ne (by decide) h124
        have hbs := byte_some hc
        have hqs : ¬ (s.size : Int) ≤ (q : Int) := by omega
        clear hbrk hn32 HJ
        by_cases h0 : c = 0
        · have hI0 : ((byteAt (xs s) q : Nat) : Int) = 0 := by rw [hbs, h0]; rfl
          clear hbs h0 hc h41 h124 h32
          generalize byteAt (xs s) q = y at *
          rw [hI0] at HA
          go_wp2_with fail
          go_quiet (fail)
          go_wp2_with fail
          refine (HA.out _).mono ?_
          rintro e w2 ⟨k2, M2, nv2, p2, i2, b2, rfl, hO2, hg2, hc2, hR2⟩
          have HO2 := Lib.hid ((HO1.out.drewN _).trans hO2)
          have q42 := Blk.f4 hO2.rf.blk
          have HROW2 := Lib.hid (own_fr (own_drewN HROW1.out _) hO2.fr)
          have HS2 := Lib.hid (HSEP.out.app (Sep.new hO2.nk (own_drewN HROW1.out _)))
          rcases hR2 with ⟨rfl, hp2, hi2, t2, hden2, hw2, hres2⟩ | ⟨b0, rfl, hp2, hi2, hres2⟩
          · have HSU := Lib.hid (suffixed_any hO2.rf hden2 hp2 hi2 (by rw [List.length_append, List.length_append]; omega) hs)
            have hbt := bd_ge t2
            have HGO := Lib.hid (fun (M3 : List Nd) (k3 p3 i3 : Nat) (b3 : Int) (t3 : T) (hI3 : SufI s p2 i2 t2 (N ++ M ++ M2) M3 k3 p3 i3 b3 t3) (hns : b3 = -1 → (∀ c, (xs s)[p3]? = some c → ¬ isSuf c) ∧ (xs s)[p3]? ≠ some 32) => line_goes (k := k2) HI2.out HSM.out hge (by have h := hI3.den; exact h) hw2 hI3.wt hg2 hI3.ge hc2 hI3.cnt hres2 hI3.r hns)
            clear hO2 hden2 hres2 HA
            go_wp2_with fail
            refine HSU.out.mono ?_
            rintro e w3 ⟨k3, M3, nv3, p3, i3, b3, t3, rfl, hO3, hI3, hns3⟩
            have hO3' : Out W g s deep (N ++ (M ++ M2)) w2 p3 i3 b3 M3 nv3 w3 := by rw [← List.append_assoc]; exact hO3
            have HO3 := Lib.hid (HO2.out.trans hO3')
            have HROW3 := Lib.hid (own_fr HROW2.out hO3.fr)
            have HS3 := Lib.hid (HS2.out.app (Sep.new hO3.nk HROW2.out))
            have HG3 := Lib.hid (HGO.out M3 k3 p3 i3 b3 t3 hI3 hns3)
            have hX3 := HO3.out.fr.1
            have hp3 := hI3.ge
            have hp3l := hI3.le
            clear hO3 hO3' hI3 hns3 q42
            go_wp2_with (at_builtin; refine app_int (k := k3) rfl HROW3.out rfl rfl rfl rfl (by simp) (by omega) hX3 ?_; intro v9 w9 ho9 hk9)
            have hR9 := HO3.out.rf.app HROW3.out hWX (Sep.app (Sep.old HX.out HROW3.out) HS3.out) hk9
            have HO9 := Lib.hid (show Out W g s deep N X p3 i3 b3 (M ++ M2 ++ M3) nv3 w9 from ⟨hR9, HO3.out.fr.app HROW3.out (Nat.le_refl _) hk9, HO3.out.nk⟩)
            have HS9 := Lib.hid (Sep.keeps HO3.out.rf HS3.out hk9)
            clear hR9 hk9
            go_roundw
            case rel => exact ⟨M ++ M2 ++ M3, nv3, ks ++ [k3], ps ++ [t3], p3, i3, b3, HO9.out, ho9, HS9.out, HG3.out⟩
            case measure =>
              rw [posR_of HO9.out.rf.blk, hmu]
              omega
          · have HRE := Lib.hid (show LineR s deep pos it N (M ++ M2) 0 p2 i2 (b0 : Int) from .inr ⟨b0, rfl, hp2, hi2, fun stk ch hl => by
              rcases HI2.out.r with ⟨_, _, _, h3, _⟩ | ⟨b1, hb1, _⟩
              · exact ((h3 stk ch hl).trans (HSM.out i stk ch _)).trans (hres2 stk ch hl)
              · omega⟩)
            clear hO2 hres2 HA
            have hb0 : (0 : Int) ≤ (b0 : Int) := by omega
            go_wp2_with fail
            go_ret
            exact ⟨0, M ++ M2, nv2, p2, i2, b0, rfl, HO2.out, by omega, by rw [List.length_append]; omega, HRE.out⟩
        · have hI0 : ¬ ((byteAt (xs s) q : Nat) : Int) = 0 := by rw [hbs]; exact u8_ne (k := 0) (by decide) h0
          have hJ0 : (((byteAt (xs s) q : Nat) : Int) == 0) = false := beq_eq_false_iff_ne.2 hI0
          have hJ1 : (((byteAt (xs s) q : Nat) : Int) == 124) = false := beq_eq_false_iff_ne.2 b124
          have hJ4 : (((byteAt (xs s) q : Nat) : Int) == 41) = false := beq_eq_false_iff_ne.2 b41
          clear hbs h0 hc h41 h124 h32
          generalize byteAt (xs s) q = y at *

          go_wp2_with fail
          go_quiet (fail)
          go_wp2_with fail
          refine (HA.out _).mono ?_
          rintro e w2 ⟨k2, M2, nv2, p2, i2, b2, rfl, hO2, hg2, hc2, hR2⟩
          have HO2 := Lib.hid ((HO1.out.drewN _).trans hO2)
          have q42 := Blk.f4 hO2.rf.blk
          have HROW2 := Lib.hid (own_fr (own_drewN HROW1.out _) hO2.fr)
          have HS2 := Lib.hid (HSEP.out.app (Sep.new hO2.nk (own_drewN HROW1.out _)))
          rcases hR2 with ⟨rfl, hp2, hi2, t2, hden2, hw2, hres2⟩ | ⟨b0, rfl, hp2, hi2, hres2⟩
          · have HSU := Lib.hid (suffixed_any hO2.rf hden2 hp2 hi2 (by rw [List.length_append, List.length_append]; omega) hs)
            have hbt := bd_ge t2
            have HGO := Lib.hid (fun (M3 : List Nd) (k3 p3 i3 : Nat) (b3 : Int) (t3 : T) (hI3 : SufI s p2 i2 t2 (N ++ M ++ M2) M3 k3 p3 i3 b3 t3) (hns : b3 = -1 → (∀ c, (xs s)[p3]? = some c → ¬ isSuf c) ∧ (xs s)[p3]? ≠ some 32) => line_goes (k := k2) HI2.out HSM.out hge (by have h := hI3.den; exact h) hw2 hI3.wt hg2 hI3.ge hc2 hI3.cnt hres2 hI3.r hns)
            clear hO2 hden2 hres2 HA
            go_wp2_with fail
            refine HSU.out.mono ?_
            rintro e w3 ⟨k3, M3, nv3, p3, i3, b3, t3, rfl, hO3, hI3, hns3⟩
            have hO3' : Out W g s deep (N ++ (M ++ M2)) w2 p3 i3 b3 M3 nv3 w3 := by rw [← List.append_assoc]; exact hO3
            have HO3 := Lib.hid (HO2.out.trans hO3')
            have HROW3 := Lib.hid (own_fr HROW2.out hO3.fr)
            have HS3 := Lib.hid (HS2.out.app (Sep.new hO3.nk HROW2.out))
            have HG3 := Lib.hid (HGO.out M3 k3 p3 i3 b3 t3 hI3 hns3)
            have hX3 := HO3.out.fr.1
            have hp3 := hI3.ge
            have hp3l := hI3.le
            clear hO3 hO3' hI3 hns3 q42
            go_wp2_with (at_builtin; refine app_int (k := k3) rfl HROW3.out rfl rfl rfl rfl (by simp) (by omega) hX3 ?_; intro v9 w9 ho9 hk9)
            have hR9 := HO3.out.rf.app HROW3.out hWX (Sep.app (Sep.old HX.out HROW3.out) HS3.out) hk9
            have HO9 := Lib.hid (show Out W g s deep N X p3 i3 b3 (M ++ M2 ++ M3) nv3 w9 from ⟨hR9, HO3.out.fr.app HROW3.out (Nat.le_refl _) hk9, HO3.out.nk⟩)
            have HS9 := Lib.hid (Sep.keeps HO3.out.rf HS3.out hk9)
            clear hR9 hk9
            go_roundw
            case rel => exact ⟨M ++ M2 ++ M3, nv3, ks ++ [k3], ps ++ [t3], p3, i3, b3, HO9.out, ho9, HS9.out, HG3.out⟩
            case measure =>
              rw [posR_of HO9.out.rf.blk, hmu]
              omega
          · have HRE := Lib.hid (show LineR s deep pos it N (M ++ M2) 0 p2 i2 (b0 : Int) from .inr ⟨b0, rfl, hp2, hi2, fun stk ch hl => by
              rcases HI2.out.r with ⟨_, _, _, h3, _⟩ | ⟨b1, hb1, _⟩
              · exact ((h3 stk ch hl).trans (HSM.out i stk ch _)).trans (hres2 stk ch hl)
              · omega⟩)
            clear hO2 hres2 HA
            have hb0 : (0 : Int) ≤ (b0 : Int) := by omega
            go_wp2_with fail
            go_ret
            exact ⟨0, M ++ M2, nv2, p2, i2, b0, rfl, HO2.out, by omega, by rw [List.length_append]; omega, HRE.out⟩
    · have HJ := Lib.hid (rjoin_any hO.rf 4 (.inl rfl) (.slice al ks.length cl) ks ps (Fz.of_own hrow) hI.den (by omega) (by rw [List.length_append]; omega))
      have hb1 : b ≠ -1 := by omega
      have HEND := Lib.hid (fun (K : List Nd) (k : Nat) (hd : Den (N ++ (M ++ K)) k (mkSeq ps)) => line_ends HI2.out hd hdp (Same.refl _ _) (Nat.le_refl _) hple (fun h => absurd h hb1))
      clear hO hI hrow hsep
      go_wp2_with fail
      refine HJ.out.mono ?_
      rintro e w2 ⟨k, M2, nv2, rfl, hR2, hF2, hN2, hM2, hden⟩
      go_wp2_with fail
      go_ret
      exact ⟨k, M ++ M2, nv2, p, i, b, rfl, HO.out.trans ⟨hR2, hF2, hN2⟩, by omega, by rw [List.length_append]; omega, HEND.out M2 k (by rw [← List.append_assoc]; exact hden)⟩
end Go.Proofs.Ytlbkacabcfeaiaa.Tl
