/- Texts of one kind, put together: Kk, Kl, Km. -/
import Derived.Test.YtlbkacabcfeaiaaZKB
import Derived.Test.YtlbkacabcfeaiaaZCo
/- Patterns: the reference reads a line. -/
namespace Go.Proofs.Ytlbkacabcfeaiaa.Tl
open Go.RowKit Mm
set_option linter.unusedVariables false
theorem Out.drewN {W X Y : World} {g : Nat} {s : ByteArray} {p i d : Nat} {b : Int} {N M : List Nd} {v : Value} (h : Out W g s d N X p i b M v Y) (n : Nat) : Out W g s d N X p i b M v (Y.drewN n) :=
  ⟨h.rf.below (below_drewN (Below.refl _ _) n), h.fr.trans (Fr.below (below_drewN (Below.refl _ _) n)), h.nk⟩
theorem byte_none {x : List UInt8} {q : Nat} (h : x[q]? = none) : ((byteAt x q : Nat) : Int) = 0 := by unfold byteAt; rw [h]; rfl
theorem byte_some {x : List UInt8} {q : Nat} {c : UInt8} (h : x[q]? = some c) : ((byteAt x q : Nat) : Int) = (c.toNat : Int) := by unfold byteAt; rw [h]; rfl
theorem u8_ne {c : UInt8} {k : Nat} (hk : k < 256) (h : c ≠ UInt8.ofNat k) : ¬ ((c.toNat : Nat) : Int) = (k : Int) := no_byte hk h
set_option maxRecDepth 100000 in
set_option maxHeartbeats 16000000 in
theorem line_any {W X : World} {g : Nat} {s : ByteArray} {pos it deep : Nat} {N : List Nd} {nv : Value} {n : Nat} (hp : ∀ m, m < n → PatC s m) (h : Rf W g s pos it deep (-1) N nv X) (hpos : pos ≤ s.size) (hn : s.size - pos ≤ n) (hit : it ≤ 48) (hdp : deep ≤ 32) (hN : N.length ≤ 4 * pos + 4) (hs : s.size ≤ 256) :
    Calls Try.prog 30 #[.pointer (some ⟨g, 0, none⟩)] X (LineQ W X g s deep N pos it) := by
  have HS := Lib.hid (Out.start h)
  have HX := Lib.hid h
  have HPC := Lib.hid hp
  have hWX := h.bel.size
  have HI := Lib.hid (show LineI s deep pos it N [] [] [] pos it (-1) from ⟨DenL.nil _, by simp [bdL], Nat.le_refl _, by simp, .inl ⟨rfl, hpos, hit, fun _ _ _ => rfl, fun h => absurd rfl h⟩⟩)
  clear h hp
  go_enter Try.func30, Try.ntmps30
  go_wp2_with fail
  go_loopw [3] (fun lv wr => ∃ (M : List Nd) (nv' : Value) (ks : List Nat) (ps : List T) (p i : Nat) (b : Int), Out W g s deep N X p i b M nv' wr ∧ wr.ownsRow X.heap.size 3 1 lv ks.length (iv ks) ∧ Sep M lv ∧ LineI s deep pos it N M ks ps p i b) (fun _ wr => 2001 - posR g wr)
  case atStart => exact ⟨[], nv, [], [], pos, it, -1, HS.out, World.ownsRow_nil _ _ _ _, fun d hd => by (cases hd), HI.out⟩
  case round =>
    obtain ⟨M, nv', ks, ps, p, i, b, hO, hrow, hsep, hI⟩ := hrel
    have HO := Lib.hid hO
    have HI2 := Lib.hid hI
    have q4 := Blk.f4 hO.rf.blk
    have hcnt := hI.cnt
    have hmu := posR_of hO.rf.blk
    have hpge := hI.ge
    have hks : ks.length ≤ 3000 ∧ bdL ps ≤ 20000 ∧ p ≤ s.size := by
      have h1 := hI.wt
      have h2 := bdL_len ps
      have h3 := hI.den.1
      rcases hI.r with ⟨_, h, _⟩ | ⟨_, _, h, _⟩ <;> omega
    obtain ⟨hkl, hbl, hple⟩ := hks
    have HROW := Lib.hid hrow
    have HSEP := Lib.hid hsep
    obtain ⟨al, cl, rfl⟩ := own_len hrow
    by_cases hb : b < 0
    · have hb1 : b = -1 ∧ i ≤ 48 := by
        rcases hI.r with ⟨h, _, h2, _⟩ | ⟨c, h, _⟩
        · exact ⟨h, h2⟩
        · omega
      obtain ⟨rfl, hi48⟩ := hb1
      have HP := Lib.hid (peek_any wr g s p i deep _ _ hO.rf.blk (by omega) (by omega))
      clear hO hI HS HI hrow hsep
      go_wp2_with fail
      refine HP.out.mono ?_
      rintro e w1 ⟨q, rfl, hpk, hn32⟩
      have HO1 := Lib.hid (HO.out.put hpk.grow hpk.blk)
      have hge := hpk.ge
      have hqle : q ≤ s.size := by rcases hpk.le with h | h <;> omega
      have q0 := Blk.f0 hpk.blk
      have q1 := Blk.f1 hpk.blk
      have HSM := Lib.hid hpk.same
      have hrow1 : w1.ownsRow X.heap.size 3 1 (.slice al ks.length cl) ks.length (iv ks) := own_fr HROW.out (Fr.blk hpk.grow HO.out.rf.blk)
      have HROW1 := Lib.hid hrow1
      have HSF := Lib.hid (show ∀ c, (xs s)[q]? = some c → isSuf c → ps = [] from fun c hc hs => by
        rcases HI2.out.r with ⟨_, _, _, _, h4⟩ | ⟨b0, hb0, _⟩
        · by_cases hps : ps = []
          · exact hps
          · obtain ⟨h5, h6⟩ := h4 hps
            rw [hpk.stay h6] at hc
            exact absurd hs (h5 c hc)
        · omega)
      have HJ := Lib.hid (fun n => rjoin_any (HO1.out.drewN n).rf 4 (.inl rfl) (.slice al ks.length cl) ks ps (Fz.of_own (own_drewN hrow1 n)) HI2.out.den (by omega) (by rw [List.length_append]; omega))
      clear hpk hrow1 q4 HROW
      have hqI : (0 : Int) ≤ (q : Int) := by omega
      by_cases hbrk : (xs s)[q]? = none ∨ (xs s)[q]? = some 41 ∨ (xs s)[q]? = some 124
      · have HEND := Lib.hid (fun (K : List Nd) (k : Nat) (hd : Den (N ++ (M ++ K)) k (mkSeq ps)) => line_ends HI2.out hd hdp HSM.out hge hqle (fun _ => hbrk))
        have HBK := Lib.hid hbrk
        rcases hbrk with hx | hx | hx
        · have hI0 := byte_none hx
          have hqs : (s.size : Int) ≤ (q : Int) := by
            have := List.getElem?_eq_none_iff.1 hx
            rw [xs_len] at this
            omega
          clear hx hn32
          generalize byteAt (xs s) q = y at *
          go_wp2_with fail
          go_quiet (fail)
          go_wp2_with fail
          refine (HJ.out _).mono ?_
          rintro e w2 ⟨k, M2, nv2, rfl, hR2, hF2, hN2, hM2, hden⟩
          go_wp2_with fail
          go_ret
          exact ⟨k, M ++ M2, nv2, q, i, -1, rfl, (HO1.out.drewN _).trans ⟨hR2, hF2, hN2⟩, by omega, by rw [List.length_append]; omega, HEND.out M2 k (by rw [← List.append_assoc]; exact hden)⟩
        · have hI0 : ((byteAt (xs s) q : Nat) : Int) = 41 := byte_some hx
          clear hx hn32
          generalize byteAt (xs s) q = y at *
          go_wp2_with fail
          go_quiet (fail)
          go_wp2_with fail
          refine (HJ.out _).mono ?_
          rintro e w2 ⟨k, M2, nv2, rfl, hR2, hF2, hN2, hM2, hden⟩
          go_wp2_with fail
          go_ret
          exact ⟨k, M ++ M2, nv2, q, i, -1, rfl, (HO1.out.drewN _).trans ⟨hR2, hF2, hN2⟩, by omega, by rw [List.length_append]; omega, HEND.out M2 k (by rw [← List.append_assoc]; exact hden)⟩
        · have hI0 : ((byteAt (xs s) q : Nat) : Int) = 124 := byte_some hx
          clear hx hn32
          generalize byteAt (xs s) q = y at *
          go_wp2_with fail
          go_quiet (fail)
          go_wp2_with fail
          refine (HJ.out _).mono ?_
          rintro e w2 ⟨k, M2, nv2, rfl, hR2, hF2, hN2, hM2, hden⟩
          go_wp2_with fail
          go_ret
          exact ⟨k, M ++ M2, nv2, q, i, -1, rfl, (HO1.out.drewN _).trans ⟨hR2, hF2, hN2⟩, by omega, by rw [List.length_append]; omega, HEND.out M2 k (by rw [← List.append_assoc]; exact hden)⟩
      · obtain ⟨c, hc⟩ : ∃ c, (xs s)[q]? = some c := by
          cases hx : (xs s)[q]? with
          | none => exact absurd (.inl hx) hbrk
          | some c => exact ⟨c, rfl⟩
        have hql : q < s.size := by have := (List.getElem?_eq_some_iff.1 hc).1; rw [xs_len] at this; exact this
        have h41 : c ≠ 41 := fun e => hbrk (.inr (.inl (by rw [hc, e])))
        have h124 : c ≠ 124 := fun e => hbrk (.inr (.inr (by rw [hc, e])))
        have h32 : c ≠ 32 := fun e => hn32 (by rw [hc, e])
        have HA := Lib.hid (show ∀ n : Nat, Calls Try.prog 42 #[.pointer (some ⟨g, 0, none⟩), .int .u8 ((byteAt (xs s) q : Nat) : Int)] (w1.drewN n) (AtomQ W (w1.drewN n) g s deep (N ++ M) q i ps) from fun n => by
          rw [byte_some hc]
          exact atom_any HPC.out (HO1.out.drewN n).rf hc h32 h41 h124 (HSF.out c hc) (by omega) hi48 hdp (by rw [List.length_append]; omega) hs)
        have b41 : ¬ ((byteAt (xs s) q : Nat) : Int) = 41 := by rw [byte_some hc]; exact u8_ne (by decide) h41
        have b124 : ¬ ((byteAt (xs s) q : Nat) : Int) = 124 := by rw [byte_some hc]; exact u8_ne (by decide) h124
        have hbs := byte_some hc
        have hqs : ¬ (s.size : Int) ≤ (q : Int) := by omega
        clear hbrk hn32 HJ
        by_cases h0 : c = 0
        · have hI0 : ((byteAt (xs s) q : Nat) : Int) = 0 := by rw [hbs, h0]; rfl
          clear hbs h0 hc h41 h124 h32
          generalize byteAt (xs s) q = y at *
          rw [hI0] at HA
          go_wp2_with fail
          go_quiet (fail)
          go_wp2_with fail
          refine (HA.out _).mono ?_
          rintro e w2 ⟨k2, M2, nv2, p2, i2, b2, rfl, hO2, hg2, hc2, hR2⟩
          have HO2 := Lib.hid ((HO1.out.drewN _).trans hO2)
          have q42 := Blk.f4 hO2.rf.blk
          have HROW2 := Lib.hid (own_fr (own_drewN HROW1.out _) hO2.fr)
          have HS2 := Lib.hid (HSEP.out.app (Sep.new hO2.nk (own_drewN HROW1.out _)))
          rcases hR2 with ⟨rfl, hp2, hi2, t2, hden2, hw2, hres2⟩ | ⟨b0, rfl, hp2, hi2, hres2⟩
          · have HSU := Lib.hid (suffixed_any hO2.rf hden2 hp2 hi2 (by rw [List.length_append, List.length_append]; omega) hs)
            have hbt := bd_ge t2
            have HGO := Lib.hid (fun (M3 : List Nd) (k3 p3 i3 : Nat) (b3 : Int) (t3 : T) (hI3 : SufI s p2 i2 t2 (N ++ M ++ M2) M3 k3 p3 i3 b3 t3) (hns : b3 = -1 → (∀ c, (xs s)[p3]? = some c → ¬ isSuf c) ∧ (xs s)[p3]? ≠ some 32) => line_goes (k := k2) HI2.out HSM.out hge (by have h := hI3.den; exact h) hw2 hI3.wt hg2 hI3.ge hc2 hI3.cnt hres2 hI3.r hns)
            clear hO2 hden2 hres2 HA
            go_wp2_with fail
            refine HSU.out.mono ?_
            rintro e w3 ⟨k3, M3, nv3, p3, i3, b3, t3, rfl, hO3, hI3, hns3⟩
            have hO3' : Out W g s deep (N ++ (M ++ M2)) w2 p3 i3 b3 M3 nv3 w3 := by rw [← List.append_assoc]; exact hO3
            have HO3 := Lib.hid (HO2.out.trans hO3')
            have HROW3 := Lib.hid (own_fr HROW2.out hO3.fr)
            have HS3 := Lib.hid (HS2.out.app (Sep.new hO3.nk HROW2.out))
            have HG3 := Lib.hid (HGO.out M3 k3 p3 i3 b3 t3 hI3 hns3)
            have hX3 := HO3.out.fr.1
            have hp3 := hI3.ge
            have hp3l := hI3.le
            clear hO3 hO3' hI3 hns3 q42
            go_wp2_with (at_builtin; refine app_int (k := k3) rfl HROW3.out rfl rfl rfl rfl (by simp) (by omega) hX3 ?_; intro v9 w9 ho9 hk9)
            have hR9 := HO3.out.rf.app HROW3.out hWX (Sep.app (Sep.old HX.out HROW3.out) HS3.out) hk9
            have HO9 := Lib.hid (show Out W g s deep N X p3 i3 b3 (M ++ M2 ++ M3) nv3 w9 from ⟨hR9, HO3.out.fr.app HROW3.out (Nat.le_refl _) hk9, HO3.out.nk⟩)
            have HS9 := Lib.hid (Sep.keeps HO3.out.rf HS3.out hk9)
            clear hR9 hk9
            go_roundw
            case rel => exact ⟨M ++ M2 ++ M3, nv3, ks ++ [k3], ps ++ [t3], p3, i3, b3, HO9.out, ho9, HS9.out, HG3.out⟩
            case measure =>
              rw [posR_of HO9.out.rf.blk, hmu]
              omega
          · have HRE := Lib.hid (show LineR s deep pos it N (M ++ M2) 0 p2 i2 (b0 : Int) from .inr ⟨b0, rfl, hp2, hi2, fun stk ch hl => by
              rcases HI2.out.r with ⟨_, _, _, h3, _⟩ | ⟨b1, hb1, _⟩
              · exact ((h3 stk ch hl).trans (HSM.out i stk ch _)).trans (hres2 stk ch hl)
              · omega⟩)
            clear hO2 hres2 HA
            have hb0 : (0 : Int) ≤ (b0 : Int) := by omega
            go_wp2_with fail
            go_ret
            exact ⟨0, M ++ M2, nv2, p2, i2, b0, rfl, HO2.out, by omega, by rw [List.length_append]; omega, HRE.out⟩
        · have hI0 : ¬ ((byteAt (xs s) q : Nat) : Int) = 0 := by rw [hbs]; exact u8_ne (k := 0) (by decide) h0
          have hJ0 : (((byteAt (xs s) q : Nat) : Int) == 0) = false := beq_eq_false_iff_ne.2 hI0
          have hJ1 : (((byteAt (xs s) q : Nat) : Int) == 124) = false := beq_eq_false_iff_ne.2 b124
          have hJ4 : (((byteAt (xs s) q : Nat) : Int) == 41) = false := beq_eq_false_iff_ne.2 b41
          clear hbs h0 hc h41 h124 h32
          generalize byteAt (xs s) q = y at *

          go_wp2_with fail
          go_quiet (fail)
          go_wp2_with fail
          refine (HA.out _).mono ?_
          rintro e w2 ⟨k2, M2, nv2, p2, i2, b2, rfl, hO2, hg2, hc2, hR2⟩
          have HO2 := Lib.hid ((HO1.out.drewN _).trans hO2)
          have q42 := Blk.f4 hO2.rf.blk
          have HROW2 := Lib.hid (own_fr (own_drewN HROW1.out _) hO2.fr)
          have HS2 := Lib.hid (HSEP.out.app (Sep.new hO2.nk (own_drewN HROW1.out _)))
          rcases hR2 with ⟨rfl, hp2, hi2, t2, hden2, hw2, hres2⟩ | ⟨b0, rfl, hp2, hi2, hres2⟩
          · have HSU := Lib.hid (suffixed_any hO2.rf hden2 hp2 hi2 (by rw [List.length_append, List.length_append]; omega) hs)
            have hbt := bd_ge t2
            have HGO := Lib.hid (fun (M3 : List Nd) (k3 p3 i3 : Nat) (b3 : Int) (t3 : T) (hI3 : SufI s p2 i2 t2 (N ++ M ++ M2) M3 k3 p3 i3 b3 t3) (hns : b3 = -1 → (∀ c, (xs s)[p3]? = some c → ¬ isSuf c) ∧ (xs s)[p3]? ≠ some 32) => line_goes (k := k2) HI2.out HSM.out hge (by have h := hI3.den; exact h) hw2 hI3.wt hg2 hI3.ge hc2 hI3.cnt hres2 hI3.r hns)
            clear hO2 hden2 hres2 HA
            go_wp2_with fail
            refine HSU.out.mono ?_
            rintro e w3 ⟨k3, M3, nv3, p3, i3, b3, t3, rfl, hO3, hI3, hns3⟩
            have hO3' : Out W g s deep (N ++ (M ++ M2)) w2 p3 i3 b3 M3 nv3 w3 := by rw [← List.append_assoc]; exact hO3
            have HO3 := Lib.hid (HO2.out.trans hO3')
            have HROW3 := Lib.hid (own_fr HROW2.out hO3.fr)
            have HS3 := Lib.hid (HS2.out.app (Sep.new hO3.nk HROW2.out))
            have HG3 := Lib.hid (HGO.out M3 k3 p3 i3 b3 t3 hI3 hns3)
            have hX3 := HO3.out.fr.1
            have hp3 := hI3.ge
            have hp3l := hI3.le
            clear hO3 hO3' hI3 hns3 q42
            go_wp2_with (at_builtin; refine app_int (k := k3) rfl HROW3.out rfl rfl rfl rfl (by simp) (by omega) hX3 ?_; intro v9 w9 ho9 hk9)
            have hR9 := HO3.out.rf.app HROW3.out hWX (Sep.app (Sep.old HX.out HROW3.out) HS3.out) hk9
            have HO9 := Lib.hid (show Out W g s deep N X p3 i3 b3 (M ++ M2 ++ M3) nv3 w9 from ⟨hR9, HO3.out.fr.app HROW3.out (Nat.le_refl _) hk9, HO3.out.nk⟩)
            have HS9 := Lib.hid (Sep.keeps HO3.out.rf HS3.out hk9)
            clear hR9 hk9
            go_roundw
            case rel => exact ⟨M ++ M2 ++ M3, nv3, ks ++ [k3], ps ++ [t3], p3, i3, b3, HO9.out, ho9, HS9.out, HG3.out⟩
            case measure =>
              rw [posR_of HO9.out.rf.blk, hmu]
              omega
          · have HRE := Lib.hid (show LineR s deep pos it N (M ++ M2) 0 p2 i2 (b0 : Int) from .inr ⟨b0, rfl, hp2, hi2, fun stk ch hl => by
              rcases HI2.out.r with ⟨_, _, _, h3, _⟩ | ⟨b1, hb1, _⟩
              · exact ((h3 stk ch hl).trans (HSM.out i stk ch _)).trans (hres2 stk ch hl)
              · omega⟩)
            clear hO2 hres2 HA
            have hb0 : (0 : Int) ≤ (b0 : Int) := by omega
            go_wp2_with fail
            go_ret
            exact ⟨0, M ++ M2, nv2, p2, i2, b0, rfl, HO2.out, by omega, by rw [List.length_append]; omega, HRE.out⟩
    · have HJ := Lib.hid (rjoin_any hO.rf 4 (.inl rfl) (.slice al ks.length cl) ks ps (Fz.of_own hrow) hI.den (by omega) (by rw [List.length_append]; omega))
      have hb1 : b ≠ -1 := by omega
      have HEND := Lib.hid (fun (K : List Nd) (k : Nat) (hd : Den (N ++ (M ++ K)) k (mkSeq ps)) => line_ends HI2.out hd hdp (Same.refl _ _) (Nat.le_refl _) hple (fun h => absurd h hb1))
      clear hO hI hrow hsep
      go_wp2_with fail
      refine HJ.out.mono ?_
      rintro e w2 ⟨k, M2, nv2, rfl, hR2, hF2, hN2, hM2, hden⟩
      go_wp2_with fail
      go_ret
      exact ⟨k, M ++ M2, nv2, p, i, b, rfl, HO.out.trans ⟨hR2, hF2, hN2⟩, by omega, by rw [List.length_append]; omega, HEND.out M2 k (by rw [← List.append_assoc]; exact hden)⟩
end Go.Proofs.Ytlbkacabcfeaiaa.Tl
/- Patterns: the reference reads a pattern. -/
namespace Go.Proofs.Ytlbkacabcfeaiaa.Tl
open Go.RowKit Mm
set_option linter.unusedVariables false
set_option maxRecDepth 100000 in
set_option maxHeartbeats 8000000 in
/-- a line of a reader that has refused -/
theorem line_bad {W X : World} {g : Nat} {s : ByteArray} {pos it deep : Nat} {b : Int} {N : List Nd} {nv : Value} (h : Rf W g s pos it deep b N nv X) (hb : 0 ≤ b) (hN : N.length ≤ 90000) :
    Calls Try.prog 30 #[.pointer (some ⟨g, 0, none⟩)] X fun e w' => ∃ (k : Nat) (M : List Nd) (nv' : Value), e = .returned (.int .i64 (k : Int)) ∧ Out W g s deep N X pos it b M nv' w' ∧ M.length ≤ 1 := by
  have HS := Lib.hid (Out.start h)
  have HJ := Lib.hid (rjoin_any h 4 (.inl rfl) (.slice none 0 0) [] [] (kid_nil X) (DenL.nil _) (by simp [bdL]) hN)
  have q4 := Blk.f4 h.blk
  clear h
  go_enter Try.func30, Try.ntmps30
  go_wp2_with fail
  go_loopw [3] (fun lv wr => lv = .slice none 0 0 ∧ X = wr) (fun _ wr => 0)
  case atStart => exact ⟨rfl, rfl⟩
  case round =>
    obtain ⟨rfl, rfl⟩ := hrel
    go_wp2_with fail
    refine HJ.out.mono ?_
    rintro e w2 ⟨k, M2, nv2, rfl, hR2, hF2, hN2, hM2, hden⟩
    go_wp2_with fail
    go_ret
    exact ⟨k, M2, nv2, rfl, ⟨hR2, hF2, hN2⟩, hM2⟩
/-- what holds between the lines of a pattern -/
structure PatI (s : ByteArray) (deep pos it : Nat) (N M : List Nd) (ks : List Nat) (p i : Nat) (b : Int) : Prop where
  ge : pos ≤ p
  cnt : M.length + 4 * pos ≤ 4 * p + 1
  kl : ks.length ≤ p + 1
  r : (b = -1 ∧ p ≤ s.size ∧ i ≤ 48 ∧ ∃ ch ps, DenL (N ++ M) ks (ch ++ [mkSeq ps]) ∧ bdL ch + bdL ps + 16 * pos ≤ 16 * p ∧ ((xs s)[p]? = none ∨ (xs s)[p]? = some 41 ∨ (xs s)[p]? = some 124) ∧ ∀ stk : List (List T × List T), stk.length = deep → res (xs s) ⟨pos, it, stk, [], []⟩ = res (xs s) ⟨p, i, stk, ch, ps⟩) ∨
    (∃ b0 : Nat, b = (b0 : Int) ∧ p + deep ≤ s.size + 33 ∧ i ≤ 49 ∧ ∀ stk : List (List T × List T), stk.length = deep → res (xs s) ⟨pos, it, stk, [], []⟩ = .err b0)
section
variable {s : ByteArray} {deep pos it : Nat} {N M M2 : List Nd} {ks : List Nat} {p i k p2 i2 : Nat} {b2 : Int}
theorem pat_start (h : LineR s deep pos it N M k p i b2) (hge : pos ≤ p) (hc : M.length + 4 * pos ≤ 4 * p + 1) : PatI s deep pos it N M [k] p i b2 := by
  refine ⟨hge, hc, by simp, ?_⟩
  rcases h with ⟨rfl, h1, h2, ps, h3, h4, h5, h6⟩ | ⟨b0, rfl, h1, h2, h3⟩
  · exact .inl ⟨rfl, h1, h2, [], ps, .one h3, by simp only [bdL]; omega, h5, fun stk hl => h6 stk [] hl⟩
  · exact .inr ⟨b0, rfl, h1, h2, fun stk hl => h3 stk [] hl⟩
theorem pat_next (h : PatI s deep pos it N M ks p i (-1)) (hx : (xs s)[p]? = some 124) (hi : i < 48) (hl : LineR s deep (p + 1) (i + 1) (N ++ M) M2 k p2 i2 b2) (hc : M2.length + 4 * (p + 1) ≤ 4 * p2 + 1) (hge : p + 1 ≤ p2) : PatI s deep pos it N (M ++ M2) (ks ++ [k]) p2 i2 b2 := by
  refine ⟨by have := h.ge; omega, by have := h.cnt; rw [List.length_append]; omega, by have := h.kl; rw [List.length_append, List.length_cons, List.length_nil]; omega, ?_⟩
  rcases h.r with ⟨_, h1, h2, ch, ps, h3, h4, h5, h6⟩ | ⟨b0, hb, _⟩
  · have hs : ∀ stk : List (List T × List T), stk.length = deep → res (xs s) ⟨pos, it, stk, [], []⟩ = res (xs s) ⟨p + 1, i + 1, stk, ch ++ [mkSeq ps], []⟩ := fun stk hl => (h6 stk hl).trans (res_inl (st_124 hx hi))
    rcases hl with ⟨rfl, k1, k2, ps', k3, k4, k5, k6⟩ | ⟨b0, rfl, k1, k2, k3⟩
    · refine .inl ⟨rfl, k1, k2, ch ++ [mkSeq ps], ps', ?_, ?_, k5, fun stk hl => (hs stk hl).trans (k6 stk _ hl)⟩
      · rw [← List.append_assoc]
        exact h3.more.app (.one k3)
      · have := bd_mkSeq ps
        rw [bdL_app]
        simp only [bdL]
        omega
    · exact .inr ⟨b0, rfl, k1, k2, fun stk hl => (hs stk hl).trans (k3 stk _ hl)⟩
  · omega
theorem pat_full (h : PatI s deep pos it N M ks p i (-1)) (hx : (xs s)[p]? = some 124) (hi : 48 ≤ i) (hdp : deep ≤ 32) (hM : M2.length ≤ 1) : PatI s deep pos it N (M ++ M2) (ks ++ [k]) (p + 1) (i + 1) (p : Int) := by
  refine ⟨by have := h.ge; omega, by have := h.cnt; rw [List.length_append]; omega, by have := h.kl; rw [List.length_append, List.length_cons, List.length_nil]; omega, ?_⟩
  rcases h.r with ⟨_, h1, h2, ch, ps, h3, h4, h5, h6⟩ | ⟨b0, hb, _⟩
  · exact .inr ⟨p, rfl, by omega, by omega, fun stk hl => (h6 stk hl).trans (st_124e hx hi)⟩
  · omega
theorem pat_peek {q : Nat} (h : PatI s deep pos it N M ks p i (-1)) (hq : (xs s)[p]? ≠ some 32 → q = p) : q = p := by
  rcases h.r with ⟨_, h1, h2, ch, ps, h3, h4, h5, h6⟩ | ⟨b0, hb, _⟩
  · apply hq
    rcases h5 with h5 | h5 | h5 <;> rw [h5] <;> intro h <;> cases h
  · omega
end
set_option maxRecDepth 100000 in
set_option maxHeartbeats 16000000 in
theorem pattern_any {s : ByteArray} {n : Nat} (hs : s.size ≤ 256) (hp : ∀ m, m < n → PatC s m) : PatC s n := by
  intro W X g pos it deep N nv h hpos hn hit hdp hN
  have HL := Lib.hid (line_any hp h hpos hn hit hdp hN hs)
  have HX := Lib.hid h
  have HPC := Lib.hid hp
  have hWX := h.bel.size
  clear h hp
  go_enter Try.func19, Try.ntmps19
  go_wp2_with fail
  refine HL.out.mono ?_
  rintro e w1 ⟨k1, M1, nv1, p1, i1, b1, rfl, hO1, hg1, hc1, hR1⟩
  have hA1 : Below w1.heap.size w1 (w1.alloc (.cells #[.int .i64 (k1 : Int)] 3)) := (Below.refl _ w1).alloc (Nat.le_refl _) _
  have HO1 := Lib.hid (show Out W g s deep N X p1 i1 b1 M1 nv1 (w1.alloc (.cells #[.int .i64 (k1 : Int)] 3)) from ⟨hO1.rf.below hA1, hO1.fr.trans (Fr.below hA1), hO1.nk⟩)
  have HI1 := Lib.hid (pat_start hR1 hg1 hc1)
  have HR1 := Lib.hid (show (w1.alloc (.cells #[.int .i64 (k1 : Int)] 3)).ownsRow X.heap.size 3 1 (.slice (some ⟨w1.heap.size, 0, none⟩) 1 1) ([k1] : List Nat).length (iv [k1]) from own_one w1 3 #[.int .i64 (k1 : Int)] hO1.fr.1)
  have HS1 := Lib.hid (show Sep M1 (.slice (some ⟨w1.heap.size, 0, none⟩) 1 1) from fun d hd z hz e => by
    have := Fz.lt (hO1.rf.kid d (List.mem_append_right _ hd)) z hz
    have e2 : w1.heap.size = z := Option.some.inj e
    omega)
  clear hO1 hR1 hA1
  go_wp2_with fail
  go_loopw [4] (fun lv wr => ∃ (M : List Nd) (nv' : Value) (ks : List Nat) (p i : Nat) (b : Int), Out W g s deep N X p i b M nv' wr ∧ wr.ownsRow X.heap.size 3 1 lv ks.length (iv ks) ∧ Sep M lv ∧ PatI s deep pos it N M ks p i b) (fun _ wr => 2001 - posR g wr)
  case atStart => exact ⟨M1, nv1, [k1], p1, i1, b1, HO1.out, HR1.out, HS1.out, HI1.out⟩
  case round =>
    clear HO1 HR1 HS1 HI1 HL
    obtain ⟨M, nv', ks, p, i, b, hO, hrow, hsep, hI⟩ := hrel
    have HO := Lib.hid hO
    have HI := Lib.hid hI
    have HROW := Lib.hid hrow
    have HSEP := Lib.hid hsep
    have q4 := Blk.f4 hO.rf.blk
    have hcnt := hI.cnt
    have hkl := hI.kl
    have hge := hI.ge
    have hmu := posR_of hO.rf.blk
    have hp2 : p ≤ 300 := by rcases hI.r with ⟨_, h, _⟩ | ⟨_, _, h, _⟩ <;> omega
    obtain ⟨al, cl, rfl⟩ := own_len hrow
    by_cases hb : b < 0
    · have hb1 : b = -1 ∧ i ≤ 48 ∧ p ≤ s.size := by
        rcases hI.r with ⟨h, h1, h2, _⟩ | ⟨c, h, _⟩
        · exact ⟨h, h2, h1⟩
        · omega
      obtain ⟨rfl, hi48, hple⟩ := hb1
      have HP := Lib.hid (peek_any wr g s p i deep _ _ hO.rf.blk (by omega) (by omega))
      clear hO hI hrow hsep
      go_wp2_with fail
      refine HP.out.mono ?_
      rintro e w2 ⟨q, rfl, hpk, hn32⟩
      obtain rfl := pat_peek HI.out hpk.stay
      have HO2 := Lib.hid (HO.out.put hpk.grow hpk.blk)
      have q1 := Blk.f1 hpk.blk
      have hf1 := hpk.blk.frozen 1
      have q42 := Blk.f4 hpk.blk
      have HROW2 := Lib.hid (own_fr HROW.out (Fr.blk hpk.grow HO.out.rf.blk))
      have HIT := Lib.hid (ritem_any w2 g q s q i deep (-1) nv' hpk.blk (by omega))
      rw [item_bad hi48] at HIT
      clear hpk q4 HROW hn32 HP
      by_cases hx : (xs s)[q]? = some 124
      · have hI0 : ((byteAt (xs s) q : Nat) : Int) = 124 := byte_some hx
        have hql : q < s.size := by have := (List.getElem?_eq_some_iff.1 hx).1; rw [xs_len] at this; exact this
        generalize byteAt (xs s) q = y at *
        go_wp2_with fail
        refine HIT.out.mono ?_
        rintro e w3 ⟨rfl, hb3, hg3⟩
        have HO3 := Lib.hid (HO2.out.put hg3 hb3)
        have q13 := Blk.f1 hb3
        have hf3 := hb3.frozen 1
        have HROW3 := Lib.hid (own_fr HROW2.out (Fr.blk hg3 HO2.out.rf.blk))
        have HO4 := Lib.hid (HO3.out.put (only_set _ _ 1 _) (Blk.s1 HO3.out.rf.blk (q + 1)))
        have HROW4 := Lib.hid (own_fr HROW3.out (Fr.blk (only_set w3 g 1 (.int .i64 ((q + 1 : Nat) : Int))) hb3))
        clear hb3 hg3 q1 hf1 q42
        go_upto_region 6 with fail
        have HO5 := Lib.hid (show Out W g s deep N X (q + 1) (i + 1) (if 48 ≤ i then (q : Int) else -1) M nv' (w3.setCell ⟨g, 1, none⟩ (.int .i64 ((q : Int) + 1))) from HO4.out)
        have HROW5 := Lib.hid (show (w3.setCell ⟨g, 1, none⟩ (.int .i64 ((q : Int) + 1))).ownsRow X.heap.size 3 1 (.slice al ks.length cl) ks.length (iv ks) from HROW4.out)
        clear HO4 HROW4 q13 hf3
        generalize World.setCell _ _ _ = w4 at *
        by_cases h48 : 48 ≤ i
        · rw [if_pos h48] at HO5
          have HLN := Lib.hid (line_bad HO5.out.rf (by omega) (by rw [List.length_append]; omega))
          go_wp2_with fail
          refine HLN.out.mono ?_
          rintro e w5 ⟨k5, M5, nv5, rfl, hO6, hM5⟩
          have HO6 := Lib.hid (HO5.out.trans hO6)
          have HROW6 := Lib.hid (own_fr HROW5.out hO6.fr)
          have HS6 := Lib.hid (HSEP.out.app (Sep.new hO6.nk HROW5.out))
          have HI6 := Lib.hid (pat_full (M2 := M5) (k := k5) HI.out hx h48 hdp hM5)
          have hX6 := HO6.out.fr.1
          clear hO6 HLN h48 hM5
          go_wp2_with (at_builtin; refine app_int (k := k5) rfl HROW6.out rfl rfl rfl rfl (by simp) (by omega) hX6 ?_; intro v9 w9 ho9 hk9)
          have hR9 := HO6.out.rf.app HROW6.out hWX (Sep.app (Sep.old HX.out HROW6.out) HS6.out) hk9
          have HO9 := Lib.hid (show Out W g s deep N X (q + 1) (i + 1) (q : Int) (M ++ M5) nv5 w9 from ⟨hR9, HO6.out.fr.app HROW6.out (Nat.le_refl _) hk9, HO6.out.nk⟩)
          have HS9 := Lib.hid (Sep.keeps HO6.out.rf HS6.out hk9)
          clear hR9 hk9
          go_roundw
          case rel => exact ⟨M ++ M5, nv5, ks ++ [k5], q + 1, i + 1, q, HO9.out, ho9, HS9.out, HI6.out⟩
          case measure =>
            rw [posR_of HO9.out.rf.blk, hmu]
            omega
        · rw [if_neg h48] at HO5
          have HLN := Lib.hid (line_any HPC.out HO5.out.rf (by omega) (by omega) (by omega) hdp (by rw [List.length_append]; omega) hs)
          go_wp2_with fail
          refine HLN.out.mono ?_
          rintro e w5 ⟨k5, M5, nv5, p5, i5, b5, rfl, hO6, hg6, hc6, hR6⟩
          have HO6 := Lib.hid (HO5.out.trans hO6)
          have HROW6 := Lib.hid (own_fr HROW5.out hO6.fr)
          have HS6 := Lib.hid (HSEP.out.app (Sep.new hO6.nk HROW5.out))
          have HI6 := Lib.hid (pat_next HI.out hx (by omega) hR6 hc6 hg6)
          have hX6 := HO6.out.fr.1
          clear hO6 HLN h48 hR6
          go_wp2_with (at_builtin; refine app_int (k := k5) rfl HROW6.out rfl rfl rfl rfl (by simp) (by omega) hX6 ?_; intro v9 w9 ho9 hk9)
          have hR9 := HO6.out.rf.app HROW6.out hWX (Sep.app (Sep.old HX.out HROW6.out) HS6.out) hk9
          have HO9 := Lib.hid (show Out W g s deep N X p5 i5 b5 (M ++ M5) nv5 w9 from ⟨hR9, HO6.out.fr.app HROW6.out (Nat.le_refl _) hk9, HO6.out.nk⟩)
          have HS9 := Lib.hid (Sep.keeps HO6.out.rf HS6.out hk9)
          clear hR9 hk9
          go_roundw
          case rel => exact ⟨M ++ M5, nv5, ks ++ [k5], p5, i5, b5, HO9.out, ho9, HS9.out, HI6.out⟩
          case measure =>
            rw [posR_of HO9.out.rf.blk, hmu]
            omega
      · have hI0 : ¬ ((byteAt (xs s) q : Nat) : Int) = 124 := fun e => hx (byte_of (by decide) (by have : (124 : UInt8).toNat = 124 := rfl; omega))
        have hI1 : (((byteAt (xs s) q : Nat) : Int) == 124) = false := beq_eq_false_iff_ne.2 hI0
        rcases HI.out.r with ⟨_, h1, h2, ch, ps, h3, h4, h5, h6⟩ | ⟨b0, hb0, _⟩
        · have hwt : bdL (ch ++ [mkSeq ps]) ≤ 50000 := by
            have := bd_mkSeq ps
            rw [bdL_app]
            simp only [bdL]
            omega
          have HJ := Lib.hid (rjoin_any HO2.out.rf 5 (.inr rfl) (.slice al ks.length cl) ks (ch ++ [mkSeq ps]) (Fz.of_own HROW2.out) h3 hwt (by rw [List.length_append]; omega))
          have HE := Lib.hid (show ∀ (K : List Nd) (k : Nat), Den (N ++ (M ++ K)) k (whole ch ps) → PatR s deep pos it N (M ++ K) k q i (-1) from fun K k hd => .inl ⟨rfl, h1, h2, ch, ps, hd, h4, by rcases h5 with h | h | h; exact .inl h; exact .inr h; exact absurd h hx, h6⟩)
          clear hx h3 h4 h5 h6
          generalize byteAt (xs s) q = y at *
          go_wp2_with fail
          refine HJ.out.mono ?_
          rintro e w3 ⟨k, M3, nv3, rfl, hR3, hF3, hN3, hM3, hden⟩
          go_wp2_with fail
          go_ret
          exact ⟨k, M ++ M3, nv3, q, i, -1, rfl, HO2.out.trans ⟨hR3, hF3, hN3⟩, hge, by rw [List.length_append]; omega, HE.out M3 k (by rw [← List.append_assoc]; exact hden)⟩
        · omega
    · have HE := Lib.hid (show PatR s deep pos it N M 0 p i b from by
        rcases hI.r with ⟨h, _⟩ | h
        · omega
        · exact .inr h)
      clear hO hI hrow hsep
      have hb0 : 0 ≤ b := by omega
      go_wp2_with fail
      go_ret
      exact ⟨0, M, nv', p, i, b, rfl, HO.out, hge, by omega, HE.out⟩
theorem patC_all (s : ByteArray) (hs : s.size ≤ 256) (n : Nat) : PatC s n := by
  induction n using Nat.strongRecOn with
  | _ n ih => exact pattern_any hs ih
end Go.Proofs.Ytlbkacabcfeaiaa.Tl
/- Patterns: the reference's Compile. -/
namespace Go.Proofs.Ytlbkacabcfeaiaa.Tl
open Go.RowKit Mm
set_option linter.unusedVariables false
/-- a pattern of the reference that stands -/
structure RPat (w : World) (B : Nat) (t : T) (v : Value) : Prop where
  pat : ∃ (nv : Value) (root : Nat) (N : List Nd), v = .agg #[nv, .int .i64 (root : Int)] ∧ w.ownsRow B 92 4 nv N.length (ndC N) ∧ (∀ d ∈ N, Fz w 3 1 d.kv d.kids.length (iv d.kids)) ∧ Den N root t ∧ N.length ≤ 2000
/-- what the reference's Compile answers -/
def RCoR (w : World) (text : ByteArray) (e : Ending) (w' : World) : Prop :=
  Below w.heap.size w w' ∧ ((256 < text.size ∧ e = .returned (.tuple #[.agg #[.slice none 0 0, .int .i64 0], .int .i64 2, .int .i64 0])) ∨
    (text.size ≤ 256 ∧ ∃ k : Nat, res (xs text) st0 = .err k ∧ e = .returned (.tuple #[.agg #[.slice none 0 0, .int .i64 0], .int .i64 140, .int .i64 (k : Int)])) ∨
    (text.size ≤ 256 ∧ ∃ t p, res (xs text) st0 = .ok t ∧ e = .returned (.tuple #[p, .int .i64 0, .int .i64 0]) ∧ RPat w' w.heap.size t p))
theorem Rf.start {W : World} {g : Nat} {s : ByteArray} (hb : Blk W g 67 (rfC s 0 0 0 (-1) (.slice none 0 0))) : Rf W g s 0 0 0 (-1) [] (.slice none 0 0) W :=
  ⟨hb.lt, grefl _ _, hb, World.ownsRow_nil _ _ _ _, fun d hd => by cases hd⟩
set_option maxRecDepth 100000 in
set_option maxHeartbeats 8000000 in
theorem rcompile_any (text : ByteArray) (w : World) (hsz : text.size ≤ 9223372036854775807) : Calls Try.prog 7 #[.string text] w (RCoR w text) := by
  have hB0 := Blk.new w 28 #[.slice none 0 0, .int .i64 0]
  have hA0 : Below w.heap.size w (w.alloc (.cells #[.slice none 0 0, .int .i64 0] 28)) := bal (Below.refl _ w) _
  by_cases hlong : 256 < text.size
  · have c0 := hB0.cell 0
    have c1 := hB0.cell 1
    have f0 := hB0.frozen 0
    have hA := hA0
    go_enter Try.func7, Try.ntmps7
    go_wp2_with fail
    refine bodyPost_ret (v := .tuple #[.agg #[.slice none 0 0, .int .i64 0], .int .i64 2, .int .i64 0]) (by simp [results, Try.results7, go_sem, c0, c1]) rfl ?_
    exact ⟨hA, .inl ⟨hlong, rfl⟩⟩
  · have hsh : text.size ≤ 256 := by omega
    have he1 : (w.alloc (.cells #[.slice none 0 0, .int .i64 0] 28)).heap.size = w.heap.size + 1 := by simp
    have hB1 := Blk.new (w.alloc (.cells #[.slice none 0 0, .int .i64 0] 28)) 67 (rfC text 0 0 0 (-1) (.slice none 0 0))
    rw [he1] at hB1
    have hA1 := bal hA0 (.cells (rfC text 0 0 0 (-1) (.slice none 0 0)) 67)
    have hBW := hB0.alloc (.cells (rfC text 0 0 0 (-1) (.slice none 0 0)) 67)
    have hsW : w.heap.size + 2 ≤ ((w.alloc (.cells #[.slice none 0 0, .int .i64 0] 28)).alloc (.cells (rfC text 0 0 0 (-1) (.slice none 0 0)) 67)).heap.size := by simp
    have HPAT := Lib.hid (patC_all text hsh 256 _ _ (w.heap.size + 1) 0 0 0 [] (.slice none 0 0) (Rf.start hB1) (Nat.zero_le _) (by omega) (by omega) (by omega) (by simp))
    clear hB0 hA0 hB1 he1
    go_enter Try.func7, Try.ntmps7
    go_wp2_with fail
    have HPAT2 := Lib.hid (show Calls Try.prog 19 #[.pointer (some ⟨w.heap.size + 1, 0, none⟩)] ((w.alloc (.cells #[.slice none 0 0, .int .i64 0] 28)).alloc (.cells #[.string text, .int .i64 0, .int .i64 0, .int .i64 0, .int .i64 (-1), .slice none 0 0] 67)) _ from HPAT.out)
    have hA2 : Below w.heap.size w ((w.alloc (.cells #[.slice none 0 0, .int .i64 0] 28)).alloc (.cells #[.string text, .int .i64 0, .int .i64 0, .int .i64 0, .int .i64 (-1), .slice none 0 0] 67)) := hA1
    have hBW2 : Blk ((w.alloc (.cells #[.slice none 0 0, .int .i64 0] 28)).alloc (.cells #[.string text, .int .i64 0, .int .i64 0, .int .i64 0, .int .i64 (-1), .slice none 0 0] 67)) w.heap.size 28 #[.slice none 0 0, .int .i64 0] := hBW
    have hsW2 : w.heap.size + 2 ≤ ((w.alloc (.cells #[.slice none 0 0, .int .i64 0] 28)).alloc (.cells #[.string text, .int .i64 0, .int .i64 0, .int .i64 0, .int .i64 (-1), .slice none 0 0] 67)).heap.size := hsW
    refine HPAT2.out.mono ?_
    clear HPAT HPAT2 hA1 hBW hsW
    rintro e X ⟨k, M, nv, p, i, b, rfl, hO, hge, hcnt, hR⟩
    rw [show rfC text 0 0 0 (-1) (.slice none 0 0) = #[.string text, .int .i64 0, .int .i64 0, .int .i64 0, .int .i64 (-1), .slice none 0 0] from rfl] at hO
    generalize (w.alloc (.cells #[.slice none 0 0, .int .i64 0] 28)).alloc (.cells #[.string text, .int .i64 0, .int .i64 0, .int .i64 0, .int .i64 (-1), .slice none 0 0] 67) = W at *
    have hrf := hO.rf
    rw [List.nil_append] at hrf
    have HX := Lib.hid (hA2.grown hrf.bel (Nat.le_trans (Nat.le_succ _) (Nat.le_trans (Nat.le_succ _) hsW2)) (fun z hz => by cases hz; omega))
    have hBX := hBW2.grown hrf.bel (fun e => by have := Option.some.inj e; omega)
    have HBX := Lib.hid hBX
    have HRF := Lib.hid hrf
    have q1 := Blk.f1 hrf.blk
    have q4 := Blk.f4 hrf.blk
    have q5 := Blk.f5 hrf.blk
    have f0 := hBX.frozen 0
    have f1 := hBX.frozen 1
    have c0 : X.cell? ⟨w.heap.size, 0, none⟩ = some (.slice none 0 0) := hBX.cell 0
    have c1 : X.cell? ⟨w.heap.size, 1, none⟩ = some (.int .i64 0) := hBX.cell 1
    have p2 : p ≤ 300 := by rcases hR with ⟨_, h, _⟩ | ⟨_, _, h, _⟩ <;> omega
    have hsX := hrf.bel.size
    obtain ⟨an, cn, rfl⟩ := own_len hrf.row
    by_cases hok : b = -1 ∧ (xs text)[p]? = none
    · obtain ⟨rfl, hx⟩ := hok
      have hpI : ¬ (p : Int) < (text.size : Int) := by
        have := List.getElem?_eq_none_iff.1 hx
        rw [xs_len] at this
        omega
      have HRES := Lib.hid (show ∃ t, res (xs text) st0 = .ok t ∧ Den M k t from by
        rcases hR with ⟨_, h1, h2, ch, ps, h3, h4, h5, h6⟩ | ⟨b0, hb, _⟩
        · refine ⟨whole ch ps, ?_, by rw [List.nil_append] at h3; exact h3⟩
          show res (xs text) ⟨0, 0, [], [], []⟩ = _
          rw [h6 [] rfl, st_end hx, if_pos rfl]
        · omega)
      have hM : M.length ≤ 2000 := by omega
      clear hO hrf hR hBX hBW2 hA2 hx
      go_wp2_with fail
      have hZ := (HBX.out.set_ 0 (.slice an M.length cn)).set_ 1 (.int .i64 (k : Int))
      have z0 : ((X.setCell ⟨w.heap.size, 0, none⟩ (.slice an M.length cn)).setCell ⟨w.heap.size, 1, none⟩ (.int .i64 (k : Int))).cell? ⟨w.heap.size, 0, none⟩ = some (.slice an M.length cn) := hZ.cell 0
      have z1 : ((X.setCell ⟨w.heap.size, 0, none⟩ (.slice an M.length cn)).setCell ⟨w.heap.size, 1, none⟩ (.int .i64 (k : Int))).cell? ⟨w.heap.size, 1, none⟩ = some (.int .i64 (k : Int)) := hZ.cell 1
      obtain ⟨t, ht, hden⟩ := HRES.out
      refine bodyPost_ret (v := .tuple #[.agg #[.slice an M.length cn, .int .i64 (k : Int)], .int .i64 0, .int .i64 0]) (by simp [results, Try.results7, go_sem, z0, z1]) rfl ?_
      have hsz2 : w.heap.size ≤ X.heap.size := by omega
      have hgg : X.grownBy ((X.setCell ⟨w.heap.size, 0, none⟩ (.slice an M.length cn)).setCell ⟨w.heap.size, 1, none⟩ (.int .i64 (k : Int))) (some w.heap.size) := gtrans (only_set _ _ _ _) (only_set _ _ _ _)
      have hff := Fr.by hgg (fun z hz c e => by
        cases hz
        have h := HBX.out
        unfold Blk at h
        rw [h] at e
        cases e)
      refine ⟨HX.out.grown hgg hsz2 (fun z hz => by cases hz; exact Nat.le_refl _), .inr (.inr ⟨hsh, t, _, ht, rfl, ⟨_, k, M, rfl, ?_, ?_, hden, hM⟩⟩)⟩
      · exact own_mono (own_put HRF.out.row hgg (by omega)) (by omega)
      · exact fun d hd => Fz.fr (HRF.out.kid d hd) hff
    · have hbad : ∃ b0 : Nat, res (xs text) st0 = .err b0 ∧ ((b = -1 ∧ p < text.size ∧ b0 = p) ∨ b = (b0 : Int)) := by
        rcases hR with ⟨rfl, h1, h2, ch, ps, h3, h4, h5, h6⟩ | ⟨b0, hb, h1, h2, h3⟩
        · rcases h5 with hx | hx
          · exact absurd ⟨rfl, hx⟩ hok
          · have hql : p < text.size := by have := (List.getElem?_eq_some_iff.1 hx).1; rw [xs_len] at this; exact this
            refine ⟨p, ?_, .inl ⟨rfl, hql, rfl⟩⟩
            show res (xs text) ⟨0, 0, [], [], []⟩ = _
            rw [h6 [] rfl]
            exact st_41e hx
        · exact ⟨b0, h3 [] rfl, .inr hb⟩
      obtain ⟨b0, hres, hcs⟩ := hbad
      have HRES := Lib.hid hres
      have HRFU := Lib.hid (refuse_any X (w.heap.size + 1) p text _ _ _ _ _ hrf.blk)
      clear hO hrf hR hBX hBW2 hA2 hres hok
      rcases hcs with ⟨rfl, hpl, rfl⟩ | rfl
      · have hpI : (b0 : Int) < (text.size : Int) := by omega
        rw [if_pos (by decide)] at HRFU
        clear c0 c1 f0 f1
        go_wp2_with fail
        refine HRFU.out.mono ?_
        rintro e Y ⟨rfl, hbY, hgY⟩
        have HRF2 := Lib.hid (HRF.out.put hgY hbY).1
        have HBX2 := Lib.hid (HBX.out.grown hgY (fun e => by have := Option.some.inj e; omega))
        have HX2 := Lib.hid (HX.out.grown hgY (by omega) (fun z hz => by cases hz; omega))
        clear hbY hgY q1 q4 q5
        have q44 := Blk.f4 HRF2.out.blk
        have hb0 : (0 : Int) ≤ (b0 : Int) := by omega
        have c0 : Y.cell? ⟨w.heap.size, 0, none⟩ = some (.slice none 0 0) := HBX2.out.cell 0
        have c1 : Y.cell? ⟨w.heap.size, 1, none⟩ = some (.int .i64 0) := HBX2.out.cell 1
        have hS0 : Y.drew.cell? ⟨w.heap.size + 1, 4, none⟩ = some (.int .i64 (b0 : Int)) := q44
        have HB5 := Lib.hid (HRF2.out.blk.drew)
        have HP5 := Lib.hid (HBX2.out.drew)
        have HX5 := Lib.hid (HX2.out.drew)
        have hsz2 : w.heap.size ≤ Y.drew.heap.size := by have := HRF2.out.bel.size; show w.heap.size ≤ Y.heap.size; omega
        go_wp2_with fail
        refine wp_region_last 7 (fun w' => w'.cell? ⟨w.heap.size + 1, 4, none⟩ = some (.int .i64 (b0 : Int))) mixed ?_
        clear c0 c1 q44
        generalize World.drew _ = w5 at *
        have d0 : w5.cell? ⟨w.heap.size, 0, none⟩ = some (.slice none 0 0) := HP5.out.cell 0
        have d1 : w5.cell? ⟨w.heap.size, 1, none⟩ = some (.int .i64 0) := HP5.out.cell 1
        have e0 := HP5.out.frozen 0
        have e1 := HP5.out.frozen 1
        refine wpLast_take (i := 0) (oi := { dst := some 41, op := Op.build 28 #[], type := 28, pos := "pattern.go:250", after := #[], guard := none }) (v := ?_) rfl (by kernel_rfl) (by kernel_rfl) (by kernel_rfl) (by kernel_rfl) (fun _ _ _ h => h) (Or.inl ⟨by rfl, ?_⟩) (by assumption) ?_
        rotate_left
        · intro w hSw
          try dsimp only at hSw
          go_simp
          try with_reducible rfl
        try simp only [Act.put, List.setIfInBounds_toArray, List.set_cons_zero, List.set_cons_succ]
        refine wpLast_take (i := 1) (oi := { dst := some 42, op := Op.move (Operand.tmp 5), type := 65, pos := "pattern.go:250", after := #[{ on := 6, ground := Ground.gcOnly Departure.lateStores }], guard := none }) (v := ?_) rfl (by kernel_rfl) (by kernel_rfl) (by kernel_rfl) (by kernel_rfl) (fun _ _ _ h => h) (Or.inl ⟨by rfl, ?_⟩) (by assumption) ?_
        rotate_left
        · intro w hSw
          try dsimp only at hSw
          go_simp
          try with_reducible rfl
        try simp only [Act.put, List.setIfInBounds_toArray, List.set_cons_zero, List.set_cons_succ]
        refine wpLast_take (i := 2) (oi := { dst := some 43, op := Op.nilCheck (Operand.tmp 42), type := 0, pos := "pattern.go:250", after := #[{ on := 1, ground := Ground.data }, { on := 6, ground := Ground.gcOnly Departure.lateStores }], guard := none }) (v := ?_) rfl (by kernel_rfl) (by kernel_rfl) (by kernel_rfl) (by kernel_rfl) (fun _ _ _ h => h) (Or.inl ⟨by rfl, ?_⟩) (by assumption) ?_
        rotate_left
        · intro w hSw
          try dsimp only at hSw
          go_simp
          try with_reducible rfl
        try simp only [Act.put, List.setIfInBounds_toArray, List.set_cons_zero, List.set_cons_succ]
        refine wpLast_take (i := 3) (oi := { dst := some 44, op := Op.fieldAddr 67 (Operand.tmp 43) 4, type := 0, pos := "pattern.go:250", after := #[{ on := 2, ground := Ground.data }, { on := 6, ground := Ground.gcOnly Departure.lateStores }], guard := none }) (v := ?_) rfl (by kernel_rfl) (by kernel_rfl) (by kernel_rfl) (by kernel_rfl) (fun _ _ _ h => h) (Or.inl ⟨by rfl, ?_⟩) (by assumption) ?_
        rotate_left
        · intro w hSw
          try dsimp only at hSw
          go_simp
          try with_reducible rfl
        try simp only [Act.put, List.setIfInBounds_toArray, List.set_cons_zero, List.set_cons_succ]
        refine wpLast_take (i := 4) (oi := { dst := some 45, op := Op.load 3 (Operand.tmp 44), type := 3, pos := "pattern.go:250", after := #[{ on := 3, ground := Ground.data }, { on := 6, ground := Ground.gcOnly Departure.lateStores }], guard := none }) (v := ?_) rfl (by kernel_rfl) (by kernel_rfl) (by kernel_rfl) (by kernel_rfl) (fun _ _ _ h => h) (Or.inl ⟨by rfl, ?_⟩) (by assumption) ?_
        rotate_left
        · intro w hSw
          try dsimp only at hSw
          go_simp
          try with_reducible rfl
        try simp only [Act.put, List.setIfInBounds_toArray, List.set_cons_zero, List.set_cons_succ]
        have hne : w.heap.size + 1 ≠ w.heap.size := by omega
        have hB6 : Blk ((w5.setCell ⟨w.heap.size, 0, none⟩ (.slice none 0 0)).setCell ⟨w.heap.size, 1, none⟩ (.int .i64 0)) (w.heap.size + 1) 67 _ := (HB5.out.far (p := ⟨w.heap.size, 0, none⟩) hne _).far (p := ⟨w.heap.size, 1, none⟩) hne _
        have hS6 := Blk.f4 hB6
        have hZ := (HP5.out.set_ 0 (.slice none 0 0)).set_ 1 (.int .i64 0)
        have z0 : ((w5.setCell ⟨w.heap.size, 0, none⟩ (.slice none 0 0)).setCell ⟨w.heap.size, 1, none⟩ (.int .i64 0)).cell? ⟨w.heap.size, 0, none⟩ = some (.slice none 0 0) := hZ.cell 0
        have z1 : ((w5.setCell ⟨w.heap.size, 0, none⟩ (.slice none 0 0)).setCell ⟨w.heap.size, 1, none⟩ (.int .i64 0)).cell? ⟨w.heap.size, 1, none⟩ = some (.int .i64 0) := hZ.cell 1
        refine wpLast_ready (rs := [5]) (by kernel_rfl) (by simp) ?_
        refine EachLast.cons (o := { dst := none, op := Op.store 28 (Operand.tmp 2) (Operand.tmp 41), type := 0, pos := "pattern.go:250", after := #[{ on := 0, ground := Ground.data }, { on := 0, ground := Ground.phase }, { on := 1, ground := Ground.textOnly Departure.lateStores }, { on := 2, ground := Ground.textOnly Departure.lateStores }, { on := 3, ground := Ground.textOnly Departure.lateStores }, { on := 4, ground := Ground.textOnly Departure.lateStores }], guard := none }) rfl (fun K hK => ?_) EachLast.nil
        go_simp
        refine hK.out _ _ (fun _ => hS6) ?_
        try simp only [Act.put, List.setIfInBounds_toArray, List.set_cons_zero, List.set_cons_succ]
        refine wpLast_ready (rs := [6]) (by kernel_rfl) (by simp) ?_
        refine EachLast.cons (o := { dst := some 3, op := Op.assign (Operand.const (Value.int IntKind.i64 140)), type := 3, pos := "pattern.go:250", after := #[{ on := 5, ground := Ground.chain }, { on := 0, ground := Ground.phase }, { on := 1, ground := Ground.textOnly Departure.lateStores }, { on := 2, ground := Ground.textOnly Departure.lateStores }, { on := 3, ground := Ground.textOnly Departure.lateStores }, { on := 4, ground := Ground.textOnly Departure.lateStores }, { on := 5, ground := Ground.phase }], guard := none }) rfl (fun K hK => ?_) EachLast.nil
        go_simp
        refine hK.out _ _ (fun _ => hS6) ?_
        try simp only [Act.put, List.setIfInBounds_toArray, List.set_cons_zero, List.set_cons_succ]
        refine wpLast_ready (rs := [7]) (by kernel_rfl) (by simp) ?_
        refine EachLast.cons (o := { dst := some 4, op := Op.assign (Operand.tmp 45), type := 3, pos := "pattern.go:250", after := #[{ on := 4, ground := Ground.data }, { on := 6, ground := Ground.chain }, { on := 0, ground := Ground.phase }, { on := 1, ground := Ground.phase }, { on := 2, ground := Ground.phase }, { on := 3, ground := Ground.phase }, { on := 4, ground := Ground.phase }, { on := 5, ground := Ground.phase }, { on := 6, ground := Ground.phase }], guard := none }) rfl (fun K hK => ?_) EachLast.nil
        go_simp
        refine hK.out _ _ (fun h => absurd rfl h) ?_
        try simp only [Act.put, List.setIfInBounds_toArray, List.set_cons_zero, List.set_cons_succ]
        refine wpLast_done (by kernel_rfl) ?_ _
        go_wp2_with fail
        refine bodyPost_ret (v := .tuple #[.agg #[.slice none 0 0, .int .i64 0], .int .i64 140, .int .i64 (b0 : Int)]) (by simp [results, Try.results7, go_sem, z0, z1]) rfl ?_
        exact ⟨HX5.out.grown (gtrans (only_set _ _ _ _) (only_set _ _ _ _)) hsz2 (fun z hz => by cases hz; exact Nat.le_refl _), .inr (.inl ⟨hsh, b0, HRES.out, rfl⟩)⟩
      · clear c0 c1 f0 f1
        have q44 := Blk.f4 HRF.out.blk
        have hb0 : (0 : Int) ≤ (b0 : Int) := by omega
        have c0 : X.cell? ⟨w.heap.size, 0, none⟩ = some (.slice none 0 0) := HBX.out.cell 0
        have c1 : X.cell? ⟨w.heap.size, 1, none⟩ = some (.int .i64 0) := HBX.out.cell 1
        have hS0 : X.drew.cell? ⟨w.heap.size + 1, 4, none⟩ = some (.int .i64 (b0 : Int)) := q44
        have HB5 := Lib.hid (HRF.out.blk.drew)
        have HP5 := Lib.hid (HBX.out.drew)
        have HX5 := Lib.hid (HX.out.drew)
        have hsz2 : w.heap.size ≤ X.drew.heap.size := by have := HRF.out.bel.size; show w.heap.size ≤ X.heap.size; omega
        go_wp2_with fail
        refine wp_region_last 7 (fun w' => w'.cell? ⟨w.heap.size + 1, 4, none⟩ = some (.int .i64 (b0 : Int))) mixed ?_
        clear c0 c1 q44
        generalize World.drew _ = w5 at *
        have d0 : w5.cell? ⟨w.heap.size, 0, none⟩ = some (.slice none 0 0) := HP5.out.cell 0
        have d1 : w5.cell? ⟨w.heap.size, 1, none⟩ = some (.int .i64 0) := HP5.out.cell 1
        have e0 := HP5.out.frozen 0
        have e1 := HP5.out.frozen 1
        refine wpLast_take (i := 0) (oi := { dst := some 41, op := Op.build 28 #[], type := 28, pos := "pattern.go:250", after := #[], guard := none }) (v := ?_) rfl (by kernel_rfl) (by kernel_rfl) (by kernel_rfl) (by kernel_rfl) (fun _ _ _ h => h) (Or.inl ⟨by rfl, ?_⟩) (by assumption) ?_
        rotate_left
        · intro w hSw
          try dsimp only at hSw
          go_simp
          try with_reducible rfl
        try simp only [Act.put, List.setIfInBounds_toArray, List.set_cons_zero, List.set_cons_succ]
        refine wpLast_take (i := 1) (oi := { dst := some 42, op := Op.move (Operand.tmp 5), type := 65, pos := "pattern.go:250", after := #[{ on := 6, ground := Ground.gcOnly Departure.lateStores }], guard := none }) (v := ?_) rfl (by kernel_rfl) (by kernel_rfl) (by kernel_rfl) (by kernel_rfl) (fun _ _ _ h => h) (Or.inl ⟨by rfl, ?_⟩) (by assumption) ?_
        rotate_left
        · intro w hSw
          try dsimp only at hSw
          go_simp
          try with_reducible rfl
        try simp only [Act.put, List.setIfInBounds_toArray, List.set_cons_zero, List.set_cons_succ]
        refine wpLast_take (i := 2) (oi := { dst := some 43, op := Op.nilCheck (Operand.tmp 42), type := 0, pos := "pattern.go:250", after := #[{ on := 1, ground := Ground.data }, { on := 6, ground := Ground.gcOnly Departure.lateStores }], guard := none }) (v := ?_) rfl (by kernel_rfl) (by kernel_rfl) (by kernel_rfl) (by kernel_rfl) (fun _ _ _ h => h) (Or.inl ⟨by rfl, ?_⟩) (by assumption) ?_
        rotate_left
        · intro w hSw
          try dsimp only at hSw
          go_simp
          try with_reducible rfl
        try simp only [Act.put, List.setIfInBounds_toArray, List.set_cons_zero, List.set_cons_succ]
        refine wpLast_take (i := 3) (oi := { dst := some 44, op := Op.fieldAddr 67 (Operand.tmp 43) 4, type := 0, pos := "pattern.go:250", after := #[{ on := 2, ground := Ground.data }, { on := 6, ground := Ground.gcOnly Departure.lateStores }], guard := none }) (v := ?_) rfl (by kernel_rfl) (by kernel_rfl) (by kernel_rfl) (by kernel_rfl) (fun _ _ _ h => h) (Or.inl ⟨by rfl, ?_⟩) (by assumption) ?_
        rotate_left
        · intro w hSw
          try dsimp only at hSw
          go_simp
          try with_reducible rfl
        try simp only [Act.put, List.setIfInBounds_toArray, List.set_cons_zero, List.set_cons_succ]
        refine wpLast_take (i := 4) (oi := { dst := some 45, op := Op.load 3 (Operand.tmp 44), type := 3, pos := "pattern.go:250", after := #[{ on := 3, ground := Ground.data }, { on := 6, ground := Ground.gcOnly Departure.lateStores }], guard := none }) (v := ?_) rfl (by kernel_rfl) (by kernel_rfl) (by kernel_rfl) (by kernel_rfl) (fun _ _ _ h => h) (Or.inl ⟨by rfl, ?_⟩) (by assumption) ?_
        rotate_left
        · intro w hSw
          try dsimp only at hSw
          go_simp
          try with_reducible rfl
        try simp only [Act.put, List.setIfInBounds_toArray, List.set_cons_zero, List.set_cons_succ]
        have hne : w.heap.size + 1 ≠ w.heap.size := by omega
        have hB6 : Blk ((w5.setCell ⟨w.heap.size, 0, none⟩ (.slice none 0 0)).setCell ⟨w.heap.size, 1, none⟩ (.int .i64 0)) (w.heap.size + 1) 67 _ := (HB5.out.far (p := ⟨w.heap.size, 0, none⟩) hne _).far (p := ⟨w.heap.size, 1, none⟩) hne _
        have hS6 := Blk.f4 hB6
        have hZ := (HP5.out.set_ 0 (.slice none 0 0)).set_ 1 (.int .i64 0)
        have z0 : ((w5.setCell ⟨w.heap.size, 0, none⟩ (.slice none 0 0)).setCell ⟨w.heap.size, 1, none⟩ (.int .i64 0)).cell? ⟨w.heap.size, 0, none⟩ = some (.slice none 0 0) := hZ.cell 0
        have z1 : ((w5.setCell ⟨w.heap.size, 0, none⟩ (.slice none 0 0)).setCell ⟨w.heap.size, 1, none⟩ (.int .i64 0)).cell? ⟨w.heap.size, 1, none⟩ = some (.int .i64 0) := hZ.cell 1
        refine wpLast_ready (rs := [5]) (by kernel_rfl) (by simp) ?_
        refine EachLast.cons (o := { dst := none, op := Op.store 28 (Operand.tmp 2) (Operand.tmp 41), type := 0, pos := "pattern.go:250", after := #[{ on := 0, ground := Ground.data }, { on := 0, ground := Ground.phase }, { on := 1, ground := Ground.textOnly Departure.lateStores }, { on := 2, ground := Ground.textOnly Departure.lateStores }, { on := 3, ground := Ground.textOnly Departure.lateStores }, { on := 4, ground := Ground.textOnly Departure.lateStores }], guard := none }) rfl (fun K hK => ?_) EachLast.nil
        go_simp
        refine hK.out _ _ (fun _ => hS6) ?_
        try simp only [Act.put, List.setIfInBounds_toArray, List.set_cons_zero, List.set_cons_succ]
        refine wpLast_ready (rs := [6]) (by kernel_rfl) (by simp) ?_
        refine EachLast.cons (o := { dst := some 3, op := Op.assign (Operand.const (Value.int IntKind.i64 140)), type := 3, pos := "pattern.go:250", after := #[{ on := 5, ground := Ground.chain }, { on := 0, ground := Ground.phase }, { on := 1, ground := Ground.textOnly Departure.lateStores }, { on := 2, ground := Ground.textOnly Departure.lateStores }, { on := 3, ground := Ground.textOnly Departure.lateStores }, { on := 4, ground := Ground.textOnly Departure.lateStores }, { on := 5, ground := Ground.phase }], guard := none }) rfl (fun K hK => ?_) EachLast.nil
        go_simp
        refine hK.out _ _ (fun _ => hS6) ?_
        try simp only [Act.put, List.setIfInBounds_toArray, List.set_cons_zero, List.set_cons_succ]
        refine wpLast_ready (rs := [7]) (by kernel_rfl) (by simp) ?_
        refine EachLast.cons (o := { dst := some 4, op := Op.assign (Operand.tmp 45), type := 3, pos := "pattern.go:250", after := #[{ on := 4, ground := Ground.data }, { on := 6, ground := Ground.chain }, { on := 0, ground := Ground.phase }, { on := 1, ground := Ground.phase }, { on := 2, ground := Ground.phase }, { on := 3, ground := Ground.phase }, { on := 4, ground := Ground.phase }, { on := 5, ground := Ground.phase }, { on := 6, ground := Ground.phase }], guard := none }) rfl (fun K hK => ?_) EachLast.nil
        go_simp
        refine hK.out _ _ (fun h => absurd rfl h) ?_
        try simp only [Act.put, List.setIfInBounds_toArray, List.set_cons_zero, List.set_cons_succ]
        refine wpLast_done (by kernel_rfl) ?_ _
        go_wp2_with fail
        refine bodyPost_ret (v := .tuple #[.agg #[.slice none 0 0, .int .i64 0], .int .i64 140, .int .i64 (b0 : Int)]) (by simp [results, Try.results7, go_sem, z0, z1]) rfl ?_
        exact ⟨HX5.out.grown (gtrans (only_set _ _ _ _) (only_set _ _ _ _)) hsz2 (fun z hz => by cases hz; exact Nat.le_refl _), .inr (.inl ⟨hsh, b0, HRES.out, rfl⟩)⟩
end Go.Proofs.Ytlbkacabcfeaiaa.Tl
