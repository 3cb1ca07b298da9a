/- LedgerPlaces. -/
import Derived.Test.YtcofndegcleicaaDoorRc
import Derived.Test.YtcofndegcleicaaDoorPg
import Derived.Test.YtcofndegcleicaaDoorPr
import Derived.Test.YtcofndegcleicaaDoorIn
import Derived.Laws.BitsAllLaws
import Derived.Laws.Runes
import Derived.MakeChecks
import Derived.Stop.LaidErr
import Derived.Lib.LaidTab
namespace Go.Proofs.YtcofndegcleicaaDoor.Lg
open Go.RowKit Mm Law
def spotI (k n : Int) : Int := if k < 0 then -((k + 1).tmod n) else k % n
theorem spot_bd {k n : Int} (hn : 0 < n) : 0 ≤ spotI k n ∧ spotI k n < n := by
  unfold spotI
  split
  · rw [← Int.neg_tmod]
    exact ⟨Int.tmod_nonneg _ (by omega), Int.tmod_lt_of_pos _ hn⟩
  · exact ⟨Int.emod_nonneg _ (by omega), Int.emod_lt_of_pos _ hn⟩
set_option maxRecDepth 100000 in
set_option maxHeartbeats 1000000 in
theorem spot_any (k n : Int) (hk : (Lit.int .i64 k).wf = true) (hn : 0 < n) (hn2 : n ≤ 1000000) (w : World) :
    Calls Tryd.prog 23 #[.int .i64 k, .int .i64 n] w fun e w' => e = .returned (.int .i64 (spotI k n)) ∧ w' = w := by
  have hk0 : -9223372036854775808 ≤ k ∧ k ≤ 9223372036854775807 := by
    simp [Lit.wf, IntKind.min, IntKind.max, IntKind.bits, IntKind.signed] at hk
    exact hk
  obtain ⟨a1, a2⟩ := hk0
  have hn0 : ¬ n = 0 := by omega
  have hn1 : (n == 0) = false := by rw [beq_eq_false_iff_ne]; exact hn0
  have hbd := spot_bd (k := k) hn
  clear hk
  by_cases hk : k < 0
  · have HE := Lib.hid (show spotI k n = -((k + 1).tmod n) from by unfold spotI; rw [if_pos hk])
    rw [HE.out] at hbd ⊢
    go_enter Tryd.func23, Tryd.ntmps23
    go_wp2_with fail
    go_ret
    exact ⟨rfl, rfl⟩
  · have HE := Lib.hid (show spotI k n = k % n from by unfold spotI; rw [if_neg hk])
    rw [HE.out] at hbd ⊢
    have hk1 : 0 ≤ k := by omega
    go_enter Tryd.func23, Tryd.ntmps23
    go_wp2_with fail
    go_ret
    exact ⟨rfl, rfl⟩
theorem own_emptyH (w : World) (t : TypeId) {B : Nat} (H : Nat) (hH : w.heap.size = H) (hB : B ≤ w.heap.size) : (w.alloc (.cells #[] t)).ownsRow B t 1 (.slice (some ⟨H, 0, none⟩) 0 0) 0 [] := by
  subst hH
  exact own_empty w t hB
theorem own_far {w w' : World} {B n s : Nat} {e : TypeId} {v : Value} {xs : List Value} (h : w.ownsRow B e s v n xs) (hh : ∀ g, v.ownBlock = some g → w'.heap[g]? = w.heap[g]?) : w'.ownsRow B e s v n xs := by
  refine ⟨h.1, ?_⟩
  rcases h.2 with hn | ⟨g, cap, cur, hv, hbb, hg, rest⟩
  · exact .inl hn
  · exact .inr ⟨g, cap, cur, hv, hbb, (hh g (by rw [hv]; rfl)).trans hg, rest⟩
theorem own_setP {w : World} {B g cap n : Nat} {e : TypeId} {xs : List Value} (h : w.ownsRow B e 1 (.slice (some ⟨g, 0, none⟩) n cap) n xs) (p : Nat) (u : Value) : (w.setCell ⟨g, p, none⟩ u).ownsRow B e 1 (.slice (some ⟨g, 0, none⟩) n cap) n (xs.set p u) := by
  refine ⟨by rw [List.length_set]; exact h.1, ?_⟩
  rcases h.2 with ⟨h0, _⟩ | ⟨g', cap', cur, hv, hb, hg, hc, hm, hcs, htk⟩
  · cases h0
  · cases hv
    have hB : Blk w g e cur := hg
    refine .inr ⟨g, cap, cur.setIfInBounds p u, rfl, hb, hB.set_ p u, hc, hm, by rw [Array.size_setIfInBounds]; exact hcs, ?_⟩
    rw [Array.toList_setIfInBounds, List.take_set, htk]
theorem own_objP {w : World} {B g cap n s : Nat} {e : TypeId} {xs : List Value} (h : w.ownsRow B e s (.slice (some ⟨g, 0, none⟩) n cap) n xs) : ∃ cur, Blk w g e cur := by
  rcases h.2 with ⟨h0, _⟩ | ⟨g', cap', cur, hv, hb, hg, hc, hm, hcs, htk⟩
  · cases h0
  · cases hv
    exact ⟨cur, hg⟩
theorem enc_small (k : Nat) (hk : k < 12) : (Utf8.encode (97 + (k : Int))).size ≤ 4 := by
  have h1 : (97 + (k : Int)).toNat < 128 := by omega
  have hv : Utf8.valid (97 + (k : Int)) = true := by
    unfold Utf8.valid
    simp
    omega
  unfold Utf8.encode
  simp only [hv, if_true, h1]
  show 1 ≤ 4
  decide
theorem conv_ch (k : Nat) (hk : k < 12) : ∃ ch : ByteArray, ch.size ≤ 4 ∧ Utf8.encode (97 + (k : Int)) = ch ∧ ∀ W : World, (convert 21 9 (.int .i32 (97 + (k : Int)))).run Tryd.prog W = .ok (.string ch) W :=
  ⟨Utf8.encode (97 + (k : Int)), enc_small k hk, rfl, fun W => run_convert_int_string W _ _ _ _ (by rw [Tryd.underlying21]; rfl) Tryd.underlying9⟩
theorem chs_small {ch : ByteArray} (h : ch.size ≤ 4) : ¬ 9223372036854775807 < 5 + ch.size ∧ 5 + ch.size ≤ 9223372036854775807 := by omega
theorem sized_set {L : List ByteArray} {ch : ByteArray} (h : ∀ s ∈ L, s.size ≤ 140737488355328) (hc : ch.size ≤ 4) (Q : Nat) : ∀ s ∈ L.set Q (⟨#[108, 105, 110, 101, 32]⟩ ++ ch), s.size ≤ 140737488355328 := by
  intro s hs
  rcases List.mem_or_eq_of_mem_set hs with h1 | h1
  · exact h s h1
  · rw [h1, ByteArray.size_append]
    show 5 + ch.size ≤ 140737488355328
    omega
def xb (b : UInt8) (t : Nat) : UInt8 := UInt8.ofNat (b.toNat ^^^ t)
theorem xb_nat (b : UInt8) (t : Nat) (h : t < 256) : bits .xor .u8 (b.toNat : Int) (t : Int) = ((xb b t).toNat : Int) := by
  rw [show bits .xor .u8 (b.toNat : Int) (t : Int) = ((b.toNat ^^^ t : Nat) : Int) from u8_xor_nat b.toNat t b.toNat_lt h]
  unfold xb
  rw [UInt8.toNat_ofNat']
  rw [Nat.mod_eq_of_lt (Nat.xor_lt_two_pow (n := 8) b.toNat_lt h)]
theorem below_set {B : Nat} {a w : World} {g o : Nat} (h : Below B a w) (hB : B ≤ w.heap.size) (hg : B ≤ g) (u : Value) : Below B a (w.setCell ⟨g, o, none⟩ u) :=
  h.grown (only_set w g o u) hB (fun k hk => by cases hk; exact hg)
theorem far_set {w : World} {B g o n s : Nat} {e : TypeId} {v : Value} {xs : List Value} (h : w.ownsRow B e s v n xs) (hne : v.ownBlock ≠ some g) (u : Value) : (w.setCell ⟨g, o, none⟩ u).ownsRow B e s v n xs :=
  own_far h fun g' hg' => Below.heap_setCell w ⟨g, o, none⟩ u g' (fun e => hne (by rw [hg', e]))
set_option maxRecDepth 100000 in
set_option maxHeartbeats 4000000 in
theorem places_walk (v : Value) (d0 : List UInt8) (u : Value) (l0 : List ByteArray) (hsz : ∀ s ∈ l0, s.size ≤ 140737488355328) (x : Value) (ps : List Int) (_ : ps.length * 8 ≤ 140737488355328) (w : World)
    (hS : Sees w v (bytesV d0)) (hU : Sees w u (sC l0)) (hX : SeesS w x 1 ps.length (inC ps) ∧ ∀ z ∈ ps, (Lit.int .i64 z).wf = true) (ht : Tab w) :
    Calls Tryd.prog 5 #[v, u, x] w fun e w' => e = .returned (.bool true) ∧ Below w.heap.size w w' := by
  have HS := Lib.hid hS
  have HU := Lib.hid hU
  have HT := Lib.hid ht
  have HP := Lib.hid hX.1
  have HPW := Lib.hid hX.2
  have HSZ := Lib.hid hsz
  obtain ⟨a0, cap0, hv, _, hcap0, hcm0, _⟩ := hS
  rw [bytesV_len] at hv hcap0
  obtain ⟨a1, cap1, hu, _, hcap1, hcm1, _⟩ := hU
  rw [sC_len] at hu hcap1
  obtain ⟨a2, cap2, rfl, hcap2, hcm2⟩ := hX.1.form
  subst hv
  subst hu
  unfold maxLen at hcm0 hcm1 hcm2
  clear hX hsz ht
  by_cases hd : d0.length ≤ 200000
  · by_cases hl : l0.length ≤ 64
    · go_enter Tryd.func5, Tryd.ntmps5
      go_wp2_with fail
      refine (fixed_yes _).mono ?_
      rintro e w1 ⟨rfl, hb1⟩
      have HS1 := Lib.hid (HS.out.below hb1)
      have HU1 := Lib.hid (HU.out.below hb1)
      have HB1 := Lib.hid hb1
      clear hb1
      go_wp2_with (at_builtin; first | (refine app_bytes (l := []) (m := d0) (own_empty w1 5 (Nat.le_refl _)) (HS1.out.alloc _) rfl rfl rfl rfl (by omega) (by simp) ?_; intro v2 w2 hown2 hgr2; have hb2 := (bal (Below.refl _ w1) (.cells #[] 5)).trans (below_grown (own_empty w1 5 (Nat.le_refl _)) hgr2 (by simp)); have HU2 := Lib.hid (HU1.out.below hb2); have HB2 := Lib.hid hb2; have HO2 := Lib.hid hown2; clear hown2 hgr2 hb2) | (refine app_strs (l := l0) (own_empty w2 9 (Nat.le_refl _)) (HU2.out.alloc _) rfl rfl rfl rfl (by omega) (by simp) ?_; intro v3 w3 hown3 hgr3; have hb3 := (bal (Below.refl _ w2) (.cells #[] 9)).trans (below_grown (own_empty w2 9 (Nat.le_refl _)) hgr3 (by simp)); have HB3 := Lib.hid hb3; have HO3 := Lib.hid hown3; clear hown3 hgr3 hb3))
      rw [Nat.zero_add, List.nil_append] at HO2 HO3
      obtain ⟨ad, cd, rfl⟩ := own_len HO2.out
      obtain ⟨al, cl, rfl⟩ := own_len HO3.out
      have HD3 := Lib.hid (own_below HO2.out HB3.out (Nat.le_refl _))
      have HB30 := Lib.hid (bnx (bnx HB1.out HB2.out) HB3.out)
      have HM1 := Lib.hid (show w.heap.size ≤ w1.heap.size ∧ w1.heap.size ≤ w2.heap.size ∧ w2.heap.size ≤ w3.heap.size from ⟨HB1.out.size, HB2.out.size, HB3.out.size⟩)
      have HT3 := Lib.hid (tab_below HT.out HB30.out)
      clear HS1 HU1 HU2 HB1 HB2 HB3
      go_loopw [10] (fun i wr => ∃ (k : Nat) (D : List UInt8) (L : List ByteArray), k ≤ 12 ∧ i = .int .i64 (k : Int) ∧ D.length = d0.length ∧ L.length = l0.length ∧ (∀ s ∈ L, s.size ≤ 140737488355328) ∧ wr.ownsRow w1.heap.size 5 1 (.slice ad d0.length cd) d0.length (bytesV D) ∧ wr.ownsRow w2.heap.size 9 1 (.slice al l0.length cl) l0.length (sC L) ∧ Below w.heap.size w wr) (fun i _ => 12 - (intOf i).toNat)
      case atStart => exact ⟨0, d0, l0, by omega, rfl, rfl, rfl, HSZ.out, HD3.out, HO3.out, HB30.out⟩
      case round =>
        obtain ⟨k, D, L, hk, rfl, hDl, hLl, hLs, hod, hol, hbel⟩ := hrel
        have HOD := Lib.hid hod
        have HOL := Lib.hid hol
        have HDL := Lib.hid hDl
        have HLL := Lib.hid hLl
        have HLS := Lib.hid hLs
        clear hDl hLl hLs hod hol
        by_cases hc : k ≤ ps.length ∧ k < 12
        · have HSD := Lib.hid (fun w' (h : Below wr.heap.size wr w') => (Sees.of_own HOD.out).below h)
          have HSL := Lib.hid (fun w' (h : Below wr.heap.size wr w') => (Sees.of_own HOL.out).below h)
          obtain ⟨ra, rb, rs, rn, rE, hf⟩ := readV_form D 0
          have hD2 : D.length ≤ 200000 := by have := HDL.out; omega
          have HR1 := Lib.hid (fun w' (h : Below wr.heap.size wr w') => read_any D _ 0 w' (HSD.out w' h))
          have HR2 := Lib.hid (fun w' (u : Value) (hu : Sees w' u (bytesV D)) => rread_any D u 0 w' hu)
          rw [hf] at HR1 HR2
          have HW1 := Lib.hid (fun w' (h : Below wr.heap.size wr w') => whole_any D (by omega) _ w' (HSD.out w' h))
          have HW2 := Lib.hid (fun w' (u : Value) (hu : Sees w' u (bytesV D)) => rwhole_any D (by omega) u w' hu)
          have HP1 := Lib.hid (fun w' (h : Below wr.heap.size wr w') => pack_any L _ w' (HSL.out w' h) HLS.out (tab_below HT.out (bnx hbel h)))
          have HP2 := Lib.hid (fun w' (u : Value) (h : Below wr.heap.size wr w') (hu : Sees w' u (sC L)) => rpack_any L u w' hu HLS.out (tab_below HT.out (bnx hbel h)))
          have HU1 := Lib.hid (fun w' (h : Below wr.heap.size wr w') => sum_any D _ w' (HSD.out w' h))
          have HU2 := Lib.hid (fun w' (h : Below wr.heap.size wr w') => rsum_any D _ w' (HSD.out w' h))
          unfold PkAns at HP1 HP2
          have x1 : (k : Int) ≤ (ps.length : Int) := by omega
          have x2 : (k : Int) < 12 := by omega
          clear hf hc
          go_wp2_with fail
          refine (HR1.out _ (Below.refl _ _)).mono ?_
          rintro e w4 ⟨rfl, hb4⟩
          have HC4 := Lib.hid (bal hb4 (.cells #[.int .i64 ra, .int .i64 rb, .string rs] 40))
          have HRB := Lib.hid (Blk.new w4 40 #[.int .i64 ra, .int .i64 rb, .string rs])
          clear hb4
          go_wp2_with (at_builtin; refine app_bytes (l := []) (m := D) (own_emptyH _ 5 (w4.heap.size + 1) (by simp) (Nat.le_refl _)) ((HSD.out _ HC4.out).alloc _) rfl rfl rfl rfl (by omega) (by simp) ?_; intro v5 w5 hown5 hgr5; have hb5 := (bal (Below.refl _ _) (.cells #[] 5)).trans (below_grown (own_emptyH _ 5 (w4.heap.size + 1) (by simp) (Nat.le_refl _)) hgr5 (by simp)))
          have HC5 := Lib.hid (bnx HC4.out hb5)
          have HS5 := Lib.hid (show Sees w5 v5 (bytesV D) from Sees.of_own hown5)
          have HR5 := Lib.hid (HRB.out.below hb5 (by simp))
          clear hown5 hgr5 hb5 HRB
          go_wp2_with fail
          refine (HR2.out _ _ HS5.out).mono ?_
          rintro e w6 ⟨rfl, hb6⟩
          have HC6 := Lib.hid (bal (bnx HC5.out hb6) (.cells #[.int .i64 ra, .int .i64 rb, .string rs] 40))
          have HR6 := Lib.hid ((HR5.out.below hb6 HR5.out.lt).alloc (.cells #[.int .i64 ra, .int .i64 rb, .string rs] 40))
          have HQ6 := Lib.hid (Blk.new w6 40 #[.int .i64 ra, .int .i64 rb, .string rs])
          clear hb6 HR5 HS5
          go_wp2_with fail
          refine (HW1.out _ HC6.out).mono ?_
          rintro e w7 ⟨u7, rfl, ho7, hb7⟩
          have HC7 := Lib.hid (bnx HC6.out hb7)
          have HR7 := Lib.hid (HR6.out.below hb7 HR6.out.lt)
          have HQ7 := Lib.hid (HQ6.out.below hb7 HQ6.out.lt)
          have HA7 := Lib.hid (show SeesS w7 u7 3 ((whl D).map keyA).length (ksC ((whl D).map keyA)) from by have := SeesS.of_own ho7; rw [rasC_key] at this; rw [List.length_map]; exact this)
          clear ho7 hb7 HR6 HQ6
          go_wp2_with (at_builtin; refine app_bytes (l := []) (m := D) (own_empty w7 5 (Nat.le_refl _)) ((HSD.out _ HC7.out).alloc _) rfl rfl rfl rfl (by omega) (by simp) ?_; intro v8 w8 hown8 hgr8; have hb8 := (bal (Below.refl _ w7) (.cells #[] 5)).trans (below_grown (own_empty w7 5 (Nat.le_refl _)) hgr8 (by simp)))
          have HC8 := Lib.hid (bnx HC7.out hb8)
          have HS8 := Lib.hid (show Sees w8 v8 (bytesV D) from Sees.of_own hown8)
          have HR8 := Lib.hid (HR7.out.below hb8 HR7.out.lt)
          have HQ8 := Lib.hid (HQ7.out.below hb8 HQ7.out.lt)
          have HA8 := Lib.hid (HA7.out.below hb8)
          clear hown8 hgr8 hb8 HR7 HQ7 HA7
          go_wp2_with fail
          refine (HW2.out _ _ HS8.out).mono ?_
          rintro e w9 ⟨u9, rfl, ho9, hb9⟩
          have HC9 := Lib.hid (bnx HC8.out hb9)
          have HR9 := Lib.hid (HR8.out.below hb9 HR8.out.lt)
          have HQ9 := Lib.hid (HQ8.out.below hb9 HQ8.out.lt)
          have HA9 := Lib.hid (HA8.out.below hb9)
          have HE9 := Lib.hid (show SeesS w9 u9 3 ((whl D).map keyA).length (ksC ((whl D).map keyA)) from by have := SeesS.of_own ho9; rw [List.length_map]; exact this)
          have r0 := HR9.out.cell 0
          have r1 := HR9.out.cell 1
          have r2 := HR9.out.cell 2
          have s0 := HQ9.out.cell 0
          have s1 := HQ9.out.cell 1
          have s2 := HQ9.out.cell 2
          have hrn := fun w => rec_neq ra rb rs w
          have hEE : (rE != rE) = false := by simp
          have hNN : (rn != rn) = false := by simp
          have hWW : ((whE D : Int) != (whE D : Int)) = false := by simp
          have hCC : (codeOf D (whE D) != codeOf D (whE D)) = false := by simp
          clear ho9 hb9 HR8 HQ8 HA8 HS8 HR9 HQ9
          generalize codeOf D (whE D) = cE at *
          go_wp2_with fail
          refine (records_yes _ _ _ _ HA9.out HE9.out).mono ?_
          rintro e w10 ⟨rfl, hb10⟩
          have HC10 := Lib.hid (bnx HC9.out hb10)
          clear hb10 HA9 HE9 r0 r1 r2 s0 s1 s2 hrn
          go_wp2_with fail
          refine (HP1.out _ HC10.out).mono ?_
          rintro e w11 ⟨rfl, hb11⟩
          have HC11 := Lib.hid (bnx HC10.out hb11)
          have hL64 : L.length ≤ 64 := by have := HLL.out; omega
          clear hb11
          go_wp2_with (at_builtin; refine app_strs (l := L) (own_empty w11 9 (Nat.le_refl _)) ((HSL.out _ HC11.out).alloc _) rfl rfl rfl rfl (by omega) (by simp) ?_; intro v12 w12 hown12 hgr12; have hb12 := (bal (Below.refl _ w11) (.cells #[] 9)).trans (below_grown (own_empty w11 9 (Nat.le_refl _)) hgr12 (by simp)))
          have HC12 := Lib.hid (bnx HC11.out hb12)
          have HS12 := Lib.hid (show Sees w12 v12 (sC L) from Sees.of_own hown12)
          have hpE : (pkE L != pkE L) = false := by simp
          have hpS : ((str (pkS L)).toList == (str (pkS L)).toList) = true := by simp
          have hcc : ((crc D : Int) != (crc D : Int)) = false := by simp
          clear hown12 hgr12 hb12
          generalize str (pkS L) = pS at *
          generalize pkE L = pE at *
          go_wp2_with fail
          refine (HP2.out _ _ HC12.out HS12.out).mono ?_
          rintro e w13 ⟨rfl, hb13⟩
          have HC13 := Lib.hid (bnx HC12.out hb13)
          clear hb13 HS12
          go_wp2_with fail
          refine (HU1.out _ HC13.out).mono ?_
          rintro e w14 ⟨rfl, hb14⟩
          have HC14 := Lib.hid (bnx HC13.out hb14)
          clear hb14
          go_wp2_with fail
          refine (HU2.out _ HC14.out).mono ?_
          rintro e w15 ⟨rfl, rfl⟩
          have HOD14 := Lib.hid (own_below HOD.out HC14.out (Nat.le_refl _))
          have HOL14 := Lib.hid (own_below HOL.out HC14.out (Nat.le_refl _))
          have HB14 := Lib.hid (bnx hbel HC14.out)
          clear HC4 HC5 HC6 HC7 HC8 HC9 HC10 HC11 HC12 HC13 HR1 HR2 HW1 HW2 HP1 HP2 HU1 HU2 HSD HSL hEE hNN hWW hCC hpE hpS hcc
          by_cases hkp : k < ps.length
          · have y1 : (k : Int) < (ps.length : Int) := by omega
            have y0 : (0 : Int) ≤ (k : Int) := by omega
            obtain ⟨_, gx, ox, rfl, hgx, hqx⟩ := HP.out.at (by omega)
            have p0 := hqx _ _ (inC_at ps k ps[k] (by simp [hkp]))
            rw [← HB14.out.cell (p := ⟨gx, ox + k, none⟩) hgx] at p0
            have hwf := HPW.out ps[k] (List.getElem_mem hkp)
            generalize ps[k] = z at *
            clear hqx
            by_cases h0 : 0 < d0.length
            · have HSP := Lib.hid (fun w => spot_any z (d0.length : Int) hwf (by omega) (by omega) w)
              obtain ⟨P, hP⟩ := Int.eq_ofNat_of_zero_le (spot_bd (k := z) (n := (d0.length : Int)) (by omega)).1
              have hPn : P < d0.length := by have := (spot_bd (k := z) (n := (d0.length : Int)) (by omega)).2; omega
              rw [hP] at HSP
              obtain ⟨gd, cdd, hvd, hcd, hgd, hgdl, hqd⟩ := own_at HOD14.out h0
              cases hvd
              have q0 := hqd P _ (bytesV_at D P (by have := HDL.out; omega))
              generalize hB : D[P]'(by have := HDL.out; omega) = b at *
              have z0 : (0 : Int) < (d0.length : Int) := by omega
              have hxb := xb_nat b (1 + k) (by omega)
              rw [show ((1 + k : Nat) : Int) = 1 + (k : Int) from by omega] at hxb
              have HM2 := HM1.out
              obtain ⟨curd, hcurd⟩ := own_objP HOD14.out
              have hfz := hcurd.frozen P
              have HNX := Lib.hid (show gx ≠ gd from by omega)
              have HOD15 := Lib.hid (own_setP HOD14.out P (.int .u8 ((xb b (1 + k)).toNat : Int)))
              have HAP := Lib.hid (own_apart HOL14.out HOD14.out (by decide))
              have HOL15 := Lib.hid (far_set (o := P) HOL14.out (g := gd) (by
                rcases HAP.out with h | h
                · rw [h]; simp
                · exact h) (.int .u8 ((xb b (1 + k)).toNat : Int)))
              have HB15 := Lib.hid (below_set (o := P) HB14.out (g := gd) HB14.out.size (by omega) (.int .u8 ((xb b (1 + k)).toNat : Int)))
              have HBV := Lib.hid (show (bytesV D).set P (.int .u8 ((xb b (1 + k)).toNat : Int)) = bytesV (D.set P (xb b (1 + k))) from by unfold bytesV; rw [List.map_set]; rfl)
              have HDS := Lib.hid (show (D.set P (xb b (1 + k))).length = d0.length from by rw [List.length_set]; exact HDL.out)
              rw [HBV.out] at HOD15
              generalize xb b (1 + k) = nb at *
              have pX : (w14.setCell ⟨gd, P, none⟩ (.int .u8 (nb.toNat : Int))).cell? ⟨gx, ox + k, none⟩ = some (.int .i64 z) := by
                rw [World.cell?_of_block (w := w14) (Below.heap_setCell w14 ⟨gd, P, none⟩ (.int .u8 (nb.toNat : Int)) gx HNX.out)]
                exact p0
              have z0 : (0 : Int) < (d0.length : Int) := by omega
              by_cases hl0 : 0 < l0.length
              · skip
                have HCV := Lib.hid (conv_ch k (by omega))
                have HSQ := Lib.hid (fun w => spot_any z (l0.length : Int) hwf (by omega) (by omega) w)
                obtain ⟨Q, hQ⟩ := Int.eq_ofNat_of_zero_le (spot_bd (k := z) (n := (l0.length : Int)) (by omega)).1
                have hQn : Q < l0.length := by have := (spot_bd (k := z) (n := (l0.length : Int)) (by omega)).2; omega
                rw [hQ] at HSQ
                obtain ⟨gl, cll, hvl, hcl, hgl, hgll, hqq⟩ := own_at HOL15.out hl0
                cases hvl
                obtain ⟨curl, hcurl⟩ := own_objP HOL15.out
                have HFL := Lib.hid (hcurl.frozen Q)
                have HM3 := HM1.out
                have HAQ := Lib.hid (own_apart HOD15.out HOL15.out (by decide))
                have HODz := Lib.hid (fun s => far_set (o := Q) HOD15.out (g := gl) (by
                  rcases HAQ.out with h | h
                  · rw [h]; simp
                  · exact h) (.string s))
                have HOLz := Lib.hid (fun s => own_setP HOL15.out Q (.string s))
                have HBz := Lib.hid (fun s => below_set (o := Q) HB15.out (g := gl) HB15.out.size (by omega) (.string s))
                have HLV := Lib.hid (fun s : ByteArray => show (sC L).set Q (.string s) = sC (L.set Q s) from by unfold sC; rw [List.map_set])
                have HLSz := Lib.hid (fun (s : ByteArray) => show (L.set Q s).length = l0.length from by rw [List.length_set]; exact HLL.out)
                have HCC := Lib.hid (hqq Q _ (List.getElem?_eq_getElem (by rw [sC_len, HLL.out]; exact hQn)))
                generalize (sC L)[Q]'(by rw [sC_len, HLL.out]; exact hQn) = cc at HCC
                have z3 : (0 : Int) < (l0.length : Int) := by omega
                have HZ4 := Lib.hid (show (0 : Int) ≤ (Q : Int) by omega)
                have HZ5 := Lib.hid (show (Q : Int) < (l0.length : Int) by omega)
                clear hQ hwf HM3 hqq hcurl hqd hP HM2
                go_wp2_with fail
                refine (HSP.out _).mono ?_
                rintro e w16 ⟨rfl, hw16⟩
                subst hw16
                have z1 : (0 : Int) ≤ (P : Int) := by omega
                have z2 : (P : Int) < (d0.length : Int) := by omega
                go_wp2_with fail
                refine (HSQ.out _).mono ?_
                rintro e w17 ⟨rfl, hw17⟩
                subst hw17
                generalize (w16.setCell ⟨gd, P, none⟩ (.int .u8 (nb.toNat : Int))) = W0 at *
                have hfl := HFL.out
                have hcc2 := HCC.out
                have z4 := HZ4.out
                have z5 := HZ5.out
                obtain ⟨ch, hcs, hen, hcv⟩ := HCV.out
                have hs12 := chs_small hcs
                obtain ⟨hs1, hs2⟩ := hs12
                have HCS := Lib.hid hcs
                clear hcs
                go_wp2_with fail
                go_roundw
                case rel => exact ⟨k + 1, D.set P nb, L.set Q (⟨#[108, 105, 110, 101, 32]⟩ ++ ch), by omega, by go_num, HDS.out, HLSz.out _, sized_set HLS.out HCS.out Q, HODz.out _, by rw [← HLV.out]; exact HOLz.out _, HBz.out _⟩
                case measure => simp [intOf]; omega
              · have z3 : ¬ (0 : Int) < (l0.length : Int) := by omega
                clear hqd hP hwf HM2
                go_wp2_with fail
                refine (HSP.out _).mono ?_
                rintro e w16 ⟨rfl, rfl⟩
                have z1 : (0 : Int) ≤ (P : Int) := by omega
                have z2 : (P : Int) < (d0.length : Int) := by omega
                go_wp2_with fail
                go_roundw
                case rel => exact ⟨k + 1, D.set P nb, L, by omega, by go_num, HDS.out, HLL.out, HLS.out, HOD15.out, HOL15.out, HB15.out⟩
                case measure => simp [intOf]; omega
            · by_cases hl0 : 0 < l0.length
              · skip
                have HCV := Lib.hid (conv_ch k (by omega))
                have HSQ := Lib.hid (fun w => spot_any z (l0.length : Int) hwf (by omega) (by omega) w)
                obtain ⟨Q, hQ⟩ := Int.eq_ofNat_of_zero_le (spot_bd (k := z) (n := (l0.length : Int)) (by omega)).1
                have hQn : Q < l0.length := by have := (spot_bd (k := z) (n := (l0.length : Int)) (by omega)).2; omega
                rw [hQ] at HSQ
                obtain ⟨gl, cll, hvl, hcl, hgl, hgll, hqq⟩ := own_at HOL14.out hl0
                cases hvl
                obtain ⟨curl, hcurl⟩ := own_objP HOL14.out
                have HFL := Lib.hid (hcurl.frozen Q)
                have HM3 := HM1.out
                have HAQ := Lib.hid (own_apart HOD14.out HOL14.out (by decide))
                have HODz := Lib.hid (fun s => far_set (o := Q) HOD14.out (g := gl) (by
                  rcases HAQ.out with h | h
                  · rw [h]; simp
                  · exact h) (.string s))
                have HOLz := Lib.hid (fun s => own_setP HOL14.out Q (.string s))
                have HBz := Lib.hid (fun s => below_set (o := Q) HB14.out (g := gl) HB14.out.size (by omega) (.string s))
                have HLV := Lib.hid (fun s : ByteArray => show (sC L).set Q (.string s) = sC (L.set Q s) from by unfold sC; rw [List.map_set])
                have HLSz := Lib.hid (fun (s : ByteArray) => show (L.set Q s).length = l0.length from by rw [List.length_set]; exact HLL.out)
                have HCC := Lib.hid (hqq Q _ (List.getElem?_eq_getElem (by rw [sC_len, HLL.out]; exact hQn)))
                generalize (sC L)[Q]'(by rw [sC_len, HLL.out]; exact hQn) = cc at HCC
                have z3 : (0 : Int) < (l0.length : Int) := by omega
                have HZ4 := Lib.hid (show (0 : Int) ≤ (Q : Int) by omega)
                have HZ5 := Lib.hid (show (Q : Int) < (l0.length : Int) by omega)
                clear hQ hwf HM3 hqq hcurl 
                have z0 : ¬ (0 : Int) < (d0.length : Int) := by omega
                go_wp2_with fail
                refine (HSQ.out _).mono ?_
                rintro e w17 ⟨rfl, hw17⟩
                subst hw17
                skip
                have hfl := HFL.out
                have hcc2 := HCC.out
                have z4 := HZ4.out
                have z5 := HZ5.out
                obtain ⟨ch, hcs, hen, hcv⟩ := HCV.out
                have hs12 := chs_small hcs
                obtain ⟨hs1, hs2⟩ := hs12
                have HCS := Lib.hid hcs
                clear hcs
                go_wp2_with fail
                go_roundw
                case rel => exact ⟨k + 1, D, L.set Q (⟨#[108, 105, 110, 101, 32]⟩ ++ ch), by omega, by go_num, HDL.out, HLSz.out _, sized_set HLS.out HCS.out Q, HODz.out _, by rw [← HLV.out]; exact HOLz.out _, HBz.out _⟩
                case measure => simp [intOf]; omega
              · have z3 : ¬ (0 : Int) < (l0.length : Int) := by omega
                have z0 : ¬ (0 : Int) < (d0.length : Int) := by omega
                go_wp2_with fail
                go_roundw
                case rel => exact ⟨k + 1, D, L, by omega, by go_num, HDL.out, HLL.out, HLS.out, HOD14.out, HOL14.out, HB14.out⟩
                case measure => simp [intOf]; omega
          · have y1 : ¬ (k : Int) < (ps.length : Int) := by omega
            go_wp2_with fail
            go_roundw
            case rel => exact ⟨k + 1, D, L, by omega, by go_num, HDL.out, HLL.out, HLS.out, HOD14.out, HOL14.out, HB14.out⟩
            case measure => simp [intOf]; omega
        · by_cases x1 : (k : Int) ≤ (ps.length : Int)
          · have x2 : ¬ (k : Int) < 12 := by omega
            clear hc
            go_wp2_with fail
            go_ret
            exact ⟨rfl, hbel⟩
          · clear hc
            go_wp2_with fail
            go_ret
            exact ⟨rfl, hbel⟩
    · have x1 : ¬ (l0.length : Int) ≤ 64 := by omega
      go_enter Tryd.func5, Tryd.ntmps5
      go_wp2_with fail
      refine (fixed_yes _).mono ?_
      rintro e w1 ⟨rfl, hb1⟩
      go_wp2_with fail
      go_ret
      exact ⟨rfl, hb1⟩
  · have x1 : ¬ (d0.length : Int) ≤ 200000 := by omega
    go_enter Tryd.func5, Tryd.ntmps5
    go_wp2_with fail
    refine (fixed_yes _).mono ?_
    rintro e w1 ⟨rfl, hb1⟩
    go_wp2_with fail
    go_ret
    exact ⟨rfl, hb1⟩
set_option maxRecDepth 100000 in
theorem ledgerPlaces_laid {w : World} (h : laidMetH Tryd.prog Rows.ledgerPlacesRow.laid w) : Tab w := by
  rw [MakeChecks.laidMetH_plain _ _ _ (by kernel_rfl)] at h
  have hg0 : Tryd.prog.globalNamed "internal/strconv.uint64pow10" = some 0 := by kernel_rfl
  exact Lib.tabIs_of_head (n := 20) (t := 117) (e := 99) hg0 (by kernel_rfl) (by kernel_rfl) (by kernel_rfl) (by kernel_rfl) (by kernel_rfl) h.tail.tail
end Go.Proofs.YtcofndegcleicaaDoor.Lg
