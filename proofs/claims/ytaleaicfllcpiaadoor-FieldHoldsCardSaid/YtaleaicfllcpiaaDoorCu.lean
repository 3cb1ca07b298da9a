/- The program's Cubes. -/
import Derived.Test.YtaleaicfllcpiaaDoorCp
namespace Go.Proofs.YtaleaicfllcpiaaDoor.Fl
open Go.RowKit Mm Law
set_option linter.unusedSimpArgs false
set_option linter.unusedSectionVars false
set_option linter.unusedVariables false
theorem gre_form {b e : Nat} : ∀ n x, e - x ≤ n → ∀ q ∈ gre b x e, q.2 ≤ b := by
  intro n
  induction n with
  | zero => intro x hx q hq; rw [gre_no (by omega)] at hq; exact absurd hq (by simp)
  | succ n ih =>
    intro x hx q hq
    by_cases h : x < e
    · rw [gre_yes h] at hq
      have hs := fr_spec (b := b) (x := x) (e := e) b 0 (by omega) (by omega) (okB_zero h)
      have hp : 0 < 2 ^ fr b x e 0 := Nat.pow_pos (by omega)
      rcases List.mem_cons.1 hq with h1 | h1
      · rw [h1]; exact hs.2.2.1
      · exact ih _ (by omega) q h1
    · rw [gre_no (by omega)] at hq; exact absurd hq (by simp)
theorem gre_size {b x e : Nat} : ∀ c ∈ (gre b x e).map (preT b), c.length = b := by
  intro c hc
  obtain ⟨q, hq, rfl⟩ := List.mem_map.1 hc
  exact preT_len (gre_form _ x (Nat.le_refl _) q hq)
theorem oth_size (c : List UInt8) : ∀ x ∈ othT c, x.length = c.length := by
  intro x hx
  unfold othT Tn.partsT at hx
  obtain ⟨i, _, rfl⟩ := List.mem_map.1 hx
  unfold Tn.partT
  simp
theorem val_size {T : Tst} {b : Nat} (h : Good b T) : ∀ c ∈ valT T b, c.length = b := by
  intro c hc
  unfold valT at hc
  split at hc
  · exact gre_size c hc
  split at hc
  · exact gre_size c hc
  split at hc
  · exact gre_size c hc
  split at hc
  · exact gre_size c hc
  split at hc
  · split at hc
    · exact gre_size c hc
    · rcases List.mem_append.1 hc with h1 | h1
      · exact gre_size c h1
      · exact gre_size c h1
  · rename_i h3
    have hf := (one_form h h3).1
    split at hc
    · have : c = oneT T b := by simpa using hc
      rw [this]; exact hf
    · rw [oth_size _ c hc, hf]
theorem val_len {T : Tst} {b : Nat} (hb : b ≤ 32) (h : Good b T) : (valT T b).length ≤ 8589934592 := by
  have ht := top_lt b hb
  have hlo : T.lo.toNat ≤ topN b ∧ T.hi.toNat ≤ topN b := by
    cases h with
    | num nm op lo h1 h2 hlo => exact ⟨hlo, Nat.zero_le _⟩
    | pre nm op lo ln h1 hlo hln hp => exact ⟨hlo, Nat.zero_le _⟩
    | rng nm op lo hi h1 hlo hhi => exact ⟨by show lo ≤ _; omega, hhi⟩
    | pat nm op pt h1 hs hd => exact ⟨Nat.zero_le _, Nat.zero_le _⟩
  have g := fun x e (he : e ≤ 2 ^ b) => gre_len (b := b) (x := x) (e := e) hb he
  have g1 := g 0 T.lo.toNat (by omega)
  have g2 := g 0 (T.lo.toNat + 1) (by omega)
  have g3 := g (T.lo.toNat + 1) (2 ^ b) (Nat.le_refl _)
  have g4 := g T.lo.toNat (2 ^ b) (Nat.le_refl _)
  have g5 := g T.lo.toNat (T.hi.toNat + 1) (by omega)
  have g6 := g (T.hi.toNat + 1) (2 ^ b) (Nat.le_refl _)
  unfold valT
  split
  · omega
  split
  · omega
  split
  · omega
  split
  · omega
  split
  · split
    · omega
    · rw [List.length_append]; omega
  · rename_i h3
    split
    · simp
    · have hf := (one_form h h3).1
      have := Tn.partsT_le (List.replicate (oneT T b).length 120) (oneT T b) (oneT T b).length
      unfold othT
      omega
def midL (f : List UInt8 → List UInt8) (L : List (List UInt8)) (k : Nat) : List (List UInt8) := (L.take k).map f ++ L.drop k
theorem mid_len (f : List UInt8 → List UInt8) (L : List (List UInt8)) {k : Nat} (hk : k ≤ L.length) : (midL f L k).length = L.length := by unfold midL; simp; omega
theorem mid_zero (f : List UInt8 → List UInt8) (L : List (List UInt8)) : midL f L 0 = L := by unfold midL; simp
theorem mid_all (f : List UInt8 → List UInt8) (L : List (List UInt8)) : midL f L L.length = L.map f := by unfold midL; simp
theorem mid_get (f : List UInt8 → List UInt8) (L : List (List UInt8)) {k : Nat} (hk : k < L.length) : (midL f L k)[k]? = some L[k] := by
  unfold midL
  rw [List.getElem?_append_right (by simp; omega)]
  simp [Nat.min_eq_left (Nat.le_of_lt hk), hk]
theorem mid_step (f : List UInt8 → List UInt8) (L : List (List UInt8)) {k : Nat} (hk : k < L.length) : (midL f L k).set k (f L[k]) = midL f L (k + 1) := by
  unfold midL
  rw [List.set_append_right _ _ (by simp; omega), List.take_succ_eq_append_getElem hk, List.map_append]
  have e : k - ((L.take k).map f).length = 0 := by simp; omega
  rw [e, List.drop_eq_getElem_cons hk, List.set_cons_zero, List.append_assoc]
  rfl
theorem sC_set (L : List (List UInt8)) (k : Nat) (c : List UInt8) : (sC L).set k (.string (str c)) = sC (L.set k c) := by unfold sC; rw [List.map_set]
theorem wrap_str (a b : Nat) (c : List UInt8) : str (List.replicate a 120) ++ str c ++ str (List.replicate b 120) = str (wrapC a b c) := by unfold wrapC; rw [str_app, str_app]
set_option maxRecDepth 100000 in
set_option maxHeartbeats 16000000 in
theorem cubes_any (l : List Fld) (v : Value) (T : Tst) (hpm : T.pt.size ≤ maxLen) (w : World) (hv : SeesF w v l) (hu : Used w) :
    Calls Tryd.prog 25 #[v, T.val] w (CuAns w T l) := by
  have HCK := Lib.hid (fun w' (h : Below w.heap.size w w') => check_any l v w' (hv.below h))
  have HV := Lib.hid hv
  obtain ⟨a0, cap0, rfl, hcap, hcm, hx, hw⟩ := hv
  have HX := Lib.hid hx
  unfold maxLen at hcm
  obtain ⟨c1, c2, hcc⟩ : ∃ c1 c2, chk l = (c1, c2) := ⟨_, _, rfl⟩
  rw [hcc] at HCK
  have h1 : (chk l).1 = c1 := by rw [hcc]
  clear hx hw hcc
  by_cases hc : c1 = 0
  · subst hc
    have HZ := Lib.hid (chk_zero h1)
    have HC0 := Lib.hid h1
    have hz : 0 < l.length ∧ l.length ≤ 12 := ⟨HZ.out.1, HZ.out.2.1⟩
    obtain ⟨hl0, hl12⟩ := hz
    have HWI := Lib.hid (show Wide l from HZ.out.2.2)
    have HFI := Lib.hid (fun w' (h : Below w.heap.size w w') => find_at l _ T.nm w' (HV.out.below h))
    clear h1
    by_cases hix : idxF l T.nm < l.length
    · have hi2 : idxI l T.nm = (idxF l T.nm : Int) := by unfold idxI; rw [if_pos hix]
      rw [hi2] at HFI
      obtain ⟨k, hk⟩ : ∃ k, idxF l T.nm = k := ⟨_, rfl⟩
      have HKK := Lib.hid hk
      rw [hk] at hix HFI
      have hbk := bitsAt_get HWI.out hix
      obtain ⟨b, hbb⟩ : ∃ b, bitsAt l k = b := ⟨_, rfl⟩
      have HBB := Lib.hid hbb
      rw [hbb] at hbk
      obtain ⟨hb1, hb2, hb32⟩ := hbk
      have HTS := Lib.hid (tst_yes hix hk hb1.symm)
      obtain ⟨g, off, rfl, hg, hq⟩ : ∃ g off, a0 = some ⟨g, off, none⟩ ∧ g < w.heap.size ∧ ∀ j f, l[j]? = some f → w.cell? ⟨g, off + j * 2, none⟩ = some (.string f.1) ∧ w.cell? ⟨g, off + (j * 2 + 1), none⟩ = some (.int .i64 f.2) := by
        rcases HX.out with h0 | h0
        · rw [h0] at hix; simp at hix
        · exact h0
      have q1 := (hq k l[k] (by simp [hix])).2
      rw [← hb1, ← Nat.add_assoc] at q1
      have HQ := Lib.hid (fun w' (h : Below w.heap.size w w') => (h.cell (p := ⟨g, off + k * 2 + 1, none⟩) hg).trans q1)
      have hft := fun w' (h : Below w.heap.size w w') => fit_any T b hb32 hpm w' (hu.below h)
      unfold FitAns at hft
      have HB2 := Lib.hid hb2
      clear hq q1 hb1 hi2 hk hbb
      by_cases hE : fitE T b = 0
      · have HGD := Lib.hid (good_of hE)
        rw [hE] at hft
        have HFT := Lib.hid hft
        have HVA := Lib.hid (fun w => values_any T b HB2.out hb32 HGD.out w)
        have HVS := Lib.hid (val_size HGD.out)
        have hvl := val_len hb32 HGD.out
        have HCE := Lib.hid (show cuE T l = 0 from cu_tst HC0.out (HTS.out.trans hE))
        have hpk := pos_mono HWI.out (j := k) (k := l.length) (by omega) (Nat.le_refl _)
        have hpl := sum_bd HZ.out.2.2 l.length (Nat.le_refl _)
        rw [pos_int HWI.out (Nat.le_refl _)] at hpl
        have hp384 : posN l l.length ≤ 384 := by omega
        have HW1 := Lib.hid (fun w' (h : Below w.heap.size w w') => width_cut l _ cap0 k w' (HV.out.below h) hl12 HZ.out.2.2 (by omega))
        rw [pos_int HWI.out (by omega)] at HW1
        obtain ⟨a1, hsl, hsee⟩ := drop_slice l _ cap0 (k + 1) w HV.out (by omega)
        have HW2 := Lib.hid (fun w' (h : Below w.heap.size w w') => width_drop l a1 _ _ (k + 1) w' (hsee.below h) hl12 HWI.out (by omega))
        rw [show ((k + 1 : Nat) : Int) = (k : Int) + 1 from by omega] at hsl
        have HR1 := Lib.hid (fun w => rep_any (posN l k) (by omega) w)
        have HR2 := Lib.hid (fun w => rep_any (posN l l.length - posN l (k + 1)) (by omega) w)
        have HOK := Lib.hid (fun v w' ho hbl => cu_ok (w := w) (v := v) (w' := w') HCE.out HKK.out HBB.out (p := posN l k) rfl (q := posN l l.length - posN l (k + 1)) rfl ho hbl)
        have x0 : (0 : Int) ≤ (k : Int) := by omega
        have x1 : (k : Int) < (l.length : Int) := by omega
        have hpk2 : posN l k ≤ 384 := by omega
        have hql : posN l l.length - posN l (k + 1) ≤ 384 := by omega
        generalize posN l l.length - posN l (k + 1) = qn at *
        generalize posN l k = pn at *
        generalize valT T b = L at *
        obtain ⟨nm, op, fo, lo, hi, ln, pt⟩ := T
        show Calls Tryd.prog 25 #[.slice (some ⟨g, off, none⟩) l.length cap0, .agg #[.string nm, .int .i64 op, .int .i64 fo, .int .i64 lo, .int .i64 hi, .int .i64 ln, .string pt]] w _
        unfold Tst.val Tst.cs at HFT HVA
        simp only at HFI HFT HVA
        clear hE hft hpm hu hpl hpk hix hp384 hsee hb2
        go_enter Tryd.func25, Tryd.ntmps25
        go_wp2_with fail
        refine (HCK.out _ (bal (Below.refl _ _) _)).mono ?_
        rintro e w1 ⟨rfl, hb1⟩
        have HD1 := Lib.hid ((EiS.new w #[.string nm, .int .i64 op, .int .i64 fo, .int .i64 lo, .int .i64 hi, .int .i64 ln, .string pt]).go hb1)
        have e0 := HD1.out.1.cell 0
        clear hb1
        go_wp2_with fail
        refine (HFI.out _ HD1.out.2).mono ?_
        rintro e w2 ⟨rfl, hb2⟩
        have HD2 := Lib.hid (HD1.out.go hb2)
        clear e0 hb2 HD1
        have e0 := HD2.out.1.cell 0
        have e1 := HD2.out.1.cell 1
        have e2 := HD2.out.1.cell 2
        have e3 := HD2.out.1.cell 3
        have e4 := HD2.out.1.cell 4
        have e5 := HD2.out.1.cell 5
        have e6 := HD2.out.1.cell 6
        have q1 := HQ.out _ HD2.out.2
        go_wp2_with fail
        refine (HFT.out _ HD2.out.2).mono ?_
        rintro e w3 ⟨rfl, hb3⟩
        have HD3 := Lib.hid (HD2.out.go hb3)
        clear e0 e1 e2 e3 e4 e5 e6 q1 hb3 HD2
        go_wp2_with fail
        refine (HW1.out _ HD3.out.2).mono ?_
        rintro e w4 ⟨rfl, hb4⟩
        have HD4 := Lib.hid (HD3.out.go hb4)
        clear hb4 HD3
        go_wp2_with fail
        refine (HR1.out _).mono ?_
        rintro e w5 ⟨rfl, hb5⟩
        have HD5 := Lib.hid (HD4.out.go hb5)
        clear hb5 HD4
        go_wp2_with fail
        refine (HW2.out _ HD5.out.2).mono ?_
        rintro e w6 ⟨rfl, hb6⟩
        have HD6 := Lib.hid (HD5.out.go hb6)
        clear hb6 HD5
        go_wp2_with fail
        refine (HR2.out _).mono ?_
        rintro e w7 ⟨rfl, hb7⟩
        have HD7 := Lib.hid (HD6.out.go hb7)
        clear hb7 HD6
        have e0 := HD7.out.1.cell 0
        have e1 := HD7.out.1.cell 1
        have e2 := HD7.out.1.cell 2
        have e3 := HD7.out.1.cell 3
        have e4 := HD7.out.1.cell 4
        have e5 := HD7.out.1.cell 5
        have e6 := HD7.out.1.cell 6
        go_wp2_with fail
        refine (HVA.out _).mono ?_
        rintro e w8 ⟨v8, rfl, ho8, hb8⟩
        have HG8 := Lib.hid (bnx HD7.out.2 hb8)
        have HO8 := Lib.hid (own_base ho8 HD7.out.2.size)
        obtain ⟨a8, cap8, rfl⟩ := own_len ho8
        clear ho8 hb8 e0 e1 e2 e3 e4 e5 e6 HD7 HFI HFT HVA HW1 HW2 HR1 HR2 HCK HQ
        have hsa : (str (List.replicate pn (120 : UInt8))).size = pn := by rw [str_size, List.length_replicate]
        have hsb : (str (List.replicate qn (120 : UInt8))).size = qn := by rw [str_size, List.length_replicate]
        have HWR := Lib.hid (fun c => wrap_str pn qn c)
        generalize str (List.replicate pn (120 : UInt8)) = sa at *
        generalize str (List.replicate qn (120 : UInt8)) = sb at *
        have hsa2 : sa.size ≤ 384 := by omega
        have hsb2 : sb.size ≤ 384 := by omega
        clear hsa hsb hsl
        go_wp2_with fail
        go_loopw [56] (fun i wr => ∃ j : Nat, j ≤ L.length ∧ i = .int .i64 (j : Int) ∧ wr.ownsRow w.heap.size 9 1 (.slice a8 L.length cap8) L.length (sC (midL (wrapC pn qn) L j)) ∧ Below w.heap.size w wr) (fun i _ => L.length - (intOf i).toNat)
        case atStart => exact ⟨0, Nat.zero_le _, rfl, by rw [mid_zero]; exact HO8.out, HG8.out⟩
        case round =>
          obtain ⟨j, hj, rfl, hown, hbel⟩ := hrel
          have HOW := Lib.hid hown
          clear hown
          by_cases hlt : j < L.length
          · obtain ⟨g8, c8, hv8, hcap8, hbg, hcell⟩ := Tn.own_at HOW.out (by omega)
            simp only [Value.slice.injEq] at hv8
            obtain ⟨rfl, _, rfl⟩ := hv8
            have q := hcell j _ (sC_at (midL (wrapC pn qn) L j) j L[j] (mid_get _ _ hlt))
            have hfr : wr.frozen? ⟨g8, j, none⟩ = false := HOW.out.frozenAt j
            have HST := Lib.hid (HOW.out.stored j (.string (sa ++ str L[j] ++ sb)))
            rw [HWR.out L[j], sC_set, mid_step _ _ hlt] at HST
            have hcs : (str L[j]).size ≤ 32 := by rw [str_size, HVS.out L[j] (List.getElem_mem hlt)]; exact hb32
            have hWj := HWR.out L[j]
            have HWJ := Lib.hid hWj
            generalize str L[j] = sc at *
            generalize str (wrapC pn qn L[j]) = sw at *
            have hs1 : ¬ 9223372036854775807 < sa.size + sc.size := by omega
            have hs2 : ¬ 9223372036854775807 < sa.size + sc.size + sb.size := by omega
            have y1 : (j : Int) < (L.length : Int) := by omega
            have y0 : (0 : Int) ≤ (j : Int) := by omega
            clear hcell hWj
            go_wp2_with fail
            go_roundw
            case rel => exact ⟨j + 1, by omega, by go_num, by rw [HWJ.out]; exact HST.out.1, hbel.setCell hbg _⟩
            case measure => simp [intOf]; omega
          · have hjl : j = L.length := by omega
            have HF := Lib.hid (show wr.ownsRow w.heap.size 9 1 (.slice a8 L.length cap8) (L.map (wrapC pn qn)).length (sC (L.map (wrapC pn qn))) from by have := HOW.out; rw [hjl, mid_all] at this; rw [List.length_map]; exact this)
            clear hjl
            go_wp2_with fail
            refine bodyPost_ret (v := .tuple #[.slice a8 L.length cap8, .int .i64 0]) (by simp [results, Tryd.results25, go_sem]) rfl (HOK.out _ _ HF.out hbel)
      · have HE := Lib.hid (show cuE T l = fitE T b from cu_tst HC0.out HTS.out)
        have HFT := Lib.hid hft
        generalize fitE T b = E at *
        have hne : (E != 0) = true := by simpa using hE
        have HEN := Lib.hid hE
        have x0 : (0 : Int) ≤ (k : Int) := by omega
        have x1 : (k : Int) < (l.length : Int) := by omega
        obtain ⟨nm, op, fo, lo, hi, ln, pt⟩ := T
        show Calls Tryd.prog 25 #[.slice (some ⟨g, off, none⟩) l.length cap0, .agg #[.string nm, .int .i64 op, .int .i64 fo, .int .i64 lo, .int .i64 hi, .int .i64 ln, .string pt]] w _
        unfold Tst.val Tst.cs at HFT
        simp only at HFI HFT
        clear hE hft hpm hu hix hb2
        go_enter Tryd.func25, Tryd.ntmps25
        go_wp2_with fail
        refine (HCK.out _ (bal (Below.refl _ _) _)).mono ?_
        rintro e w1 ⟨rfl, hb1⟩
        have HD1 := Lib.hid ((EiS.new w #[.string nm, .int .i64 op, .int .i64 fo, .int .i64 lo, .int .i64 hi, .int .i64 ln, .string pt]).go hb1)
        have e0 := HD1.out.1.cell 0
        clear hb1
        go_wp2_with fail
        refine (HFI.out _ HD1.out.2).mono ?_
        rintro e w2 ⟨rfl, hb2⟩
        have HD2 := Lib.hid (HD1.out.go hb2)
        clear e0 hb2 HD1
        have e0 := HD2.out.1.cell 0
        have e1 := HD2.out.1.cell 1
        have e2 := HD2.out.1.cell 2
        have e3 := HD2.out.1.cell 3
        have e4 := HD2.out.1.cell 4
        have e5 := HD2.out.1.cell 5
        have e6 := HD2.out.1.cell 6
        have q1 := HQ.out _ HD2.out.2
        go_wp2_with fail
        refine (HFT.out _ HD2.out.2).mono ?_
        rintro e w3 ⟨rfl, hb3⟩
        have HD3 := Lib.hid (HD2.out.go hb3)
        go_wp2_with fail
        refine bodyPost_ret (v := .tuple #[.slice none 0 0, .int .i64 E]) (by simp [results, Tryd.results25, go_sem]) rfl (cu_err HE.out HEN.out HD3.out.2)
    · have hi2 : idxI l T.nm = -1 := by unfold idxI; rw [if_neg hix]
      rw [hi2] at HFI
      have HE := Lib.hid (show cuE T l = 41 from cu_tst HC0.out (tst_no hix))
      obtain ⟨nm, op, fo, lo, hi, ln, pt⟩ := T
      show Calls Tryd.prog 25 #[.slice a0 l.length cap0, .agg #[.string nm, .int .i64 op, .int .i64 fo, .int .i64 lo, .int .i64 hi, .int .i64 ln, .string pt]] w _
      simp only at HFI
      clear hi2 hix hpm hu
      go_enter Tryd.func25, Tryd.ntmps25
      go_wp2_with fail
      refine (HCK.out _ (bal (Below.refl _ _) _)).mono ?_
      rintro e w1 ⟨rfl, hb1⟩
      have HD1 := Lib.hid ((EiS.new w #[.string nm, .int .i64 op, .int .i64 fo, .int .i64 lo, .int .i64 hi, .int .i64 ln, .string pt]).go hb1)
      have e0 := HD1.out.1.cell 0
      clear hb1
      go_wp2_with fail
      refine (HFI.out _ HD1.out.2).mono ?_
      rintro e w2 ⟨rfl, hb2⟩
      have HD2 := Lib.hid (HD1.out.go hb2)
      clear e0 hb2 HD1
      go_wp2_with fail
      refine bodyPost_ret (v := .tuple #[.slice none 0 0, .int .i64 41]) (by simp [results, Tryd.results25, go_sem]) rfl (cu_err HE.out (by decide) HD2.out.2)
  · have hne : (c1 != 0) = true := by simpa using hc
    have HA := Lib.hid (cu_chk (T := T) h1 hc)
    have HCN := Lib.hid hc
    obtain ⟨nm, op, fo, lo, hi, ln, pt⟩ := T
    show Calls Tryd.prog 25 #[.slice a0 l.length cap0, .agg #[.string nm, .int .i64 op, .int .i64 fo, .int .i64 lo, .int .i64 hi, .int .i64 ln, .string pt]] w _
    clear hc h1 hpm hu
    go_enter Tryd.func25, Tryd.ntmps25
    go_wp2_with fail
    refine (HCK.out _ (bal (Below.refl _ _) _)).mono ?_
    rintro e w1 ⟨rfl, hb1⟩
    have HG1 := Lib.hid (bnx (bal (Below.refl _ _) _) hb1)
    clear hb1
    go_wp2_with fail
    refine bodyPost_ret (v := .tuple #[.slice none 0 0, .int .i64 c1]) (by simp [results, Tryd.results25, go_sem]) rfl (cu_err HA.out HCN.out HG1.out)
end Go.Proofs.YtaleaicfllcpiaaDoor.Fl
