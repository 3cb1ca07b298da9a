/- FieldHolds, merged -/
import Derived.Test.YtaleaicfllcpiaaDoorHY
import Derived.Test.YtaleaicfllcpiaaDoorCu
import Derived.Test.YtaleaicfllcpiaaDoorHt
import Derived.Test.YtaleaicfllcpiaaDoorHX
import Derived.Test.YtaleaicfllcpiaaDoorUs
import Derived.Test.YtaleaicfllcpiaaDoorRv
import Derived.Test.YtaleaicfllcpiaaDoorCf
namespace Go.Proofs.YtaleaicfllcpiaaDoor.Fl
open Go.RowKit Mm Law
set_option linter.unusedSimpArgs false
set_option linter.unusedSectionVars false
set_option linter.unusedVariables false
theorem bytH_at {c : List UInt8} {i : Nat} (h : i < c.length) : Tn.byt c i = c[i] := by unfold Tn.byt; simp [h]
theorem bytH_x {n i : Nat} (h : i < n) : Tn.byt (List.replicate n 120) i = 120 := by rw [bytH_at (by simpa using h)]; simp
theorem gre_count {b e v : Nat} (he : e ≤ 2 ^ b) (hv : v < 2 ^ b) : ∀ n x, e - x ≤ n → ((gre b x e).map (preT b)).countP (fun c => hasB c (hiB v b b)) = if x ≤ v ∧ v < e then 1 else 0 := by
  intro n
  induction n with
  | zero => intro x hx; rw [gre_no (by omega), if_neg (by omega)]; rfl
  | succ n ih =>
    intro x hx
    by_cases h : x < e
    · have hs := fr_spec (b := b) (x := x) (e := e) b 0 (by omega) (by omega) (okB_zero h)
      have hp : 0 < 2 ^ fr b x e 0 := Nat.pow_pos (by omega)
      obtain ⟨⟨h1, h2⟩, _, h3, _⟩ := hs
      have ih2 := ih (x + 2 ^ fr b x e 0) (by omega)
      have hh := has_pre (b := b) (v := v) (p := (x, fr b x e 0)) (by show x < 2 ^ b; omega) h3 hv h1
      rw [gre_yes h, List.map_cons, List.countP_cons, ih2, hh]
      simp only [decide_eq_true_eq]
      generalize 2 ^ fr b x e 0 = m at *
      repeat' split
      all_goals omega
    · rw [gre_no (by omega), if_neg (by omega)]; rfl
theorem div_pre {lo v m : Nat} (hm : lo % 2 ^ m = 0) : (lo ≤ v ∧ v < lo + 2 ^ m) ↔ v / 2 ^ m = lo / 2 ^ m := by
  have hp : 0 < 2 ^ m := Nat.pow_pos (by omega)
  generalize 2 ^ m = M at *
  have e1 := Nat.div_add_mod lo M
  have e2 := Nat.div_add_mod v M
  have e3 := Nat.mod_lt v hp
  rw [hm, Nat.add_zero] at e1
  constructor
  · rintro ⟨h1, h2⟩
    apply Nat.le_antisymm
    · apply Nat.le_of_lt_succ
      rw [Nat.div_lt_iff_lt_mul hp, Nat.succ_mul, Nat.mul_comm, e1]
      exact h2
    · exact Nat.div_le_div_right h1
  · intro h
    rw [h] at e2
    omega
theorem one_has {T : Tst} {b v : Nat} (hb : b ≤ 32) (hv : v < 2 ^ b) (h : Good b T) (h3 : T.fo ≠ 3) : hasB (oneT T b) (hiB v b b) = isB T v b := by
  have htb := top_lt b hb
  cases h with
  | num nm op lo h1 h2 hlo =>
    show hasB (preT b (lo, 0)) (hiB v b b) = decide (v = lo)
    rw [has_pre (b := b) (v := v) (p := (lo, 0)) (by show lo < 2 ^ b; omega) (Nat.zero_le _) hv (by simp [Nat.mod_one])]
    apply decide_eq_decide.2
    show (lo ≤ v ∧ v < lo + 2 ^ 0) ↔ v = lo
    rw [Nat.pow_zero]
    omega
  | pre nm op lo ln h1 hlo hln hp =>
    show hasB (preT b (lo, b - ln)) (hiB v b b) = decide (v / 2 ^ (b - ln) = lo / 2 ^ (b - ln))
    rw [has_pre (b := b) (v := v) (p := (lo, b - ln)) (by show lo < 2 ^ b; omega) (Nat.sub_le _ _) hv hp]
    exact decide_eq_decide.2 (div_pre hp)
  | rng nm op lo hi h1 hlo hhi => exact absurd rfl h3
  | pat nm op pt h1 hs hd => rfl
theorem holds_has {c h : List UInt8} (hl : c.length = h.length) : Tn.holdsT c h ↔ hasB c h = true := by
  rw [hasB_iff hl]
  unfold Tn.holdsT
  refine ⟨fun H i hi => ?_, fun H i hi => ?_⟩
  · have := H i hi
    rw [bytH_at hi, bytH_at (show i < h.length by omega)] at this
    rw [List.getElem?_eq_getElem hi, List.getElem?_eq_getElem (show i < h.length by omega)]
    exact this.imp (congrArg some) (congrArg some)
  · have := H i hi
    rw [List.getElem?_eq_getElem hi, List.getElem?_eq_getElem (show i < h.length by omega)] at this
    rw [bytH_at hi, bytH_at (show i < h.length by omega)]
    exact this.imp Option.some.inj Option.some.inj
theorem hiB_head (v b : Nat) : Tn.isHead (hiB v b b) b := ⟨hiB_len v b b, List.all_eq_true.2 fun x hx => by
  unfold hiB at hx
  obtain ⟨i, _, rfl⟩ := List.mem_map.1 hx
  unfold bitB Tn.digB
  split <;> rfl⟩
theorem oth_count {c : List UInt8} {b v : Nat} (hl : c.length = b) (h1 : 1 ≤ b) (hb : b ≤ 32) (hc : ∀ x ∈ c, x ∈ dShow) : (othT c).countP (fun t => hasB t (hiB v b b)) = if hasB c (hiB v b b) = true then 0 else 1 := by
  have hcc : Tn.isCube c := ⟨by omega, (c_cub (by omega) hc).ok⟩
  have hca : Tn.isCube (List.replicate c.length 120) := ⟨by simp; omega, List.all_eq_true.2 fun x hx => by rw [List.eq_of_mem_replicate hx]; rfl⟩
  have hh := hiB_head v b
  have hs : Tn.splitT (List.replicate c.length 120) c = othT c := by
    have h := oth_split hl h1 hb
    have ha : Tn.allT (b : Int) = List.replicate c.length 120 := by unfold Tn.allT; rw [if_pos (by omega), hl]; rfl
    rw [ha] at h
    exact h
  have hp := Tn.parts_count hca hcc (by simp) (by rw [List.length_replicate, hl]; exact hh)
  rw [hs] at hp
  have hall : Tn.holdsT (List.replicate c.length 120) (hiB v b b) := fun i hi => .inl (bytH_x (by simpa using hi))
  have hcong : (othT c).countP (fun t => hasB t (hiB v b b)) = (othT c).countP (fun t => decide (Tn.hasOk t (hiB v b b))) := by
    apply List.countP_congr
    intro t ht
    have htl := oth_size c t ht
    rw [decide_eq_true_iff, Tn.has_iff (n := b) (by omega) (by omega) hh, holds_has (by rw [htl, hiB_len]; exact hl)]
  rw [hcong, hp]
  have hiff := holds_has (c := c) (h := hiB v b b) (by rw [hiB_len]; exact hl)
  by_cases h : hasB c (hiB v b b) = true
  · rw [if_pos h, if_neg (fun hx => hx.2 (hiff.2 h))]
  · rw [if_neg h, if_pos ⟨hall, fun hx => h (hiff.1 hx)⟩]
theorem val_count {T : Tst} {b v : Nat} (h1 : 1 ≤ b) (hb : b ≤ 32) (hv : v < 2 ^ b) (h : Good b T) : (valT T b).countP (fun c => hasB c (hiB v b b)) = if hldB T v b = true then 1 else 0 := by
  have htb := top_lt b hb
  have key : (T.op = 1 ∨ T.op = 2) → T.fo ≠ 3 → (valT T b).countP (fun c => hasB c (hiB v b b)) = if hldB T v b = true then 1 else 0 := by
    intro hop h3
    have e1 := one_has hb hv h h3
    have hf := one_form h h3
    unfold valT hldB
    rw [if_neg (by omega), if_neg (by omega), if_neg (by omega), if_neg (by omega), if_neg h3]
    rcases hop with ho | ho
    · rw [if_pos ho, if_pos ho, List.countP_singleton, e1]
    · have n1 : ¬ T.op = 1 := by omega
      rw [if_neg n1, if_neg n1, if_pos ho, oth_count hf.1 h1 hb hf.2, e1]
      cases isB T v b <;> rfl
  have hlo : T.lo.toNat ≤ topN b ∧ T.hi.toNat ≤ topN b := by
    cases h with
    | num nm op lo h1 h2 hlo => exact ⟨hlo, Nat.zero_le _⟩
    | pre nm op lo ln h1 hlo hln hp => exact ⟨hlo, Nat.zero_le _⟩
    | rng nm op lo hi h1 hlo hhi => exact ⟨by show lo ≤ _; omega, hhi⟩
    | pat nm op pt h1 hs hd => exact ⟨Nat.zero_le _, Nat.zero_le _⟩
  cases h with
  | num nm op lo g1 g2 hlo =>
    have hop : (op = 1 ∨ op = 2) ∨ op = 3 ∨ op = 4 ∨ op = 5 ∨ op = 6 := by omega
    rcases hop with hop | rfl | rfl | rfl | rfl
    · exact key hop (by show (1 : Int) ≠ 3; decide)
    · show ((gre b 0 lo).map (preT b)).countP _ = if decide (v < lo) = true then 1 else 0
      rw [gre_count (by omega) hv _ 0 (Nat.le_refl _)]; simp
    · show ((gre b 0 (lo + 1)).map (preT b)).countP _ = if decide (v ≤ lo) = true then 1 else 0
      rw [gre_count (by omega) hv _ 0 (Nat.le_refl _)]; simp [Nat.lt_succ_iff]
    · show ((gre b (lo + 1) (2 ^ b)).map (preT b)).countP _ = if decide (lo < v) = true then 1 else 0
      rw [gre_count (Nat.le_refl _) hv _ (lo + 1) (Nat.le_refl _)]; simp [hv, Nat.succ_le_iff]
    · show ((gre b lo (2 ^ b)).map (preT b)).countP _ = if decide (lo ≤ v) = true then 1 else 0
      rw [gre_count (Nat.le_refl _) hv _ lo (Nat.le_refl _)]; simp [hv]
  | pre nm op lo ln g1 hlo hln hp => exact key g1 (by show (2 : Int) ≠ 3; decide)
  | rng nm op lo hi g1 hlo hhi =>
    rcases g1 with rfl | rfl
    · show ((gre b lo (hi + 1)).map (preT b)).countP _ = if (decide (lo ≤ v) && decide (v ≤ hi)) = true then 1 else 0
      rw [gre_count (by omega) hv _ lo (Nat.le_refl _)]; simp [Nat.lt_succ_iff]
    · show ((gre b 0 lo).map (preT b) ++ (gre b (hi + 1) (2 ^ b)).map (preT b)).countP _ = if (!(decide (lo ≤ v) && decide (v ≤ hi))) = true then 1 else 0
      rw [List.countP_append, gre_count (by omega) hv _ 0 (Nat.le_refl _), gre_count (Nat.le_refl _) hv _ (hi + 1) (Nat.le_refl _)]
      by_cases c1 : lo ≤ v
      · by_cases c2 : v ≤ hi
        · rw [if_neg (show ¬ (0 ≤ v ∧ v < lo) by omega), if_neg (show ¬ (hi + 1 ≤ v ∧ v < 2 ^ b) by omega), decide_eq_true c1, decide_eq_true c2]; rfl
        · rw [if_neg (show ¬ (0 ≤ v ∧ v < lo) by omega), if_pos (show hi + 1 ≤ v ∧ v < 2 ^ b by omega), decide_eq_true c1, decide_eq_false c2]; rfl
      · rw [if_pos (show 0 ≤ v ∧ v < lo by omega), if_neg (show ¬ (hi + 1 ≤ v ∧ v < 2 ^ b) by omega), decide_eq_false c1]; rfl
  | pat nm op pt g1 hs hd => exact key g1 (by show (4 : Int) ≠ 3; decide)
theorem has_wrap {p q b : Nat} {c H : List UInt8} (hl : c.length = b) (hH : H.length = p + b + q) : hasB (wrapC p q c) H = hasB c ((H.drop p).take b) := by
  have h1 : (wrapC p q c).length = H.length := by unfold wrapC; simp; omega
  have h2 : c.length = ((H.drop p).take b).length := by simp; omega
  rw [Bool.eq_iff_iff, hasB_iff h1, hasB_iff h2]
  have hw : ∀ i, (wrapC p q c)[i]? = if i < p then some 120 else if i < p + b then c[i - p]? else if i < p + b + q then some 120 else none := by
    intro i
    unfold wrapC
    by_cases c1 : i < p
    · rw [if_pos c1, List.append_assoc, List.getElem?_append_left (by simpa using c1)]; simp [c1]
    · rw [if_neg c1]
      by_cases c2 : i < p + b
      · rw [if_pos c2, List.getElem?_append_left (by simp; omega), List.getElem?_append_right (by simp; omega)]; simp
      · rw [if_neg c2, List.getElem?_append_right (by simp; omega)]
        by_cases c3 : i < p + b + q
        · rw [if_pos c3, List.getElem?_replicate, if_pos (by simp; omega)]
        · rw [if_neg c3, List.getElem?_replicate, if_neg (by simp; omega)]
  have hf : ∀ i, i < b → ((H.drop p).take b)[i]? = H[p + i]? := by
    intro i hi
    rw [List.getElem?_take_of_lt hi, List.getElem?_drop]
  constructor
  · intro h i hi
    have := h (p + i) (by rw [h1, hH]; omega)
    rw [hw, if_neg (by omega), if_pos (by omega), show p + i - p = i from by omega] at this
    rw [hf i (by omega)]
    exact this
  · intro h i hi
    rw [hw]
    by_cases c1 : i < p
    · rw [if_pos c1]; exact .inl rfl
    · rw [if_neg c1]
      by_cases c2 : i < p + b
      · rw [if_pos c2]
        have := h (i - p) (by omega)
        rw [hf _ (by omega), show p + (i - p) = i from by omega] at this
        exact this
      · rw [if_neg c2, if_pos (by rw [h1, hH] at hi; exact hi)]; exact .inl rfl
theorem cubes_count {T : Tst} {l : List Fld} (hW : Wide l) {k : Nat} (hk : k < l.length) (hb : bitsAt l k ≤ 32) (hi : idxF l T.nm = k) (h0 : cuE T l = 0) (h : Good (bitsAt l k) T) {H : List UInt8} (hH : H.length = posN l l.length) (hd : ∀ x ∈ H, x ∈ dBits) :
    (cuT T l).countP (fun c => hasB c H) = if hldB T (numB (fldB l H k)) (bitsAt l k) = true then 1 else 0 := by
  have hbk := bitsAt_get hW hk
  have hps := pos_succ hW hk
  have hpm := pos_mono hW (j := k + 1) (k := l.length) (by omega) (Nat.le_refl _)
  have hfl := fldB_len hW (H := H) (by omega) hk
  have hfd : ∀ x ∈ fldB l H k, x ∈ dBits := fun x hx => hd x (List.mem_of_mem_drop (List.mem_of_mem_take hx))
  have hF : hiB (numB (fldB l H k)) (bitsAt l k) (bitsAt l k) = fldB l H k := by
    have := hiB_numB hfd
    rw [hfl] at this
    exact this
  have hv : numB (fldB l H k) < 2 ^ bitsAt l k := numB_lt _ _ hfl
  rw [← val_count hbk.2.1 hb hv h, hF]
  unfold cuT
  rw [if_pos h0, hi, List.countP_map]
  apply List.countP_congr
  intro c hc
  have hcl := val_size h c hc
  show hasB (wrapC _ _ c) H = true ↔ _
  rw [has_wrap hcl (show H.length = posN l k + bitsAt l k + (posN l l.length - posN l (k + 1)) by omega)]
  rfl
end Go.Proofs.YtaleaicfllcpiaaDoor.Fl

namespace Go.Proofs.YtaleaicfllcpiaaDoor.Fl
open Go.RowKit Mm Law
set_option linter.unusedVariables false
theorem good_fit {T : Tst} {b : Nat} (h : Good b T) : fitE T b = 0 := by
  cases h with
  | num nm op lo h1 h2 hlo => exact fit_ok (by unfold badForm; simp; omega) (by unfold badUse; simp) (by unfold badVal; simp; omega) (by unfold badPre; simp) (by unfold badRng; simp) (by unfold badPat; simp)
  | pre nm op lo ln h1 hlo hln hp => exact fit_ok (by unfold badForm; simp; omega) (by unfold badUse; simp) (by unfold badVal; simp; omega) (by unfold badPre; simp [hp]) (by unfold badRng; simp) (by unfold badPat; simp)
  | rng nm op lo hi h1 hlo hhi => exact fit_ok (by unfold badForm; simp; omega) (by unfold badUse; simp) (by unfold badVal; simp; omega) (by unfold badPre; simp) (by unfold badRng; simp; omega) (by unfold badPat; simp)
  | pat nm op pt h1 hs hd => exact fit_ok (by unfold badForm; simp; omega) (by unfold badUse; simp) (by unfold badVal; simp) (by unfold badPre; simp) (by unfold badRng; simp) (fun h => h.2 ⟨hs, hd⟩)
theorem good_pt {T : Tst} {b : Nat} (h : Good b T) (hb : b ≤ 32) : T.pt.size ≤ maxLen := by
  unfold maxLen
  cases h with
  | num nm op lo h1 h2 hlo => show (⟨#[]⟩ : ByteArray).size ≤ _; decide
  | pre nm op lo ln h1 hlo hln hp => show (⟨#[]⟩ : ByteArray).size ≤ _; decide
  | rng nm op lo hi h1 hlo hhi => show (⟨#[]⟩ : ByteArray).size ≤ _; decide
  | pat nm op pt h1 hs hd => show pt.size ≤ _; omega
theorem cu_good {T : Tst} {l : List Fld} (hl : Lay l) {k : Nat} (hk : k < l.length) (hn : T.nm = l[k].1) (h : Good (bitsAt l k) T) : cuE T l = 0 ∧ idxF l T.nm = k := by
  have hi : idxF l T.nm = k := by rw [hn]; exact lay_idx hl hk
  exact ⟨cu_tst (by rw [lay_chk hl]) ((tst_yes hk hi (bitsAt_get hl.wide hk).1.symm).trans (good_fit h)), hi⟩
theorem cu_len {T : Tst} {l : List Fld} (hl : Lay l) {k : Nat} (hk : k < l.length) (hn : T.nm = l[k].1) (h : Good (bitsAt l k) T) : ∀ c ∈ cuT T l, c.length = posN l l.length := by
  obtain ⟨h0, hi⟩ := cu_good hl hk hn h
  intro c hc
  unfold cuT at hc
  rw [if_pos h0, hi] at hc
  obtain ⟨c0, hc0, rfl⟩ := List.mem_map.1 hc
  have := val_size h c0 hc0
  have hps := pos_succ hl.wide hk
  have hpm := pos_mono hl.wide (j := k + 1) (k := l.length) (by omega) (Nat.le_refl _)
  unfold wrapC
  simp
  omega
theorem cu_few {T : Tst} {l : List Fld} (hl : Lay l) {k : Nat} (hk : k < l.length) (hn : T.nm = l[k].1) (h : Good (bitsAt l k) T) : (cuT T l).length ≤ 8589934592 := by
  obtain ⟨h0, hi⟩ := cu_good hl hk hn h
  unfold cuT
  rw [if_pos h0, hi, List.length_map]
  exact val_len (bitsAt_get hl.wide hk).2.2 h
theorem count_step (P : List UInt8 → Bool) (L : List (List UInt8)) {j : Nat} (hj : j < L.length) : (L.take (j + 1)).countP P = (L.take j).countP P + if P L[j] = true then 1 else 0 := by
  rw [List.take_succ_eq_append_getElem hj, List.countP_append, List.countP_singleton]
set_option maxRecDepth 100000 in
set_option maxHeartbeats 16000000 in
theorem holds_walk (v : Value) (ws : List Int) (_ : ws.length * 8 ≤ 140737488355328) (kk : Int) (wk : (Lit.int .i64 kk).wf = true) (op : Int) (w1' : (Lit.int .i64 op).wf = true) (form : Int) (w2' : (Lit.int .i64 form).wf = true) (lo : Int) (w3' : (Lit.int .i64 lo).wf = true) (hi : Int) (w4' : (Lit.int .i64 hi).wf = true) (n : Int) (w5' : (Lit.int .i64 n).wf = true)
    (s : ByteArray) (hsm : s.size ≤ maxLen) (t : ByteArray) (htm : t.size ≤ maxLen) (w : World) (hX : SeesS w v 1 ws.length (inC ws) ∧ ∀ z ∈ ws, (Lit.int .i64 z).wf = true) (hu : Used w) :
    Calls Tryd.prog 7 #[v, .int .i64 kk, .int .i64 op, .int .i64 form, .int .i64 lo, .int .i64 hi, .int .i64 n, .string s, .string t] w fun e w' => e = .returned (.bool true) ∧ Below w.heap.size w w' := by
  have HLA := Lib.hid (layout_any ws v w hX.1 hX.2)
  have hlay := lay_L ws
  have hform := lay_form hlay
  generalize layL ws = l at *
  have HLY := Lib.hid hlay
  have hl0 := hlay.1
  have hl8 := hlay.2.1
  have HO := Lib.hid (fun (w' : World) (B : Nat) (u : Value) (h : w'.ownsRow B 27 2 u l.length (fcells l)) => own_sees h hform)
  have HNE := Lib.hid (fun w => near_det kk (l.length : Int) wk (by omega) (by omega) w)
  have hnb := nearI_bd (n := kk) (m := (l.length : Int)) (by omega)
  obtain ⟨k, hkz⟩ := Int.eq_ofNat_of_zero_le hnb.1
  have hk : k < l.length := by omega
  rw [hkz] at HNE
  have hbk := bitsAt_get hlay.wide hk
  have HT := Lib.hid (fun w' v' (hv : SeesF w' v' l) => test_any l v' k (bitsAt l k) hk hbk.2.2 hbk.1.symm op form lo hi n w1' w2' w3' w4' w5' s hsm w' hv)
  have HHD := Lib.hid (fun w' v' (hv : SeesF w' v' l) => header_any l hlay.wide (by omega) v' t htm w' hv)
  have HK := Lib.hid hk
  have HB := Lib.hid hbk
  have HUS := Lib.hid hu
  have x0 : (0 : Int) ≤ (k : Int) := by omega
  have x1 : (k : Int) < (l.length : Int) := by omega
  clear hX hform hlay hnb hkz hbk hu
  go_enter Tryd.func7, Tryd.ntmps7
  go_wp2_with fail
  refine HLA.out.mono ?_
  rintro e w1 ⟨f, rfl, hof, hb1⟩
  have HSF := Lib.hid (HO.out _ _ _ hof)
  have HB1 := Lib.hid hb1
  obtain ⟨a0, cap0, rfl, hcap, hcm, hx, _⟩ := HO.out _ _ _ hof
  obtain ⟨g, off, rfl, hg, hq⟩ : ∃ g off, a0 = some ⟨g, off, none⟩ ∧ g < w1.heap.size ∧ ∀ j f, l[j]? = some f → w1.cell? ⟨g, off + j * 2, none⟩ = some (.string f.1) ∧ w1.cell? ⟨g, off + (j * 2 + 1), none⟩ = some (.int .i64 f.2) := by
    rcases hx with h0 | h0
    · rw [h0] at hl0; simp at hl0
    · exact h0
  have q1 := (hq k (l[k]'hk) (List.getElem?_eq_getElem hk)).2
  rw [← HB.out.1, ← Nat.add_assoc] at q1
  have HQ := Lib.hid (fun w' (h : Below w1.heap.size w1 w') => (h.cell (p := ⟨g, off + k * 2 + 1, none⟩) hg).trans q1)
  unfold maxLen at hcm
  clear HLA hof hb1 hx hq q1
  go_wp2_with fail
  refine (HNE.out _).mono ?_
  rintro e wn ⟨rfl, rfl⟩
  go_wp2_with fail
  refine (HT.out _ _ HSF.out).mono ?_
  rintro e w2 ⟨T, rfl, hgood, hnm, hb2⟩
  have HGD := Lib.hid hgood
  have HNM := Lib.hid hnm
  have HPT := Lib.hid (good_pt hgood HB.out.2.2)
  have HCU := Lib.hid (cu_good HLY.out HK.out hnm hgood)
  have HCL := Lib.hid (cu_len HLY.out HK.out hnm hgood)
  have hfew := cu_few HLY.out HK.out hnm hgood
  have HCC := Lib.hid (fun (H : List UInt8) hH hd => cubes_count HLY.out.wide HK.out HB.out.2.2 HCU.out.2 HCU.out.1 hgood (H := H) hH hd)
  have hca := fun w' v' (hv : SeesF w' v' l) (hu : Used w') => cubes_any l v' T HPT.out w' hv hu
  unfold CuAns at hca
  simp only [HCU.out.1] at hca
  generalize cuT T l = L at *
  have hho := fun x (hx : x < 4294967296) w' => holds_any T (bitsAt l k) x HB.out.2.2 hx hgood w'
  have HHL := Lib.hid (hdT_len t.data.toList (posN l l.length))
  have HHB := Lib.hid (hdT_bits t.data.toList (posN l l.length))
  have hps := sum_bd HLY.out.wide l.length (Nat.le_refl _)
  rw [pos_int HLY.out.wide (Nat.le_refl _)] at hps
  generalize hdT t.data.toList (posN l l.length) = H at *
  have HCNT := Lib.hid (HCC.out H HHL.out HHB.out)
  have hnum : numB (fldB l H k) < 4294967296 := by
    have hfl := fldB_len HLY.out.wide (H := H) (by rw [HHL.out]; exact Nat.le_refl _) HK.out
    have h := numB_bd (l := fldB l H k) (by rw [hfl]; exact HB.out.2.2) (fldB l H k).length
    rwa [List.take_length] at h
  have hho2 := fun w' => hho _ hnum w'
  have HVL := Lib.hid (fun w' v' (hv : SeesF w' v' l) => value_any l HLY.out.wide (by omega) v' k HK.out (str H) (by rw [str_list]; exact HHL.out) (by rw [str_list]; exact HHB.out) w' hv)
  rw [str_list] at HVL
  have HHA := Lib.hid (fun (c : List UInt8) (hc : c.length = posN l l.length) w' => has_any (str c) (str H) (by rw [str_size, str_size, hc, HHL.out]) (by rw [str_size, HHL.out]; omega) w')
  simp only [str_list] at HHA
  generalize hB : hldB T (numB (fldB l H k)) (bitsAt l k) = R at *
  generalize numB (fldB l H k) = X at *
  have HCA := Lib.hid hca
  have HHO := Lib.hid hho2
  have hbb := HB.out.2.2
  generalize bitsAt l k = b at *
  clear hgood hnm hca hho hho2 hB HCU HGD HNM HCC HHL HHB
  obtain ⟨nm, op2, fo, lo2, hi2, ln, pt⟩ := T
  unfold Tst.val Tst.cs at HCA HHO ⊢
  simp only at HCA HHO
  have hB2 : EiS w2 #[.string nm, .int .i64 op2, .int .i64 fo, .int .i64 lo2, .int .i64 hi2, .int .i64 ln, .string pt] (w2.alloc (.cells #[.string nm, .int .i64 op2, .int .i64 fo, .int .i64 lo2, .int .i64 hi2, .int .i64 ln, .string pt] 52)) := EiS.new _ _
  have HE2 := Lib.hid hB2
  have HX2 := Lib.hid (bal hb2 (.cells #[.string nm, .int .i64 op2, .int .i64 fo, .int .i64 lo2, .int .i64 hi2, .int .i64 ln, .string pt] 52))
  have HW2 := Lib.hid (bnx HB1.out hb2)
  clear hB2 hb2
  go_wp2_with fail
  refine (HHD.out _ _ (HSF.out.below HX2.out)).mono ?_
  rintro e w3 ⟨rfl, hb3⟩
  have HE3 := Lib.hid (HE2.out.go hb3)
  have HX3 := Lib.hid (bnx HX2.out hb3)
  have HW3 := Lib.hid (bnx HB1.out HX3.out)
  have e0 := HE3.out.1.cell 0
  have e1 := HE3.out.1.cell 1
  have e2 := HE3.out.1.cell 2
  have e3 := HE3.out.1.cell 3
  have e4 := HE3.out.1.cell 4
  have e5 := HE3.out.1.cell 5
  have e6 := HE3.out.1.cell 6
  clear hb3 HE2 HX2
  go_wp2_with fail
  refine (HCA.out _ _ (HSF.out.below HX3.out) (HUS.out.below HW3.out)).mono ?_
  rintro e w4 ⟨v4, rfl, ho4, hb4⟩
  have HE4 := Lib.hid (HE3.out.go hb4)
  have HX4 := Lib.hid (bnx HX3.out hb4)
  have HW4 := Lib.hid (bnx HB1.out HX4.out)
  have HS4 := Lib.hid (SeesS.of_own ho4)
  obtain ⟨a4, cap4, rfl⟩ := own_len ho4
  clear hb4 ho4 HE3 HX3 HW3 e0 e1 e2 e3 e4 e5 e6 HCA HHD HT
  go_wp2_with fail
  refine (num_any 0 _ (by decide)).mono ?_
  rintro e w' ⟨rfl, rfl⟩
  go_wp2_with fail
  go_loopw [24, 25] (fun c i wr => ∃ j : Nat, j ≤ L.length ∧ i = .int .i64 (j : Int) ∧ c = .int .i64 (((L.take j).countP (fun x => hasB x H) : Nat) : Int) ∧ Below w4.heap.size w4 wr) (fun _ i _ => L.length - (intOf i).toNat)
  case atStart => exact ⟨0, Nat.zero_le _, rfl, rfl, Below.refl _ _⟩
  case round =>
    obtain ⟨j, hj, rfl, rfl, hbel⟩ := hrel
    have HBE := Lib.hid hbel
    by_cases hlt : j < L.length
    · obtain ⟨_, g4, o4, rfl, hg4, hq4⟩ := HS4.out.at (by omega)
      have q := hq4 _ _ (sC_at L j L[j] (by simp [hlt]))
      rw [← hbel.cell (p := ⟨g4, o4 + j, none⟩) hg4] at q
      have HCT := Lib.hid (count_step (fun x => hasB x H) L hlt)
      have HH := Lib.hid (fun w' => HHA.out L[j] (HCL.out L[j] (List.getElem_mem hlt)) w')
      have hcle := List.countP_le_length (p := fun x => hasB x H) (l := L.take j)
      rw [List.length_take] at hcle
      generalize L[j] = c at *
      generalize (L.take j).countP (fun x => hasB x H) = m at *
      have y0 : (0 : Int) ≤ (j : Int) := by omega
      have y1 : (j : Int) < (L.length : Int) := by omega
      clear hq4 hbel
      go_wp2_with fail
      refine (HH.out _).mono ?_
      rintro e w5 ⟨rfl, hb5⟩
      have HB5 := Lib.hid (bnx HBE.out hb5)
      clear hb5
      by_cases hh : hasB c H = true
      · have HC2 := Lib.hid (show (L.take (j + 1)).countP (fun x => hasB x H) = m + 1 from by rw [HCT.out, if_pos hh])
        rw [hh]
        clear hh
        go_wp2_with fail
        go_roundw
        case rel => exact ⟨j + 1, by omega, by go_num, by rw [HC2.out]; go_num, HB5.out⟩
        case measure => simp [intOf]; omega
      · have hh2 : hasB c H = false := by simpa using hh
        have HC2 := Lib.hid (show (L.take (j + 1)).countP (fun x => hasB x H) = m from by rw [HCT.out, if_neg hh]; rfl)
        rw [hh2]
        clear hh hh2
        go_wp2_with fail
        go_roundw
        case rel => exact ⟨j + 1, by omega, by go_num, by rw [HC2.out], HB5.out⟩
        case measure => simp [intOf]; omega
    · have hjl : j = L.length := by omega
      have hcn : (L.take j).countP (fun x => hasB x H) = if R = true then 1 else 0 := by rw [hjl, List.take_length]; exact HCNT.out
      obtain ⟨m, hm⟩ : ∃ m, (L.take j).countP (fun x => hasB x H) = m := ⟨_, rfl⟩
      rw [hm] at hcn ⊢
      have HCN := Lib.hid hcn
      have HEW := Lib.hid (HE4.out.go hbel)
      have HXW := Lib.hid (bnx HX4.out hbel)
      have HWW := Lib.hid (bnx HB1.out HXW.out)
      have mixed : Tryd.prog.follows Departure.mixedOrders = true := by kernel_rfl
      clear hjl hcn hm hbel HBE HCNT
      go_wp2_with fail
      refine still_tail 10 mixed (by kernel_rfl) fun W hW => ?_
      simp only [List.take_succ_cons, List.take_zero, List.drop_succ_cons, List.drop_zero]
      have HEW2 : EiS w2 #[.string nm, .int .i64 op2, .int .i64 fo, .int .i64 lo2, .int .i64 hi2, .int .i64 ln, .string pt] W := by rw [hW.out]; exact ⟨HEW.out.1.drew, HEW.out.2.drew⟩
      have HXW2 : Below wn.heap.size wn W := by rw [hW.out]; exact HXW.out.drew
      have e0 := HEW2.1.cell 0
      have e1 := HEW2.1.cell 1
      have e2 := HEW2.1.cell 2
      have e3 := HEW2.1.cell 3
      have e4 := HEW2.1.cell 4
      have e5 := HEW2.1.cell 5
      have e6 := HEW2.1.cell 6
      have q1 := HQ.out _ HXW2
      have HVW := Lib.hid (HVL.out W _ (HSF.out.below HXW2))
      have HWZ := Lib.hid (bnx HB1.out HXW2)
      clear HEW2 HXW2
      repeat still_step
      still_call HVW.out
      repeat still_step
      refine wpStill_nil ?_
      clear hW
      go_wp2_with fail
      refine (HHO.out _).mono ?_
      rintro e w5 ⟨rfl, hb5⟩
      have HG5 := Lib.hid (bnx HWZ.out hb5)
      clear hb5 e0 e1 e2 e3 e4 e5 e6 q1
      cases R with
      | true =>
        obtain rfl : m = 1 := HCN.out
        go_wp2_with fail
        refine (known_yes _).mono ?_
        rintro e w7 ⟨rfl, hb7⟩
        go_wp2_with fail
        go_ret
        exact ⟨rfl, bnx HG5.out hb7⟩
      | false =>
        obtain rfl : m = 0 := HCN.out
        go_wp2_with fail
        refine (known_yes _).mono ?_
        rintro e w7 ⟨rfl, hb7⟩
        go_wp2_with fail
        go_ret
        exact ⟨rfl, bnx HG5.out hb7⟩
set_option maxRecDepth 100000 in
theorem fieldHolds_laid {w : World} (h : laidMetH Tryd.prog Rows.fieldHoldsRow.laid w) : Used w := by
  rw [MakeChecks.laidMetH_plain _ _ _ (by kernel_rfl)] at h
  exact used_of h.tail
end Go.Proofs.YtaleaicfllcpiaaDoor.Fl
