/- Merged for FieldOwn -/
import Derived.Test.YtlakglphjhoodaaDoorFG
import Derived.Test.YtlakglphjhoodaaDoorFJ
import Derived.BigQuiet
import Derived.Deep.QuietTactic
namespace Go.Proofs.YtlakglphjhoodaaDoor.Fl
open Go.RowKit Mm Law
set_option linter.unusedSimpArgs false
set_option linter.unusedSectionVars false
set_option linter.unusedVariables false
def patB (S : List UInt8) (i : Nat) : UInt8 := if i < S.length then (if (S.getD i 0).toNat % 3 = 0 then 48 else if (S.getD i 0).toNat % 3 = 1 then 49 else 120) else 120
def patT (S : List UInt8) (n : Nat) : List UInt8 := (List.range n).map (patB S)
theorem patT_len (S : List UInt8) (n : Nat) : (patT S n).length = n := by simp [patT]
theorem patT_succ (S : List UInt8) (n : Nat) : patT S (n + 1) = patT S n ++ [patB S n] := by unfold patT; rw [List.range_succ, List.map_append]; rfl
theorem patT_form (S : List UInt8) (n : Nat) : ∀ x ∈ patT S n, x ∈ dShow := by
  intro x hx
  unfold patT at hx
  obtain ⟨i, _, rfl⟩ := List.mem_map.1 hx
  unfold patB dShow
  repeat' split
  all_goals simp
set_option maxRecDepth 100000 in
set_option maxHeartbeats 8000000 in
theorem pattern_any (t : ByteArray) (hts : t.size ≤ maxLen) (b : Nat) (hb : b ≤ 32) (w : World) :
    Calls Tryd.prog 33 #[.string t, .int .i64 (b : Int)] w fun e w' => e = .returned (.string (str (patT t.data.toList b))) ∧ Below w.heap.size w w' := by
  have HBG := Lib.hid (bget t)
  have HTL := Lib.hid (len_s t)
  unfold maxLen at hts
  obtain ⟨S, hS⟩ : ∃ S, t.data.toList = S := ⟨_, rfl⟩
  rw [hS] at HBG HTL ⊢
  clear hS
  go_enter Tryd.func33, Tryd.ntmps33
  go_wp2_with fail
  go_loopw [5, 6] (fun m i wr => ∃ k : Nat, k ≤ b ∧ i = .int .i64 (k : Int) ∧ wr.ownsRow w.heap.size 5 1 m k ((patT S k).map bv) ∧ Below w.heap.size w wr) (fun _ i _ => b - (intOf i).toNat)
  case atStart => exact ⟨0, Nat.zero_le _, rfl, own_nilB _ _, Below.refl _ _⟩
  case round =>
    obtain ⟨k, hk, rfl, hown, hbel⟩ := hrel
    have HO := Lib.hid hown
    clear hown
    by_cases hlt : k < b
    · have HS := Lib.hid (patT_succ S k)
      have x0 : (k : Int) < (b : Int) := by omega
      have x1 : (0 : Int) ≤ (k : Int) := by omega
      by_cases hin : k < t.size
      · have hg := HBG.out k hin
        have hgd : S.getD k 0 = t[k] := by rw [List.getD_eq_getElem?_getD, hg]; rfl
        have y1 : (k : Int) < (t.size : Int) := by omega
        have hm : t[k].toNat % 3 = 0 ∨ t[k].toNat % 3 = 1 ∨ t[k].toNat % 3 = 2 := by omega
        rcases hm with hm | hm | hm
        · have HB := Lib.hid (show patB S k = 48 from by unfold patB; rw [if_pos (by have := HTL.out; omega), hgd, if_pos hm])
          have hz : (t[k].toNat : Int) % 3 = 0 := by omega
          clear hg hgd hm
          go_wp2_with (at_builtin; refine app_byte 48 HO.out rfl rfl rfl rfl (by omega) hbel.size ?_; intro v1 w6 hown6 hb6)
          go_roundw
          case rel => exact ⟨k + 1, by omega, by go_num, by rw [HS.out, HB.out]; exact hown6, hbel.trans hb6⟩
          case measure => simp [intOf]; omega
        · have HB := Lib.hid (show patB S k = 49 from by unfold patB; rw [if_pos (by have := HTL.out; omega), hgd, if_neg (by omega), if_pos hm])
          have hz : (t[k].toNat : Int) % 3 = 1 := by omega
          clear hg hgd hm
          go_wp2_with (at_builtin; refine app_byte 49 HO.out rfl rfl rfl rfl (by omega) hbel.size ?_; intro v1 w6 hown6 hb6)
          go_roundw
          case rel => exact ⟨k + 1, by omega, by go_num, by rw [HS.out, HB.out]; exact hown6, hbel.trans hb6⟩
          case measure => simp [intOf]; omega
        · have HB := Lib.hid (show patB S k = 120 from by unfold patB; rw [if_pos (by have := HTL.out; omega), hgd, if_neg (by omega), if_neg (by omega)])
          have hz : (t[k].toNat : Int) % 3 = 2 := by omega
          clear hg hgd hm
          go_wp2_with (at_builtin; refine app_byte 120 HO.out rfl rfl rfl rfl (by omega) hbel.size ?_; intro v1 w6 hown6 hb6)
          go_roundw
          case rel => exact ⟨k + 1, by omega, by go_num, by rw [HS.out, HB.out]; exact hown6, hbel.trans hb6⟩
          case measure => simp [intOf]; omega
      · have y1 : ¬ (k : Int) < (t.size : Int) := by omega
        have HB := Lib.hid (show patB S k = 120 from by unfold patB; rw [if_neg (by have := HTL.out; omega)])
        go_wp2_with (at_builtin; refine app_byte 120 HO.out rfl rfl rfl rfl (by omega) hbel.size ?_; intro v1 w6 hown6 hb6)
        go_roundw
        case rel => exact ⟨k + 1, by omega, by go_num, by rw [HS.out, HB.out]; exact hown6, hbel.trans hb6⟩
        case measure => simp [intOf]; omega
    · have hkb : k = b := by omega
      have hst := str_own HO.out
      have HL := Lib.hid (show patT S k = patT S b from by rw [hkb])
      clear hkb
      go_wp2_with fail
      go_ret
      exact ⟨by rw [HL.out]; rfl, hbel⟩
end Go.Proofs.YtlakglphjhoodaaDoor.Fl

namespace Go.Proofs.YtlakglphjhoodaaDoor.Fl
open Go.RowKit Mm Law
set_option linter.unusedVariables false
def isB (T : Tst) (v b : Nat) : Bool :=
  if T.fo = 1 then decide (v = T.lo.toNat) else if T.fo = 2 then decide (v / 2 ^ (b - T.ln.toNat) = T.lo.toNat / 2 ^ (b - T.ln.toNat)) else if T.fo = 3 then decide (T.lo.toNat ≤ v) && decide (v ≤ T.hi.toNat) else hasB T.pt.data.toList (hiB v b b)
def hldB (T : Tst) (v b : Nat) : Bool :=
  if T.op = 1 then isB T v b else if T.op = 2 then !isB T v b else if T.op = 3 then decide (v < T.lo.toNat) else if T.op = 4 then decide (v ≤ T.lo.toNat) else if T.op = 5 then decide (T.lo.toNat < v) else decide (T.lo.toNat ≤ v)
theorem beq_nat (a c : Nat) : ((a : Int) == (c : Int)) = decide (a = c) := by
  by_cases h : a = c
  · subst h; simp
  · rw [decide_eq_false h, beq_eq_false_iff_ne]; omega
end Go.Proofs.YtlakglphjhoodaaDoor.Fl

namespace Go.Proofs.YtlakglphjhoodaaDoor.Fl
open Go.RowKit Mm Law
set_option linter.unusedVariables false
theorem bytH_at {c : List UInt8} {i : Nat} (h : i < c.length) : Tn.byt c i = c[i] := by unfold Tn.byt; simp [h]
theorem bytH_x {n i : Nat} (h : i < n) : Tn.byt (List.replicate n 120) i = 120 := by rw [bytH_at (by simpa using h)]; simp
theorem gre_count {b e v : Nat} (he : e ≤ 2 ^ b) (hv : v < 2 ^ b) : ∀ n x, e - x ≤ n → ((gre b x e).map (preT b)).countP (fun c => hasB c (hiB v b b)) = if x ≤ v ∧ v < e then 1 else 0 := by
  intro n
  induction n with
  | zero => intro x hx; rw [gre_no (by omega), if_neg (by omega)]; rfl
  | succ n ih =>
    intro x hx
    by_cases h : x < e
    · have hs := fr_spec (b := b) (x := x) (e := e) b 0 (by omega) (by omega) (okB_zero h)
      have hp : 0 < 2 ^ fr b x e 0 := Nat.pow_pos (by omega)
      obtain ⟨⟨h1, h2⟩, _, h3, _⟩ := hs
      have ih2 := ih (x + 2 ^ fr b x e 0) (by omega)
      have hh := has_pre (b := b) (v := v) (p := (x, fr b x e 0)) (by show x < 2 ^ b; omega) h3 hv h1
      rw [gre_yes h, List.map_cons, List.countP_cons, ih2, hh]
      simp only [decide_eq_true_eq]
      generalize 2 ^ fr b x e 0 = m at *
      repeat' split
      all_goals omega
    · rw [gre_no (by omega), if_neg (by omega)]; rfl
theorem div_pre {lo v m : Nat} (hm : lo % 2 ^ m = 0) : (lo ≤ v ∧ v < lo + 2 ^ m) ↔ v / 2 ^ m = lo / 2 ^ m := by
  have hp : 0 < 2 ^ m := Nat.pow_pos (by omega)
  generalize 2 ^ m = M at *
  have e1 := Nat.div_add_mod lo M
  have e2 := Nat.div_add_mod v M
  have e3 := Nat.mod_lt v hp
  rw [hm, Nat.add_zero] at e1
  constructor
  · rintro ⟨h1, h2⟩
    apply Nat.le_antisymm
    · apply Nat.le_of_lt_succ
      rw [Nat.div_lt_iff_lt_mul hp, Nat.succ_mul, Nat.mul_comm, e1]
      exact h2
    · exact Nat.div_le_div_right h1
  · intro h
    rw [h] at e2
    omega
theorem one_has {T : Tst} {b v : Nat} (hb : b ≤ 32) (hv : v < 2 ^ b) (h : Good b T) (h3 : T.fo ≠ 3) : hasB (oneT T b) (hiB v b b) = isB T v b := by
  have htb := top_lt b hb
  cases h with
  | num nm op lo h1 h2 hlo =>
    show hasB (preT b (lo, 0)) (hiB v b b) = decide (v = lo)
    rw [has_pre (b := b) (v := v) (p := (lo, 0)) (by show lo < 2 ^ b; omega) (Nat.zero_le _) hv (by simp [Nat.mod_one])]
    apply decide_eq_decide.2
    show (lo ≤ v ∧ v < lo + 2 ^ 0) ↔ v = lo
    rw [Nat.pow_zero]
    omega
  | pre nm op lo ln h1 hlo hln hp =>
    show hasB (preT b (lo, b - ln)) (hiB v b b) = decide (v / 2 ^ (b - ln) = lo / 2 ^ (b - ln))
    rw [has_pre (b := b) (v := v) (p := (lo, b - ln)) (by show lo < 2 ^ b; omega) (Nat.sub_le _ _) hv hp]
    exact decide_eq_decide.2 (div_pre hp)
  | rng nm op lo hi h1 hlo hhi => exact absurd rfl h3
  | pat nm op pt h1 hs hd => rfl
theorem holds_has {c h : List UInt8} (hl : c.length = h.length) : Tn.holdsT c h ↔ hasB c h = true := by
  rw [hasB_iff hl]
  unfold Tn.holdsT
  refine ⟨fun H i hi => ?_, fun H i hi => ?_⟩
  · have := H i hi
    rw [bytH_at hi, bytH_at (show i < h.length by omega)] at this
    rw [List.getElem?_eq_getElem hi, List.getElem?_eq_getElem (show i < h.length by omega)]
    exact this.imp (congrArg some) (congrArg some)
  · have := H i hi
    rw [List.getElem?_eq_getElem hi, List.getElem?_eq_getElem (show i < h.length by omega)] at this
    rw [bytH_at hi, bytH_at (show i < h.length by omega)]
    exact this.imp Option.some.inj Option.some.inj
theorem hiB_head (v b : Nat) : Tn.isHead (hiB v b b) b := ⟨hiB_len v b b, List.all_eq_true.2 fun x hx => by
  unfold hiB at hx
  obtain ⟨i, _, rfl⟩ := List.mem_map.1 hx
  unfold bitB Tn.digB
  split <;> rfl⟩
theorem oth_count {c : List UInt8} {b v : Nat} (hl : c.length = b) (h1 : 1 ≤ b) (hb : b ≤ 32) (hc : ∀ x ∈ c, x ∈ dShow) : (othT c).countP (fun t => hasB t (hiB v b b)) = if hasB c (hiB v b b) = true then 0 else 1 := by
  have hcc : Tn.isCube c := ⟨by omega, (c_cub (by omega) hc).ok⟩
  have hca : Tn.isCube (List.replicate c.length 120) := ⟨by simp; omega, List.all_eq_true.2 fun x hx => by rw [List.eq_of_mem_replicate hx]; rfl⟩
  have hh := hiB_head v b
  have hs : Tn.splitT (List.replicate c.length 120) c = othT c := by
    have h := oth_split hl h1 hb
    have ha : Tn.allT (b : Int) = List.replicate c.length 120 := by unfold Tn.allT; rw [if_pos (by omega), hl]; rfl
    rw [ha] at h
    exact h
  have hp := Tn.parts_count hca hcc (by simp) (by rw [List.length_replicate, hl]; exact hh)
  rw [hs] at hp
  have hall : Tn.holdsT (List.replicate c.length 120) (hiB v b b) := fun i hi => .inl (bytH_x (by simpa using hi))
  have hcong : (othT c).countP (fun t => hasB t (hiB v b b)) = (othT c).countP (fun t => decide (Tn.hasOk t (hiB v b b))) := by
    apply List.countP_congr
    intro t ht
    have htl := oth_size c t ht
    rw [decide_eq_true_iff, Tn.has_iff (n := b) (by omega) (by omega) hh, holds_has (by rw [htl, hiB_len]; exact hl)]
  rw [hcong, hp]
  have hiff := holds_has (c := c) (h := hiB v b b) (by rw [hiB_len]; exact hl)
  by_cases h : hasB c (hiB v b b) = true
  · rw [if_pos h, if_neg (fun hx => hx.2 (hiff.2 h))]
  · rw [if_neg h, if_pos ⟨hall, fun hx => h (hiff.1 hx)⟩]
theorem val_count {T : Tst} {b v : Nat} (h1 : 1 ≤ b) (hb : b ≤ 32) (hv : v < 2 ^ b) (h : Good b T) : (valT T b).countP (fun c => hasB c (hiB v b b)) = if hldB T v b = true then 1 else 0 := by
  have htb := top_lt b hb
  have key : (T.op = 1 ∨ T.op = 2) → T.fo ≠ 3 → (valT T b).countP (fun c => hasB c (hiB v b b)) = if hldB T v b = true then 1 else 0 := by
    intro hop h3
    have e1 := one_has hb hv h h3
    have hf := one_form h h3
    unfold valT hldB
    rw [if_neg (by omega), if_neg (by omega), if_neg (by omega), if_neg (by omega), if_neg h3]
    rcases hop with ho | ho
    · rw [if_pos ho, if_pos ho, List.countP_singleton, e1]
    · have n1 : ¬ T.op = 1 := by omega
      rw [if_neg n1, if_neg n1, if_pos ho, oth_count hf.1 h1 hb hf.2, e1]
      cases isB T v b <;> rfl
  have hlo : T.lo.toNat ≤ topN b ∧ T.hi.toNat ≤ topN b := by
    cases h with
    | num nm op lo h1 h2 hlo => exact ⟨hlo, Nat.zero_le _⟩
    | pre nm op lo ln h1 hlo hln hp => exact ⟨hlo, Nat.zero_le _⟩
    | rng nm op lo hi h1 hlo hhi => exact ⟨by show lo ≤ _; omega, hhi⟩
    | pat nm op pt h1 hs hd => exact ⟨Nat.zero_le _, Nat.zero_le _⟩
  cases h with
  | num nm op lo g1 g2 hlo =>
    have hop : (op = 1 ∨ op = 2) ∨ op = 3 ∨ op = 4 ∨ op = 5 ∨ op = 6 := by omega
    rcases hop with hop | rfl | rfl | rfl | rfl
    · exact key hop (by show (1 : Int) ≠ 3; decide)
    · show ((gre b 0 lo).map (preT b)).countP _ = if decide (v < lo) = true then 1 else 0
      rw [gre_count (by omega) hv _ 0 (Nat.le_refl _)]; simp
    · show ((gre b 0 (lo + 1)).map (preT b)).countP _ = if decide (v ≤ lo) = true then 1 else 0
      rw [gre_count (by omega) hv _ 0 (Nat.le_refl _)]; simp [Nat.lt_succ_iff]
    · show ((gre b (lo + 1) (2 ^ b)).map (preT b)).countP _ = if decide (lo < v) = true then 1 else 0
      rw [gre_count (Nat.le_refl _) hv _ (lo + 1) (Nat.le_refl _)]; simp [hv, Nat.succ_le_iff]
    · show ((gre b lo (2 ^ b)).map (preT b)).countP _ = if decide (lo ≤ v) = true then 1 else 0
      rw [gre_count (Nat.le_refl _) hv _ lo (Nat.le_refl _)]; simp [hv]
  | pre nm op lo ln g1 hlo hln hp => exact key g1 (by show (2 : Int) ≠ 3; decide)
  | rng nm op lo hi g1 hlo hhi =>
    rcases g1 with rfl | rfl
    · show ((gre b lo (hi + 1)).map (preT b)).countP _ = if (decide (lo ≤ v) && decide (v ≤ hi)) = true then 1 else 0
      rw [gre_count (by omega) hv _ lo (Nat.le_refl _)]; simp [Nat.lt_succ_iff]
    · show ((gre b 0 lo).map (preT b) ++ (gre b (hi + 1) (2 ^ b)).map (preT b)).countP _ = if (!(decide (lo ≤ v) && decide (v ≤ hi))) = true then 1 else 0
      rw [List.countP_append, gre_count (by omega) hv _ 0 (Nat.le_refl _), gre_count (Nat.le_refl _) hv _ (hi + 1) (Nat.le_refl _)]
      by_cases c1 : lo ≤ v
      · by_cases c2 : v ≤ hi
        · rw [if_neg (show ¬ (0 ≤ v ∧ v < lo) by omega), if_neg (show ¬ (hi + 1 ≤ v ∧ v < 2 ^ b) by omega), decide_eq_true c1, decide_eq_true c2]; rfl
        · rw [if_neg (show ¬ (0 ≤ v ∧ v < lo) by omega), if_pos (show hi + 1 ≤ v ∧ v < 2 ^ b by omega), decide_eq_true c1, decide_eq_false c2]; rfl
      · rw [if_pos (show 0 ≤ v ∧ v < lo by omega), if_neg (show ¬ (hi + 1 ≤ v ∧ v < 2 ^ b) by omega), decide_eq_false c1]; rfl
  | pat nm op pt g1 hs hd => exact key g1 (by show (4 : Int) ≠ 3; decide)
theorem has_wrap {p q b : Nat} {c H : List UInt8} (hl : c.length = b) (hH : H.length = p + b + q) : hasB (wrapC p q c) H = hasB c ((H.drop p).take b) := by
  have h1 : (wrapC p q c).length = H.length := by unfold wrapC; simp; omega
  have h2 : c.length = ((H.drop p).take b).length := by simp; omega
  rw [Bool.eq_iff_iff, hasB_iff h1, hasB_iff h2]
  have hw : ∀ i, (wrapC p q c)[i]? = if i < p then some 120 else if i < p + b then c[i - p]? else if i < p + b + q then some 120 else none := by
    intro i
    unfold wrapC
    by_cases c1 : i < p
    · rw [if_pos c1, List.append_assoc, List.getElem?_append_left (by simpa using c1)]; simp [c1]
    · rw [if_neg c1]
      by_cases c2 : i < p + b
      · rw [if_pos c2, List.getElem?_append_left (by simp; omega), List.getElem?_append_right (by simp; omega)]; simp
      · rw [if_neg c2, List.getElem?_append_right (by simp; omega)]
        by_cases c3 : i < p + b + q
        · rw [if_pos c3, List.getElem?_replicate, if_pos (by simp; omega)]
        · rw [if_neg c3, List.getElem?_replicate, if_neg (by simp; omega)]
  have hf : ∀ i, i < b → ((H.drop p).take b)[i]? = H[p + i]? := by
    intro i hi
    rw [List.getElem?_take_of_lt hi, List.getElem?_drop]
  constructor
  · intro h i hi
    have := h (p + i) (by rw [h1, hH]; omega)
    rw [hw, if_neg (by omega), if_pos (by omega), show p + i - p = i from by omega] at this
    rw [hf i (by omega)]
    exact this
  · intro h i hi
    rw [hw]
    by_cases c1 : i < p
    · rw [if_pos c1]; exact .inl rfl
    · rw [if_neg c1]
      by_cases c2 : i < p + b
      · rw [if_pos c2]
        have := h (i - p) (by omega)
        rw [hf _ (by omega), show p + (i - p) = i from by omega] at this
        exact this
      · rw [if_neg c2, if_pos (by rw [h1, hH] at hi; exact hi)]; exact .inl rfl
theorem cubes_count {T : Tst} {l : List Fld} (hW : Wide l) {k : Nat} (hk : k < l.length) (hb : bitsAt l k ≤ 32) (hi : idxF l T.nm = k) (h0 : cuE T l = 0) (h : Good (bitsAt l k) T) {H : List UInt8} (hH : H.length = posN l l.length) (hd : ∀ x ∈ H, x ∈ dBits) :
    (cuT T l).countP (fun c => hasB c H) = if hldB T (numB (fldB l H k)) (bitsAt l k) = true then 1 else 0 := by
  have hbk := bitsAt_get hW hk
  have hps := pos_succ hW hk
  have hpm := pos_mono hW (j := k + 1) (k := l.length) (by omega) (Nat.le_refl _)
  have hfl := fldB_len hW (H := H) (by omega) hk
  have hfd : ∀ x ∈ fldB l H k, x ∈ dBits := fun x hx => hd x (List.mem_of_mem_drop (List.mem_of_mem_take hx))
  have hF : hiB (numB (fldB l H k)) (bitsAt l k) (bitsAt l k) = fldB l H k := by
    have := hiB_numB hfd
    rw [hfl] at this
    exact this
  have hv : numB (fldB l H k) < 2 ^ bitsAt l k := numB_lt _ _ hfl
  rw [← val_count hbk.2.1 hb hv h, hF]
  unfold cuT
  rw [if_pos h0, hi, List.countP_map]
  apply List.countP_congr
  intro c hc
  have hcl := val_size h c hc
  show hasB (wrapC _ _ c) H = true ↔ _
  rw [has_wrap hcl (show H.length = posN l k + bitsAt l k + (posN l l.length - posN l (k + 1)) by omega)]
  rfl
end Go.Proofs.YtlakglphjhoodaaDoor.Fl
