/- Texts of one kind, put together: Hm, Oi, Oj. -/
import Derived.Test.YtlbkacabcfeaiaaHl
import Derived.Test.YtlbkacabcfeaiaaZOB
import Derived.Test.YtlbkacabcfeaiaaZNC
/- A region that draws its order: every operation leaves what is held of the world as it is. (As XHl, with no last operation.) -/
namespace Go.Proofs.Ytlbkacabcfeaiaa.Mm
open Go.RowKit
section
variable {P : Program} {ops : Array Oper} {Q : Exit → Act → World → Prop} {md : Region.Mode} {S : World → Prop} {L : Nat}
theorem all_take {i : Nat} {oi : Oper} {v : Value} (hi : ops[i]? = some oi) (hs : Region.noSelect ops = true) (hQ : ∀ c a w, Q (.panic c) (a.put oi.dst v) w → Q (.panic c) a w) (hL : ops[L]? = none) :
    ∀ (n : Nat) (ls : Array Bool) (a : Act) (w : World), (∀ j oj, ops[j]? = some oj → j ≠ i → ls.getD j true = false → (∀ e ∈ oj.after, Region.binds md e = true → e.on ≠ i) → oi.apart ops oj = true) → i ∈ Region.ready md ops ls → YieldsIf P ops S oi v a → S w →
      wpLast P md ops Q S L n (ls.setIfInBounds i true) (a.put oi.dst v) w → wpLast P md ops Q S L (n + 1) ls a w := by
  have sel := Region.noSelect_spec hs
  intro n
  induction n with
  | zero =>
    intro ls a w _ hr hy hS H
    refine ⟨fun h => (by rw [h] at hr; cases hr), fun j hj => ?_⟩
    by_cases e : j = i
    · rw [e]
      exact hy.wpOp hi hS ⟨fun _ => hS, H⟩
    · have := ready_mono hj e
      rw [H.1] at this
      cases this
  | succ n ih =>
    intro ls a w hfree hr hy hS H
    have hun : ls.getD i true = false := (mem_ready.1 hr).1
    have hnl : ls.getD i false ≠ true := fun h => by
      rcases Nat.lt_or_ge i ls.size with hlt | hge
      · simp [hlt] at hun h
        rw [hun] at h
        cases h
      · simp [Array.getElem?_eq_none hge] at hun
    refine ⟨fun h => (by rw [h] at hr; cases hr), fun j hj => ?_⟩
    by_cases e : j = i
    · rw [e]
      exact hy.wpOp hi hS ⟨fun _ => hS, H⟩
    · obtain ⟨hju, oj, hoj, hall⟩ := mem_ready.1 hj
      have hjL : j ≠ L := fun e2 => by rw [e2, hL] at hoj; cases hoj
      have hno : ∀ d ∈ oj.after, Region.binds md d = true → d.on ≠ i := fun d hd hb hon => by
        have := hall d hd hb
        rw [hon] at this
        exact hnl this
      have h2 := wpOp_putIf hoj (hfree j oj hoj e hju hno) (fun cs b => sel i oi cs b hi) (fun cs b => sel j oj cs b hoj) hQ hy (H.2 j (ready_mono hj e))
      refine wpOp_mono (fun b x h3 => ⟨fun _ => h3.2.1 hjL, ?_⟩) h2
      refine ih (ls.setIfInBounds j true) b x (fun k ok hk hki hku hkn => hfree k ok hk hki ?_ hkn) (ready_mono hr (Ne.symm e)) h3.1 (h3.2.1 hjL) ?_
      · by_cases hjk : j = k
        · rw [← hjk]
          exact hju
        · rw [getD_set_ne true hjk] at hku
          exact hku
      · rw [Array.setIfInBounds_comm _ _ e]
        exact h3.2.2
theorem wpAll_take {i : Nat} {oi : Oper} {v : Value} {n : Nat} {ls : Array Bool} {a : Act} {w : World} (hi : ops[i]? = some oi) (hs : Region.noSelect ops = true) (hf : Region.free md ops ls i = true) (hr : (Region.ready md ops ls).contains i = true)
    (hL : ops[L]? = none) (hQ : ∀ c a w, Q (.panic c) (a.put oi.dst v) w → Q (.panic c) a w) (hy : YieldsIf P ops S oi v a) (hS : S w)
    (h : wpLast P md ops Q S L n (ls.setIfInBounds i true) (a.put oi.dst v) w) : wpLast P md ops Q S L (n + 1) ls a w := by
  exact all_take hi hs hQ hL n ls a w (Region.free_spec hi hf) (by simpa using hr) hy hS h
end
end Go.Proofs.Ytlbkacabcfeaiaa.Mm
/- Patterns: both compiled, both asked: what each answers of any list. -/
namespace Go.Proofs.Ytlbkacabcfeaiaa.Tl
open Go.RowKit Mm
set_option linter.unusedVariables false
/-- the program's pattern answers M of every list, and tells the text z -/
structure PM (w : World) (pv : Value) (M : List ByteArray → Bool) (z : ByteArray) : Prop where
  mt : ∀ (Y : World) (l : List ByteArray) (lv : Value), Below w.heap.size w Y → l.length ≤ 300 → (∀ s ∈ l, s.size ≤ 80) → Sees Y lv (sC l) → Calls Try.prog 13 #[pv, lv] Y fun e Y' => e = .returned (.bool (M l)) ∧ Below Y.heap.size Y Y'
  tx : ∀ (Y : World), Below w.heap.size w Y → Calls Try.prog 9 #[pv] Y fun e Y' => e = .returned (.string z) ∧ Below Y.heap.size Y Y'
/-- the reference's -/
structure RM (w : World) (qv : Value) (M : List ByteArray → Bool) (z : ByteArray) : Prop where
  mt : ∀ (Y : World) (l : List ByteArray) (lv : Value), Below w.heap.size w Y → l.length ≤ 300 → (∀ s ∈ l, s.size ≤ 80) → Sees Y lv (sC l) → Calls Try.prog 14 #[qv, lv] Y fun e Y' => e = .returned (.bool (M l)) ∧ Below Y.heap.size Y Y'
  tx : ∀ (Y : World), Below w.heap.size w Y → Calls Try.prog 10 #[qv] Y fun e Y' => e = .returned (.string z) ∧ Below Y.heap.size Y Y'
theorem PM.on {w w' : World} {pv : Value} {M : List ByteArray → Bool} {z : ByteArray} (h : PM w pv M z) (hb : Below w.heap.size w w') : PM w' pv M z :=
  ⟨fun Y l lv hy => h.mt Y l lv (bnx hb hy), fun Y hy => h.tx Y (bnx hb hy)⟩
theorem RM.on {w w' : World} {qv : Value} {M : List ByteArray → Bool} {z : ByteArray} (h : RM w qv M z) (hb : Below w.heap.size w w') : RM w' qv M z :=
  ⟨fun Y l lv hy => h.mt Y l lv (bnx hb hy), fun Y hy => h.tx Y (bnx hb hy)⟩
open Classical in
noncomputable def MtL (t : T) (l : List ByteArray) : Bool := decide (Mt (l.map (·.data.toList)) t 0 l.length)
open Classical in
theorem mtl_of {t : T} {l : List ByteArray} {b : Bool} (h : b = true ↔ Mt (l.map (·.data.toList)) t 0 l.length) : b = MtL t l := by
  unfold MtL
  cases b with
  | true => exact (decide_eq_true (h.1 rfl)).symm
  | false => exact (decide_eq_false (fun g => by have := h.2 g; cases this)).symm
theorem st0_fine : fineS st0 := by simp [fineS, st0, fineL]
set_option maxRecDepth 100000 in
set_option maxHeartbeats 4000000 in
theorem text_none (w : World) : Calls Try.prog 9 #[.pointer none] w fun e w' => e = .returned (.string ⟨#[]⟩) ∧ w' = w := by
  go_enter Try.func9, Try.ntmps9
  go_wp2_with fail
  go_ret
  exact ⟨rfl, rfl⟩
set_option maxRecDepth 100000 in
set_option maxHeartbeats 4000000 in
theorem rtext_none (w : World) (root : Int) : Calls Try.prog 10 #[.agg #[.slice none 0 0, .int .i64 root]] w fun e w' => e = .returned (.string ⟨#[]⟩) ∧ Below w.heap.size w w' := by
  have hB0 := Blk.new w 28 #[.slice none 0 0, .int .i64 root]
  have c0 := hB0.cell 0
  have HA := Lib.hid (bal (Below.refl w.heap.size w) (.cells #[.slice none 0 0, .int .i64 root] 28))
  clear hB0
  go_enter Try.func10, Try.ntmps10
  go_wp2_with fail
  go_ret
  exact ⟨rfl, HA.out⟩
theorem pm_none (w : World) : PM w (.pointer none) (fun _ => false) ⟨#[]⟩ :=
  ⟨fun Y l lv _ _ _ _ => (match_none Y lv).mono fun e Y' ⟨h1, h2⟩ => ⟨h1, h2 ▸ Below.refl _ _⟩, fun Y _ => (text_none Y).mono fun e Y' ⟨h1, h2⟩ => ⟨h1, h2 ▸ Below.refl _ _⟩⟩
theorem rm_none (w : World) : RM w (.agg #[.slice none 0 0, .int .i64 0]) (fun _ => false) ⟨#[]⟩ :=
  ⟨fun Y l lv _ _ _ _ => rmatch_none Y lv 0, fun Y _ => rtext_none Y 0⟩
theorem pm_of {w : World} {B : Nat} {t : T} {v : Value} (h : Pat w B t v) (hb : bd t ≤ 20000) (hf : fine t = true) : PM w v (MtL t) (str (txt t)) :=
  ⟨fun Y l lv hy hl hs hS => (match_any hl hs (h.below hy) hb hf hS).mono fun e Y' ⟨b, h1, h2, h3⟩ => ⟨by rw [h1, mtl_of h2], h3⟩, fun Y hy => (text_any (h.below hy)).mono fun e Y' ⟨h1, h2⟩ => ⟨h1, h2 ▸ Below.refl _ _⟩⟩
theorem rm_of {w : World} {B : Nat} {t : T} {v : Value} (h : RPat w B t v) (hg : good t = true) (hb : bd t ≤ 20000) : RM w v (MtL t) (str (txt t)) :=
  ⟨fun Y l lv hy hl hs hS => (rmatch_any hl hs (h.below hy) hg (by omega) hS).mono fun e Y' ⟨b, h1, h2, h3⟩ => ⟨by rw [h1, mtl_of h2], h3⟩, fun Y hy => rtext_any (h.below hy) hg (by omega)⟩
/-- what the reference's Compile answers beside the program's -/
structure RAns (text : ByteArray) (c : Int) (M : List ByteArray → Bool) (z : ByteArray) : Prop where
  run : ∀ w, Calls Try.prog 7 #[.string text] w fun e w' => Below w.heap.size w w' ∧ ∃ (a : Option Addr) (n cp : Nat) (root k : Int), e = .returned (.tuple #[.agg #[.slice a n cp, .int .i64 root], .int .i64 c, .int .i64 k]) ∧ RM w' (.agg #[.slice a n cp, .int .i64 root]) M z
theorem both_any (text : ByteArray) (hsz : text.size ≤ 9223372036854775807) (w : World) : Calls Try.prog 6 #[.string text] w fun e w' => Below w.heap.size w w' ∧ ∃ (a : Option Addr) (c k : Int) (M : List ByteArray → Bool) (z : ByteArray), e = .returned (.tuple #[.pointer a, .int .i64 c, .int .i64 k]) ∧ PM w' (.pointer a) M z ∧ RAns text c M z := by
  refine (compile_any text w hsz).mono ?_
  rintro e w' ⟨hb, hc⟩
  refine ⟨hb, ?_⟩
  rcases hc with ⟨hl, rfl⟩ | ⟨hl, k, hk, rfl⟩ | ⟨hl, t, p, ht, hg, hbt, rfl, hp⟩
  · refine ⟨none, 2, 0, _, _, rfl, pm_none w', ⟨fun X => (rcompile_any text X hsz).mono ?_⟩⟩
    rintro e2 X2 ⟨hb2, hc2⟩
    refine ⟨hb2, ?_⟩
    rcases hc2 with ⟨_, rfl⟩ | ⟨h, _⟩ | ⟨h, _⟩
    · exact ⟨none, 0, 0, 0, 0, rfl, rm_none X2⟩
    · omega
    · omega
  · refine ⟨none, 140, k, _, _, rfl, pm_none w', ⟨fun X => (rcompile_any text X hsz).mono ?_⟩⟩
    rintro e2 X2 ⟨hb2, hc2⟩
    refine ⟨hb2, ?_⟩
    rcases hc2 with ⟨h, _⟩ | ⟨_, k2, hk2, rfl⟩ | ⟨_, t2, p2, ht2, _⟩
    · omega
    · exact ⟨none, 0, 0, 0, k2, rfl, rm_none X2⟩
    · rw [hk] at ht2
      cases ht2
  · obtain ⟨g, cs, rfl, _⟩ := hp.pat
    refine ⟨_, 0, 0, _, _, rfl, pm_of hp hbt (fine_res st0_fine ht), ⟨fun X => (rcompile_any text X hsz).mono ?_⟩⟩
    rintro e2 X2 ⟨hb2, hc2⟩
    refine ⟨hb2, ?_⟩
    rcases hc2 with ⟨h, _⟩ | ⟨_, k2, hk2, _⟩ | ⟨_, t2, p2, ht2, rfl, hp2⟩
    · omega
    · rw [ht] at hk2
      cases hk2
    · rw [ht] at ht2
      cases ht2
      obtain ⟨nv, root, N, rfl, hr1, _⟩ := hp2.pat
      obtain ⟨an, cn, rfl⟩ := own_len hr1
      exact ⟨an, _, cn, root, 0, rfl, rm_of hp2 hg hbt⟩
set_option maxRecDepth 100000 in
set_option maxHeartbeats 2000000 in
theorem num_is (n : Int) (w : World) : Calls Try.prog 8 #[.int .i64 n] w fun e w' => e = .returned (.int .i64 n) ∧ w = w' := by
  go_enter Try.func8, Try.ntmps8
  go_wp2_with fail
  go_ret
  exact ⟨rfl, rfl⟩
end Go.Proofs.Ytlbkacabcfeaiaa.Tl
/- Patterns: the statement about Match. -/
namespace Go.Proofs.Ytlbkacabcfeaiaa.Tl
open Go.RowKit Mm
set_option linter.unusedVariables false
abbrev Hd2 (b : Nat) (v0 v1 : Value) (W : World) : Prop := W.cell? ⟨b, 0, none⟩ = some v0 ∧ W.cell? ⟨b, 1, none⟩ = some v1
theorem Hd2.on {b : Nat} {v0 v1 : Value} {X Y : World} (h : Hd2 b v0 v1 X) (hb : Below X.heap.size X Y) (hl : b < X.heap.size) : Hd2 b v0 v1 Y :=
  ⟨(Below.cell hb (p := ⟨b, 0, none⟩) hl).trans h.1, (Below.cell hb (p := ⟨b, 1, none⟩) hl).trans h.2⟩
/-- the list is turned round, name by name -/
structure Sw (w3 : World) (gl cpl : Nat) (l : List ByteArray) (k : Nat) (ov : Value) (X : World) : Prop where
  bel : Below w3.heap.size w3 X
  ot : X.ownsRow w3.heap.size 9 1 ov k (sC (l.reverse.take k))
  ls : X.ownsRow w3.heap.size 9 1 (.slice (some ⟨gl, 0, none⟩) (l.length + 1) cpl) (l.length + 1) (sC (l.reverse.take k ++ l.drop k ++ [behind]))
  ap : Apart ov (.slice (some ⟨gl, 0, none⟩) (l.length + 1) cpl)
theorem sw_set {l : List ByteArray} {k : Nat} (hk : k < l.length) (hk2 : k < l.reverse.length) : (sC (l.reverse.take k ++ l.drop k ++ [behind])).set k (.string l.reverse[k]) = sC (l.reverse.take (k + 1) ++ l.drop (k + 1) ++ [behind]) := by
  rw [List.take_succ_eq_append_getElem hk2, List.drop_eq_getElem_cons hk]
  simp only [sC, List.map_append, List.append_assoc, List.map_cons, List.cons_append, List.nil_append, List.map_nil]
  rw [List.set_append_right _ _ (by simp; omega)]
  simp [Nat.min_eq_left (Nat.le_of_lt hk)]
theorem Sw.step {w3 X Y : World} {gl cpl : Nat} {l : List ByteArray} {k : Nat} {ov ov' : Value} {o : Obj} (h : Sw w3 gl cpl l k ov X) (hk : k < l.length) (hk2 : k < l.reverse.length) (hr : Y.ownsRow w3.heap.size 9 1 ov' (l.reverse.take k ++ [l.reverse[k]]).length (sC (l.reverse.take k ++ [l.reverse[k]]))) (hkp : Keeps (X.alloc o) ov ov' Y) :
    Sw w3 gl cpl l (k + 1) ov' (Y.setCell ⟨gl, k, none⟩ (.string l.reverse[k])) := by
  have hls : Y.ownsRow w3.heap.size 9 1 (.slice (some ⟨gl, 0, none⟩) (l.length + 1) cpl) (l.length + 1) (sC (l.reverse.take k ++ l.drop k ++ [behind])) := own_keeps (h.ls.alloc o) hkp h.ap.symm
  have hap : Apart ov' (.slice (some ⟨gl, 0, none⟩) (l.length + 1) cpl) := (Apart.keeps (h.ls.alloc o) hkp h.ap.symm).symm
  have hb := h.bel.grown (gtrans (World.grownBy_alloc X o _) hkp.by) h.bel.size (fun z hz => (own_ty h.ot hz).1)
  obtain ⟨h1, h2⟩ := hls.stored k (.string l.reverse[k])
  rw [sw_set hk hk2] at h1
  have hlen : (l.reverse.take k ++ [l.reverse[k]]).length = k + 1 := by simp; omega
  rw [hlen, ← List.take_succ_eq_append_getElem hk2] at hr
  have hne : ov'.ownBlock ≠ some gl := fun e => by
    rcases hap with h3 | h3
    · rw [h3] at e
      cases e
    · exact h3 e
  exact ⟨bel_by hb h2 (own_ty h.ls (g := gl) rfl).1 hb.size, own_not hr h2 hne, h1, hap⟩
theorem Sw.cells {w3 X Y : World} {gl cpl : Nat} {l : List ByteArray} {k : Nat} {ov ov' : Value} {o : Obj} (h : Sw w3 gl cpl l k ov X) (hk : k < l.length) (hkp : Keeps (X.alloc o) ov ov' Y) : (∃ u, Y.cell? ⟨gl, k, none⟩ = some u) ∧ Y.frozen? ⟨gl, k, none⟩ = false := by
  have hls : Y.ownsRow w3.heap.size 9 1 (.slice (some ⟨gl, 0, none⟩) (l.length + 1) cpl) (l.length + 1) (sC (l.reverse.take k ++ l.drop k ++ [behind])) := own_keeps (h.ls.alloc o) hkp h.ap.symm
  obtain ⟨g, c, hv, _, _, _, hc⟩ := own_at hls (by omega)
  simp only [Value.slice.injEq, Option.some.injEq, Addr.mk.injEq] at hv
  obtain ⟨⟨rfl, _⟩, _⟩ := hv
  obtain ⟨_, _, cur, hcur⟩ := own_ty hls (g := gl) rfl
  have hlt : k < (sC (l.reverse.take k ++ l.drop k ++ [behind])).length := by rw [hls.1]; omega
  exact ⟨⟨_, hc k _ (List.getElem?_eq_getElem hlt)⟩, Blk.frozen (t := 9) (cs := cur) hcur k⟩
set_option maxRecDepth 100000 in
set_option maxHeartbeats 8000000 in
theorem matches_walk (s : ByteArray) (hs : s.size ≤ maxLen) (v : Value) (l : List ByteArray) (hsz : ∀ x ∈ l, x.size ≤ 140737488355328) (w : World) (hS : Sees w v (sC l)) :
    Calls Try.prog 4 #[.string s, v] w fun e w' => e = .returned (.bool true) ∧ Below w.heap.size w w' := by
  have hs2 : s.size ≤ 9223372036854775807 := by simp only [maxLen] at hs; omega
  have HN := Lib.hid num_is
  have HNA := Lib.hid (names_any l v w hS hsz)
  have HBO := Lib.hid (both_any s hs2 w)
  have HSE := Lib.hid hS
  obtain ⟨al, cl, hv, _⟩ := hS
  rw [sC_len] at hv
  subst hv
  clear hs hs2 hsz
  go_enter Try.func4, Try.ntmps4
  go_wp2_with fail
  refine HNA.out.mono ?_
  rintro e w0 ⟨b, rfl, hb, rfl⟩
  cases b with
  | false =>
    go_wp2_with fail
    go_ret
    exact ⟨rfl, Below.refl _ _⟩
  | true =>
  obtain ⟨hl, hl8⟩ := hb.1 rfl
  have HL8 := Lib.hid hl8
  clear hb hl8
  go_wp2_with fail
  refine HBO.out.mono ?_
  rintro e w1 ⟨hb1, a, c, k, M, z, rfl, hpm, hr⟩
  have HB1 := Lib.hid hb1
  have HPM1 := Lib.hid hpm
  have HRU := Lib.hid (hr.run w1)
  clear hb1 hpm hr HBO HNA
  go_wp2_with fail
  refine HRU.out.mono ?_
  rintro e w2 ⟨hb2, a2, n2, cp2, root, k2, rfl, hrm⟩
  have hA := (Below.refl _ w2).alloc (Nat.le_refl _) (.cells #[.slice a2 n2 cp2, .int .i64 root] 28)
  have HB3 := Lib.hid (bnx (bnx HB1.out hb2) hA)
  have HPM3 := Lib.hid ((HPM1.out.on hb2).on hA)
  have HRM3 := Lib.hid (hrm.on hA)
  have HBK := Lib.hid (Blk.new w2 28 #[.slice a2 n2 cp2, .int .i64 root])
  have HLI := Lib.hid (listed_any l _ (w2.alloc (.cells #[.slice a2 n2 cp2, .int .i64 root] 28)) (HSE.out.below HB3.out) hl)
  clear hA hb2 hrm HB1 HPM1 HRU
  go_wp2_with fail
  refine HLI.out.mono ?_
  rintro e w4 ⟨v4, rfl, hli, hb4⟩
  generalize World.alloc w2 _ = w3 at *
  generalize w2.heap.size = b8 at *
  have HB34 := Lib.hid hb4
  have HB4 := Lib.hid (bnx HB3.out hb4)
  have HPM4 := Lib.hid (HPM3.out.on hb4)
  have HRM4 := Lib.hid (HRM3.out.on hb4)
  have HBK4 := Lib.hid (HBK.out.below hb4 HBK.out.lt)
  have HLI4 := Lib.hid hli
  obtain ⟨gl, cpl, rfl, hrow⟩ := hli.row
  have HRW := Lib.hid hrow
  clear hli hb4 HLI hrow
  have hb8 : b8 < w4.drew.heap.size := HBK4.out.lt
  have hS0 : Hd2 b8 (.slice a2 n2 cp2) (.int .i64 root) w4.drew := ⟨HBK4.out.cell 0, HBK4.out.cell 1⟩
  have HD4 := Lib.hid ((Below.refl w4.heap.size w4).drew)
  have HM := Lib.hid (fun (Y : World) (hy : Below w4.heap.size w4 Y) => HPM4.out.mt Y l _ hy hl HL8.out (HLI4.out.below hy).sees)
  have HR := Lib.hid (fun (Y : World) (hy : Below w4.heap.size w4 Y) => HRM4.out.mt Y l (.slice al l.length cl) hy hl HL8.out (HSE.out.below (bnx HB4.out hy)))
  have HT := Lib.hid (fun (Y : World) (hy : Below w4.heap.size w4 Y) => same_texts_any l (.slice al l.length cl) _ Y (HSE.out.below (bnx HB4.out hy)) (HLI4.out.below hy) hl)
  go_wp2_with fail
  refine wp_region_last 99 (fun w' => Hd2 b8 (.slice a2 n2 cp2) (.int .i64 root) w') mixed ?_
  generalize hw5 : w4.drew = w5 at *
  clear hw5
  refine wpAll_take (i := 0) (oi := { dst := some 31, op := Op.move (Operand.tmp 6), type := 23, pos := "law.go:59", after := #[], guard := none }) (v := ?_) rfl (by kernel_rfl) (by kernel_rfl) (by kernel_rfl) (by kernel_rfl) (fun _ _ _ h => h) (Or.inl ⟨by rfl, ?_⟩) (by assumption) ?_
  rotate_left
  · intro w hSw
    try dsimp only at hSw
    go_simp
    try with_reducible rfl
  try simp only [Act.put, List.setIfInBounds_toArray, List.set_cons_zero, List.set_cons_succ]
  refine wpAll_take (i := 2) (oi := { dst := some 33, op := Op.move (Operand.tmp 9), type := 3, pos := "law.go:59", after := #[], guard := none }) (v := ?_) rfl (by kernel_rfl) (by kernel_rfl) (by kernel_rfl) (by kernel_rfl) (fun _ _ _ h => h) (Or.inl ⟨by rfl, ?_⟩) (by assumption) ?_
  rotate_left
  · intro w hSw
    try dsimp only at hSw
    go_simp
    try with_reducible rfl
  try simp only [Act.put, List.setIfInBounds_toArray, List.set_cons_zero, List.set_cons_succ]
  refine wpLast_ready (rs := [1]) (by kernel_rfl) (by simp) ?_
  refine EachLast.cons (o := { dst := some 32, op := Op.call { callee := Callee.value (Operand.func 8), args := #[Operand.tmp 31], argTypes := #[23] }, type := 3, pos := "law.go:59", after := #[{ on := 0, ground := Ground.data }], guard := none }) rfl (fun K hK => ?_) EachLast.nil
  go_simp
  refine (HN.out c w5).mono ?_
  rintro e w5' ⟨rfl, rfl⟩
  refine hK.out _ _ (fun _ => hS0) ?_
  try simp only [Act.put, List.setIfInBounds_toArray, List.set_cons_zero, List.set_cons_succ]
  refine wpLast_ready (rs := [3]) (by kernel_rfl) (by simp) ?_
  refine EachLast.cons (o := { dst := some 34, op := Op.binOp BinOp.neq 3 (Operand.tmp 32) (Operand.tmp 33) 3, type := 4, pos := "law.go:59", after := #[{ on := 1, ground := Ground.data }, { on := 2, ground := Ground.data }], guard := none }) rfl (fun K hK => ?_) EachLast.nil
  go_simp
  refine hK.out _ _ (fun _ => hS0) ?_
  try simp only [Act.put, List.setIfInBounds_toArray, List.set_cons_zero, List.set_cons_succ]
  refine wpLast_ready (rs := [4]) (by kernel_rfl) (by simp) ?_
  refine EachLast.cons (o := { dst := some 35, op := Op.move (Operand.tmp 34), type := 4, pos := "law.go:59", after := #[{ on := 3, ground := Ground.data }, { on := 1, ground := Ground.chain }], guard := none }) rfl (fun K hK => ?_) EachLast.nil
  go_simp
  refine hK.out _ _ (fun _ => hS0) ?_
  try simp only [Act.put, List.setIfInBounds_toArray, List.set_cons_zero, List.set_cons_succ]
  refine wpAll_take (i := 5) (oi := { dst := some 36, op := Op.move (Operand.tmp 5), type := 22, pos := "law.go:59", after := #[{ on := 4, ground := Ground.guard }], guard := some (4, false) }) (v := ?_) rfl (by kernel_rfl) (by kernel_rfl) (by kernel_rfl) (by kernel_rfl) (fun _ _ _ h => h) (Or.inl ⟨by rfl, ?_⟩) (by assumption) ?_
  rotate_left
  · intro w hSw
    try dsimp only at hSw
    go_simp
    try with_reducible rfl
  try simp only [Act.put, List.setIfInBounds_toArray, List.set_cons_zero, List.set_cons_succ]
  refine wpAll_take (i := 6) (oi := { dst := some 37, op := Op.move (Operand.tmp 11), type := 35, pos := "law.go:59", after := #[{ on := 4, ground := Ground.guard }], guard := some (4, false) }) (v := ?_) rfl (by kernel_rfl) (by kernel_rfl) (by kernel_rfl) (by kernel_rfl) (fun _ _ _ h => h) (Or.inl ⟨by rfl, ?_⟩) (by assumption) ?_
  rotate_left
  · intro w hSw
    try dsimp only at hSw
    go_simp
    try with_reducible rfl
  try simp only [Act.put, List.setIfInBounds_toArray, List.set_cons_zero, List.set_cons_succ]
  refine wpAll_take (i := 8) (oi := { dst := some 39, op := Op.load 28 (Operand.tmp 8), type := 28, pos := "law.go:59", after := #[{ on := 4, ground := Ground.guard }], guard := some (4, false) }) (v := ?_) rfl (by kernel_rfl) (by kernel_rfl) (by kernel_rfl) (by kernel_rfl) (fun _ _ _ h => h) (Or.inl ⟨by rfl, ?_⟩) (by assumption) ?_
  rotate_left
  · intro w hSw
    try dsimp only at hSw
    go_simp
    try with_reducible rfl
  try simp only [Act.put, List.setIfInBounds_toArray, List.set_cons_zero, List.set_cons_succ]
  refine wpAll_take (i := 9) (oi := { dst := some 40, op := Op.move (Operand.tmp 1), type := 35, pos := "law.go:59", after := #[{ on := 4, ground := Ground.guard }], guard := some (4, false) }) (v := ?_) rfl (by kernel_rfl) (by kernel_rfl) (by kernel_rfl) (by kernel_rfl) (fun _ _ _ h => h) (Or.inl ⟨by rfl, ?_⟩) (by assumption) ?_
  rotate_left
  · intro w hSw
    try dsimp only at hSw
    go_simp
    try with_reducible rfl
  try simp only [Act.put, List.setIfInBounds_toArray, List.set_cons_zero, List.set_cons_succ]
  refine wpLast_ready (rs := [7]) (by kernel_rfl) (by simp) ?_
  refine EachLast.cons (o := { dst := some 38, op := Op.call { callee := Callee.value (Operand.func 13), args := #[Operand.tmp 36, Operand.tmp 37], argTypes := #[22, 35] }, type := 4, pos := "law.go:59", after := #[{ on := 5, ground := Ground.data }, { on := 6, ground := Ground.data }, { on := 4, ground := Ground.chain }, { on := 4, ground := Ground.guard }], guard := some (4, false) }) rfl (fun K hK => ?_) EachLast.nil
  go_simp
  refine (HM.out w5 HD4.out).mono ?_
  rintro e w6 ⟨rfl, hb6⟩
  have hS6 := hS0.on hb6 hb8
  have HD6 := Lib.hid (bnx HD4.out hb6)
  have hb86 := Nat.lt_of_lt_of_le hb8 hb6.size
  clear hb6
  generalize M l = b1 at *
  refine hK.out _ _ (fun _ => hS6) ?_
  try simp only [Act.put, List.setIfInBounds_toArray, List.set_cons_zero, List.set_cons_succ]
  refine wpLast_ready (rs := [10]) (by kernel_rfl) (by simp) ?_
  refine EachLast.cons (o := { dst := some 41, op := Op.call { callee := Callee.value (Operand.func 14), args := #[Operand.tmp 39, Operand.tmp 40], argTypes := #[28, 35] }, type := 4, pos := "law.go:59", after := #[{ on := 8, ground := Ground.data }, { on := 9, ground := Ground.data }, { on := 7, ground := Ground.chain }, { on := 4, ground := Ground.guard }], guard := some (4, false) }) rfl (fun K hK => ?_) EachLast.nil
  go_simp
  refine (HR.out w6 HD6.out).mono ?_
  rintro e w7 ⟨rfl, hb7⟩
  have hS7 := hS6.on hb7 hb86
  have HD7 := Lib.hid (bnx HD6.out hb7)
  have hb87 := Nat.lt_of_lt_of_le hb86 hb7.size
  clear hb7
  refine hK.out _ _ (fun _ => hS7) ?_
  try simp only [Act.put, List.setIfInBounds_toArray, List.set_cons_zero, List.set_cons_succ]
  refine wpLast_ready (rs := [11]) (by kernel_rfl) (by simp) ?_
  refine EachLast.cons (o := { dst := some 42, op := Op.binOp BinOp.neq 4 (Operand.tmp 38) (Operand.tmp 41) 4, type := 4, pos := "law.go:59", after := #[{ on := 7, ground := Ground.data }, { on := 10, ground := Ground.data }, { on := 4, ground := Ground.guard }], guard := some (4, false) }) rfl (fun K hK => ?_) EachLast.nil
  go_simp
  refine hK.out _ _ (fun _ => hS7) ?_
  try simp only [Act.put, List.setIfInBounds_toArray, List.set_cons_zero, List.set_cons_succ]
  refine wpLast_ready (rs := [12]) (by kernel_rfl) (by simp) ?_
  refine EachLast.cons (o := { dst := some 43, op := Op.pick (Operand.tmp 35) (Operand.const (Value.bool true)) (Operand.tmp 42), type := 4, pos := "law.go:59", after := #[{ on := 4, ground := Ground.data }, { on := 11, ground := Ground.data }], guard := none }) rfl (fun K hK => ?_) EachLast.nil
  go_simp
  refine hK.out _ _ (fun _ => hS7) ?_
  try simp only [Act.put, List.setIfInBounds_toArray, List.set_cons_zero, List.set_cons_succ]
  refine wpLast_ready (rs := [13]) (by kernel_rfl) (by simp) ?_
  refine EachLast.cons (o := { dst := some 44, op := Op.move (Operand.tmp 43), type := 4, pos := "law.go:59", after := #[{ on := 12, ground := Ground.data }, { on := 10, ground := Ground.chain }], guard := none }) rfl (fun K hK => ?_) EachLast.nil
  go_simp
  refine hK.out _ _ (fun _ => hS7) ?_
  try simp only [Act.put, List.setIfInBounds_toArray, List.set_cons_zero, List.set_cons_succ]
  refine wpAll_take (i := 14) (oi := { dst := some 45, op := Op.move (Operand.tmp 11), type := 35, pos := "law.go:59", after := #[{ on := 13, ground := Ground.guard }], guard := some (13, false) }) (v := ?_) rfl (by kernel_rfl) (by kernel_rfl) (by kernel_rfl) (by kernel_rfl) (fun _ _ _ h => h) (Or.inl ⟨by rfl, ?_⟩) (by assumption) ?_
  rotate_left
  · intro w hSw
    try dsimp only at hSw
    go_simp
    try with_reducible rfl
  try simp only [Act.put, List.setIfInBounds_toArray, List.set_cons_zero, List.set_cons_succ]
  refine wpAll_take (i := 15) (oi := { dst := some 46, op := Op.move (Operand.tmp 1), type := 35, pos := "law.go:59", after := #[{ on := 13, ground := Ground.guard }], guard := some (13, false) }) (v := ?_) rfl (by kernel_rfl) (by kernel_rfl) (by kernel_rfl) (by kernel_rfl) (fun _ _ _ h => h) (Or.inl ⟨by rfl, ?_⟩) (by assumption) ?_
  rotate_left
  · intro w hSw
    try dsimp only at hSw
    go_simp
    try with_reducible rfl
  try simp only [Act.put, List.setIfInBounds_toArray, List.set_cons_zero, List.set_cons_succ]
  refine wpLast_ready (rs := [16]) (by kernel_rfl) (by simp) ?_
  refine EachLast.cons (o := { dst := some 47, op := Op.call { callee := Callee.value (Operand.func 15), args := #[Operand.tmp 45, Operand.tmp 46], argTypes := #[35, 35] }, type := 4, pos := "law.go:59", after := #[{ on := 14, ground := Ground.data }, { on := 15, ground := Ground.data }, { on := 13, ground := Ground.chain }, { on := 13, ground := Ground.guard }], guard := some (13, false) }) rfl (fun K hK => ?_) EachLast.nil
  go_simp
  refine (HT.out w7 HD7.out).mono ?_
  rintro e w8 ⟨rfl, hb88⟩
  have hS8 := hS7.on hb88 hb87
  have HD8 := Lib.hid (bnx HD7.out hb88)
  clear hb88
  refine hK.out _ _ (fun _ => hS8) ?_
  try simp only [Act.put, List.setIfInBounds_toArray, List.set_cons_zero, List.set_cons_succ]
  refine wpLast_ready (rs := [17]) (by kernel_rfl) (by simp) ?_
  refine EachLast.cons (o := { dst := some 48, op := Op.unOp UnOp.not 4 (Operand.tmp 47), type := 4, pos := "law.go:59", after := #[{ on := 16, ground := Ground.data }, { on := 13, ground := Ground.guard }], guard := some (13, false) }) rfl (fun K hK => ?_) EachLast.nil
  go_simp
  refine hK.out _ _ (fun _ => hS8) ?_
  try simp only [Act.put, List.setIfInBounds_toArray, List.set_cons_zero, List.set_cons_succ]
  refine wpLast_ready (rs := [18]) (by kernel_rfl) (by simp) ?_
  refine EachLast.cons (o := { dst := some 49, op := Op.pick (Operand.tmp 44) (Operand.const (Value.bool true)) (Operand.tmp 48), type := 4, pos := "law.go:59", after := #[{ on := 13, ground := Ground.data }, { on := 17, ground := Ground.data }], guard := none }) rfl (fun K hK => ?_) EachLast.nil
  go_simp
  refine hK.out _ _ (fun _ => hS8) ?_
  try simp only [Act.put, List.setIfInBounds_toArray, List.set_cons_zero, List.set_cons_succ]
  refine wpLast_done (by kernel_rfl) ?_ _
  go_wp2_with fail
  have HSW := Lib.hid (show Sw w3 gl cpl l 0 (.slice none 0 0) w8 from ⟨bnx HB34.out HD8.out, World.ownsRow_nil _ _ _ _, own_below (by rw [List.take_zero, List.drop_zero, List.nil_append]; exact HRW.out) HD8.out (Nat.le_refl _), .inl rfl⟩)
  have hrl : l.reverse.length = l.length := List.length_reverse
  clear hS0 hS6 hS7 hS8 hb8 hb86 hb87 HD4 HD6 HD7 HM HR HT HPM4 HRM4 HBK4 HB4 HRW HLI4
  go_loopw [12, 13] (fun ov iv wr => ∃ k : Nat, k ≤ l.length ∧ iv = .int .i64 (k : Int) ∧ Sw w3 gl cpl l k ov wr) (fun _ iv _ => l.length - (intOf iv).toNat)
  case atStart => exact ⟨0, Nat.zero_le _, rfl, HSW.out⟩
  case round =>
    clear HSW
    obtain ⟨k, hk, rfl, hsw⟩ := hrel
    by_cases hlt : k < l.length
    · have hk2 : k < l.reverse.length := by omega
      obtain ⟨g0, off, rfl, hcell, hg0⟩ : ∃ g0 off, al = some ⟨g0, off, none⟩ ∧ (∀ j u, (sC l)[j]? = some u → w.cell? ⟨g0, off + j, none⟩ = some u) ∧ g0 < w.heap.size := by
        obtain ⟨a', cap', hv, _, _, _, hx⟩ := HSE.out
        simp only [Value.slice.injEq] at hv
        obtain ⟨rfl, _⟩ := hv
        rcases hx with hx | ⟨g0, off, ha, h1, h2⟩
        · have := congrArg List.length hx
          rw [sC_len, List.length_nil] at this
          omega
        · exact ⟨g0, off, ha, h2, h1⟩
      obtain ⟨j, hj⟩ : ∃ j, j = l.length - 1 - k := ⟨_, rfl⟩
      have hjl : j < l.length := by omega
      have hrv : l.reverse[k] = l[j] := by rw [List.getElem_reverse]; subst hj; rfl
      have cj : ∀ X, Below w.heap.size w X → X.cell? ⟨g0, off + j, none⟩ = some (.string l.reverse[k]) := fun X hb => by
        rw [hrv]
        exact (Below.cell hb (p := ⟨g0, off + j, none⟩) hg0).trans (hcell j _ (sC_at (List.getElem?_eq_getElem hjl)))
      have ck := cj wr (bnx HB3.out hsw.bel)
      have hjI : (l.length : Int) - 1 - (k : Int) = (j : Int) := by omega
      obtain ⟨ao, co, rfl⟩ := own_len hsw.ot
      have HST := Lib.hid (fun (Y : World) (ov' : Value) (o : Obj) (hr : Y.ownsRow w3.heap.size 9 1 ov' (l.reverse.take k ++ [l.reverse[k]]).length (sC (l.reverse.take k ++ [l.reverse[k]]))) (hkp : Keeps (wr.alloc o) (.slice ao k co) ov' Y) => hsw.step hlt hk2 hr hkp)
      have HSC := Lib.hid (fun (Y : World) (ov' : Value) (o : Obj) (hkp : Keeps (wr.alloc o) (.slice ao k co) ov' Y) => hsw.cells hlt hkp)
      have hlt2 : (l.reverse.take k).length = k := by simp; omega
      have hlen : (l.reverse.take k ++ [l.reverse[k]]).length = k + 1 := by rw [List.length_append, hlt2]; rfl
      have hxk : (sC (l.reverse.take k ++ [l.reverse[k]]))[k]? = some (.string l.reverse[k]) := sC_at (by rw [List.getElem?_append_right (by omega), hlt2, Nat.sub_self]; rfl)
      have HOT := Lib.hid (show wr.ownsRow w3.heap.size 9 1 (.slice ao k co) (l.reverse.take k).length (sC (l.reverse.take k)) from by rw [hlt2]; exact hsw.ot)
      have HBS := Lib.hid hsw.bel.size
      have hkb : (l.reverse.take k).length ≤ 100000 := by omega
      have i0 : (0 : Int) ≤ (j : Int) := by omega
      have i1 : (j : Int) < (l.length : Int) := by omega
      have i2 : (k : Int) < (l.length : Int) := by omega
      generalize l.reverse[k] = x at *
      obtain ⟨wj, wk⟩ : IntKind.i64.wrap (j : Int) = (j : Int) ∧ IntKind.i64.wrap (k : Int) = (k : Int) := ⟨IntWalk.i64_in _ (by omega), IntWalk.i64_in _ (by omega)⟩
      clear hsw cj hcell hrv hj hlt2
      go_wp2_with (first | (at_builtin; refine app_str (s := x) rfl HOT.out rfl rfl rfl rfl (by rfl) hkb HBS.out ?_; intro v2 w2 hr2 hk2x; have HSN := Lib.hid (HST.out w2 v2 _ hr2 hk2x); obtain ⟨⟨u0, cu0⟩, fu0⟩ := HSC.out w2 v2 _ hk2x; rw [hlen] at hr2; obtain ⟨g2, c2, rfl, _, _, hg2, hc2⟩ := own_at hr2 (Nat.succ_pos k); have cx := hc2 k _ hxk; clear hr2 hk2x hc2) | go_in)
      go_roundw
      case rel => exact ⟨k + 1, by omega, by go_num, HSN.out⟩
      case measure => simp [intOf]; omega
    · obtain rfl : k = l.length := by omega
      obtain ⟨ao, co, rfl⟩ := own_len hsw.ot
      have hHL := hsw.ls
      have hOT := hsw.ot
      have HB9 := Lib.hid hsw.bel
      rw [List.drop_length, List.append_nil] at hHL
      rw [show l.length = l.reverse.length from hrl.symm, List.take_length] at hHL hOT
      have HLR := Lib.hid (show Li wr w3.heap.size (.slice (some ⟨gl, 0, none⟩) l.length cpl) l.reverse from ⟨gl, cpl, by rw [hrl], hHL⟩)
      have HSO := Lib.hid (show Sees wr (.slice ao l.length co) (sC l.reverse) from by rw [show l.length = l.reverse.length from hrl.symm]; exact Sees.of_own hOT)
      have hl3 : l.reverse.length ≤ 300 := by omega
      have HR8 := Lib.hid (show ∀ x ∈ l.reverse, x.size ≤ 80 from fun x hx => HL8.out x (List.mem_reverse.1 hx))
      have HM := Lib.hid (fun (Y : World) (hy : Below wr.heap.size wr Y) => HPM3.out.mt Y l.reverse _ (bnx HB9.out hy) hl3 HR8.out (HLR.out.below hy).sees)
      have HR := Lib.hid (fun (Y : World) (hy : Below wr.heap.size wr Y) => HRM3.out.mt Y l.reverse _ (bnx HB9.out hy) hl3 HR8.out (HSO.out.below hy))
      have HT := Lib.hid (fun (Y : World) (hy : Below wr.heap.size wr Y) => same_texts_any l.reverse _ _ Y (HSO.out.below hy) (HLR.out.below hy) hl3)
      have hbk := HBK.out.below HB9.out HBK.out.lt
      have hb8 : b8 < wr.drew.heap.size := hbk.lt
      have hS0 : Hd2 b8 (.slice a2 n2 cp2) (.int .i64 root) wr.drew := ⟨hbk.cell 0, hbk.cell 1⟩
      have HD4 := Lib.hid ((Below.refl wr.heap.size wr).drew)
      have HE := Lib.hid (fun (Y : World) (hy : Below wr.heap.size wr Y) => bnx HB3.out (bnx HB9.out hy))
      clear hsw hHL hOT hbk HLR HSO HR8
      generalize M l.reverse = b1 at *
      go_upto_region 14 with fail
      refine wp_region_last 12 (fun w' => Hd2 b8 (.slice a2 n2 cp2) (.int .i64 root) w') mixed ?_
      generalize hw5 : wr.drew = w5 at *
      clear hw5
      refine wpLast_take (i := 0) (oi := { dst := some 74, op := Op.move (Operand.tmp 5), type := 22, pos := "law.go:67", after := #[], guard := none }) (v := ?_) rfl (by kernel_rfl) (by kernel_rfl) (by kernel_rfl) (by kernel_rfl) (fun _ _ _ h => h) (Or.inl ⟨by rfl, ?_⟩) (by assumption) ?_
      rotate_left
      · intro w hSw
        try dsimp only at hSw
        go_simp
        try with_reducible rfl
      try simp only [Act.put, List.setIfInBounds_toArray, List.set_cons_zero, List.set_cons_succ]
      refine wpLast_take (i := 1) (oi := { dst := some 75, op := Op.move (Operand.tmp 11), type := 35, pos := "law.go:67", after := #[], guard := none }) (v := ?_) rfl (by kernel_rfl) (by kernel_rfl) (by kernel_rfl) (by kernel_rfl) (fun _ _ _ h => h) (Or.inl ⟨by rfl, ?_⟩) (by assumption) ?_
      rotate_left
      · intro w hSw
        try dsimp only at hSw
        go_simp
        try with_reducible rfl
      try simp only [Act.put, List.setIfInBounds_toArray, List.set_cons_zero, List.set_cons_succ]
      refine wpLast_take (i := 3) (oi := { dst := some 77, op := Op.load 28 (Operand.tmp 8), type := 28, pos := "law.go:67", after := #[], guard := none }) (v := ?_) rfl (by kernel_rfl) (by kernel_rfl) (by kernel_rfl) (by kernel_rfl) (fun _ _ _ h => h) (Or.inl ⟨by rfl, ?_⟩) (by assumption) ?_
      rotate_left
      · intro w hSw
        try dsimp only at hSw
        go_simp
        try with_reducible rfl
      try simp only [Act.put, List.setIfInBounds_toArray, List.set_cons_zero, List.set_cons_succ]
      refine wpLast_take (i := 4) (oi := { dst := some 78, op := Op.move (Operand.tmp 12), type := 35, pos := "law.go:67", after := #[], guard := none }) (v := ?_) rfl (by kernel_rfl) (by kernel_rfl) (by kernel_rfl) (by kernel_rfl) (fun _ _ _ h => h) (Or.inl ⟨by rfl, ?_⟩) (by assumption) ?_
      rotate_left
      · intro w hSw
        try dsimp only at hSw
        go_simp
        try with_reducible rfl
      try simp only [Act.put, List.setIfInBounds_toArray, List.set_cons_zero, List.set_cons_succ]
      refine wpLast_ready (rs := [2]) (by kernel_rfl) (by simp) ?_
      refine EachLast.cons (o := { dst := some 76, op := Op.call { callee := Callee.value (Operand.func 13), args := #[Operand.tmp 74, Operand.tmp 75], argTypes := #[22, 35] }, type := 4, pos := "law.go:67", after := #[{ on := 0, ground := Ground.data }, { on := 1, ground := Ground.data }], guard := none }) rfl (fun K hK => ?_) EachLast.nil
      go_simp
      refine (HM.out w5 HD4.out).mono ?_
      rintro e w6 ⟨rfl, hb6⟩
      have hS6 := hS0.on hb6 hb8
      have HD6 := Lib.hid (bnx HD4.out hb6)
      have hb86 := Nat.lt_of_lt_of_le hb8 hb6.size
      clear hb6
      refine hK.out _ _ (fun _ => hS6) ?_
      try simp only [Act.put, List.setIfInBounds_toArray, List.set_cons_zero, List.set_cons_succ]
      refine wpLast_ready (rs := [5]) (by kernel_rfl) (by simp) ?_
      refine EachLast.cons (o := { dst := some 79, op := Op.call { callee := Callee.value (Operand.func 14), args := #[Operand.tmp 77, Operand.tmp 78], argTypes := #[28, 35] }, type := 4, pos := "law.go:67", after := #[{ on := 3, ground := Ground.data }, { on := 4, ground := Ground.data }, { on := 2, ground := Ground.chain }], guard := none }) rfl (fun K hK => ?_) EachLast.nil
      go_simp
      refine (HR.out w6 HD6.out).mono ?_
      rintro e w7 ⟨rfl, hb7⟩
      have hS7 := hS6.on hb7 hb86
      have HD7 := Lib.hid (bnx HD6.out hb7)
      have hb87 := Nat.lt_of_lt_of_le hb86 hb7.size
      clear hb7
      refine hK.out _ _ (fun _ => hS7) ?_
      try simp only [Act.put, List.setIfInBounds_toArray, List.set_cons_zero, List.set_cons_succ]
      refine wpLast_ready (rs := [6]) (by kernel_rfl) (by simp) ?_
      refine EachLast.cons (o := { dst := some 80, op := Op.binOp BinOp.eql 4 (Operand.tmp 76) (Operand.tmp 79) 4, type := 4, pos := "law.go:67", after := #[{ on := 2, ground := Ground.data }, { on := 5, ground := Ground.data }], guard := none }) rfl (fun K hK => ?_) EachLast.nil
      go_simp
      refine hK.out _ _ (fun _ => hS7) ?_
      try simp only [Act.put, List.setIfInBounds_toArray, List.set_cons_zero, List.set_cons_succ]
      refine wpLast_ready (rs := [7]) (by kernel_rfl) (by simp) ?_
      refine EachLast.cons (o := { dst := some 81, op := Op.move (Operand.tmp 80), type := 4, pos := "law.go:67", after := #[{ on := 6, ground := Ground.data }, { on := 5, ground := Ground.chain }], guard := none }) rfl (fun K hK => ?_) EachLast.nil
      go_simp
      refine hK.out _ _ (fun _ => hS7) ?_
      try simp only [Act.put, List.setIfInBounds_toArray, List.set_cons_zero, List.set_cons_succ]
      refine wpLast_take (i := 8) (oi := { dst := some 82, op := Op.move (Operand.tmp 11), type := 35, pos := "law.go:67", after := #[{ on := 7, ground := Ground.guard }], guard := some (7, true) }) (v := ?_) rfl (by kernel_rfl) (by kernel_rfl) (by kernel_rfl) (by kernel_rfl) (fun _ _ _ h => h) (Or.inl ⟨by rfl, ?_⟩) (by assumption) ?_
      rotate_left
      · intro w hSw
        try dsimp only at hSw
        go_simp
        try with_reducible rfl
      try simp only [Act.put, List.setIfInBounds_toArray, List.set_cons_zero, List.set_cons_succ]
      refine wpLast_take (i := 9) (oi := { dst := some 83, op := Op.move (Operand.tmp 12), type := 35, pos := "law.go:67", after := #[{ on := 7, ground := Ground.guard }], guard := some (7, true) }) (v := ?_) rfl (by kernel_rfl) (by kernel_rfl) (by kernel_rfl) (by kernel_rfl) (fun _ _ _ h => h) (Or.inl ⟨by rfl, ?_⟩) (by assumption) ?_
      rotate_left
      · intro w hSw
        try dsimp only at hSw
        go_simp
        try with_reducible rfl
      try simp only [Act.put, List.setIfInBounds_toArray, List.set_cons_zero, List.set_cons_succ]
      refine wpLast_ready (rs := [10]) (by kernel_rfl) (by simp) ?_
      refine EachLast.cons (o := { dst := some 84, op := Op.call { callee := Callee.value (Operand.func 15), args := #[Operand.tmp 82, Operand.tmp 83], argTypes := #[35, 35] }, type := 4, pos := "law.go:67", after := #[{ on := 8, ground := Ground.data }, { on := 9, ground := Ground.data }, { on := 7, ground := Ground.chain }, { on := 7, ground := Ground.guard }], guard := some (7, true) }) rfl (fun K hK => ?_) EachLast.nil
      go_simp
      refine (HT.out w7 HD7.out).mono ?_
      rintro e w8 ⟨rfl, hb88⟩
      have hS8 := hS7.on hb88 hb87
      have HD8 := Lib.hid (bnx HD7.out hb88)
      clear hb88
      refine hK.out _ _ (fun _ => hS8) ?_
      try simp only [Act.put, List.setIfInBounds_toArray, List.set_cons_zero, List.set_cons_succ]
      refine wpLast_ready (rs := [11]) (by kernel_rfl) (by simp) ?_
      refine EachLast.cons (o := { dst := some 85, op := Op.pick (Operand.tmp 81) (Operand.tmp 84) (Operand.const (Value.bool false)), type := 4, pos := "law.go:67", after := #[{ on := 7, ground := Ground.data }, { on := 10, ground := Ground.data }], guard := none }) rfl (fun K hK => ?_) EachLast.nil
      go_simp
      refine hK.out _ _ (fun _ => hS8) ?_
      try simp only [Act.put, List.setIfInBounds_toArray, List.set_cons_zero, List.set_cons_succ]
      refine wpLast_ready (rs := [12]) (by kernel_rfl) (by simp) ?_
      refine EachLast.cons (o := { dst := some 4, op := Op.assign (Operand.tmp 85), type := 4, pos := "law.go:67", after := #[{ on := 11, ground := Ground.data }, { on := 10, ground := Ground.chain }, { on := 0, ground := Ground.phase }, { on := 1, ground := Ground.phase }, { on := 2, ground := Ground.phase }, { on := 3, ground := Ground.phase }, { on := 4, ground := Ground.phase }, { on := 5, ground := Ground.phase }, { on := 6, ground := Ground.phase }, { on := 7, ground := Ground.phase }, { on := 8, ground := Ground.phase }, { on := 9, ground := Ground.phase }, { on := 10, ground := Ground.phase }, { on := 11, ground := Ground.phase }], guard := none }) rfl (fun K hK => ?_) EachLast.nil
      go_simp
      refine hK.out _ _ (fun h => absurd rfl h) ?_
      try simp only [Act.put, List.setIfInBounds_toArray, List.set_cons_zero, List.set_cons_succ]
      refine wpLast_done (by kernel_rfl) ?_ _
      go_wp2_with fail
      go_ret
      exact ⟨rfl, HE.out _ HD8.out⟩
end Go.Proofs.Ytlbkacabcfeaiaa.Tl
