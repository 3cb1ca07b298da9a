/- Texts of one kind, put together: Of, Og, Oh. -/
import Derived.Test.YtlbkacabcfeaiaaZOA
import Derived.Test.YtlbkacabcfeaiaaZPA
import Derived.Laws.EntriesVeiled
import Derived.Test.YtlbkacabcfeaiaaAs
import Derived.Deep.QuietTactic
import Derived.BigQuiet
/- Patterns: what the program's Match needs of its code; the plain law of its loops. -/
namespace Go.Proofs.Ytlbkacabcfeaiaa.Tl
open Go.RowKit Mm
set_option linter.unusedVariables false
mutual
theorem cg_lk : (t : T) → (a : Nat) → ∀ s ∈ cg t a, s.lk = none ∨ ∃ tx n po d, s.lk = some (.leaf tx n po d) ∧ tx.length ≤ bd t
  | .leaf tx n p d, a => by
    intro s hs
    simp only [cg, List.mem_singleton] at hs
    subst hs
    exact .inr ⟨tx, n, p, d, rfl, by rw [bd]; omega⟩
  | .seq l, a => by rw [cg, bd]; exact fun s hs => (cgS_lk l a s hs).imp id fun ⟨tx, n, p, d, h1, h2⟩ => ⟨tx, n, p, d, h1, by omega⟩
  | .alt l, a => by rw [cg, bd]; exact fun s hs => (cgA_lk l a _ s hs).imp id fun ⟨tx, n, p, d, h1, h2⟩ => ⟨tx, n, p, d, h1, by omega⟩
  | .suf t c, a => by
    intro s hs
    have h1 : ∀ a, s ∈ cg t a → s.lk = none ∨ ∃ tx n po d, s.lk = some (.leaf tx n po d) ∧ tx.length ≤ bd (.suf t c) := fun a hs => (cg_lk t a s hs).imp id fun ⟨tx, n, p, d, h1, h2⟩ => ⟨tx, n, p, d, h1, by rw [bd]; omega⟩
    rw [cg] at hs
    by_cases h43 : c = 43
    · rw [if_pos h43] at hs
      by_cases h0 : (cg t a).length = 0
      · rw [if_pos h0] at hs; cases hs
      · rw [if_neg h0] at hs
        rcases List.mem_append.1 hs with hs | hs
        · exact h1 _ hs
        · rw [List.mem_singleton] at hs
          subst hs
          exact .inl rfl
    · rw [if_neg h43] at hs
      by_cases h42 : c = 42
      · rw [if_pos h42] at hs
        rcases List.mem_cons.1 hs with rfl | hs
        · exact .inl rfl
        rcases List.mem_append.1 hs with hs | hs
        · exact h1 _ hs
        · rw [List.mem_singleton] at hs
          subst hs
          exact .inl rfl
      · rw [if_neg h42] at hs
        rcases List.mem_cons.1 hs with rfl | hs
        · exact .inl rfl
        · exact h1 _ hs
theorem cgS_lk : (l : List T) → (a : Nat) → ∀ s ∈ cgS l a, s.lk = none ∨ ∃ tx n po d, s.lk = some (.leaf tx n po d) ∧ tx.length ≤ bdL l
  | [], a => by intro s hs; rw [cgS] at hs; cases hs
  | t :: l, a => by
    intro s hs
    rw [cgS] at hs
    rw [bdL]
    rcases List.mem_append.1 hs with hs | hs
    · exact (cg_lk t a s hs).imp id fun ⟨tx, n, p, d, h1, h2⟩ => ⟨tx, n, p, d, h1, by omega⟩
    · exact (cgS_lk l _ s hs).imp id fun ⟨tx, n, p, d, h1, h2⟩ => ⟨tx, n, p, d, h1, by omega⟩
theorem cgA_lk : (l : List T) → (a e : Nat) → ∀ s ∈ cgA l a e, s.lk = none ∨ ∃ tx n po d, s.lk = some (.leaf tx n po d) ∧ tx.length ≤ bdL l
  | [], a, e => by intro s hs; rw [cgA] at hs; cases hs
  | t :: l, a, e => by
    intro s hs
    rw [cgA] at hs
    have h1 : ∀ a, s ∈ cg t a → s.lk = none ∨ ∃ tx n po d, s.lk = some (.leaf tx n po d) ∧ tx.length ≤ bdL (t :: l) := fun a hs => (cg_lk t a s hs).imp id fun ⟨tx, n, p, d, h1, h2⟩ => ⟨tx, n, p, d, h1, by rw [bdL]; omega⟩
    by_cases hl : l.isEmpty = true
    · rw [if_pos hl] at hs
      exact h1 _ hs
    · rw [if_neg hl] at hs
      rcases List.mem_cons.1 hs with rfl | hs
      · exact .inl rfl
      rcases List.mem_append.1 hs with hs | hs
      · exact h1 _ hs
      rcases List.mem_cons.1 hs with rfl | hs
      · exact .inl rfl
      · exact (cgA_lk l _ e s hs).imp id fun ⟨tx, n, p, d, h1, h2⟩ => ⟨tx, n, p, d, h1, by rw [bdL]; omega⟩
end
theorem whC_len (t : T) : (whC t).length = (cg t 0).length + 1 := by unfold whC; simp
theorem whC_em (t : T) : em t [] ++ [endSp] = whC t := by rw [em_cg]; rfl
theorem whC_mem {t : T} {p : Nat} {s : Sp} (h : (whC t)[p]? = some s) : (p = (cg t 0).length ∧ s = ⟨none, 0, 0, true⟩) ∨ (p < (cg t 0).length ∧ s ∈ cg t 0) := by
  have hp := (List.getElem?_eq_some_iff.1 h).1
  rw [whC_len] at hp
  by_cases he : p = (cg t 0).length
  · subst he
    rw [whC_end] at h
    cases h
    exact .inl ⟨rfl, rfl⟩
  · have hlt : p < (cg t 0).length := by omega
    unfold whC at h
    rw [List.getElem?_append_left hlt] at h
    exact .inr ⟨hlt, List.mem_of_getElem? h⟩
theorem whC_ok {t : T} (hb : bd t ≤ 20000) : CodeOk (whC t) := by
  have hl := em_len t []
  rw [em_cg] at hl
  simp only [List.nil_append, List.length_nil] at hl
  refine ⟨by rw [whC_len]; omega, fun p s hs hk => ?_, fun p s hs => ?_, fun p s hs hk => ?_⟩
  · rw [whC_len]
    rcases whC_mem hs with ⟨_, rfl⟩ | ⟨_, hm⟩
    · cases hk
    · have := cg_tgt t 0 s hm
      omega
  · rcases whC_mem hs with ⟨_, rfl⟩ | ⟨_, hm⟩
    · exact .inl rfl
    · exact (cg_lk t 0 s hm).imp id fun ⟨tx, n, p, d, h1, h2⟩ => ⟨tx, n, p, d, h1, by omega⟩
  · rw [whC_len]
    rcases whC_mem hs with ⟨_, rfl⟩ | ⟨h1, hm⟩
    · cases hk
    · omega
theorem whC_dn {t : T} {p : Nat} {s : Sp} (h : (whC t)[p]? = some s) (hd : s.dn = true) : p = (cg t 0).length := by
  rcases whC_mem h with ⟨h1, _⟩ | ⟨_, hm⟩
  · exact h1
  · have := (cg_tgt t 0 s hm).2.2
    rw [hd] at this
    cases this
/-- a pattern's code in memory -/
theorem Pat.cod {w : World} {B : Nat} {t : T} {v : Value} (h : Pat w B t v) : ∃ g gc cc z, v = .pointer (some ⟨g, 0, none⟩) ∧ Cod w g gc cc z (whC t) := by
  obtain ⟨g, cs, rfl, _, hg, hb, hr⟩ := h.pat
  rw [whC_em] at hr
  have hl := whC_len t
  obtain ⟨gc, cc, rfl, _, _, hgl, hc⟩ := own_at hr (by omega)
  refine ⟨g, gc, cc, str (txt t), rfl, hb, hgl, fun p s hs => ?_⟩
  obtain ⟨h0, h1, h2, h3⟩ := spC_get hs
  exact ⟨hc _ _ h0, hc _ _ h1, hc _ _ h2, hc _ _ h3⟩
/-! The loops. -/
/-- where the machine goes on with a name, from the first j of the stops -/
def Nj (D : List Sp) (L : List Nat) (j : Nat) (x : List UInt8) (q : Nat) : Prop := ∃ k p s t, k < j ∧ L[k]? = some p ∧ q = p + 1 ∧ D[p]? = some s ∧ s.lk = some t ∧ lkB t x = true
structure Cj (D : List Sp) (L : List Nat) (j : Nat) (x : List UInt8) (f : Nat → Bool) : Prop where
  has : ∀ q, Nj D L j x q → f q = true
  no : ∀ q, f q = true → ∃ p, Nj D L j x p ∧ Star (ESt D) p q
section
variable {D : List Sp} {L : List Nat} {j : Nat} {x : List UInt8} {f f' : Nat → Bool}
theorem cj_zero (D : List Sp) (L : List Nat) (x : List UInt8) : Cj D L 0 x (fun _ => false) := ⟨fun q ⟨k, _, _, _, h, _⟩ => by omega, fun q h => by cases h⟩
theorem nj_mono {q : Nat} (h : Nj D L j x q) : Nj D L (j + 1) x q := by
  obtain ⟨k, p, s, t, h1, h2⟩ := h
  exact ⟨k, p, s, t, by omega, h2⟩
theorem nj_split {q : Nat} (h : Nj D L (j + 1) x q) : Nj D L j x q ∨ ∃ p s t, L[j]? = some p ∧ q = p + 1 ∧ D[p]? = some s ∧ s.lk = some t ∧ lkB t x = true := by
  obtain ⟨k, p, s, t, h1, h2⟩ := h
  rcases Nat.lt_succ_iff_lt_or_eq.1 h1 with h | rfl
  · exact .inl ⟨k, p, s, t, h, h2⟩
  · exact .inr ⟨p, s, t, h2⟩
theorem cj_skip {p : Nat} {s : Sp} (h : Cj D L j x f) (hp : L[j]? = some p) (hs : D[p]? = some s) (hn : ∀ t, s.lk = some t → lkB t x = false) : Cj D L (j + 1) x f := by
  refine ⟨fun q hq => ?_, fun q hq => ?_⟩
  · rcases nj_split hq with h1 | ⟨p', s', t, h1, h2, h3, h4, h5⟩
    · exact h.has q h1
    · rw [hp] at h1
      cases h1
      rw [hs] at h3
      cases h3
      rw [hn t h4] at h5
      cases h5
  · obtain ⟨p', h1, h2⟩ := h.no q hq
    exact ⟨p', nj_mono h1, h2⟩
theorem cj_take {p : Nat} {s : Sp} {t : T} (h : Cj D L j x f) (hp : L[j]? = some p) (hs : D[p]? = some s) (ht : s.lk = some t) (hk : lkB t x = true) (h1 : ∀ q, f q = true → f' q = true) (h2 : f' (p + 1) = true) (h3 : ∀ q, f' q = true → f q = true ∨ Star (ESt D) (p + 1) q) : Cj D L (j + 1) x f' := by
  refine ⟨fun q hq => ?_, fun q hq => ?_⟩
  · rcases nj_split hq with h4 | ⟨p', s', t', h4, rfl, h6⟩
    · exact h1 q (h.has q h4)
    · rw [hp] at h4
      cases h4
      exact h2
  · rcases h3 q hq with h4 | h4
    · obtain ⟨p', h5, h6⟩ := h.no q h4
      exact ⟨p', nj_mono h5, h6⟩
    · exact ⟨p + 1, ⟨j, p, s, t, Nat.lt_succ_self j, hp, rfl, hs, ht, hk⟩, h4⟩
theorem cj_done {n : Nat} {f0 : Nat → Bool} {ns : List (List UInt8)} {i m0 : Nat} (h0 : Ms D f0 L m0) (hM : ∀ p, f0 p = true ↔ At D ns i p) (hx : ns[i]? = some x) (hc : Clo D f) (h : Cj D L L.length x f) (p : Nat) : f p = true ↔ At D ns (i + 1) p := by
  refine cls_next (M := fun p => f0 p = true) (M' := fun p => f p = true) hM hx ⟨fun q hq => ?_, fun a b ha hb => hc a b ha hb, fun q hq => ?_⟩ p
  · obtain ⟨p, s, t, rfl, h1, h2, h3, h4⟩ := hq
    have hm : p ∈ L := (h0.st p).2 ⟨h1, s, h2, by unfold isStop; rw [h3]; rfl⟩
    obtain ⟨k, hk⟩ := List.mem_iff_getElem?.1 hm
    exact h.has _ ⟨k, p, s, t, (List.getElem?_eq_some_iff.1 hk).1, hk, rfl, h2, h3, h4⟩
  · obtain ⟨p, ⟨k, p', s, t, h1, h2, rfl, h4, h5, h6⟩, hs⟩ := h.no q hq
    exact ⟨p' + 1, ⟨p', s, t, rfl, ((h0.st p').1 (List.mem_of_getElem? h2)).1, h4, h5, h6⟩, hs⟩
theorem first_at {m : Nat} (hm : Ms D f L m) (h2 : f 0 = true) (h3 : ∀ q, f q = true → Star (ESt D) 0 q) {ns : List (List UInt8)} (p : Nat) : f p = true ↔ At D ns 0 p :=
  cls_zero (M := fun p => f p = true) ⟨fun q hq => by subst hq; exact h2, fun a b ha hb => hm.clo a b ha hb, fun q hq => ⟨0, rfl, h3 q hq⟩⟩ p
end
theorem acc_yes {t : T} (hf : fine t = true) {ns : List (List UInt8)} {i p m : Nat} {f : Nat → Bool} {L : List Nat} {s : Sp} (hm : Ms (whC t) f L m) (hM : ∀ p, f p = true ↔ At (whC t) ns i p) (hp : p ∈ L) (hs : (whC t)[p]? = some s) (hd : s.dn = true) : Mt ns t 0 i := by
  have h1 := ((hm.st p).1 hp).1
  rw [whC_dn hs hd] at h1
  exact (acc_iff hf ns i).1 ((hM _).1 h1)
theorem acc_no {t : T} (hf : fine t = true) {ns : List (List UInt8)} {i m : Nat} {f : Nat → Bool} {L : List Nat} (hm : Ms (whC t) f L m) (hM : ∀ p, f p = true ↔ At (whC t) ns i p) (hn : ∀ (k p : Nat) (s : Sp), L[k]? = some p → (whC t)[p]? = some s → s.dn = false) : ¬ Mt ns t 0 i := by
  intro h
  have h1 := (hM _).2 ((acc_iff hf ns i).2 h)
  have h2 : (cg t 0).length ∈ L := (hm.st _).2 ⟨h1, _, whC_end t, rfl⟩
  obtain ⟨k, hk⟩ := List.mem_iff_getElem?.1 h2
  have := hn k _ _ hk (whC_end t)
  cases this
/-- another row beside a call of follow -/
theorem Fo.row {W X : World} {b bm n l m B s : Nat} {e t : TypeId} {av0 av wv : Value} {cs : Array Value} {xs : List Value} {R : Value → Option (DataW Unit × List MemPlace)} {D : DataW Unit} {k : TypeId} (h : Fo W b bm av0 X av) (hr : W.ownsRow B e s wv l xs) (hb : Blk W b t cs) (hne : e ≠ t) (hm : W.ownsMap Try.prog k R bm m D) (ha : Apart av0 wv) : X.ownsRow B e s wv l xs ∧ Apart av wv := by
  constructor
  · refine ⟨hr.1, ?_⟩
    rcases hr.2 with h0 | ⟨g, cap, cur, hv, hbg, hc, rest⟩
    · exact .inl h0
    · refine .inr ⟨g, cap, cur, hv, hbg, ?_, rest⟩
      have hv2 : wv.ownBlock = some g := by rw [hv]; rfl
      rw [h.same g (Array.getElem?_eq_some_iff.1 hc).1 (fun e => row_blk hr hb hne (by rw [hv2, e])) (fun e => row_map hr hm (by rw [hv2, e])) ?_]
      · exact hc
      · intro e
        rcases ha with ha | ha
        · rw [ha] at e; cases e
        · exact ha (by rw [e, hv2])
  · unfold Apart
    cases hv : av.ownBlock with
    | none => exact .inl rfl
    | some g =>
      refine .inr fun e => ?_
      rcases h.avb g hv with h1 | h1
      · rcases ha with ha | ha
        · rw [ha] at h1; cases h1
        · exact ha (by rw [h1, e])
      · have := (own_ty hr e.symm).2.1
        omega
end Go.Proofs.Ytlbkacabcfeaiaa.Tl
/- Patterns: the program's Match. Printed by mkmat.py. -/
namespace Go.Proofs.Ytlbkacabcfeaiaa.Tl
open Go.RowKit Mm
open Go.Maps (Keyed)
set_option linter.unusedVariables false
theorem iv_at {l : List Nat} {k : Nat} (h : k < l.length) : (iv l)[k]? = some (.int .i64 (l[k] : Int)) := by simp [iv, h]
theorem ms_zero (D : List Sp) : Ms D (fun _ => false) [] 0 := by
  refine ⟨fun x y h _ => ?_, fun y => ?_, ?_, ?_⟩
  · cases h
  · constructor
    · intro h; cases h
    · intro h; cases h.1
  · have := unm_le D.length (fun _ => false)
    rw [List.length_nil, Nat.zero_add]
    exact this
  · have := unm_le D.length (fun _ => false)
    rw [Nat.zero_add]
    exact this
theorem th_start (w : World) : Th w (w.heap.size + 1) w.heap.size ((w.alloc (.map #[] 0)).alloc (.cells #[.slice none 0 0, .map (some w.heap.size)] 74)) (fun _ => false) [] (.slice none 0 0) 0 := by
  have hb := Blk.new (w.alloc (.map #[] 0)) 74 #[.slice none 0 0, .map (some w.heap.size)]
  rw [World.size_alloc] at hb
  exact ⟨bal (bal (Below.refl w.heap.size w) _) _, hb, World.ownsRow_nil _ _ _ _, ⟨.map [], (World.ownsMap_made w Try.prog 3 (plainElem Try.prog 3)).alloc _, mk_nil⟩, by omega, Nat.le_refl _⟩
/-- the row is taken out, the marks are cleared -/
theorem Th.fresh {w0 X Y : World} {b bm n : Nat} {f : Nat → Bool} {L : List Nat} {av : Value} (h : Th w0 b bm X f L av n) (hm : Y.ownsMap Try.prog 3 (plainElem (H := Unit) Try.prog 3) bm 0 (.map [])) (hg : (X.setCell ⟨b, 0, none⟩ (.slice none 0 0)).grownBy Y (some bm)) :
    Th w0 b bm Y (fun _ => false) [] (.slice none 0 0) 0 ∧ Y.ownsRow w0.heap.size 3 1 av L.length (iv L) := by
  obtain ⟨D, hm0, hD⟩ := h.map
  have hs := only_set X b 0 (.slice none 0 0)
  have hbel := bel_by h.bel hs h.lb h.bel.size
  have hb1 := h.blk.set_ 0 (.slice none 0 0)
  have hne := cells_map h.blk hm0
  have hr1 := own_not h.row hs (row_blk h.row h.blk (by decide))
  exact ⟨⟨bel_by hbel hg h.lm hbel.size, hb1.grown hg (fun e => hne (Option.some.inj e)), World.ownsRow_nil _ _ _ _, ⟨_, hm, mk_nil⟩, h.lb, h.lm⟩, own_not hr1 hg (row_map h.row hm0)⟩
set_option maxRecDepth 100000 in
set_option maxHeartbeats 8000000 in
theorem match_any {w : World} {B : Nat} {t : T} {v lv : Value} {names : List ByteArray} (hnl : names.length ≤ 300) (hns : ∀ s ∈ names, s.size ≤ 80) (h : Pat w B t v) (hb : bd t ≤ 20000) (hf : fine t = true) (hlv : Sees w lv (names.map Value.string)) :
    Calls Try.prog 13 #[v, lv] w fun e w' => ∃ b : Bool, e = .returned (.bool b) ∧ (b = true ↔ Mt (names.map (·.data.toList)) t 0 names.length) ∧ Below w.heap.size w w' := by
  obtain ⟨g, gc, cc, z, rfl, hC⟩ := h.cod
  have hD := whC_ok hb
  have hDl := whC_len t
  obtain ⟨D, hDe⟩ : ∃ D, D = whC t := ⟨_, rfl⟩
  have HYES := Lib.hid (show ∀ (m p : Nat) (f : Nat → Bool) (L : List Nat) (s : Sp), Ms D f L m → (∀ p, f p = true ↔ At D (names.map (·.data.toList)) names.length p) → p ∈ L → D[p]? = some s → s.dn = true → Mt (names.map (·.data.toList)) t 0 names.length from by rw [hDe]; exact fun m p f L s h1 h2 h3 h4 h5 => acc_yes hf h1 h2 h3 h4 h5)
  have HNO := Lib.hid (show ∀ (m : Nat) (f : Nat → Bool) (L : List Nat), Ms D f L m → (∀ p, f p = true ↔ At D (names.map (·.data.toList)) names.length p) → (∀ (k p : Nat) (s : Sp), L[k]? = some p → D[p]? = some s → s.dn = false) → ¬ Mt (names.map (·.data.toList)) t 0 names.length from by rw [hDe]; exact fun m f L h1 h2 h3 => acc_no hf h1 h2 h3)
  rw [← hDe] at hC hD hDl
  have hDp : 0 < D.length := by omega
  have hDI : ¬ (D.length : Int) = 0 := by omega
  have q1 := hC.blk.cell 1
  have hmm := @run_makeMap Try.prog
  have HFO := Lib.hid (fun (W : World) (b bm a0 : Nat) (f0 : Nat → Bool) (L0 : List Nat) (av0 : Value) (n0 : Nat) (h : Th w b bm W f0 L0 av0 n0) (hm : Ms D f0 L0 n0) (ha : a0 < D.length) => follow_any hD hC h hm ha)
  have HF0 := Lib.hid (HFO.out _ _ _ 0 _ _ _ _ (th_start w) (ms_zero D) hDp)
  have HC := Lib.hid hC
  have HD := Lib.hid hD
  have HSE := Lib.hid hlv
  obtain ⟨al, cl, hlv2, _⟩ := hlv
  rw [List.length_map] at hlv2
  subst hlv2
  have hDlen := hD.len
  clear h hb hf hDe hC hD hDl
  go_enter Try.func13, Try.ntmps13
  go_wp2_with fail
  refine HF0.out.mono ?_
  rintro e w2 ⟨rfl, f, L, av, m, hth, hms, _, _, hf2, hf3⟩
  have HT0 := Lib.hid hth
  have HM0 := Lib.hid hms
  have HA0 := Lib.hid (first_at (ns := names.map (·.data.toList)) hms hf2 (fun q hq => (hf3 q hq).resolve_left (fun e => by cases e)))
  clear hth hms hf2 hf3 HF0 q1 hmm
  go_wp2_with fail
  generalize w.heap.size + 1 = b at *
  generalize hbm : w.heap.size = bm at *
  rw [← hbm] at hbm
  go_loopw [30] (fun iv wr => ∃ (i : Nat) (f : Nat → Bool) (L : List Nat) (av : Value) (m : Nat), i ≤ names.length ∧ iv = .int .i64 (i : Int) ∧ Th w b bm wr f L av m ∧ Ms D f L m ∧ ∀ p, f p = true ↔ At D (names.map (·.data.toList)) i p) (fun iv _ => names.length - (intOf iv).toNat)
  case atStart => exact ⟨0, f, L, av, m, Nat.zero_le _, rfl, HT0.out, HM0.out, HA0.out⟩
  case round =>
    clear HT0 HM0 HA0
    obtain ⟨i, f, L, av, m, hi, rfl, hth, hms, hat⟩ := hrel
    have hse := HSE.out.below hth.bel
    have b0 := hth.blk.cell 0
    have b1 := hth.blk.cell 1
    have g0 := hth.blk.frozen 0
    obtain ⟨aL, cL, hav⟩ := own_len hth.row
    subst hav
    have HTH := Lib.hid hth
    have HMS := Lib.hid hms
    have HAT := Lib.hid hat
    have hLl := hms.bl
    by_cases hlt : i < names.length
    · obtain ⟨gl, off, rfl, hgl, hsc⟩ : ∃ gl off, al = some ⟨gl, off, none⟩ ∧ gl < wr.heap.size ∧ ∀ j u, (names.map Value.string)[j]? = some u → wr.cell? ⟨gl, off + j, none⟩ = some u := by
        obtain ⟨a', cap', hv, _, _, _, hx⟩ := hse
        simp only [Value.slice.injEq] at hv
        obtain ⟨rfl, _, rfl⟩ := hv
        rcases hx with hx | ⟨gl, off, ha, h1, h2⟩
        · have : names = [] := List.map_eq_nil_iff.1 hx
          rw [this] at hlt
          simp at hlt
        · exact ⟨gl, off, ha, h1, h2⟩
      have cnm := hsc i (.string names[i]) (by simp [hlt])
      have hnm := hns names[i] (List.getElem_mem hlt)
      have hxs : (names.map (·.data.toList))[i]? = some names[i].data.toList := by simp [hlt]
      obtain ⟨Dm, hm, hDm⟩ := hth.map
      obtain ⟨w3, hcl, hm3, hg3⟩ := clear_run (ty := 0) (wr.setCell ⟨b, 0, none⟩ (.slice none 0 0)) Try.underlying71 (hm.kept (only_set wr b 0 (.slice none 0 0)) (fun e => cells_map hth.blk hm (Option.some.inj e).symm))
      have HT3 := Lib.hid (hth.fresh hm3 hg3).1
      have HR3 := Lib.hid (hth.fresh hm3 hg3).2
      have HX := Lib.hid hxs
      have HCD := Lib.hid (fun (f' : Nat → Bool) (h1 : Clo D f') (h2 : Cj D L L.length names[i].data.toList f') (p : Nat) => cj_done (n := 0) HMS.out HAT.out HX.out h1 h2 p)
      have hst : ∀ k p, L[k]? = some p → p < D.length := fun k p hk => by
        obtain ⟨_, s, hs, _⟩ := (hms.st p).1 (List.mem_of_getElem? hk)
        exact (List.getElem?_eq_some_iff.1 hs).1
      clear hse hsc hxs hth hms hat hm hDm hgl hm3 hg3
      generalize names[i] = nm at *
      go_wp2_with (first | (at_builtin; refine wpList_clear_own _ rfl _ _ rfl 3 3 Try.underlying71 _ bm m Dm rfl HM2.out ?_; intro w3 hm3 hg3; obtain ⟨HT3, HR3⟩ := HFR.out w3 hm3 hg3) | go_in)
      go_loopw [41] (fun jv wr => ∃ (j : Nat) (f' : Nat → Bool) (L' : List Nat) (av' : Value) (m' : Nat), j ≤ L.length ∧ jv = .int .i64 (j : Int) ∧ Th w b bm wr f' L' av' m' ∧ Ms D f' L' m' ∧ Cj D L j nm.data.toList f' ∧ wr.ownsRow w.heap.size 3 1 (.slice aL L.length cL) L.length (iv L) ∧ Apart av' (.slice aL L.length cL)) (fun jv _ => L.length - (intOf jv).toNat)
      case atStart => exact ⟨0, _, _, _, 0, Nat.zero_le _, rfl, HT3.out, ms_zero D, cj_zero D L _, HR3.out, .inl rfl⟩
      case round =>
        clear HT3 HR3
        obtain ⟨j, f1, L1, av1, m1, hj, rfl, hth1, hms1, hcj, hrow, hap⟩ := hrel
        by_cases hjl : j < L.length
        · obtain ⟨gL, cL2, hv2, _, _, hgL, hcl2⟩ := own_at hrow (by omega)
          simp only [Value.slice.injEq] at hv2
          obtain ⟨rfl, _, rfl⟩ := hv2
          have cp := hcl2 j _ (iv_at hjl)
          have hpj : L[j]? = some L[j] := List.getElem?_eq_getElem hjl
          have hpD := hst j _ hpj
          obtain ⟨s, hs⟩ : ∃ s, D[L[j]]? = some s := ⟨_, List.getElem?_eq_getElem hpD⟩
          generalize L[j] = p at *
          obtain ⟨x1, x2, x3, x4, x5⟩ := HC.out.at hth1.bel hs
          have HT1 := Lib.hid hth1
          have HM1 := Lib.hid hms1
          have HRW := Lib.hid hrow
          have HAP := Lib.hid hap
          have j0 : (0 : Int) ≤ (p : Int) := by omega
          have j1 : (p : Int) < (D.length : Int) := by omega
          have hpw : IntKind.i64.wrap (p : Int) = (p : Int) := IntWalk.i64_in _ (by omega)
          have hpw1 : IntKind.i64.wrap ((p : Int) + 1) = (p : Int) + 1 := IntWalk.i64_in _ (by omega)
          rcases HD.out.lk p s hs with hlk | ⟨tx, nn, po, d, hlk, htx⟩
          · have HJ := Lib.hid (cj_skip hcj hpj hs (fun t ht => by rw [hlk] at ht; cases ht))
            rw [hlk] at x2
            dsimp only [lkV] at x2
            have hA := (Below.refl _ wr).alloc (Nat.le_refl _) (.cells #[.nilFunc, .int .i64 (s.nx : Int), .int .i64 (s.ot : Int), .bool s.dn] 64)
            have HT2 := Lib.hid (hth1.on hA)
            have HR2 := Lib.hid (own_below hrow hA (Nat.le_refl _))
            have hbn := bn_nil (wr.alloc (.cells #[.nilFunc, .int .i64 (s.nx : Int), .int .i64 (s.ot : Int), .bool s.dn] 64))
            clear hth1 hms1 hcj hrow hap hcl2 hs hpj hpD hA
            go_wp2_with fail
            go_roundw
            case rel => exact ⟨j + 1, f1, L1, av1, m1, by omega, by go_num, HT2.out, HM1.out, HJ.out, HR2.out, HAP.out⟩
            case measure => simp [intOf]; omega
          · have hnxt := HD.out.nxt p s hs (by rw [hlk]; rfl)
            have HJN := Lib.hid (fun (hv : lkB (.leaf tx nn po d) nm.data.toList = false) => cj_skip hcj hpj hs (fun t ht => by rw [hlk] at ht; cases ht; exact hv))
            have HJY := Lib.hid (fun (hv : lkB (.leaf tx nn po d) nm.data.toList = true) (f' : Nat → Bool) => cj_take (f' := f') hcj hpj hs hlk hv)
            rw [hlk] at x2
            dsimp only [lkV] at x2
            have hA := (Below.refl _ wr).alloc (Nat.le_refl _) (.cells #[.func (.func 72) #[.agg #[.string (str tx), .bool nn, .bool po, .bool d]] #[], .int .i64 (s.nx : Int), .int .i64 (s.ot : Int), .bool s.dn] 64)
            have HT2 := Lib.hid (hth1.on hA)
            have HR2 := Lib.hid (own_below hrow hA (Nat.le_refl _))
            have hbn := bn_fun (wr.alloc (.cells #[.func (.func 72) #[.agg #[.string (str tx), .bool nn, .bool po, .bool d]] #[], .int .i64 (s.nx : Int), .int .i64 (s.ot : Int), .bool s.dn] 64)) (.func 72) #[.agg #[.string (str tx), .bool nn, .bool po, .bool d]] #[]
            have HLK := Lib.hid (fun (X : World) => likes_any tx nn po d nm htx (by omega) X)
            clear hth1 hms1 hcj hrow hap hcl2 hs hpj hpD hA
            go_wp2_with fail
            refine (HLK.out _).mono ?_
            rintro e w5 ⟨rfl, hb5⟩
            have HT5 := Lib.hid (HT2.out.on hb5)
            have HR5 := Lib.hid (own_below HR2.out hb5 (Nat.le_refl _))
            clear hb5 hbn
            cases hv : lkB (.leaf tx nn po d) nm.data.toList with
            | false =>
              have HJ := Lib.hid (HJN.out hv)
              clear HJN HJY
              go_wp2_with fail
              go_roundw
              case rel => exact ⟨j + 1, f1, L1, av1, m1, by omega, by go_num, HT5.out, HM1.out, HJ.out, HR5.out, HAP.out⟩
              case measure => simp [intOf]; omega
            | true =>
              have HJ := Lib.hid (HJY.out hv)
              clear HJN HJY
              have hp1 : (p : Int) + 1 = ((p + 1 : Nat) : Int) := by omega
              have HF6 := Lib.hid (HFO.out w5 b bm (p + 1) f1 L1 av1 m1 HT5.out HM1.out hnxt)
              rw [← hp1] at HF6
              clear hp1
              go_wp2_with fail
              refine HF6.out.mono ?_
              rintro e w6 ⟨rfl, f2, L2, av2, m2, hth2, hms2, hfo2, hu1, hu2, hu3⟩
              obtain ⟨Dm2, hm2, _⟩ := HT5.out.map
              have hrw := hfo2.row (n := 0) HR5.out HT5.out.blk (by decide) hm2 HAP.out
              have HT6 := Lib.hid hth2
              have HM6 := Lib.hid hms2
              have HR6 := Lib.hid hrw
              have HJ6 := Lib.hid (HJ.out f2 hu1 hu2 hu3)
              clear hth2 hms2 hfo2 hu1 hu2 hu3 hm2 hrw HF6
              go_wp2_with fail
              go_roundw
              case rel => exact ⟨j + 1, f2, L2, av2, m2, by omega, by go_num, HT6.out, HM6.out, HJ6.out, HR6.out.1, HR6.out.2⟩
              case measure => simp [intOf]; omega
        · obtain rfl : j = L.length := by omega
          have HA2 := Lib.hid (HCD.out f1 hms1.clo hcj)
          have HT1 := Lib.hid hth1
          have HM1 := Lib.hid hms1
          clear hth1 hms1 hcj hrow hap
          go_wp2_with fail
          go_roundw
          case rel => exact ⟨i + 1, f1, L1, av1, m1, by omega, by go_num, HT1.out, HM1.out, HA2.out⟩
          case measure => simp [intOf]; omega
    · obtain rfl : i = names.length := by omega
      have hrow := hth.row
      have hst : ∀ k p, L[k]? = some p → p < D.length := fun k p hk => by
        obtain ⟨_, s, hs, _⟩ := (hms.st p).1 (List.mem_of_getElem? hk)
        exact (List.getElem?_eq_some_iff.1 hs).1
      have HY := Lib.hid (fun (p : Nat) (s : Sp) => HYES.out m p f L s hms hat)
      have HN := Lib.hid (HNO.out m f L hms hat)
      have HRW := Lib.hid hrow
      clear hth hms hat hse hrow HYES HNO
      go_wp2_with fail
      go_loopw [70] (fun kv Y => ∃ k : Nat, k ≤ L.length ∧ kv = .int .i64 (k : Int) ∧ Y = wr ∧ ∀ (k' p : Nat) (s : Sp), k' < k → L[k']? = some p → D[p]? = some s → s.dn = false) (fun kv _ => L.length - (intOf kv).toNat)
      case atStart => exact ⟨0, Nat.zero_le _, rfl, rfl, fun k' p s h => by omega⟩
      case round =>
        obtain ⟨k, hk, rfl, rfl, hno⟩ := hrel
        by_cases hkl : k < L.length
        · obtain ⟨gL, cL2, hv2, _, _, hgL, hcl2⟩ := own_at HRW.out (by omega)
          simp only [Value.slice.injEq] at hv2
          obtain ⟨rfl, _, rfl⟩ := hv2
          have cp := hcl2 k _ (iv_at hkl)
          have hpk : L[k]? = some L[k] := List.getElem?_eq_getElem hkl
          have hpm : L[k] ∈ L := List.getElem_mem hkl
          have hpD := hst k _ hpk
          obtain ⟨s, hs⟩ : ∃ s, D[L[k]]? = some s := ⟨_, List.getElem?_eq_getElem hpD⟩
          have HST := Lib.hid (fun (hd : s.dn = false) => (show ∀ (k' p : Nat) (s : Sp), k' < k + 1 → L[k']? = some p → D[p]? = some s → s.dn = false from fun k' p' s' h1 h2 h3 => by
            rcases Nat.lt_succ_iff_lt_or_eq.1 h1 with h | rfl
            · exact hno k' p' s' h h2 h3
            · rw [hpk] at h2
              cases h2
              rw [hs] at h3
              cases h3
              exact hd))
          have HYS := Lib.hid (HY.out L[k] s hpm hs)
          generalize L[k] = p at *
          obtain ⟨x1, x2, x3, x4, x5⟩ := HC.out.at HTH.out.bel hs
          have j0 : (0 : Int) ≤ (p : Int) := by omega
          have j1 : (p : Int) < (D.length : Int) := by omega
          have hpw : IntKind.i64.wrap (p : Int) = (p : Int) := IntWalk.i64_in _ (by omega)
          clear hcl2 hno hst hpk hpm hs hpD HY HN x2 x3 x4
          cases hdn : s.dn with
          | false =>
            rw [hdn] at x5
            have HS2 := Lib.hid (HST.out hdn)
            go_wp2_with fail
            go_roundw
            case rel => exact ⟨k + 1, by omega, by go_num, by trivial, HS2.out⟩
            case measure => simp [intOf]; omega
          | true =>
            rw [hdn] at x5
            have HY2 := Lib.hid (HYS.out hdn)
            go_wp2_with fail
            go_ret
            exact ⟨true, rfl, ⟨fun _ => HY2.out, fun _ => rfl⟩, HTH.out.bel⟩
        · obtain rfl : k = L.length := by omega
          have HN2 := Lib.hid (HN.out (fun k p s h1 h2 => hno k p s (List.getElem?_eq_some_iff.1 h1).1 h1 h2))
          clear HN HY hno hst
          go_wp2_with fail
          go_ret
          exact ⟨false, rfl, ⟨fun h => (by cases h), fun h => (HN2.out h).elim⟩, HTH.out.bel⟩
/-- no pattern -/
theorem match_none (w : World) (lv : Value) : Calls Try.prog 13 #[.pointer none, lv] w fun e w' => e = .returned (.bool false) ∧ w = w' := by
  go_enter Try.func13, Try.ntmps13
  go_wp2_with fail
  go_ret
  exact ⟨rfl, rfl⟩
end Go.Proofs.Ytlbkacabcfeaiaa.Tl
/- Patterns: the statement's own lists of names: names, listed, sameTexts. -/
namespace Go.Proofs.Ytlbkacabcfeaiaa.Tl
open Go.RowKit Mm
set_option linter.unusedVariables false
abbrev behind : ByteArray := ⟨#[98, 101, 104, 105, 110, 100]⟩
set_option maxRecDepth 100000 in
set_option maxHeartbeats 4000000 in
theorem names_any (l : List ByteArray) (v : Value) (w : World) (hS : Sees w v (sC l)) (hsz : ∀ x ∈ l, x.size ≤ 140737488355328) :
    Calls Try.prog 11 #[v] w fun e w' => ∃ b : Bool, e = .returned (.bool b) ∧ (b = true ↔ l.length ≤ 300 ∧ ∀ x ∈ l, x.size ≤ 80) ∧ w = w' := by
  obtain ⟨a, cap, rfl, _, hc, hm, hx⟩ := hS
  rw [sC_len] at hc ⊢
  unfold maxLen at hm
  have HX := Lib.hid hx
  clear hx
  by_cases hl : 300 < l.length
  · have hlI : (300 : Int) < (l.length : Int) := by omega
    go_enter Try.func11, Try.ntmps11
    go_wp2_with fail
    go_ret
    exact ⟨false, rfl, ⟨fun h => (by cases h), fun h => (by omega)⟩, rfl⟩
  · have hlI : ¬ (300 : Int) < (l.length : Int) := by omega
    go_enter Try.func11, Try.ntmps11
    go_wp2_with fail
    go_loopw [3] (fun iv wr => ∃ k : Nat, k ≤ l.length ∧ iv = .int .i64 (k : Int) ∧ wr = w ∧ ∀ x ∈ l.take k, x.size ≤ 80) (fun iv _ => l.length - (intOf iv).toNat)
    case atStart => exact ⟨0, Nat.zero_le _, rfl, rfl, by simp⟩
    case round =>
      obtain ⟨k, hk, rfl, rfl, hall⟩ := hrel
      by_cases hlt : k < l.length
      · rcases HX.out with h0 | ⟨g, off, rfl, hg, hcell⟩
        · have := congrArg List.length h0
          rw [sC_len] at this
          rw [List.length_nil] at this
          omega
        · have ck := hcell k _ (sC_at (List.getElem?_eq_getElem hlt))
          have hz := hsz _ (List.getElem_mem hlt)
          have hmem : ∀ x ∈ l.take (k + 1), x ∈ l.take k ∨ x = l[k] := fun x hx => by
            rw [List.take_succ_eq_append_getElem hlt, List.mem_append, List.mem_singleton] at hx
            exact hx
          have HIN := Lib.hid (List.getElem_mem hlt)
          generalize l[k] = s at *
          clear hcell HX hsz
          by_cases hs : 80 < s.size
          · have hsI : (80 : Int) < (s.size : Int) := by omega
            go_wp2_with fail
            go_ret
            exact ⟨false, rfl, ⟨fun h => (by cases h), fun h => (by have := h.2 s HIN.out; omega)⟩, rfl⟩
          · have hsI : ¬ (80 : Int) < (s.size : Int) := by omega
            go_wp2_with fail
            go_roundw
            case rel =>
              refine ⟨k + 1, by omega, by go_num, by trivial, fun x hx => ?_⟩
              rcases hmem x hx with h | rfl
              · exact hall x h
              · omega
            case measure => simp [intOf]; omega
      · obtain rfl : k = l.length := by omega
        rw [List.take_length] at hall
        go_wp2_with fail
        go_ret
        exact ⟨true, rfl, ⟨fun _ => ⟨by omega, hall⟩, fun _ => rfl⟩, rfl⟩
/-- a list of the call's own with a word behind it -/
structure Li (w : World) (B : Nat) (v : Value) (l : List ByteArray) : Prop where
  row : ∃ g cap, v = .slice (some ⟨g, 0, none⟩) l.length cap ∧ w.ownsRow B 9 1 (.slice (some ⟨g, 0, none⟩) (l.length + 1) cap) (l.length + 1) (sC (l ++ [behind]))
theorem Li.sees {w : World} {B : Nat} {v : Value} {l : List ByteArray} (h : Li w B v l) : Sees w v (sC l) := by
  obtain ⟨g, cap, rfl, hr⟩ := h.row
  have h2 := own_fewer hr (k := l.length) (by omega) (by omega)
  have e : (sC (l ++ [behind])).take (l.length * 1) = sC l := by simp [sC]
  rw [e] at h2
  have h3 := Sees.of_own h2
  exact h3
theorem Li.below {w w' : World} {B : Nat} {v : Value} {l : List ByteArray} (h : Li w B v l) (hb : Below w.heap.size w w') : Li w' B v l := by
  obtain ⟨g, cap, hv, hr⟩ := h.row
  exact ⟨g, cap, hv, own_below hr hb (Nat.le_refl _)⟩
theorem append_zero {P : Program} (w : World) {t ty e : TypeId} {i : TypeInfo} (ht : P.underlying t = some (.slice e)) (hi : P.info? e = some i) (a : Option Addr) (cap : Nat) : (Builtin.append_ #[t, t] ty #[.slice none 0 0, .slice a 0 cap]).run P w = .ok (.slice none 0 0) w := by
  cases a <;> simp [Builtin.append_, run_underlying ht, sizeOf, typeInfo, hi, Builtin.lenOf, Builtin.firstCells, loadCells, loadCellsFrom]
theorem app_zero {w : World} {ops : Array Oper} {rest : List Oper} {o : Oper} {a : Act} {Q : Exit → Act → World → Prop} {x y : Operand} {ad : Option Addr} {cap : Nat}
    (hgd : o.guard = none) (ho : o.op = .call { callee := .builtin .append, args := #[x, y], argTypes := #[35, 35] }) (hs : a.eval x = .slice none 0 0) (hx : a.eval y = .slice ad 0 cap)
    (h : wpList Try.prog ops Q rest (a.put o.dst (.slice none 0 0)) w) : wpList Try.prog ops Q (o :: rest) a w := by
  obtain ⟨i0, hi, _⟩ := info_parts info_str
  refine wpList_plain hgd fun K hK => ?_
  have hrun := append_zero (ty := o.type) w Try.underlying35 hi ad cap
  unfold Oper.wp execOp
  simp only [ho, resolve, invoke, builtin, Sem.run_bind, Sem.run_pure, Result.andThen_ok, List.map_toArray, List.map_cons, List.map_nil, hs, hx, hrun]
  exact hK _ _ h
/-- all of a list onto nil -/
theorem app_all {l : List ByteArray} {w : World} {ops : Array Oper} {rest : List Oper} {o : Oper} {a : Act} {Q : Exit → Act → World → Prop} {x y : Operand} {g off cap : Nat}
    (hgd : o.guard = none) (ho : o.op = .call { callee := .builtin .append, args := #[x, y], argTypes := #[35, 35] }) (hs : a.eval x = .slice none 0 0) (hx : a.eval y = .slice (some ⟨g, off, none⟩) l.length cap) (hl : 0 < l.length) (hl2 : l.length ≤ 300)
    (hc : ∀ j u, (sC l)[j]? = some u → w.cell? ⟨g, off + j, none⟩ = some u)
    (h : ∀ v' w', w'.ownsRow w.heap.size 9 1 v' l.length (sC l) → Below w.heap.size w w' → wpList Try.prog ops Q rest (a.put o.dst v') w') : wpList Try.prog ops Q (o :: rest) a w := by
  obtain ⟨i0, hi, hz0, hz1, hz2⟩ := info_parts info_str
  refine wpList_append_keep w hgd x y 35 ho w.heap.size 9 i0 _ 1 16 Try.underlying35 hi hz0 hz1 hz2 rfl (by decide) (.slice none 0 0) 0 [] hs (World.ownsRow_nil _ _ _ _) ⟨g, off, none⟩ l.length cap (sC l) hx (by rw [sC_len]; omega) (fun j u hj => by have h1 := hc j u hj; by_cases h0 : j = 0 <;> simp_all [Addr.add])
    (by intro u hu; simp only [sC, List.mem_map] at hu; obtain ⟨s, _, rfl⟩ := hu; rfl) hl (by simp only [maxLen]; omega) (by omega) (Nat.le_refl _) (fun v2 w2 h2 h3 => h v2 w2 ?_ ?_)
  · rw [Nat.zero_add, List.nil_append] at h2
    exact h2
  · have hg := Keeps.by (v := .slice none 0 0) h3
    exact (Below.refl w.heap.size w).grown hg (Nat.le_refl _) (fun z hz => by cases hz)
/-- a text onto a row of texts -/
theorem app_str {B : Nat} {v : Value} {l : List ByteArray} {w : World} {s s0 : ByteArray} (hs0 : s0 = s) {ops : Array Oper} {rest : List Oper} {o : Oper} {a : Act} {Q : Exit → Act → World → Prop} {x y : Operand} {g : Nat}
    (hown : w.ownsRow B 9 1 v l.length (sC l)) (hgd : o.guard = none) (ho : o.op = .call { callee := .builtin .append, args := #[x, y], argTypes := #[35, 35] })
    (hs : a.eval x = v) (hx : a.eval y = .slice (some ⟨g, 0, none⟩) 1 1) (hg : g = w.heap.size) (hn : l.length ≤ 100000) (hB : B ≤ w.heap.size)
    (h : ∀ v' w', w'.ownsRow B 9 1 v' (l ++ [s]).length (sC (l ++ [s])) → Keeps (w.alloc (.cells #[.string s0] 9)) v v' w' → wpList Try.prog ops Q rest (a.put o.dst v') w') : wpList Try.prog ops Q (o :: rest) a (w.alloc (.cells #[.string s0] 9)) := by
  subst hg hs0
  obtain ⟨i0, hi, hz0, hz1, hz2⟩ := info_parts info_str
  refine wpList_append_keep _ hgd x y 35 ho B 9 i0 _ 1 16 Try.underlying35 hi hz0 hz1 hz2 rfl (by decide) v l.length _ hs (hown.alloc _) ⟨w.heap.size, 0, none⟩ 1 1 [.string s0] hx rfl (cells_new _ #[.string s0] _)
    (by simp [Value.oneCell']) (by decide) (by simp only [maxLen]; omega) (by omega) (by simp; omega) (fun v2 w2 h2 h3 => h v2 w2 ?_ h3)
  have e : sC (l ++ [s0]) = sC l ++ [.string s0] := by simp [sC]
  rw [List.length_append, e]
  exact h2
theorem keeps_below {w w' : World} {B n : Nat} {v v' : Value} {xs : List Value} {o : Obj} {e : TypeId} {s : Nat} (hown : w.ownsRow B e s v n xs) (hB : B ≤ w.heap.size) (hk : Keeps (w.alloc o) v v' w') : Below B w w' :=
  (Below.refl B w).grown (gtrans (World.grownBy_alloc w o _) hk.by) hB (fun z hz => (own_ty hown hz).1)
theorem Li.of {w : World} {B : Nat} {v : Value} {l : List ByteArray} (h : w.ownsRow B 9 1 v (l ++ [behind]).length (sC (l ++ [behind]))) : ∃ g cap, v = .slice (some ⟨g, 0, none⟩) (l.length + 1) cap ∧ l.length + 1 ≤ cap ∧ Li w B (.slice (some ⟨g, 0, none⟩) l.length cap) l := by
  rw [List.length_append, List.length_singleton] at h
  obtain ⟨g, cap, rfl, hc, _⟩ := own_at h (by omega)
  exact ⟨g, cap, rfl, hc, ⟨g, cap, rfl, h⟩⟩
set_option maxRecDepth 100000 in
set_option maxHeartbeats 4000000 in
theorem listed_any (l : List ByteArray) (v : Value) (w : World) (hS : Sees w v (sC l)) (hl : l.length ≤ 300) :
    Calls Try.prog 12 #[v] w fun e w' => ∃ v', e = .returned v' ∧ Li w' w.heap.size v' l ∧ Below w.heap.size w w' := by
  obtain ⟨a, cap, rfl, _, hc, hm, hx⟩ := hS
  rw [sC_len] at hc ⊢
  unfold maxLen at hm
  by_cases h0 : l = []
  · subst h0
    have HN := Lib.hid (show w.ownsRow w.heap.size 9 1 (.slice none 0 0) ([] : List ByteArray).length (sC []) from World.ownsRow_nil _ _ _ _)
    go_enter Try.func12, Try.ntmps12
    have HNB := Lib.hid (Nat.le_refl w.heap.size)
    have HB1 := Lib.hid (Below.refl w.heap.size w)
    go_wp2_with (first | (at_builtin; refine app_zero rfl rfl rfl rfl ?_) | (at_builtin; refine app_str (s := behind) rfl HN.out rfl rfl rfl rfl (by rfl) (by simp) HNB.out ?_; intro v2 w2 hr2 hk2; obtain ⟨g2, c2, rfl, hgc, hli⟩ := Li.of hr2; have HLI := Lib.hid hli; have HBL := Lib.hid (bnx HB1.out (keeps_below HN.out HNB.out hk2)); have hgi : (1 : Int) ≤ (c2 : Int) := (by simp only [List.length_nil] at hgc; omega); clear hr2 hk2 hli) | go_in)
    go_ret
    exact ⟨_, rfl, HLI.out, HBL.out⟩
  · have hpos : 0 < l.length := List.length_pos_iff.2 h0
    rcases hx with hx | ⟨g, off, rfl, hg, hcell⟩
    · have := congrArg List.length hx
      rw [sC_len, List.length_nil] at this
      omega
    have hl1 : l.length ≤ 100000 := by omega
    have HC := Lib.hid hcell
    clear hcell h0
    go_enter Try.func12, Try.ntmps12
    go_wp2_with (first | (at_builtin; refine app_all (l := l) rfl rfl rfl rfl hpos hl HC.out ?_; intro v1 w1 hr1 hb1; obtain ⟨a1, c1, rfl⟩ := own_len hr1; have HN := Lib.hid hr1; have HB1 := Lib.hid hb1; have HNB := Lib.hid hb1.size; clear hr1 hb1) | (at_builtin; refine app_str (s := behind) rfl HN.out rfl rfl rfl rfl (by rfl) hl1 HNB.out ?_; intro v2 w2 hr2 hk2; obtain ⟨g2, c2, rfl, hgc, hli⟩ := Li.of hr2; have HLI := Lib.hid hli; have HBL := Lib.hid (HB1.out.trans (keeps_below HN.out HNB.out hk2)); have hgi : (l.length : Int) ≤ (c2 : Int) := (by omega); clear hr2 hk2 hli) | go_in)
    go_ret
    exact ⟨_, rfl, HLI.out, HBL.out⟩
/-- the same list, and the word behind it -/
theorem same_texts_any (l : List ByteArray) (v mv : Value) (w : World) {B : Nat} (hS : Sees w v (sC l)) (hM : Li w B mv l) (hl : l.length ≤ 300) :
    Calls Try.prog 15 #[mv, v] w fun e w' => e = .returned (.bool true) ∧ Below w.heap.size w w' := by
  obtain ⟨a, cap, rfl, _, hc, hm, hx⟩ := hS
  rw [sC_len] at hc ⊢
  unfold maxLen at hm
  obtain ⟨g, c, rfl, hr⟩ := hM.row
  obtain ⟨g', c', hv, hcap, _, hg, hcell⟩ := own_at hr (by omega)
  simp only [Value.slice.injEq, Option.some.injEq, Addr.mk.injEq] at hv
  obtain ⟨⟨rfl, _⟩, _, rfl⟩ := hv
  have cb : ∀ X, Below w.heap.size w X → X.cell? ⟨g, l.length, none⟩ = some (.string behind) := fun X hb => (Below.cell hb (p := ⟨g, l.length, none⟩) hg).trans (hcell _ _ (sC_at (by simp)))
  have HX := Lib.hid hx
  have HCE := Lib.hid hcell
  have HCB := Lib.hid cb
  have hci : (l.length : Int) + 1 ≤ (c : Int) := by omega
  clear hx hcell cb hr hM
  go_enter Try.func15, Try.ntmps15
  go_wp2_with fail
  go_loopw [5] (fun iv wr => ∃ k : Nat, k ≤ l.length ∧ iv = .int .i64 (k : Int) ∧ Below w.heap.size w wr) (fun iv _ => l.length - (intOf iv).toNat)
  case atStart => exact ⟨0, Nat.zero_le _, rfl, Below.refl _ w⟩
  case round =>
    obtain ⟨k, hk, rfl, hb⟩ := hrel
    by_cases hlt : k < l.length
    · rcases HX.out with h0 | ⟨g2, off, rfl, hg2, hcell⟩
      · have := congrArg List.length h0
        rw [sC_len, List.length_nil] at this
        omega
      · have ck := (Below.cell hb (p := ⟨g2, off + k, none⟩) hg2).trans (hcell k _ (sC_at (List.getElem?_eq_getElem hlt)))
        have cm := (Below.cell hb (p := ⟨g, k, none⟩) hg).trans (HCE.out k _ (sC_at (by rw [List.getElem?_append_left hlt]; exact List.getElem?_eq_getElem hlt)))
        have HB := Lib.hid hb
        have i0 : (0 : Int) ≤ (k : Int) := by omega
        have i1 : (k : Int) < (l.length : Int) := by omega
        have hkw : IntKind.i64.wrap (k : Int) = (k : Int) := IntWalk.i64_in _ (by omega)
        generalize l[k] = s at *
        clear hcell hb
        go_wp2_with (go_quiet (fail))
        exact ⟨⟨k + 1, by omega, by go_num, below_drewN HB.out _⟩, by simp [intOf]; omega⟩
    · obtain rfl : k = l.length := by omega
      have hcb := HCB.out wr hb
      have HB := Lib.hid hb
      clear hb
      go_wp2_with fail
      go_ret
      exact ⟨rfl, HB.out⟩
end Go.Proofs.Ytlbkacabcfeaiaa.Tl
