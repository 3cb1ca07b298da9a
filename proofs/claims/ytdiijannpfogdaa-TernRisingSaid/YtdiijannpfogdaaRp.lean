/- Plain law of TernRising: Members rises, is in the cube, leaves none out. No program in sight. -/
import Derived.Test.YtdiijannpfogdaaMs
import Derived.Test.YtdiijannpfogdaaLq
namespace Go.Proofs.Ytdiijannpfogdaa.Tn
open Go.RowKit
open Go.Op (bytesLess)
theorem less_at : ∀ (x y : List UInt8) (p : Nat), x.length = y.length → p < x.length → (∀ j, j < p → byt x j = byt y j) → byt x p < byt y p → bytesLess x y = true := by
  intro x
  induction x with
  | nil => intro y p _ hp; simp at hp
  | cons a x ih =>
    intro y p hl hp hs hlt
    cases y with
    | nil => simp at hl
    | cons b y =>
      unfold bytesLess
      cases p with
      | zero =>
        have : a < b := by simpa [byt] using hlt
        simp [this]
      | succ p =>
        have h0 : a = b := by simpa [byt] using hs 0 (by omega)
        have := ih y p (by simpa using hl) (by simpa using hp) (fun j hj => by simpa [byt] using hs (j + 1) (by omega)) (by simpa [byt] using hlt)
        simp [h0, this]
theorem less_self : ∀ x : List UInt8, bytesLess x x = false := by
  intro x
  induction x with
  | nil => rfl
  | cons a x ih => unfold bytesLess; simp [ih]
theorem less_asym : ∀ x y : List UInt8, bytesLess x y = true → bytesLess y x = false := by
  intro x
  induction x with
  | nil => intro y _; cases y <;> rfl
  | cons a x ih =>
    intro y h
    cases y with
    | nil => simp [bytesLess] at h
    | cons b y =>
      unfold bytesLess at h ⊢
      simp only [Bool.or_eq_true, decide_eq_true_eq, Bool.and_eq_true, beq_iff_eq] at h
      rcases h with h | ⟨h, h2⟩
      · have h1 : ¬ b < a := by rw [UInt8.lt_iff_toNat_lt] at h ⊢; omega
        have h2 : b ≠ a := by rintro rfl; rw [UInt8.lt_iff_toNat_lt] at h; omega
        simp [h1, h2]
      · subst h
        simp [ih y h2]
/-- a header that is in the cube -/
def Agr (c o : Nat → Bool) (n : Nat) (h : Nat → Bool) : Prop := ∀ i, i < n → c i = true → h i = o i
theorem Agr.next {c o : Nat → Bool} {n : Nat} {h h' : Nat → Bool} (a : Agr c o n h) (hn : nextF c n h = some h') : Agr c o n h' := by
  obtain ⟨i, x⟩ := next_some hn
  intro j hj hc
  rw [x.care j hc]
  exact a j hj hc
theorem hdr_less {h h' : Nat → Bool} {n p : Nat} (hp : p < n) (hs : ∀ j, j < p → h' j = h j) (h0 : h p = false) (h1 : h' p = true) : bytesLess (hdr n h) (hdr n h') = true := by
  refine less_at _ _ p (by simp [hdr_len]) (by simpa [hdr_len] using hp) (fun j hj => ?_) ?_
  · rw [hdr_at _ _ _ (by omega), hdr_at _ _ _ (by omega), hs j hj]
  · rw [hdr_at _ _ _ hp, hdr_at _ _ _ hp, h0, h1]; decide
theorem next_hdr_less {c : Nat → Bool} {n : Nat} {h h' : Nat → Bool} (hn : nextF c n h = some h') : bytesLess (hdr n h) (hdr n h') = true := by
  obtain ⟨i, x⟩ := next_some hn
  exact hdr_less x.lt x.below x.h0 x.h1
/-- each text of the list is a cube's header; each is less than the one behind it -/
theorem mem_agr {c o : Nat → Bool} {n : Nat} (N : Nat) : ∀ {h : Nat → Bool}, 2 ^ n - vlu h n ≤ N → Agr c o n h → ∀ x ∈ memT c n h, ∃ g, Agr c o n g ∧ x = hdr n g := by
  induction N with
  | zero => intro h hN; have := vlu_lt h n; omega
  | succ N ih =>
    intro h hN ha x hx
    cases hn : nextF c n h with
    | none => rw [memT_none hn] at hx; exact ⟨h, ha, by simpa using hx⟩
    | some h' =>
      rw [memT_some hn] at hx
      rcases List.mem_cons.1 hx with rfl | hx
      · exact ⟨h, ha, rfl⟩
      · exact ih (by have := next_less hn; omega) (ha.next hn) x hx
theorem mem_rise {c : Nat → Bool} {n : Nat} (N : Nat) : ∀ {h : Nat → Bool}, 2 ^ n - vlu h n ≤ N → ∀ i a b, (memT c n h)[i]? = some a → (memT c n h)[i + 1]? = some b → bytesLess a b = true := by
  induction N with
  | zero => intro h hN; have := vlu_lt h n; omega
  | succ N ih =>
    intro h hN i a b ha hb
    cases hn : nextF c n h with
    | none => rw [memT_none hn] at hb; simp at hb
    | some h' =>
      rw [memT_some hn] at ha hb
      cases i with
      | zero =>
        obtain ⟨tl, htl⟩ := memT_cons c n h'
        rw [htl] at hb
        simp only [List.getElem?_cons_zero, Option.some.injEq, Nat.zero_add, List.getElem?_cons_succ] at ha hb
        rw [← ha, ← hb]
        exact next_hdr_less hn
      | succ i => exact ih (h := h') (by have := next_less hn; omega) i a b (by simpa using ha) (by simpa using hb)
theorem vlu_mono {h h' : Nat → Bool} : ∀ {k : Nat}, (∀ j, j < k → h j = true → h' j = true) → vlu h k ≤ vlu h' k := by
  intro k
  induction k with
  | zero => intro _; exact Nat.le_refl _
  | succ k ih =>
    intro hs
    have h1 := ih fun j hj => hs j (by omega)
    have h2 := hs k (by omega)
    simp only [vlu]
    cases hk : h k with
    | false => simp; split <;> omega
    | true => simp [h2 hk]; omega
/-- two that part do so at a first place -/
theorem vlu_first {h h' : Nat → Bool} : ∀ {k : Nat}, vlu h k < vlu h' k → ∃ p, p < k ∧ (∀ j, j < p → h' j = h j) ∧ h p = false ∧ h' p = true := by
  intro k
  induction k with
  | zero => intro hl; simp [vlu] at hl
  | succ k ih =>
    intro hl
    by_cases h1 : vlu h k < vlu h' k
    · obtain ⟨p, hp, r⟩ := ih h1
      exact ⟨p, by omega, r⟩
    · by_cases h2 : vlu h' k < vlu h k
      · exfalso
        simp only [vlu] at hl
        split at hl <;> split at hl <;> omega
      · have he : vlu h k = vlu h' k := by omega
        have hsame : ∀ j, j < k → h' j = h j := by
          clear ih hl h1 h2
          induction k with
          | zero => intro j hj; omega
          | succ k ih2 =>
            have e1 : vlu h k = vlu h' k ∧ h k = h' k := by
              simp only [vlu] at he
              cases a : h k <;> cases b : h' k <;> simp [a, b] at he ⊢ <;> omega
            intro j hj
            by_cases e : j = k
            · subst e; exact e1.2.symm
            · exact ih2 e1.1 j (by omega)
        refine ⟨k, by omega, hsame, ?_⟩
        simp only [vlu] at hl
        cases a : h k <;> cases b : h' k <;> simp [a, b, he] at hl ⊢ <;> omega
theorem vlu_eq {h h' : Nat → Bool} {n : Nat} (h1 : ¬ vlu h n < vlu h' n) (h2 : ¬ vlu h' n < vlu h n) : ∀ j, j < n → h' j = h j := by
  have he : vlu h n = vlu h' n := by omega
  clear h1 h2
  induction n with
  | zero => intro j hj; omega
  | succ k ih2 =>
    have e1 : vlu h k = vlu h' k ∧ h k = h' k := by
      simp only [vlu] at he
      cases a : h k <;> cases b : h' k <;> simp [a, b] at he ⊢ <;> omega
    intro j hj
    by_cases e : j = k
    · subst e; exact e1.2.symm
    · exact ih2 e1.1 j (by omega)
theorem hdr_congr {n : Nat} {h h' : Nat → Bool} (hs : ∀ j, j < n → h' j = h j) : hdr n h' = hdr n h := up_congr fun i hi => by rw [hs i hi]
/-- no header of the cube from g on is left out -/
theorem mem_all {c o : Nat → Bool} {n : Nat} (N : Nat) : ∀ {g : Nat → Bool}, 2 ^ n - vlu g n ≤ N → Agr c o n g → ∀ {h : Nat → Bool}, Agr c o n h → vlu g n ≤ vlu h n → hdr n h ∈ memT c n g := by
  induction N with
  | zero => intro g hN; have := vlu_lt g n; omega
  | succ N ih =>
    intro g hN hg h hh hle
    by_cases hlt : vlu g n < vlu h n
    · obtain ⟨p, hp, hs, h0, h1⟩ := vlu_first hlt
      have hcp : c p = false := by
        cases hc : c p with
        | false => rfl
        | true => have := hg p hp hc; have := hh p hp hc; simp_all
      cases hn : nextF c n g with
      | none => have := next_none hn p hp hcp; rw [h0] at this; cases this
      | some g' =>
        rw [memT_some hn]
        refine List.mem_cons_of_mem _ (ih (by have := next_less hn; omega) (hg.next hn) hh ?_)
        obtain ⟨i, x⟩ := next_some hn
        have hpi : p ≤ i := by
          rcases Nat.lt_or_ge i p with h2 | h2
          · have := (x.free p h2 hp hcp).1; rw [h0] at this; cases this
          · exact h2
        by_cases he : p = i
        · subst he
          refine vlu_mono fun j hj hj1 => ?_
          by_cases e1 : j < p
          · rw [hs j e1, ← x.below j e1]; exact hj1
          · by_cases e2 : j = p
            · subst e2; exact h1
            · cases hc : c j with
              | false => have := (x.free j (by omega) hj hc).2; rw [this] at hj1; cases hj1
              | true => rw [x.care j hc, hg j hj hc] at hj1; rw [hh j hj hc]; exact hj1
        · exact Nat.le_of_lt (vlu_less (i := p) (fun j hj => by rw [hs j hj, ← x.below j (by omega)]) (by rw [x.below p (by omega)]; exact h0) h1 hp)
    · obtain ⟨tl, htl⟩ := memT_cons c n g
      rw [htl, hdr_congr (vlu_eq hlt (by omega))]
      exact List.mem_cons_self
theorem least_le {c o : Nat → Bool} {n : Nat} (hsub : ∀ i, o i = true → c i = true) {h : Nat → Bool} (hh : Agr c o n h) : vlu o n ≤ vlu h n :=
  vlu_mono fun j hj ho => by rw [hh j hj (hsub j ho)]; exact ho
/-- a list that rises: what comes later is greater -/
theorem rise_lt {L : List (List UInt8)} (hr : ∀ i a b, L[i]? = some a → L[i + 1]? = some b → bytesLess a b = true) (ht : ∀ a b d, a ∈ L → b ∈ L → d ∈ L → bytesLess a b = true → bytesLess b d = true → bytesLess a d = true) : ∀ (d i : Nat) a b, L[i]? = some a → L[i + d + 1]? = some b → bytesLess a b = true := by
  intro d
  induction d with
  | zero => intro i a b ha hb; exact hr i a b ha hb
  | succ d ih =>
    intro i a b ha hb
    have hlt : i + d + 1 < L.length := by have := (List.getElem?_eq_some_iff.1 hb).1; omega
    have hm : L[i + d + 1]? = some L[i + d + 1] := List.getElem?_eq_getElem hlt
    exact ht a _ b (List.mem_of_getElem? ha) (List.mem_of_getElem? hm) (List.mem_of_getElem? hb) (ih i a _ ha hm) (hr (i + d + 1) _ b hm (by rw [show i + d + 1 + 1 = i + (d + 1) + 1 by omega]; exact hb))
theorem less_trans : ∀ x y z : List UInt8, bytesLess x y = true → bytesLess y z = true → bytesLess x z = true := by
  intro x
  induction x with
  | nil => intro y z h1 h2; cases z with
    | nil => cases y <;> simp [bytesLess] at h2
    | cons c z => rfl
  | cons a x ih =>
    intro y z h1 h2
    cases y with
    | nil => simp [bytesLess] at h1
    | cons b y =>
      cases z with
      | nil => simp [bytesLess] at h2
      | cons c z =>
        unfold bytesLess at h1 h2 ⊢
        simp only [Bool.or_eq_true, decide_eq_true_eq, Bool.and_eq_true, beq_iff_eq] at h1 h2 ⊢
        rcases h1 with h1 | ⟨h1, h3⟩
        · rcases h2 with h2 | ⟨h2, h4⟩
          · left; rw [UInt8.lt_iff_toNat_lt] at *; omega
          · subst h2; exact .inl h1
        · subst h1
          rcases h2 with h2 | ⟨h2, h4⟩
          · exact .inl h2
          · exact .inr ⟨h2, ih y z h3 h4⟩
end Go.Proofs.Ytdiijannpfogdaa.Tn
