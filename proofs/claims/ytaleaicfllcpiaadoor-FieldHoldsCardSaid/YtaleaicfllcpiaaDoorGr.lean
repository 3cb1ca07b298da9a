/- Plain law of covers: the greedy way from below, and halves, give the same prefixes. No program in sight. -/
import Derived.WalkKit
namespace Go.Proofs.YtaleaicfllcpiaaDoor.Fl
set_option linter.unusedVariables false
set_option linter.unusedSimpArgs false
set_option linter.unusedSectionVars false
/-- the block of 2^f values that begins at x lies in x .. e-1 -/
def okB (x e f : Nat) : Prop := x % 2 ^ f = 0 ∧ x + 2 ^ f ≤ e
instance (x e f : Nat) : Decidable (okB x e f) := by unfold okB; infer_instance
theorem okB_zero {x e : Nat} (h : x < e) : okB x e 0 := ⟨by simp [Nat.mod_one], by rw [Nat.pow_zero]; exact h⟩
theorem okB_pred {x e f : Nat} (h : okB x e (f + 1)) : okB x e f := by
  obtain ⟨h1, h2⟩ := h
  have hp : 0 < 2 ^ f := Nat.pow_pos (by omega)
  rw [Nat.pow_succ] at h1 h2
  refine ⟨?_, by omega⟩
  exact Nat.mod_eq_zero_of_dvd (Nat.dvd_trans (Nat.dvd_mul_right _ _) (Nat.dvd_of_mod_eq_zero h1))
def fr (b x e f : Nat) : Nat := if f < b ∧ okB x e (f + 1) then fr b x e (f + 1) else f
termination_by b - f
theorem fr_yes {b x e f : Nat} (h1 : f < b) (h2 : okB x e (f + 1)) : fr b x e f = fr b x e (f + 1) := by
  rw [fr, if_pos ⟨h1, h2⟩]
theorem fr_no {b x e f : Nat} (h : ¬ (f < b ∧ okB x e (f + 1))) : fr b x e f = f := by
  rw [fr, if_neg h]
theorem fr_spec {b x e : Nat} : ∀ (n f : Nat), b - f ≤ n → f ≤ b → okB x e f → okB x e (fr b x e f) ∧ f ≤ fr b x e f ∧ fr b x e f ≤ b ∧ (fr b x e f < b → ¬ okB x e (fr b x e f + 1)) := by
  intro n
  induction n with
  | zero =>
    intro f hn hf hk
    rw [fr_no (by omega)]
    exact ⟨hk, Nat.le_refl _, hf, fun h => by omega⟩
  | succ n ih =>
    intro f hn hf hk
    by_cases h : f < b ∧ okB x e (f + 1)
    · rw [fr_yes h.1 h.2]
      obtain ⟨a1, a2, a3, a4⟩ := ih (f + 1) (by omega) (by omega) h.2
      exact ⟨a1, by omega, a3, a4⟩
    · rw [fr_no h]
      exact ⟨hk, Nat.le_refl _, hf, fun hb h2 => h ⟨hb, h2⟩⟩
theorem fr_congr {b x e e' : Nat} (h : ∀ f, okB x e f ↔ okB x e' f) : ∀ (n f : Nat), b - f ≤ n → fr b x e f = fr b x e' f := by
  intro n
  induction n with
  | zero => intro f hn; rw [fr_no (by omega), fr_no (by omega)]
  | succ n ih =>
    intro f hn
    by_cases hk : f < b ∧ okB x e (f + 1)
    · rw [fr_yes hk.1 hk.2, fr_yes hk.1 ((h _).1 hk.2)]
      exact ih _ (by omega)
    · rw [fr_no hk, fr_no (fun hh => hk ⟨hh.1, (h _).2 hh.2⟩)]
/-- the greedy way -/
def gre (b x e : Nat) : List (Nat × Nat) := if x < e then (x, fr b x e 0) :: gre b (x + 2 ^ fr b x e 0) e else []
termination_by e - x
decreasing_by have : 0 < 2 ^ fr b x e 0 := Nat.pow_pos (by omega); omega
theorem gre_yes {b x e : Nat} (h : x < e) : gre b x e = (x, fr b x e 0) :: gre b (x + 2 ^ fr b x e 0) e := by
  rw [gre, if_pos h]
theorem gre_no {b x e : Nat} (h : e ≤ x) : gre b x e = [] := by
  rw [gre, if_neg (by omega)]
theorem cross {k m x e f : Nat} (hm : m % 2 ^ k = 0) (hk : 2 ^ k ≤ m) (hx : m - 2 ^ k ≤ x) (hxm : x < m) (he : e ≤ m + 2 ^ k) (hw : ¬ (x = m - 2 ^ k ∧ e = m + 2 ^ k)) (h : okB x e f) : x + 2 ^ f ≤ m := by
  obtain ⟨h1, h2⟩ := h
  rcases Nat.lt_or_ge k f with hf | hf
  · have : 2 ^ (k + 1) ≤ 2 ^ f := Nat.pow_le_pow_right (by omega) hf
    rw [Nat.pow_succ] at this
    exfalso
    apply hw
    omega
  · have hd : 2 ^ f ∣ m := Nat.dvd_trans (Nat.pow_dvd_pow 2 hf) (Nat.dvd_of_mod_eq_zero hm)
    obtain ⟨q, hq⟩ := hd
    obtain ⟨r, hr⟩ := Nat.dvd_of_mod_eq_zero h1
    have hp : 0 < 2 ^ f := Nat.pow_pos (by omega)
    have hlt : r < q := by
      rw [hq, hr] at hxm
      exact Nat.lt_of_mul_lt_mul_left hxm
    have : 2 ^ f * (r + 1) ≤ 2 ^ f * q := Nat.mul_le_mul_left _ hlt
    rw [Nat.mul_add, Nat.mul_one, ← hq, ← hr] at this
    exact this
/-- the greedy way stops at the middle of a block that it does not take whole -/
theorem gre_split {b k m e : Nat} (hm : m % 2 ^ k = 0) (hk : 2 ^ k ≤ m) (hme : m ≤ e) (he : e ≤ m + 2 ^ k) : ∀ (n x : Nat), m - x ≤ n → m - 2 ^ k ≤ x → x ≤ m → ¬ (x = m - 2 ^ k ∧ e = m + 2 ^ k) → gre b x e = gre b x m ++ gre b m e := by
  intro n
  induction n with
  | zero =>
    intro x hn hx hxm hw
    have : x = m := by omega
    subst this
    rw [gre_no (e := x) (Nat.le_refl _), List.nil_append]
  | succ n ih =>
    intro x hn hx hxm hw
    rcases Nat.lt_or_ge x m with hlt | hge
    · have hiff : ∀ f, okB x e f ↔ okB x m f := fun f => ⟨fun h => ⟨h.1, cross hm hk hx hlt he hw h⟩, fun h => ⟨h.1, by have := h.2; omega⟩⟩
      have hf := fr_congr (b := b) hiff b 0 (by omega)
      have hs := fr_spec (b := b) (x := x) (e := m) b 0 (by omega) (by omega) (okB_zero hlt)
      have hp : 0 < 2 ^ fr b x m 0 := Nat.pow_pos (by omega)
      rw [gre_yes (e := e) (by omega), gre_yes (e := m) hlt, hf, List.cons_append]
      congr 1
      have hle := hs.1.2
      exact ih _ (by omega) (by omega) hle (by omega)
    · have : x = m := by omega
      subst this
      rw [gre_no (e := x) (Nat.le_refl _), List.nil_append]
/-- a whole block -/
theorem gre_whole {b k x : Nat} (hk : k ≤ b) (hx : x % 2 ^ k = 0) : gre b x (x + 2 ^ k) = [(x, k)] := by
  have hp : 0 < 2 ^ k := Nat.pow_pos (by omega)
  have hs := fr_spec (b := b) (x := x) (e := x + 2 ^ k) b 0 (by omega) (by omega) (okB_zero (by omega))
  have hle : fr b x (x + 2 ^ k) 0 ≤ k := by
    rcases Nat.lt_or_ge k (fr b x (x + 2 ^ k) 0) with h | h
    · have := hs.1.2
      have h2 := Nat.pow_lt_pow_right (a := 2) (by omega) h
      omega
    · exact h
  have hge : k ≤ fr b x (x + 2 ^ k) 0 := by
    rcases Nat.lt_or_ge (fr b x (x + 2 ^ k) 0) k with h | h
    · exfalso
      apply hs.2.2.2 (by omega)
      refine ⟨?_, ?_⟩
      · exact Nat.mod_eq_zero_of_dvd (Nat.dvd_trans (Nat.pow_dvd_pow 2 h) (Nat.dvd_of_mod_eq_zero hx))
      · have := Nat.pow_le_pow_right (n := 2) (by omega) h
        omega
    · exact h
  have e : fr b x (x + 2 ^ k) 0 = k := Nat.le_antisymm hle hge
  rw [gre_yes (by omega), e, gre_no (Nat.le_refl _)]
/-- halves -/
def hal : Nat → Nat → Nat → Nat → List (Nat × Nat)
  | 0, x, lo, e => if lo ≤ x ∧ x + 1 ≤ e then [(x, 0)] else []
  | k + 1, x, lo, e => if lo ≤ x ∧ x + 2 ^ (k + 1) ≤ e then [(x, k + 1)] else if e ≤ x ∨ x + 2 ^ (k + 1) ≤ lo then [] else hal k x lo e ++ hal k (x + 2 ^ k) lo e
theorem hal_gre (b lo e : Nat) : ∀ (k x : Nat), k ≤ b → x % 2 ^ k = 0 → hal k x lo e = gre b (max lo x) (min e (x + 2 ^ k)) := by
  intro k
  induction k with
  | zero =>
    intro x hk hx
    unfold hal
    by_cases h : lo ≤ x ∧ x + 1 ≤ e
    · rw [if_pos h, show max lo x = x by omega, show min e (x + 2 ^ 0) = x + 2 ^ 0 by simp; omega]
      exact (gre_whole hk hx).symm
    · rw [if_neg h, gre_no (by simp; omega)]
  | succ k ih =>
    intro x hk hx
    have hp : 0 < 2 ^ k := Nat.pow_pos (by omega)
    have h2 : 2 ^ (k + 1) = 2 ^ k + 2 ^ k := by rw [Nat.pow_succ]; omega
    unfold hal
    by_cases h : lo ≤ x ∧ x + 2 ^ (k + 1) ≤ e
    · rw [if_pos h, show max lo x = x by omega, show min e (x + 2 ^ (k + 1)) = x + 2 ^ (k + 1) by omega]
      exact (gre_whole hk hx).symm
    · rw [if_neg h]
      by_cases h3 : e ≤ x ∨ x + 2 ^ (k + 1) ≤ lo
      · rw [if_pos h3, gre_no (by omega)]
      · rw [if_neg h3]
        have hxk : x % 2 ^ k = 0 := Nat.mod_eq_zero_of_dvd (Nat.dvd_trans (Nat.pow_dvd_pow 2 (Nat.le_succ k)) (Nat.dvd_of_mod_eq_zero hx))
        have hmk : (x + 2 ^ k) % 2 ^ k = 0 := by rw [Nat.add_mod_right]; exact hxk
        rw [ih x (by omega) hxk, ih (x + 2 ^ k) (by omega) hmk]
        by_cases hA : e ≤ x + 2 ^ k
        · rw [gre_no (x := max lo (x + 2 ^ k)) (by omega), List.append_nil]
          congr 1
          omega
        · by_cases hB : x + 2 ^ k ≤ lo
          · rw [gre_no (x := max lo x) (e := min e (x + 2 ^ k)) (by omega), List.nil_append]
            congr 1 <;> omega
          · rw [show min e (x + 2 ^ k) = x + 2 ^ k by omega, show max lo (x + 2 ^ k) = x + 2 ^ k by omega, show x + 2 ^ k + 2 ^ k = x + 2 ^ (k + 1) by omega]
            symm
            refine gre_split (k := k) hmk (by omega) (by omega) (by omega) _ _ (Nat.le_refl _) (by omega) (by omega) ?_
            intro hh
            apply h
            omega
/-- the greedy way and halves are one -/
theorem hal_top (b lo e : Nat) (h : e ≤ 2 ^ b) : hal b 0 lo e = gre b lo e := by
  rw [hal_gre b lo e b 0 (Nat.le_refl _) (by simp)]
  congr 1 <;> omega
/-! The texts. -/
def bitB (v i : Nat) : UInt8 := if v / 2 ^ i % 2 = 1 then 49 else 48
/-- the highest n of b bits -/
def hiB (v b n : Nat) : List UInt8 := (List.range n).map fun i => bitB v (b - 1 - i)
def preT (b : Nat) (p : Nat × Nat) : List UInt8 := hiB p.1 b (b - p.2) ++ List.replicate p.2 120
theorem hiB_len (v b n : Nat) : (hiB v b n).length = n := by simp [hiB]
theorem preT_len {b : Nat} {p : Nat × Nat} (h : p.2 ≤ b) : (preT b p).length = b := by simp [preT, hiB_len]; omega
theorem bit_shift (v i j : Nat) : bitB (v / 2 ^ j) i = bitB v (i + j) := by
  unfold bitB
  rw [Nat.div_div_eq_div_mul, ← Nat.pow_add, Nat.add_comm j i]
/-- the document's digits of the shifted value -/
theorem hiB_shift (v b n : Nat) (h : n ≤ b) : hiB (v / 2 ^ (b - n)) n n = hiB v b n := by
  unfold hiB
  apply List.map_congr_left
  intro i hi
  rw [List.mem_range] at hi
  rw [bit_shift]
  congr 1
  omega
end Go.Proofs.YtaleaicfllcpiaaDoor.Fl
