/- Plain law of FieldFewest. No program in sight. -/
import Derived.Test.YtaleaicfllcpiaaDoorGr
namespace Go.Proofs.YtaleaicfllcpiaaDoor.Fl
set_option linter.unusedVariables false
set_option linter.unusedSimpArgs false
set_option linter.unusedSectionVars false
/-- where the k-th block begins; behind the last one, the range's end -/
def stt (b x e k : Nat) : Nat := ((gre b x e)[k]?.map (·.1)).getD e
theorem stt_zero {b x e : Nat} (h : x ≤ e) : stt b x e 0 = x := by
  unfold stt
  by_cases hx : x < e
  · rw [gre_yes hx]; rfl
  · rw [gre_no (by omega)]; simp; omega
theorem stt_end {b x e k : Nat} (h : (gre b x e).length ≤ k) : stt b x e k = e := by
  unfold stt
  rw [List.getElem?_eq_none h]; rfl
theorem gre_at (b e : Nat) : ∀ (n x : Nat), e - x ≤ n → x ≤ e → ∀ (k : Nat) (p : Nat × Nat), (gre b x e)[k]? = some p →
    okB p.1 e p.2 ∧ p.2 ≤ b ∧ (p.2 < b → ¬ okB p.1 e (p.2 + 1)) ∧ stt b x e k = p.1 ∧ stt b x e (k + 1) = p.1 + 2 ^ p.2 ∧ x ≤ p.1 := by
  intro n
  induction n with
  | zero =>
    intro x hn hx k p hp
    rw [gre_no (by omega)] at hp
    simp at hp
  | succ n ih =>
    intro x hn hx k p hp
    by_cases hlt : x < e
    · have hs := fr_spec (b := b) (x := x) (e := e) b 0 (by omega) (by omega) (okB_zero hlt)
      have hpos : 0 < 2 ^ fr b x e 0 := Nat.pow_pos (by omega)
      have hle := hs.1.2
      have est : ∀ k, stt b x e (k + 1) = stt b (x + 2 ^ fr b x e 0) e k := by
        intro k
        unfold stt
        rw [gre_yes hlt]
        simp
      cases k with
      | zero =>
        rw [gre_yes hlt] at hp
        simp at hp
        subst hp
        refine ⟨hs.1, hs.2.2.1, hs.2.2.2, stt_zero hx, ?_, Nat.le_refl _⟩
        rw [est, stt_zero hle]
      | succ k =>
        rw [gre_yes hlt] at hp
        simp only [List.getElem?_cons_succ] at hp
        obtain ⟨a1, a2, a3, a4, a5, a6⟩ := ih _ (by omega) hle k p hp
        exact ⟨a1, a2, a3, by rw [est]; exact a4, by rw [est]; exact a5, by omega⟩
    · rw [gre_no (by omega)] at hp
      simp at hp
/-! Bits. -/
theorem bitB_inj {v u i : Nat} (h : bitB v i = bitB u i) : v / 2 ^ i % 2 = u / 2 ^ i % 2 := by
  unfold bitB at h
  split at h <;> split at h <;> first | omega | (exact absurd h (by decide))
theorem same_high {b v u n : Nat} (hv : v < 2 ^ b) (hu : u < 2 ^ b) (hn : n ≤ b) (h : ∀ i, i < n → bitB v (b - 1 - i) = bitB u (b - 1 - i)) : v / 2 ^ (b - n) = u / 2 ^ (b - n) := by
  apply Nat.eq_of_testBit_eq
  intro i
  rw [Nat.testBit_eq_decide_div_mod_eq, Nat.testBit_eq_decide_div_mod_eq, Nat.div_div_eq_div_mul, Nat.div_div_eq_div_mul, ← Nat.pow_add]
  by_cases hi : b - n + i < b
  · have h1 := bitB_inj (h (b - 1 - (b - n + i)) (by omega))
    rw [show b - 1 - (b - 1 - (b - n + i)) = b - n + i by omega] at h1
    rw [h1]
  · have hle : 2 ^ b ≤ 2 ^ (b - n + i) := Nat.pow_le_pow_right (by omega) (by omega)
    rw [Nat.div_eq_of_lt (by omega), Nat.div_eq_of_lt (by omega)]
theorem high_same {b v u n : Nat} (hn : n ≤ b) (h : v / 2 ^ (b - n) = u / 2 ^ (b - n)) : ∀ i, i < n → bitB v (b - 1 - i) = bitB u (b - 1 - i) := by
  intro i hi
  have h1 := bit_shift v (n - 1 - i) (b - n)
  have h2 := bit_shift u (n - 1 - i) (b - n)
  rw [show n - 1 - i + (b - n) = b - 1 - i by omega] at h1 h2
  rw [← h1, ← h2, h]
/-- does the text hold the header? -/
def hasB (c h : List UInt8) : Bool := (c.zip h).all fun p => p.1 == 120 || p.1 == p.2
theorem bit_ne_x (v i : Nat) : bitB v i ≠ 120 := by unfold bitB; split <;> decide
theorem hasB_iff {c h : List UInt8} (hl : c.length = h.length) : hasB c h = true ↔ ∀ i, i < c.length → c[i]? = some 120 ∨ c[i]? = h[i]? := by
  unfold hasB
  rw [List.all_eq_true]
  constructor
  · intro H i hi
    have := H (c[i], h[i]'(by omega)) (by rw [List.mem_iff_getElem]; exact ⟨i, by simp; omega, by simp⟩)
    simp only [Bool.or_eq_true, beq_iff_eq] at this
    rw [List.getElem?_eq_getElem hi, List.getElem?_eq_getElem (show i < h.length by omega)]
    exact this.imp (congrArg some) (congrArg some)
  · intro H p hp
    obtain ⟨i, hi, rfl⟩ := List.mem_iff_getElem.1 hp
    have hi' : i < c.length := by simp at hi; omega
    have := H i hi'
    rw [List.getElem?_eq_getElem hi', List.getElem?_eq_getElem (show i < h.length by omega)] at this
    simp only [List.getElem_zip, Bool.or_eq_true, beq_iff_eq]
    exact this.imp (fun h => Option.some.inj h) (fun h => Option.some.inj h)
theorem pre_get {b : Nat} {p : Nat × Nat} (i : Nat) : (preT b p)[i]? = if i < b - p.2 then some (bitB p.1 (b - 1 - i)) else if i - (b - p.2) < p.2 then some 120 else none := by
  unfold preT
  rw [List.getElem?_append]
  rw [hiB_len]
  split
  · simp [hiB, *]
  · rw [List.getElem?_replicate]
theorem has_pre {b v : Nat} {p : Nat × Nat} (hp : p.1 < 2 ^ b) (hf : p.2 ≤ b) (hv : v < 2 ^ b) (hm : p.1 % 2 ^ p.2 = 0) : hasB (preT b p) (hiB v b b) = decide (p.1 ≤ v ∧ v < p.1 + 2 ^ p.2) := by
  have hpos : 0 < 2 ^ p.2 := Nat.pow_pos (by omega)
  have hdiv : (p.1 ≤ v ∧ v < p.1 + 2 ^ p.2) ↔ p.1 / 2 ^ p.2 = v / 2 ^ p.2 := by
    obtain ⟨q, hq⟩ := Nat.dvd_of_mod_eq_zero hm
    rw [hq, Nat.mul_div_cancel_left _ hpos, eq_comm, Nat.div_eq_iff hpos, Nat.mul_comm]
    omega
  rw [Bool.eq_iff_iff, decide_eq_true_iff, hdiv, hasB_iff (by rw [preT_len hf, hiB_len]), preT_len hf]
  have e : p.2 = b - (b - p.2) := by omega
  constructor
  · intro H
    have := same_high (n := b - p.2) hp hv (by omega) (fun i hi => by
      have h := H i (by omega)
      rw [pre_get, if_pos hi] at h
      rcases h with h | h
      · exact absurd (Option.some.inj h) (bit_ne_x _ _)
      · rw [show (hiB v b b)[i]? = some (bitB v (b - 1 - i)) by simp [hiB, show i < b by omega]] at h
        exact Option.some.inj h)
    rw [← e] at this
    exact this
  · intro H i hi
    have := high_same (b := b) (n := b - p.2) (v := p.1) (u := v) (by omega) (by rw [← e]; exact H)
    rw [pre_get]
    split
    · right
      rw [show (hiB v b b)[i]? = some (bitB v (b - 1 - i)) by simp [hiB, hi], this i (by assumption)]
    · left
      rw [if_pos (by omega)]
/-- the text with 0 for each x -/
def lowT (c : List UInt8) : List UInt8 := c.map fun x => if x == 120 then 48 else x
theorem low_pre {b : Nat} {p : Nat × Nat} (hf : p.2 ≤ b) (hm : p.1 % 2 ^ p.2 = 0) : lowT (preT b p) = hiB p.1 b b := by
  apply List.ext_getElem?
  intro i
  unfold lowT
  rw [List.getElem?_map, pre_get]
  by_cases hi : i < b
  · rw [show (hiB p.1 b b)[i]? = some (bitB p.1 (b - 1 - i)) by simp [hiB, hi]]
    split
    · have := bit_ne_x p.1 (b - 1 - i)
      simp [this]
    · rw [if_pos (by omega)]
      have h0 : p.1 / 2 ^ (b - 1 - i) % 2 = 0 := by
        obtain ⟨q, hq⟩ := Nat.dvd_of_mod_eq_zero hm
        have e : p.2 = (b - 1 - i) + 1 + (p.2 - (b - 1 - i) - 1) := by omega
        rw [hq, e, Nat.pow_add, Nat.pow_succ, Nat.mul_assoc, Nat.mul_assoc, Nat.mul_div_cancel_left _ (Nat.pow_pos (by omega)), Nat.mul_mod_right]
      simp [bitB, h0]
  · rw [if_neg (by omega), if_neg (by omega), List.getElem?_eq_none (by rw [hiB_len]; omega)]
    rfl
theorem hiB_cons (v b : Nat) : hiB v (b + 1) (b + 1) = bitB v b :: hiB v b b := by
  unfold hiB
  rw [List.range_succ_eq_map, List.map_cons, List.map_map]
  congr 1
  apply List.map_congr_left
  intro i _
  simp only [Function.comp]
  congr 1
  omega
theorem hi_less : ∀ (b x y : Nat), x % 2 ^ b < y % 2 ^ b → Op.bytesLess (hiB x b b) (hiB y b b) = true := by
  intro b
  induction b with
  | zero => intro x y h; simp [Nat.mod_one] at h
  | succ b ih =>
    intro x y h
    rw [hiB_cons, hiB_cons, Op.bytesLess]
    rw [Nat.mod_pow_succ, Nat.mod_pow_succ] at h
    have h1 : x / 2 ^ b % 2 < 2 := Nat.mod_lt _ (by omega)
    have h2 : y / 2 ^ b % 2 < 2 := Nat.mod_lt _ (by omega)
    have hx : x % 2 ^ b < 2 ^ b := Nat.mod_lt _ (Nat.pow_pos (by omega))
    have hy : y % 2 ^ b < 2 ^ b := Nat.mod_lt _ (Nat.pow_pos (by omega))
    rcases (show (x / 2 ^ b % 2 = 0 ∨ x / 2 ^ b % 2 = 1) by omega) with ex | ex <;> rcases (show (y / 2 ^ b % 2 = 0 ∨ y / 2 ^ b % 2 = 1) by omega) with ey | ey
    · rw [ex, ey] at h
      rw [ih x y (by omega)]
      simp [bitB, ex, ey]
    · simp [bitB, ex, ey]
    · rw [ex, ey] at h
      omega
    · rw [ex, ey] at h
      rw [ih x y (by omega)]
      simp [bitB, ex, ey]
/-- neighbours are no halves -/
theorem no_halves {b e x f : Nat} (he : e ≤ 2 ^ b) (hm : x % 2 ^ f = 0) (hf : f ≤ b) (hno : f < b → ¬ okB x e (f + 1)) (h2 : x + 2 ^ f + 2 ^ f ≤ e) : f < b ∧ hiB (x + 2 ^ f) b (b - f - 1) ≠ hiB x b (b - f - 1) := by
  have hpos : 0 < 2 ^ f := Nat.pow_pos (by omega)
  have hfb : f < b := by
    rcases Nat.lt_or_ge f b with h | h
    · exact h
    · have : f = b := by omega
      subst this
      omega
  refine ⟨hfb, fun hh => hno hfb ?_⟩
  have hs : x / 2 ^ (f + 1) = (x + 2 ^ f) / 2 ^ (f + 1) := by
    have := same_high (b := b) (v := x + 2 ^ f) (u := x) (n := b - f - 1) (by omega) (by omega) (by omega) (fun i hi => by
      have h1 := congrArg (fun l => l[i]?) hh
      simp only [hiB, List.getElem?_map, List.getElem?_range hi, Option.map_some] at h1
      exact Option.some.inj h1)
    rw [show b - (b - f - 1) = f + 1 by omega] at this
    exact this.symm
  refine ⟨?_, by rw [Nat.pow_succ]; omega⟩
  obtain ⟨q, hq⟩ := Nat.dvd_of_mod_eq_zero hm
  rw [Nat.pow_succ, hq, ← Nat.mul_succ, Nat.mul_div_mul_left _ _ hpos, Nat.mul_div_mul_left _ _ hpos] at hs
  rw [Nat.pow_succ, hq, Nat.mul_mod_mul_left, show q % 2 = 0 by omega, Nat.mul_zero]
theorem count_next {lo v x f : Nat} (h : lo ≤ x) : (if lo ≤ v ∧ v < x then 1 else 0) + (if x ≤ v ∧ v < x + 2 ^ f then 1 else 0) = (if lo ≤ v ∧ v < x + 2 ^ f then (1 : Nat) else 0) := by
  have hpos : 0 < 2 ^ f := Nat.pow_pos (by omega)
  generalize 2 ^ f = t at *
  split <;> split <;> split <;> omega
/-- a prefix's text -/
def Pfx (c : List UInt8) : Prop := ∀ i, i < c.length → (c.getD i 0 = 48 ∨ c.getD i 0 = 49 ∨ c.getD i 0 = 120) ∧ (0 < i → c.getD (i - 1) 0 = 120 → c.getD i 0 = 120)
theorem pre_pfx {b : Nat} {p : Nat × Nat} (hf : p.2 ≤ b) : Pfx (preT b p) := by
  intro i hi
  rw [preT_len hf] at hi
  have hg : ∀ j, j < b → (preT b p).getD j 0 = if j < b - p.2 then bitB p.1 (b - 1 - j) else 120 := by
    intro j hj
    rw [List.getD_eq_getElem?_getD, pre_get]
    split
    · rfl
    · rw [if_pos (by omega)]; rfl
  rw [hg i hi, hg (i - 1) (by omega)]
  constructor
  · split
    · unfold bitB; split <;> simp
    · simp
  · intro h0 h1
    split at h1
    · exact absurd h1 (bit_ne_x _ _)
    · rw [if_neg (by omega)]
end Go.Proofs.YtaleaicfllcpiaaDoor.Fl
