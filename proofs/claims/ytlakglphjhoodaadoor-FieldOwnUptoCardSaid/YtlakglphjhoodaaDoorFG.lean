/- Merged for FieldOwn -/
import Derived.Test.YtlakglphjhoodaaDoorFC
import Derived.Test.YtlakglphjhoodaaDoorFF
namespace Go.Proofs.YtlakglphjhoodaaDoor.Fl
set_option linter.unusedVariables false
set_option linter.unusedSimpArgs false
set_option linter.unusedSectionVars false
def stt (b x e k : Nat) : Nat := ((gre b x e)[k]?.map (·.1)).getD e
theorem stt_zero {b x e : Nat} (h : x ≤ e) : stt b x e 0 = x := by
  unfold stt
  by_cases hx : x < e
  · rw [gre_yes hx]; rfl
  · rw [gre_no (by omega)]; simp; omega
theorem stt_end {b x e k : Nat} (h : (gre b x e).length ≤ k) : stt b x e k = e := by
  unfold stt
  rw [List.getElem?_eq_none h]; rfl
theorem gre_at (b e : Nat) : ∀ (n x : Nat), e - x ≤ n → x ≤ e → ∀ (k : Nat) (p : Nat × Nat), (gre b x e)[k]? = some p →
    okB p.1 e p.2 ∧ p.2 ≤ b ∧ (p.2 < b → ¬ okB p.1 e (p.2 + 1)) ∧ stt b x e k = p.1 ∧ stt b x e (k + 1) = p.1 + 2 ^ p.2 ∧ x ≤ p.1 := by
  intro n
  induction n with
  | zero =>
    intro x hn hx k p hp
    rw [gre_no (by omega)] at hp
    simp at hp
  | succ n ih =>
    intro x hn hx k p hp
    by_cases hlt : x < e
    · have hs := fr_spec (b := b) (x := x) (e := e) b 0 (by omega) (by omega) (okB_zero hlt)
      have hpos : 0 < 2 ^ fr b x e 0 := Nat.pow_pos (by omega)
      have hle := hs.1.2
      have est : ∀ k, stt b x e (k + 1) = stt b (x + 2 ^ fr b x e 0) e k := by
        intro k
        unfold stt
        rw [gre_yes hlt]
        simp
      cases k with
      | zero =>
        rw [gre_yes hlt] at hp
        simp at hp
        subst hp
        refine ⟨hs.1, hs.2.2.1, hs.2.2.2, stt_zero hx, ?_, Nat.le_refl _⟩
        rw [est, stt_zero hle]
      | succ k =>
        rw [gre_yes hlt] at hp
        simp only [List.getElem?_cons_succ] at hp
        obtain ⟨a1, a2, a3, a4, a5, a6⟩ := ih _ (by omega) hle k p hp
        exact ⟨a1, a2, a3, by rw [est]; exact a4, by rw [est]; exact a5, by omega⟩
    · rw [gre_no (by omega)] at hp
      simp at hp
theorem bitB_inj {v u i : Nat} (h : bitB v i = bitB u i) : v / 2 ^ i % 2 = u / 2 ^ i % 2 := by
  unfold bitB at h
  split at h <;> split at h <;> first | omega | (exact absurd h (by decide))
theorem same_high {b v u n : Nat} (hv : v < 2 ^ b) (hu : u < 2 ^ b) (hn : n ≤ b) (h : ∀ i, i < n → bitB v (b - 1 - i) = bitB u (b - 1 - i)) : v / 2 ^ (b - n) = u / 2 ^ (b - n) := by
  apply Nat.eq_of_testBit_eq
  intro i
  rw [Nat.testBit_eq_decide_div_mod_eq, Nat.testBit_eq_decide_div_mod_eq, Nat.div_div_eq_div_mul, Nat.div_div_eq_div_mul, ← Nat.pow_add]
  by_cases hi : b - n + i < b
  · have h1 := bitB_inj (h (b - 1 - (b - n + i)) (by omega))
    rw [show b - 1 - (b - 1 - (b - n + i)) = b - n + i by omega] at h1
    rw [h1]
  · have hle : 2 ^ b ≤ 2 ^ (b - n + i) := Nat.pow_le_pow_right (by omega) (by omega)
    rw [Nat.div_eq_of_lt (by omega), Nat.div_eq_of_lt (by omega)]
theorem high_same {b v u n : Nat} (hn : n ≤ b) (h : v / 2 ^ (b - n) = u / 2 ^ (b - n)) : ∀ i, i < n → bitB v (b - 1 - i) = bitB u (b - 1 - i) := by
  intro i hi
  have h1 := bit_shift v (n - 1 - i) (b - n)
  have h2 := bit_shift u (n - 1 - i) (b - n)
  rw [show n - 1 - i + (b - n) = b - 1 - i by omega] at h1 h2
  rw [← h1, ← h2, h]
def hasB (c h : List UInt8) : Bool := (c.zip h).all fun p => p.1 == 120 || p.1 == p.2
theorem bit_ne_x (v i : Nat) : bitB v i ≠ 120 := by unfold bitB; split <;> decide
theorem hasB_iff {c h : List UInt8} (hl : c.length = h.length) : hasB c h = true ↔ ∀ i, i < c.length → c[i]? = some 120 ∨ c[i]? = h[i]? := by
  unfold hasB
  rw [List.all_eq_true]
  constructor
  · intro H i hi
    have := H (c[i], h[i]'(by omega)) (by rw [List.mem_iff_getElem]; exact ⟨i, by simp; omega, by simp⟩)
    simp only [Bool.or_eq_true, beq_iff_eq] at this
    rw [List.getElem?_eq_getElem hi, List.getElem?_eq_getElem (show i < h.length by omega)]
    exact this.imp (congrArg some) (congrArg some)
  · intro H p hp
    obtain ⟨i, hi, rfl⟩ := List.mem_iff_getElem.1 hp
    have hi' : i < c.length := by simp at hi; omega
    have := H i hi'
    rw [List.getElem?_eq_getElem hi', List.getElem?_eq_getElem (show i < h.length by omega)] at this
    simp only [List.getElem_zip, Bool.or_eq_true, beq_iff_eq]
    exact this.imp (fun h => Option.some.inj h) (fun h => Option.some.inj h)
theorem pre_get {b : Nat} {p : Nat × Nat} (i : Nat) : (preT b p)[i]? = if i < b - p.2 then some (bitB p.1 (b - 1 - i)) else if i - (b - p.2) < p.2 then some 120 else none := by
  unfold preT
  rw [List.getElem?_append]
  rw [hiB_len]
  split
  · simp [hiB, *]
  · rw [List.getElem?_replicate]
theorem has_pre {b v : Nat} {p : Nat × Nat} (hp : p.1 < 2 ^ b) (hf : p.2 ≤ b) (hv : v < 2 ^ b) (hm : p.1 % 2 ^ p.2 = 0) : hasB (preT b p) (hiB v b b) = decide (p.1 ≤ v ∧ v < p.1 + 2 ^ p.2) := by
  have hpos : 0 < 2 ^ p.2 := Nat.pow_pos (by omega)
  have hdiv : (p.1 ≤ v ∧ v < p.1 + 2 ^ p.2) ↔ p.1 / 2 ^ p.2 = v / 2 ^ p.2 := by
    obtain ⟨q, hq⟩ := Nat.dvd_of_mod_eq_zero hm
    rw [hq, Nat.mul_div_cancel_left _ hpos, eq_comm, Nat.div_eq_iff hpos, Nat.mul_comm]
    omega
  rw [Bool.eq_iff_iff, decide_eq_true_iff, hdiv, hasB_iff (by rw [preT_len hf, hiB_len]), preT_len hf]
  have e : p.2 = b - (b - p.2) := by omega
  constructor
  · intro H
    have := same_high (n := b - p.2) hp hv (by omega) (fun i hi => by
      have h := H i (by omega)
      rw [pre_get, if_pos hi] at h
      rcases h with h | h
      · exact absurd (Option.some.inj h) (bit_ne_x _ _)
      · rw [show (hiB v b b)[i]? = some (bitB v (b - 1 - i)) by simp [hiB, show i < b by omega]] at h
        exact Option.some.inj h)
    rw [← e] at this
    exact this
  · intro H i hi
    have := high_same (b := b) (n := b - p.2) (v := p.1) (u := v) (by omega) (by rw [← e]; exact H)
    rw [pre_get]
    split
    · right
      rw [show (hiB v b b)[i]? = some (bitB v (b - 1 - i)) by simp [hiB, hi], this i (by assumption)]
    · left
      rw [if_pos (by omega)]
def lowT (c : List UInt8) : List UInt8 := c.map fun x => if x == 120 then 48 else x
theorem low_pre {b : Nat} {p : Nat × Nat} (hf : p.2 ≤ b) (hm : p.1 % 2 ^ p.2 = 0) : lowT (preT b p) = hiB p.1 b b := by
  apply List.ext_getElem?
  intro i
  unfold lowT
  rw [List.getElem?_map, pre_get]
  by_cases hi : i < b
  · rw [show (hiB p.1 b b)[i]? = some (bitB p.1 (b - 1 - i)) by simp [hiB, hi]]
    split
    · have := bit_ne_x p.1 (b - 1 - i)
      simp [this]
    · rw [if_pos (by omega)]
      have h0 : p.1 / 2 ^ (b - 1 - i) % 2 = 0 := by
        obtain ⟨q, hq⟩ := Nat.dvd_of_mod_eq_zero hm
        have e : p.2 = (b - 1 - i) + 1 + (p.2 - (b - 1 - i) - 1) := by omega
        rw [hq, e, Nat.pow_add, Nat.pow_succ, Nat.mul_assoc, Nat.mul_assoc, Nat.mul_div_cancel_left _ (Nat.pow_pos (by omega)), Nat.mul_mod_right]
      simp [bitB, h0]
  · rw [if_neg (by omega), if_neg (by omega), List.getElem?_eq_none (by rw [hiB_len]; omega)]
    rfl
theorem hiB_cons (v b : Nat) : hiB v (b + 1) (b + 1) = bitB v b :: hiB v b b := by
  unfold hiB
  rw [List.range_succ_eq_map, List.map_cons, List.map_map]
  congr 1
  apply List.map_congr_left
  intro i _
  simp only [Function.comp]
  congr 1
  omega
theorem hi_less : ∀ (b x y : Nat), x % 2 ^ b < y % 2 ^ b → Op.bytesLess (hiB x b b) (hiB y b b) = true := by
  intro b
  induction b with
  | zero => intro x y h; simp [Nat.mod_one] at h
  | succ b ih =>
    intro x y h
    rw [hiB_cons, hiB_cons, Op.bytesLess]
    rw [Nat.mod_pow_succ, Nat.mod_pow_succ] at h
    have h1 : x / 2 ^ b % 2 < 2 := Nat.mod_lt _ (by omega)
    have h2 : y / 2 ^ b % 2 < 2 := Nat.mod_lt _ (by omega)
    have hx : x % 2 ^ b < 2 ^ b := Nat.mod_lt _ (Nat.pow_pos (by omega))
    have hy : y % 2 ^ b < 2 ^ b := Nat.mod_lt _ (Nat.pow_pos (by omega))
    rcases (show (x / 2 ^ b % 2 = 0 ∨ x / 2 ^ b % 2 = 1) by omega) with ex | ex <;> rcases (show (y / 2 ^ b % 2 = 0 ∨ y / 2 ^ b % 2 = 1) by omega) with ey | ey
    · rw [ex, ey] at h
      rw [ih x y (by omega)]
      simp [bitB, ex, ey]
    · simp [bitB, ex, ey]
    · rw [ex, ey] at h
      omega
    · rw [ex, ey] at h
      rw [ih x y (by omega)]
      simp [bitB, ex, ey]
theorem no_halves {b e x f : Nat} (he : e ≤ 2 ^ b) (hm : x % 2 ^ f = 0) (hf : f ≤ b) (hno : f < b → ¬ okB x e (f + 1)) (h2 : x + 2 ^ f + 2 ^ f ≤ e) : f < b ∧ hiB (x + 2 ^ f) b (b - f - 1) ≠ hiB x b (b - f - 1) := by
  have hpos : 0 < 2 ^ f := Nat.pow_pos (by omega)
  have hfb : f < b := by
    rcases Nat.lt_or_ge f b with h | h
    · exact h
    · have : f = b := by omega
      subst this
      omega
  refine ⟨hfb, fun hh => hno hfb ?_⟩
  have hs : x / 2 ^ (f + 1) = (x + 2 ^ f) / 2 ^ (f + 1) := by
    have := same_high (b := b) (v := x + 2 ^ f) (u := x) (n := b - f - 1) (by omega) (by omega) (by omega) (fun i hi => by
      have h1 := congrArg (fun l => l[i]?) hh
      simp only [hiB, List.getElem?_map, List.getElem?_range hi, Option.map_some] at h1
      exact Option.some.inj h1)
    rw [show b - (b - f - 1) = f + 1 by omega] at this
    exact this.symm
  refine ⟨?_, by rw [Nat.pow_succ]; omega⟩
  obtain ⟨q, hq⟩ := Nat.dvd_of_mod_eq_zero hm
  rw [Nat.pow_succ, hq, ← Nat.mul_succ, Nat.mul_div_mul_left _ _ hpos, Nat.mul_div_mul_left _ _ hpos] at hs
  rw [Nat.pow_succ, hq, Nat.mul_mod_mul_left, show q % 2 = 0 by omega, Nat.mul_zero]
theorem count_next {lo v x f : Nat} (h : lo ≤ x) : (if lo ≤ v ∧ v < x then 1 else 0) + (if x ≤ v ∧ v < x + 2 ^ f then 1 else 0) = (if lo ≤ v ∧ v < x + 2 ^ f then (1 : Nat) else 0) := by
  have hpos : 0 < 2 ^ f := Nat.pow_pos (by omega)
  generalize 2 ^ f = t at *
  split <;> split <;> split <;> omega
def Pfx (c : List UInt8) : Prop := ∀ i, i < c.length → (c.getD i 0 = 48 ∨ c.getD i 0 = 49 ∨ c.getD i 0 = 120) ∧ (0 < i → c.getD (i - 1) 0 = 120 → c.getD i 0 = 120)
theorem pre_pfx {b : Nat} {p : Nat × Nat} (hf : p.2 ≤ b) : Pfx (preT b p) := by
  intro i hi
  rw [preT_len hf] at hi
  have hg : ∀ j, j < b → (preT b p).getD j 0 = if j < b - p.2 then bitB p.1 (b - 1 - j) else 120 := by
    intro j hj
    rw [List.getD_eq_getElem?_getD, pre_get]
    split
    · rfl
    · rw [if_pos (by omega)]; rfl
  rw [hg i hi, hg (i - 1) (by omega)]
  constructor
  · split
    · unfold bitB; split <;> simp
    · simp
  · intro h0 h1
    split at h1
    · exact absurd h1 (bit_ne_x _ _)
    · rw [if_neg (by omega)]
end Go.Proofs.YtlakglphjhoodaaDoor.Fl

namespace Go.Proofs.YtlakglphjhoodaaDoor.Fl
open Go.RowKit Mm Law
theorem near_any (n m : Int) (hn : (Lit.int .i64 n).wf = true) (h1 : 1 ≤ m) (h2 : m ≤ 4294967296) (w : World) :
    Calls Tryd.prog 14 #[.int .i64 n, .int .i64 m] w fun e w' => ∃ r : Nat, (r : Int) < m ∧ e = .returned (.int .i64 r) ∧ w' = w := by
  have hn0 : -9223372036854775808 ≤ n ∧ n ≤ 9223372036854775807 := by
    simp [Lit.wf, IntKind.min, IntKind.max, IntKind.bits, IntKind.signed] at hn
    exact hn
  obtain ⟨a1, a2⟩ := hn0
  have t1 := Int.tmod_lt_of_pos n (show 0 < m by omega)
  have t2 : -m < n.tmod m := by
    have h := Int.lt_tmod_of_pos n (show 0 < m by omega)
    exact h
  by_cases h0 : n.tmod m < 0
  · have HR := Lib.hid (show ∃ r : Nat, (r : Int) = n.tmod m + m from ⟨(n.tmod m + m).toNat, by omega⟩)
    go_enter Tryd.func14, Tryd.ntmps14
    go_wp2
    go_ret
    obtain ⟨r, hr⟩ := HR.out
    exact ⟨r, by omega, by rw [hr]; rfl, rfl⟩
  · have HR := Lib.hid (show ∃ r : Nat, (r : Int) = n.tmod m from ⟨(n.tmod m).toNat, by omega⟩)
    have h0' : 0 ≤ n.tmod m := by omega
    clear h0
    go_enter Tryd.func14, Tryd.ntmps14
    go_wp2
    go_ret
    obtain ⟨r, hr⟩ := HR.out
    exact ⟨r, by omega, by rw [hr]; rfl, rfl⟩
theorem low_step (l : List UInt8) (k : Nat) (x : UInt8) (h : l[k]? = some x) : lowT (l.take (k + 1)) = lowT (l.take k) ++ [if x == 120 then 48 else x] := by
  unfold lowT
  rw [List.take_add_one, h, List.map_append]
  rfl
set_option maxRecDepth 100000 in
set_option maxHeartbeats 1000000 in
theorem bitsOf_any (v b : Nat) (hv : v < 4294967296) (hb : b ≤ 32) (w : World) :
    Calls Tryd.prog 23 #[.int .i64 (v : Int), .int .i64 (b : Int)] w fun e w' => e = .returned (.string (str (hiB v b b))) ∧ Below w.heap.size w w' := by
  go_enter Tryd.func23, Tryd.ntmps23
  go_wp2
  go_loopw [5, 6] (fun u i wr => ∃ k : Nat, k ≤ b ∧ i = .int .i64 ((b : Int) - 1 - (k : Int)) ∧ wr.ownsRow w.heap.size 5 1 u k (((hiB v b b).take k).map bv) ∧ Below w.heap.size w wr) (fun _ i _ => (intOf i + 1).toNat)
  case atStart => exact ⟨0, Nat.zero_le _, by first | rfl | (simp; done), own_nilB _ _, Below.refl _ _⟩
  case round =>
    obtain ⟨k, hk, rfl, hown, hbel⟩ := hrel
    have HO := Lib.hid hown
    clear hown
    by_cases hlt : k < b
    · obtain ⟨j, hj⟩ : ∃ j, b = k + 1 + j := ⟨b - (k + 1), by omega⟩
      have e : ((b : Int) - 1 - (k : Int)) = (j : Int) := by omega
      rw [e]
      have HE := Lib.hid e
      have HS := Lib.hid (hiB_snoc v b k j hj)
      have hbt := bit_val v j hv
      have hjb : j ≤ 31 := by omega
      clear hj e
      go_wp2_with (at_builtin; refine app_byte (bitB v j) HO.out rfl rfl rfl rfl (by omega) hbel.size ?_; intro v' w2 hown2 hb2)
      go_roundw
      case rel => exact ⟨k + 1, by omega, by first | (simp; omega) | (congr 1; have := HE.out; omega), by rw [HS.out]; exact hown2, hbel.trans hb2⟩
      case measure => first | (simp [intOf]; done) | (simp [intOf]; omega)
    · have hkb : k = b := by omega
      have hst := str_own HO.out
      have HL := Lib.hid (show (hiB v b b).take k = hiB v b b from List.take_of_length_le (by rw [hiB_len]; omega))
      have hneg : ((b : Int) - 1 - (k : Int)) < 0 := by omega
      clear hkb hlt
      go_wp2
      go_ret
      exact ⟨by rw [HL.out]; rfl, hbel⟩
end Go.Proofs.YtlakglphjhoodaaDoor.Fl
