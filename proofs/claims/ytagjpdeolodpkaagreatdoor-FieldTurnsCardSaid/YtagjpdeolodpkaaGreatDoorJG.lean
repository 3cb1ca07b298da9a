/- Merged for FieldTurns -/
import Derived.Test.YtagjpdeolodpkaaGreatDoorJC
import Derived.Test.YtagjpdeolodpkaaGreatDoorRv
import Derived.Deep.RegionHeld3
import Derived.Deep.DeepCutAuto
import Derived.WalkLawsBesides
namespace Go.Proofs.YtagjpdeolodpkaaGreatDoor.Fl
set_option linter.unusedVariables false
set_option linter.unusedSimpArgs false
set_option linter.unusedSectionVars false
def stt (b x e k : Nat) : Nat := ((gre b x e)[k]?.map (·.1)).getD e
theorem stt_zero {b x e : Nat} (h : x ≤ e) : stt b x e 0 = x := by
  unfold stt
  by_cases hx : x < e
  · rw [gre_yes hx]; rfl
  · rw [gre_no (by omega)]; simp; omega
theorem stt_end {b x e k : Nat} (h : (gre b x e).length ≤ k) : stt b x e k = e := by
  unfold stt
  rw [List.getElem?_eq_none h]; rfl
theorem gre_at (b e : Nat) : ∀ (n x : Nat), e - x ≤ n → x ≤ e → ∀ (k : Nat) (p : Nat × Nat), (gre b x e)[k]? = some p →
    okB p.1 e p.2 ∧ p.2 ≤ b ∧ (p.2 < b → ¬ okB p.1 e (p.2 + 1)) ∧ stt b x e k = p.1 ∧ stt b x e (k + 1) = p.1 + 2 ^ p.2 ∧ x ≤ p.1 := by
  intro n
  induction n with
  | zero =>
    intro x hn hx k p hp
    rw [gre_no (by omega)] at hp
    simp at hp
  | succ n ih =>
    intro x hn hx k p hp
    by_cases hlt : x < e
    · have hs := fr_spec (b := b) (x := x) (e := e) b 0 (by omega) (by omega) (okB_zero hlt)
      have hpos : 0 < 2 ^ fr b x e 0 := Nat.pow_pos (by omega)
      have hle := hs.1.2
      have est : ∀ k, stt b x e (k + 1) = stt b (x + 2 ^ fr b x e 0) e k := by
        intro k
        unfold stt
        rw [gre_yes hlt]
        simp
      cases k with
      | zero =>
        rw [gre_yes hlt] at hp
        simp at hp
        subst hp
        refine ⟨hs.1, hs.2.2.1, hs.2.2.2, stt_zero hx, ?_, Nat.le_refl _⟩
        rw [est, stt_zero hle]
      | succ k =>
        rw [gre_yes hlt] at hp
        simp only [List.getElem?_cons_succ] at hp
        obtain ⟨a1, a2, a3, a4, a5, a6⟩ := ih _ (by omega) hle k p hp
        exact ⟨a1, a2, a3, by rw [est]; exact a4, by rw [est]; exact a5, by omega⟩
    · rw [gre_no (by omega)] at hp
      simp at hp
theorem bitB_inj {v u i : Nat} (h : bitB v i = bitB u i) : v / 2 ^ i % 2 = u / 2 ^ i % 2 := by
  unfold bitB at h
  split at h <;> split at h <;> first | omega | (exact absurd h (by decide))
theorem same_high {b v u n : Nat} (hv : v < 2 ^ b) (hu : u < 2 ^ b) (hn : n ≤ b) (h : ∀ i, i < n → bitB v (b - 1 - i) = bitB u (b - 1 - i)) : v / 2 ^ (b - n) = u / 2 ^ (b - n) := by
  apply Nat.eq_of_testBit_eq
  intro i
  rw [Nat.testBit_eq_decide_div_mod_eq, Nat.testBit_eq_decide_div_mod_eq, Nat.div_div_eq_div_mul, Nat.div_div_eq_div_mul, ← Nat.pow_add]
  by_cases hi : b - n + i < b
  · have h1 := bitB_inj (h (b - 1 - (b - n + i)) (by omega))
    rw [show b - 1 - (b - 1 - (b - n + i)) = b - n + i by omega] at h1
    rw [h1]
  · have hle : 2 ^ b ≤ 2 ^ (b - n + i) := Nat.pow_le_pow_right (by omega) (by omega)
    rw [Nat.div_eq_of_lt (by omega), Nat.div_eq_of_lt (by omega)]
theorem high_same {b v u n : Nat} (hn : n ≤ b) (h : v / 2 ^ (b - n) = u / 2 ^ (b - n)) : ∀ i, i < n → bitB v (b - 1 - i) = bitB u (b - 1 - i) := by
  intro i hi
  have h1 := bit_shift v (n - 1 - i) (b - n)
  have h2 := bit_shift u (n - 1 - i) (b - n)
  rw [show n - 1 - i + (b - n) = b - 1 - i by omega] at h1 h2
  rw [← h1, ← h2, h]
def hasB (c h : List UInt8) : Bool := (c.zip h).all fun p => p.1 == 120 || p.1 == p.2
theorem bit_ne_x (v i : Nat) : bitB v i ≠ 120 := by unfold bitB; split <;> decide
theorem hasB_iff {c h : List UInt8} (hl : c.length = h.length) : hasB c h = true ↔ ∀ i, i < c.length → c[i]? = some 120 ∨ c[i]? = h[i]? := by
  unfold hasB
  rw [List.all_eq_true]
  constructor
  · intro H i hi
    have := H (c[i], h[i]'(by omega)) (by rw [List.mem_iff_getElem]; exact ⟨i, by simp; omega, by simp⟩)
    simp only [Bool.or_eq_true, beq_iff_eq] at this
    rw [List.getElem?_eq_getElem hi, List.getElem?_eq_getElem (show i < h.length by omega)]
    exact this.imp (congrArg some) (congrArg some)
  · intro H p hp
    obtain ⟨i, hi, rfl⟩ := List.mem_iff_getElem.1 hp
    have hi' : i < c.length := by simp at hi; omega
    have := H i hi'
    rw [List.getElem?_eq_getElem hi', List.getElem?_eq_getElem (show i < h.length by omega)] at this
    simp only [List.getElem_zip, Bool.or_eq_true, beq_iff_eq]
    exact this.imp (fun h => Option.some.inj h) (fun h => Option.some.inj h)
theorem pre_get {b : Nat} {p : Nat × Nat} (i : Nat) : (preT b p)[i]? = if i < b - p.2 then some (bitB p.1 (b - 1 - i)) else if i - (b - p.2) < p.2 then some 120 else none := by
  unfold preT
  rw [List.getElem?_append]
  rw [hiB_len]
  split
  · simp [hiB, *]
  · rw [List.getElem?_replicate]
theorem has_pre {b v : Nat} {p : Nat × Nat} (hp : p.1 < 2 ^ b) (hf : p.2 ≤ b) (hv : v < 2 ^ b) (hm : p.1 % 2 ^ p.2 = 0) : hasB (preT b p) (hiB v b b) = decide (p.1 ≤ v ∧ v < p.1 + 2 ^ p.2) := by
  have hpos : 0 < 2 ^ p.2 := Nat.pow_pos (by omega)
  have hdiv : (p.1 ≤ v ∧ v < p.1 + 2 ^ p.2) ↔ p.1 / 2 ^ p.2 = v / 2 ^ p.2 := by
    obtain ⟨q, hq⟩ := Nat.dvd_of_mod_eq_zero hm
    rw [hq, Nat.mul_div_cancel_left _ hpos, eq_comm, Nat.div_eq_iff hpos, Nat.mul_comm]
    omega
  rw [Bool.eq_iff_iff, decide_eq_true_iff, hdiv, hasB_iff (by rw [preT_len hf, hiB_len]), preT_len hf]
  have e : p.2 = b - (b - p.2) := by omega
  constructor
  · intro H
    have := same_high (n := b - p.2) hp hv (by omega) (fun i hi => by
      have h := H i (by omega)
      rw [pre_get, if_pos hi] at h
      rcases h with h | h
      · exact absurd (Option.some.inj h) (bit_ne_x _ _)
      · rw [show (hiB v b b)[i]? = some (bitB v (b - 1 - i)) by simp [hiB, show i < b by omega]] at h
        exact Option.some.inj h)
    rw [← e] at this
    exact this
  · intro H i hi
    have := high_same (b := b) (n := b - p.2) (v := p.1) (u := v) (by omega) (by rw [← e]; exact H)
    rw [pre_get]
    split
    · right
      rw [show (hiB v b b)[i]? = some (bitB v (b - 1 - i)) by simp [hiB, hi], this i (by assumption)]
    · left
      rw [if_pos (by omega)]
def lowT (c : List UInt8) : List UInt8 := c.map fun x => if x == 120 then 48 else x
theorem low_pre {b : Nat} {p : Nat × Nat} (hf : p.2 ≤ b) (hm : p.1 % 2 ^ p.2 = 0) : lowT (preT b p) = hiB p.1 b b := by
  apply List.ext_getElem?
  intro i
  unfold lowT
  rw [List.getElem?_map, pre_get]
  by_cases hi : i < b
  · rw [show (hiB p.1 b b)[i]? = some (bitB p.1 (b - 1 - i)) by simp [hiB, hi]]
    split
    · have := bit_ne_x p.1 (b - 1 - i)
      simp [this]
    · rw [if_pos (by omega)]
      have h0 : p.1 / 2 ^ (b - 1 - i) % 2 = 0 := by
        obtain ⟨q, hq⟩ := Nat.dvd_of_mod_eq_zero hm
        have e : p.2 = (b - 1 - i) + 1 + (p.2 - (b - 1 - i) - 1) := by omega
        rw [hq, e, Nat.pow_add, Nat.pow_succ, Nat.mul_assoc, Nat.mul_assoc, Nat.mul_div_cancel_left _ (Nat.pow_pos (by omega)), Nat.mul_mod_right]
      simp [bitB, h0]
  · rw [if_neg (by omega), if_neg (by omega), List.getElem?_eq_none (by rw [hiB_len]; omega)]
    rfl
theorem hiB_cons (v b : Nat) : hiB v (b + 1) (b + 1) = bitB v b :: hiB v b b := by
  unfold hiB
  rw [List.range_succ_eq_map, List.map_cons, List.map_map]
  congr 1
  apply List.map_congr_left
  intro i _
  simp only [Function.comp]
  congr 1
  omega
theorem hi_less : ∀ (b x y : Nat), x % 2 ^ b < y % 2 ^ b → Op.bytesLess (hiB x b b) (hiB y b b) = true := by
  intro b
  induction b with
  | zero => intro x y h; simp [Nat.mod_one] at h
  | succ b ih =>
    intro x y h
    rw [hiB_cons, hiB_cons, Op.bytesLess]
    rw [Nat.mod_pow_succ, Nat.mod_pow_succ] at h
    have h1 : x / 2 ^ b % 2 < 2 := Nat.mod_lt _ (by omega)
    have h2 : y / 2 ^ b % 2 < 2 := Nat.mod_lt _ (by omega)
    have hx : x % 2 ^ b < 2 ^ b := Nat.mod_lt _ (Nat.pow_pos (by omega))
    have hy : y % 2 ^ b < 2 ^ b := Nat.mod_lt _ (Nat.pow_pos (by omega))
    rcases (show (x / 2 ^ b % 2 = 0 ∨ x / 2 ^ b % 2 = 1) by omega) with ex | ex <;> rcases (show (y / 2 ^ b % 2 = 0 ∨ y / 2 ^ b % 2 = 1) by omega) with ey | ey
    · rw [ex, ey] at h
      rw [ih x y (by omega)]
      simp [bitB, ex, ey]
    · simp [bitB, ex, ey]
    · rw [ex, ey] at h
      omega
    · rw [ex, ey] at h
      rw [ih x y (by omega)]
      simp [bitB, ex, ey]
theorem no_halves {b e x f : Nat} (he : e ≤ 2 ^ b) (hm : x % 2 ^ f = 0) (hf : f ≤ b) (hno : f < b → ¬ okB x e (f + 1)) (h2 : x + 2 ^ f + 2 ^ f ≤ e) : f < b ∧ hiB (x + 2 ^ f) b (b - f - 1) ≠ hiB x b (b - f - 1) := by
  have hpos : 0 < 2 ^ f := Nat.pow_pos (by omega)
  have hfb : f < b := by
    rcases Nat.lt_or_ge f b with h | h
    · exact h
    · have : f = b := by omega
      subst this
      omega
  refine ⟨hfb, fun hh => hno hfb ?_⟩
  have hs : x / 2 ^ (f + 1) = (x + 2 ^ f) / 2 ^ (f + 1) := by
    have := same_high (b := b) (v := x + 2 ^ f) (u := x) (n := b - f - 1) (by omega) (by omega) (by omega) (fun i hi => by
      have h1 := congrArg (fun l => l[i]?) hh
      simp only [hiB, List.getElem?_map, List.getElem?_range hi, Option.map_some] at h1
      exact Option.some.inj h1)
    rw [show b - (b - f - 1) = f + 1 by omega] at this
    exact this.symm
  refine ⟨?_, by rw [Nat.pow_succ]; omega⟩
  obtain ⟨q, hq⟩ := Nat.dvd_of_mod_eq_zero hm
  rw [Nat.pow_succ, hq, ← Nat.mul_succ, Nat.mul_div_mul_left _ _ hpos, Nat.mul_div_mul_left _ _ hpos] at hs
  rw [Nat.pow_succ, hq, Nat.mul_mod_mul_left, show q % 2 = 0 by omega, Nat.mul_zero]
theorem count_next {lo v x f : Nat} (h : lo ≤ x) : (if lo ≤ v ∧ v < x then 1 else 0) + (if x ≤ v ∧ v < x + 2 ^ f then 1 else 0) = (if lo ≤ v ∧ v < x + 2 ^ f then (1 : Nat) else 0) := by
  have hpos : 0 < 2 ^ f := Nat.pow_pos (by omega)
  generalize 2 ^ f = t at *
  split <;> split <;> split <;> omega
def Pfx (c : List UInt8) : Prop := ∀ i, i < c.length → (c.getD i 0 = 48 ∨ c.getD i 0 = 49 ∨ c.getD i 0 = 120) ∧ (0 < i → c.getD (i - 1) 0 = 120 → c.getD i 0 = 120)
theorem pre_pfx {b : Nat} {p : Nat × Nat} (hf : p.2 ≤ b) : Pfx (preT b p) := by
  intro i hi
  rw [preT_len hf] at hi
  have hg : ∀ j, j < b → (preT b p).getD j 0 = if j < b - p.2 then bitB p.1 (b - 1 - j) else 120 := by
    intro j hj
    rw [List.getD_eq_getElem?_getD, pre_get]
    split
    · rfl
    · rw [if_pos (by omega)]; rfl
  rw [hg i hi, hg (i - 1) (by omega)]
  constructor
  · split
    · unfold bitB; split <;> simp
    · simp
  · intro h0 h1
    split at h1
    · exact absurd h1 (bit_ne_x _ _)
    · rw [if_neg (by omega)]
end Go.Proofs.YtagjpdeolodpkaaGreatDoor.Fl

namespace Go.Proofs.YtagjpdeolodpkaaGreatDoor.Fl
open Go.RowKit Mm Law
theorem low_step (l : List UInt8) (k : Nat) (x : UInt8) (h : l[k]? = some x) : lowT (l.take (k + 1)) = lowT (l.take k) ++ [if x == 120 then 48 else x] := by
  unfold lowT
  rw [List.take_add_one, h, List.map_append]
  rfl
end Go.Proofs.YtagjpdeolodpkaaGreatDoor.Fl

namespace Go.Proofs.YtagjpdeolodpkaaGreatDoor.Fl
open Go.RowKit Mm Law
theorem str_takeF (s : ByteArray) (n : Nat) : s.extract 0 n = str (s.data.toList.take n) := by
  apply ByteArray.ext
  rw [← Array.toList_inj]
  simp [str, ByteArray.data_extract]
theorem pow_32 {B : Nat} (h : B ≤ 32) : 1 ≤ (2 : Int) ^ B ∧ (2 : Int) ^ B ≤ 4294967296 := by
  have h1 := topN_pos B
  have h2 := pow_33 h
  rw [pow_int]
  have h3 : (2 : Nat) ^ 32 = 4294967296 := by decide
  omega
abbrev CS1 (W : World) (g o : Nat) (z : Value) (w' : World) : Prop := w'.cell? ⟨g, o, none⟩ = some z ∧ Below W.heap.size W w'
theorem CS1.go {W w1 w2 : World} {g o : Nat} {z : Value} (hg : g < W.heap.size) (h : CS1 W g o z w1) (hb : Below w1.heap.size w1 w2) : CS1 W g o z w2 :=
  ⟨by rw [hb.cell (p := ⟨g, o, none⟩) (Nat.lt_of_lt_of_le hg h.2.size)]; exact h.1, bnx h.2 hb⟩
abbrev CS2 (W : World) (g o p : Nat) (z y : Value) (w' : World) : Prop := w'.cell? ⟨g, o, none⟩ = some z ∧ w'.cell? ⟨g, p, none⟩ = some y ∧ Below W.heap.size W w'
theorem CS2.go {W w1 w2 : World} {g o p : Nat} {z y : Value} (hg : g < W.heap.size) (h : CS2 W g o p z y w1) (hb : Below w1.heap.size w1 w2) : CS2 W g o p z y w2 :=
  ⟨by rw [hb.cell (p := ⟨g, o, none⟩) (Nat.lt_of_lt_of_le hg h.2.2.size)]; exact h.1, by rw [hb.cell (p := ⟨g, p, none⟩) (Nat.lt_of_lt_of_le hg h.2.2.size)]; exact h.2.1, bnx h.2.2 hb⟩
structure BlkT (b f x v : Nat) (c : ByteArray) : Prop where
  sz : c.size = b
  fb : f ≤ b
  pf : Pfx c.data.toList
  has : hasB c.data.toList (hiB v b b) = decide (x ≤ v ∧ v < x + 2 ^ f)
  dig : ∀ i, i < b - f → c.data.toList[i]? ≠ some 120
  dig2 : 0 < f → c.data.toList[b - f]? = some 120
  low : lowT c.data.toList = hiB x b b
  top : c.data.toList.take (b - f - 1) = hiB x b (b - f - 1)
theorem blkT {b v : Nat} {p : Nat × Nat} (hp : p.1 < 2 ^ b) (hf : p.2 ≤ b) (hv : v < 2 ^ b) (hm : p.1 % 2 ^ p.2 = 0) : BlkT b p.2 p.1 v (str (preT b p)) where
  sz := by rw [str_size, preT_len hf]
  fb := hf
  pf := by rw [str_list]; exact pre_pfx hf
  has := by rw [str_list]; exact has_pre hp hf hv hm
  dig := fun i hi h => by
    rw [str_list, pre_get, if_pos hi] at h
    exact bit_ne_x _ _ (Option.some.inj h)
  dig2 := fun h => by rw [str_list, pre_get, if_neg (by omega), if_pos (by omega)]
  low := by rw [str_list]; exact low_pre hf hm
  top := by
    rw [str_list]
    unfold preT
    rw [List.take_append_of_le_length (by rw [hiB_len]; omega)]
    unfold hiB
    rw [← List.map_take, List.take_range, show min (b - p.2 - 1) (b - p.2) = b - p.2 - 1 by omega]
theorem ne_lists {a b : List UInt8} (h : a ≠ b) : ((str a).toList == (str b).toList) = false := by
  rw [ByteArray.toList_eq, ByteArray.toList_eq, str_list, str_list]
  simpa using h
theorem geq_no {x y : List UInt8} (h : Op.bytesLess x y = true) : (!(Op.bytesLess (str x).toList (str y).toList)) = false := by
  rw [ByteArray.toList_eq, ByteArray.toList_eq, str_list, str_list, h]; rfl
theorem fewest_sees {w1 wr : World} {g off : Nat} {G : List (Nat × Nat)} {b k : Nat} {p : Nat × Nat} (hq : ∀ j u, (sC (G.map (preT b)))[j]? = some u → w1.cell? ⟨g, off + j, none⟩ = some u) (hg : g < w1.heap.size) (hb : Below w1.heap.size w1 wr) (hk : G[k]? = some p) : wr.cell? ⟨g, off + k, none⟩ = some (.string (str (preT b p))) := by
  rw [hb.cell (p := ⟨g, off + k, none⟩) hg]
  exact hq _ _ (sC_at _ k _ (by rw [List.getElem?_map, hk]; rfl))
theorem nat_wf {n : Nat} (h : n ≤ 4294967296) : (Lit.int .i64 (n : Int)).wf = true := by
  simp [Lit.wf, IntKind.min, IntKind.max, IntKind.bits, IntKind.signed]
  omega
theorem cov_ok (B L I : Nat) (b1 : 1 ≤ B) (b2 : B ≤ 32) (hLI : L ≤ I) (hI : I < 2 ^ B) (w : World) :
    Calls Tryz.prog 21 #[.int .i64 (B : Int), .int .i64 (L : Int), .int .i64 (I : Int)] w fun e w' => ∃ u, e = .returned (.tuple #[u, .int .i64 0]) ∧ w'.ownsRow w.heap.size 9 1 u (gre B L (I + 1)).length (sC ((gre B L (I + 1)).map (preT B))) ∧ Below w.heap.size w w' := by
  obtain ⟨t1, t2⟩ := top_lt B b2
  have h := cov_walk (B : Int) (L : Int) (I : Int) (nat_wf (by omega)) (nat_wf (by omega)) (nat_wf (by omega)) w
  unfold CovAns at h
  obtain ⟨e1, e2⟩ := rcov_ok B L I b1 b2 hLI (by omega)
  rw [e1, e2, List.length_map] at h
  exact h
theorem few_at (B L I V : Nat) (hLI : L ≤ I) (hI : I < 2 ^ B) (hV : V < 2 ^ B) : ∀ (k : Nat) (p : Nat × Nat), (gre B L (I + 1))[k]? = some p →
    BlkT B p.2 p.1 V (str (preT B p)) ∧ stt B L (I + 1) k = p.1 ∧ stt B L (I + 1) (k + 1) = p.1 + 2 ^ p.2 ∧ L ≤ p.1 := by
  intro k p hp
  obtain ⟨a1, a2, a3, a4, a5, a6⟩ := gre_at B (I + 1) _ L (Nat.le_refl _) (by omega) k p hp
  have hpos : 0 < 2 ^ p.2 := Nat.pow_pos (by omega)
  have := a1.2
  exact ⟨blkT (by omega) a2 hV a1.1, a4, a5, a6⟩
theorem few_next (B L I : Nat) (hLI : L ≤ I) (hI : I < 2 ^ B) : ∀ (k : Nat) (p q : Nat × Nat), (gre B L (I + 1))[k]? = some p → (gre B L (I + 1))[k + 1]? = some q →
    Op.bytesLess (hiB p.1 B B) (hiB q.1 B B) = true ∧ (p.2 = q.2 → p.2 < B ∧ hiB q.1 B (B - p.2 - 1) ≠ hiB p.1 B (B - p.2 - 1)) := by
  intro k p q hp hq
  obtain ⟨a1, a2, a3, a4, a5, a6⟩ := gre_at B (I + 1) _ L (Nat.le_refl _) (by omega) k p hp
  obtain ⟨c1, c2, c3, c4, c5, c6⟩ := gre_at B (I + 1) _ L (Nat.le_refl _) (by omega) (k + 1) q hq
  have hpos : 0 < 2 ^ p.2 := Nat.pow_pos (by omega)
  have hpos2 : 0 < 2 ^ q.2 := Nat.pow_pos (by omega)
  have e : q.1 = p.1 + 2 ^ p.2 := by omega
  have := c1.2
  refine ⟨hi_less B _ _ (by rw [Nat.mod_eq_of_lt (by omega), Nat.mod_eq_of_lt (by omega)]; omega), fun h => ?_⟩
  rw [e]
  exact no_halves (by omega) a1.1 a2 a3 (by rw [← e]; rw [h]; omega)
theorem swq {P : Program} {f : FuncId} {args : Array Value} {w : World} {v : Value} (h : Calls P f args w fun e w' => e = .returned v ∧ w' = w) : Calls P f args w fun e w' => e = .returned v ∧ w = w' :=
  h.mono fun _ _ ⟨a, b⟩ => ⟨a, b.symm⟩
def cntF (L V s : Nat) : Nat := if L ≤ V ∧ V < s then 1 else 0
theorem cntF_le (L V s : Nat) : cntF L V s ≤ 1 := by unfold cntF; split <;> omega
theorem cntF_next {L V x f : Nat} (h : L ≤ x) : cntF L V (x + 2 ^ f) = cntF L V x + (if x ≤ V ∧ V < x + 2 ^ f then 1 else 0) := (count_next h).symm
theorem gre_some {B L I : Nat} (h : L ≤ I) : 0 < (gre B L (I + 1)).length := by
  rw [gre_yes (by omega)]; simp
end Go.Proofs.YtagjpdeolodpkaaGreatDoor.Fl
