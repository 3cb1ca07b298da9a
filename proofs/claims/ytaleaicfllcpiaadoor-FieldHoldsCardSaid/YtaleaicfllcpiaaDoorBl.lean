/- Unpack and Pack, there and back: the plain law; layouts that are made of single letters. -/
import Derived.Test.YtaleaicfllcpiaaDoorUv
namespace Go.Proofs.YtaleaicfllcpiaaDoor.Fl
open Go.RowKit Mm Law
set_option linter.unusedVariables false
set_option linter.unusedSimpArgs false
set_option linter.unusedSectionVars false
theorem numB_app (a b : List UInt8) : numB (a ++ b) = numB a * 2 ^ b.length + numB b := by
  obtain ⟨n, hn⟩ : ∃ n, b.length = n := ⟨_, rfl⟩
  induction n generalizing b with
  | zero =>
    rw [List.eq_nil_of_length_eq_zero hn]
    simp [numB]
  | succ n ih =>
    have hne : b ≠ [] := fun h => by rw [h] at hn; simp at hn
    obtain ⟨q, c, rfl⟩ : ∃ q c, b = q ++ [c] := ⟨b.dropLast, b.getLast hne, (List.dropLast_concat_getLast hne).symm⟩
    rw [List.length_append, List.length_singleton] at hn
    rw [← List.append_assoc, numB_snoc, ih q (by omega), numB_snoc, List.length_append, List.length_singleton, Nat.pow_succ]
    rw [Nat.mul_add, ← Nat.mul_assoc, ← Nat.mul_assoc]
    rw [Nat.mul_comm 2 (numB a), Nat.mul_assoc (numB a) 2, Nat.mul_comm 2 (2 ^ q.length), ← Nat.mul_assoc]
    omega
theorem numB_top {s : List UInt8} {k : Nat} (_ : k ≤ s.length) : numB s / 2 ^ (s.length - k) = numB (s.take k) := by
  have e : numB s = numB (s.take k) * 2 ^ (s.length - k) + numB (s.drop k) := by
    conv => lhs; rw [← List.take_append_drop k s]
    rw [numB_app, List.length_drop]
  have h := numB_lt _ (s.drop k) rfl
  rw [List.length_drop] at h
  rw [e, Nat.mul_comm, Nat.mul_add_div (Nat.pow_pos (by omega)), Nat.div_eq_of_lt h, Nat.add_zero]
theorem bit_back {c : UInt8} (h : c ∈ dBits) : (if bit1 c = 1 then (49 : UInt8) else 48) = c := by
  unfold dBits at h
  simp at h
  rcases h with rfl | rfl <;> rfl
theorem hiB_numB {s : List UInt8} (h : ∀ b ∈ s, b ∈ dBits) : hiB (numB s) s.length s.length = s := by
  apply List.ext_getElem?
  intro k
  by_cases hk : k < s.length
  · rw [hiB_get _ _ _ _ hk, List.getElem?_eq_getElem hk]
    congr 1
    unfold bitB
    have h1 := numB_top (s := s) (k := k + 1) (by omega)
    rw [show s.length - 1 - k = s.length - (k + 1) from by omega, h1, numB_take hk]
    have h2 : bit1 s[k] ≤ 1 := by unfold bit1; split <;> omega
    rw [show (2 * numB (s.take k) + bit1 s[k]) % 2 = bit1 s[k] from by omega]
    exact bit_back (h _ (List.getElem_mem hk))
  · rw [List.getElem?_eq_none (by rw [hiB_len]; omega), List.getElem?_eq_none (by omega)]
theorem bit1_B (v i : Nat) : bit1 (bitB v i) = v / 2 ^ i % 2 := by
  unfold bit1 bitB
  by_cases h : v / 2 ^ i % 2 = 1
  · rw [if_pos h, h]; rfl
  · rw [if_neg h]
    have : v / 2 ^ i % 2 = 0 := by omega
    rw [this]; rfl
theorem numB_hi (v b : Nat) (hv : v < 2 ^ b) : ∀ k, k ≤ b → numB (hiB v b k) = v / 2 ^ (b - k) := by
  intro k
  induction k with
  | zero =>
    intro _
    rw [Nat.sub_zero, Nat.div_eq_of_lt hv]
    rfl
  | succ k ih =>
    intro hk
    have e : hiB v b (k + 1) = hiB v b k ++ [bitB v (b - 1 - k)] := by
      unfold hiB
      rw [List.range_succ, List.map_append]
      rfl
    rw [e, numB_snoc, ih (by omega), bit1_B]
    have e2 : b - k = (b - (k + 1)) + 1 := by omega
    have e3 : b - 1 - k = b - (k + 1) := by omega
    rw [e2, e3, Nat.pow_succ, ← Nat.div_div_eq_div_mul]
    omega
theorem numB_hiB (v b : Nat) (hv : v < 2 ^ b) : numB (hiB v b b) = v := by
  rw [numB_hi v b hv b (Nat.le_refl _), Nat.sub_self]
  simp
/-! Places. -/
def Wide (l : List Fld) : Prop := ∀ j, (hj : j < l.length) → 1 ≤ l[j].2 ∧ l[j].2 ≤ 32
theorem bitsAt_get {l : List Fld} (h : Wide l) {k : Nat} (hk : k < l.length) : (bitsAt l k : Int) = l[k].2 ∧ 1 ≤ bitsAt l k ∧ bitsAt l k ≤ 32 := by
  have h1 := h k hk
  have h2 := bitsAt_of (l := l) (k := k) (f := l[k]) (by simp [hk]) h1.1
  exact ⟨h2, by omega, by omega⟩
theorem pos_int {l : List Fld} (h : Wide l) {k : Nat} (hk : k ≤ l.length) : sumTo l k = (posN l k : Int) := by
  have := sum_bd h k hk
  unfold posN
  omega
theorem pos_zero (l : List Fld) : posN l 0 = 0 := by unfold posN; rw [sumTo_zero]; rfl
theorem pos_succ {l : List Fld} (h : Wide l) {k : Nat} (hk : k < l.length) : posN l (k + 1) = posN l k + bitsAt l k := by
  have h1 := pos_int h (k := k) (by omega)
  have h2 := pos_int h (k := k + 1) (by omega)
  rw [sumTo_succ hk] at h2
  have h3 := (bitsAt_get h hk).1
  omega
theorem pos_mono {l : List Fld} (h : Wide l) : ∀ {j k : Nat}, j ≤ k → k ≤ l.length → posN l j ≤ posN l k := by
  intro j k hjk
  induction k with
  | zero => intro _; have : j = 0 := by omega
            rw [this]; exact Nat.le_refl _
  | succ k ih =>
    intro hk
    rcases Nat.lt_or_ge k j with h1 | h1
    · have : j = k + 1 := by omega
      rw [this]; exact Nat.le_refl _
    · have := ih h1 (by omega)
      have h2 := pos_succ h (k := k) (by omega)
      omega
theorem pkT_pos {l : List Fld} (h : Wide l) (x : List Int) : ∀ k, k ≤ l.length → (pkT l x k).length = posN l k := by
  intro k
  induction k with
  | zero => intro _; rw [pos_zero]; rfl
  | succ k ih =>
    intro hk
    rw [show pkT l x (k + 1) = pkT l x k ++ hiB (valAt x k).toNat (bitsAt l k) (bitsAt l k) from rfl, List.length_append, ih (by omega), hiB_len, pos_succ h (by omega)]
theorem pkT_pre (l : List Fld) (x : List Int) (k : Nat) : ∀ m, ∃ r, pkT l x (k + m) = pkT l x k ++ r := by
  intro m
  induction m with
  | zero => exact ⟨[], by simp⟩
  | succ m ih =>
    obtain ⟨r, hr⟩ := ih
    exact ⟨r ++ hiB (valAt x (k + m)).toNat (bitsAt l (k + m)) (bitsAt l (k + m)), by
      rw [show pkT l x (k + (m + 1)) = pkT l x (k + m) ++ hiB (valAt x (k + m)).toNat (bitsAt l (k + m)) (bitsAt l (k + m)) from rfl, hr, List.append_assoc]⟩
theorem fld_pk {l : List Fld} (h : Wide l) (x : List Int) {k : Nat} (hk : k < l.length) : fldB l (pkT l x l.length) k = hiB (valAt x k).toNat (bitsAt l k) (bitsAt l k) := by
  obtain ⟨r, hr⟩ := pkT_pre l x (k + 1) (l.length - (k + 1))
  rw [show k + 1 + (l.length - (k + 1)) = l.length from by omega] at hr
  unfold fldB
  rw [hr, show pkT l x (k + 1) = pkT l x k ++ hiB (valAt x k).toNat (bitsAt l k) (bitsAt l k) from rfl, List.append_assoc, ← pkT_pos h x k (by omega), List.drop_left, List.take_left' (hiB_len _ _ _)]
theorem un_pk {l : List Fld} (h : Wide l) {x : List Int} (hx : x.length = l.length) (hb : ∀ k, k < l.length → ¬ tooB l x k) : ∀ k, k ≤ l.length → unT l (pkT l x l.length) k = x.take k := by
  intro k
  induction k with
  | zero => intro _; rfl
  | succ k ih =>
    intro hk
    rw [show unT l (pkT l x l.length) (k + 1) = unT l (pkT l x l.length) k ++ [(numB (fldB l (pkT l x l.length) k) : Int)] from rfl, ih (by omega), fld_pk h x (by omega), List.take_succ_eq_append_getElem (by omega)]
    congr 2
    have h1 := hb k (by omega)
    unfold tooB at h1
    have h2 : valAt x k = x[k]'(by omega) := by unfold valAt; simp [show k < x.length by omega]
    rw [h2] at h1 ⊢
    have h3 := (bitsAt_get h (k := k) (by omega)).2
    have h4 : (topN (bitsAt l k) : Int) + 1 = ((2 ^ bitsAt l k : Nat) : Int) := by
      have := Nat.pow_pos (n := bitsAt l k) (show 0 < 2 by omega)
      unfold topN
      omega
    rw [numB_hiB _ _ (by omega)]
    omega
theorem unT_at {l : List Fld} {H : List UInt8} {k : Nat} : ∀ n, k < n → valAt (unT l H n) k = (numB (fldB l H k) : Int) := by
  intro n
  induction n with
  | zero => intro h; omega
  | succ n ih =>
    intro h
    unfold valAt
    rw [show unT l H (n + 1) = unT l H n ++ [(numB (fldB l H n) : Int)] from rfl, List.getD_eq_getElem?_getD]
    rcases Nat.lt_or_ge k n with h1 | h1
    · rw [List.getElem?_append_left (by rw [unT_len]; exact h1), ← List.getD_eq_getElem?_getD]
      exact ih h1
    · have : k = n := by omega
      subst this
      rw [List.getElem?_append_right (by rw [unT_len]; exact Nat.le_refl _), unT_len, Nat.sub_self]
      rfl
theorem fldB_len {l : List Fld} (h : Wide l) {H : List UInt8} (hH : posN l l.length ≤ H.length) {k : Nat} (hk : k < l.length) : (fldB l H k).length = bitsAt l k := by
  have h1 := pos_succ h hk
  have h2 := pos_mono h (j := k + 1) (k := l.length) (by omega) (Nat.le_refl _)
  unfold fldB
  rw [List.length_take, List.length_drop]
  omega
theorem fldB_sub {l : List Fld} {H : List UInt8} (h : ∀ b ∈ H, b ∈ dBits) (k : Nat) : ∀ b ∈ fldB l H k, b ∈ dBits := fun b hb => h b (List.mem_of_mem_drop (List.mem_of_mem_take hb))
theorem pk_un {l : List Fld} (h : Wide l) {H : List UInt8} (hH : H.length = posN l l.length) (hd : ∀ b ∈ H, b ∈ dBits) : ∀ k, k ≤ l.length → pkT l (unT l H l.length) k = H.take (posN l k) := by
  intro k
  induction k with
  | zero => intro _; rw [pos_zero]; rfl
  | succ k ih =>
    intro hk
    rw [show pkT l (unT l H l.length) (k + 1) = pkT l (unT l H l.length) k ++ hiB (valAt (unT l H l.length) k).toNat (bitsAt l k) (bitsAt l k) from rfl, ih (by omega), unT_at _ (by omega), Int.toNat_natCast]
    have h1 := fldB_len h (H := H) (by omega) (k := k) (by omega)
    have h2 := hiB_numB (fldB_sub (l := l) hd k)
    rw [h1] at h2
    rw [h2, pos_succ h (by omega)]
    unfold fldB
    rw [List.take_add]
theorem un_low {l : List Fld} (h : Wide l) {H : List UInt8} (hH : H.length = posN l l.length) : ∀ k, k < l.length → ¬ tooB l (unT l H l.length) k := by
  intro k hk
  unfold tooB
  rw [unT_at _ hk]
  have h1 := fldB_len h (H := H) (by omega) hk
  have h2 := numB_lt _ (fldB l H k) h1
  have h4 : (topN (bitsAt l k) : Int) + 1 = ((2 ^ bitsAt l k : Nat) : Int) := by
    have := Nat.pow_pos (n := bitsAt l k) (show 0 < 2 by omega)
    unfold topN
    omega
  omega
/-! Layouts of single letters. -/
def letterK (k : Nat) : ByteArray := str [UInt8.ofNat (97 + k)]
def Lay (l : List Fld) : Prop := 0 < l.length ∧ l.length ≤ 8 ∧ ∀ k, (hk : k < l.length) → l[k].1 = letterK k ∧ 1 ≤ l[k].2 ∧ l[k].2 ≤ 32
theorem letter_size (k : Nat) : (letterK k).size = 1 := str_size _
theorem letter_ok {k : Nat} (hk : k < 26) : nameOk (letterK k) := by
  have e : (UInt8.ofNat (97 + k)).toNat = 97 + k := by rw [UInt8.toNat_ofNat']; exact Nat.mod_eq_of_lt (by omega)
  refine ⟨by rw [letter_size]; decide, by rw [letter_size]; decide, fun j hj => ?_⟩
  rw [letter_size] at hj
  have : j = 0 := by omega
  subst this
  left
  show letterN ((letterK k).data.toList.getD 0 0).toNat
  rw [show (letterK k).data.toList = [UInt8.ofNat (97 + k)] from str_list _]
  show letterN (UInt8.ofNat (97 + k)).toNat
  rw [e]
  unfold letterN
  omega
theorem letter_inj {j k : Nat} (hj : j < 26) (hk : k < 26) (h : letterK j = letterK k) : j = k := by
  have h1 := congrArg (fun s : ByteArray => s.data.toList) h
  have h2 : [UInt8.ofNat (97 + j)] = [UInt8.ofNat (97 + k)] := h1
  have h3 := congrArg UInt8.toNat (List.cons.inj h2).1
  rw [UInt8.toNat_ofNat', UInt8.toNat_ofNat', Nat.mod_eq_of_lt (by omega), Nat.mod_eq_of_lt (by omega)] at h3
  omega
theorem Lay.wide {l : List Fld} (h : Lay l) : Wide l := fun j hj => (h.2.2 j hj).2
theorem lay_good {l : List Fld} (h : Lay l) {k : Nat} (hk : k < l.length) : ¬ badAt l k l[k] := by
  obtain ⟨h0, h8, ha⟩ := h
  have hw : Wide l := fun j hj => (ha j hj).2
  obtain ⟨hn, hb1, hb2⟩ := ha k hk
  have hs := sum_bd hw k (by omega)
  rintro (h1 | h1 | h1 | ⟨g, hg, h1⟩ | h1 | h1 | h1)
  · exact h1 (by rw [hn]; exact letter_ok (by omega))
  · have := congrArg ByteArray.size (hn.symm.trans h1)
    rw [letter_size] at this
    exact absurd this (by decide)
  · have := congrArg ByteArray.size (hn.symm.trans h1)
    rw [letter_size] at this
    exact absurd this (by decide)
  · obtain ⟨j, hj⟩ := List.mem_iff_getElem?.1 hg
    have hjl := (List.getElem?_eq_some_iff.1 hj).1
    rw [List.length_take] at hjl
    rw [List.getElem?_take, if_pos (by omega), List.getElem?_eq_getElem (by omega)] at hj
    have := (ha j (by omega)).1
    rw [Option.some.inj hj, h1, hn] at this
    have := letter_inj (by omega) (by omega) this
    omega
  · omega
  · omega
  · omega
theorem lay_chkFrom {l : List Fld} (h : Lay l) : ∀ n k, l.length - k ≤ n → chkFrom l k = (0, 0) := by
  intro n
  induction n with
  | zero => intro k hk; exact chkFrom_end (by omega)
  | succ n ih =>
    intro k hk
    by_cases hlt : k < l.length
    · rw [chkFrom_ok hlt (lay_good h hlt)]
      exact ih (k + 1) (by omega)
    · exact chkFrom_end hlt
theorem lay_chk {l : List Fld} (h : Lay l) : chk l = (0, 0) := by
  have h1 := h.1
  have h2 := h.2.1
  unfold chk
  rw [if_neg (by omega), if_neg (fun e => by rw [e] at h1; simp at h1)]
  exact lay_chkFrom h l.length 0 (by omega)
end Go.Proofs.YtaleaicfllcpiaaDoor.Fl
