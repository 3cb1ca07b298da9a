/- Quote: the plain law, no program in sight. -/
import Derived.Test.YtcikhbbljhkheaaDoorPn
import Derived.Lib.DecodeNEq
import Derived.Lib.RuneBytes
import Derived.Lib.OthersKept
namespace Go.Proofs.YtcikhbbljhkheaaDoor.Sn
open Go.RowKit Mm
set_option linter.unusedVariables false
def hx (d : Nat) : UInt8 := if d < 10 then UInt8.ofNat (48 + d) else UInt8.ofNat (87 + d)
abbrev hexS : ByteArray := ⟨#[48, 49, 50, 51, 52, 53, 54, 55, 56, 57, 97, 98, 99, 100, 101, 102]⟩
theorem lt16 {n : Nat} (h : n < 16) : n = 0 ∨ n = 1 ∨ n = 2 ∨ n = 3 ∨ n = 4 ∨ n = 5 ∨ n = 6 ∨ n = 7 ∨ n = 8 ∨ n = 9 ∨ n = 10 ∨ n = 11 ∨ n = 12 ∨ n = 13 ∨ n = 14 ∨ n = 15 := by omega
theorem hex_at (n : Nat) (h : n < 16) : hexS.extract n (n + 1) = str [hx n] := by
  rcases lt16 h with h | h | h | h | h | h | h | h | h | h | h | h | h | h | h | h <;> subst h <;> decide
theorem hex_get (n : Nat) (h : n < 16) : hexS.get! n = hx n := by
  rcases lt16 h with h | h | h | h | h | h | h | h | h | h | h | h | h | h | h | h <;> subst h <;> decide
def looseP (c : Nat) : List UInt8 := [92, 120, hx (c / 16), hx (c % 16)]
def basedL (n : Nat) : List UInt8 := if n < 16 then [hx n] else basedL (n / 16) ++ [hx (n % 16)]
termination_by n
decreasing_by omega
theorem based_lt {n : Nat} (h : n < 16) : basedL n = [hx n] := by rw [basedL, if_pos h]
theorem based_ge {n : Nat} (h : ¬ n < 16) : basedL n = basedL (n / 16) ++ [hx (n % 16)] := by rw [basedL, if_neg h]
theorem based_len : ∀ (k n : Nat), n < 16 ^ (k + 1) → (basedL n).length ≤ k + 1 := by
  intro k
  induction k with
  | zero => intro n h; rw [based_lt (by simpa using h)]; simp
  | succ k ih =>
    intro n h
    by_cases hn : n < 16
    · rw [based_lt hn]; simp
    · rw [based_ge hn, List.length_append]
      have := ih (n / 16) (by rw [Nat.pow_succ] at h; omega)
      simp; omega
def unsB (n : Nat) : Bool := decide (128 ≤ n ∧ n ≤ 159 ∨ 8203 ≤ n ∧ n ≤ 8207 ∨ 8232 ≤ n ∧ n ≤ 8238 ∨ n = 65279)
/-- the text of one character -/
def runeP (r : Nat) : List UInt8 :=
  if r = 34 then [92, 34] else if r = 92 then [92, 92] else if r = 10 then [92, 110] else if r = 13 then [92, 114] else if r = 9 then [92, 116]
  else if r < 32 ∨ r = 127 then looseP r else if unsB r = true then [92, 117, 123] ++ basedL r ++ [125] else Lib.encodeRune r
def pieceP (s : ByteArray) (i : Nat) : List UInt8 := if Utf8.decode s i = (65533, 1) then looseP (s.get! i).toNat else runeP (Utf8.decode s i).1
theorem enc_len (r : Int) : 1 ≤ (Lib.encodeRune r).length ∧ (Lib.encodeRune r).length ≤ 4 := by
  have := Lib.encodeRuneZ_length r
  unfold Lib.encodeRune
  rw [List.length_map]
  exact this
theorem runeP_len {r : Nat} (h : r ≤ 1114111) : (runeP r).length ≤ 10 := by
  have := based_len 5 r (by have : (16 : Nat) ^ 6 = 16777216 := by decide
                            omega)
  have := (enc_len (r : Int)).2
  unfold runeP looseP
  repeat' split
  all_goals simp
  all_goals omega
/-- which runes are well formed -/
def okR (r : Nat) : Prop := r < 55296 ∨ (57344 ≤ r ∧ r ≤ 1114111)
theorem get_lt (s : ByteArray) (i : Nat) : (s.get! i).toNat < 256 := UInt8.toNat_lt _
theorem dec_N (n b0 b1 b2 b3 : Nat) (h : Lib.decodeN n b0 b1 b2 b3 ≠ (65533, 1)) (h0 : b0 < 256) (hn : 1 ≤ n) (h1 : b1 < 256) (h2 : b2 < 256) (h3 : b3 < 256) : okR (Lib.decodeN n b0 b1 b2 b3).1 ∧ (Lib.decodeN n b0 b1 b2 b3).2 ≤ n ∧
    Lib.encodeRuneZ ((Lib.decodeN n b0 b1 b2 b3).1 : Nat) = ([(b0 : Int), b1, b2, b3] : List Int).take (Lib.decodeN n b0 b1 b2 b3).2 ∧ 1 ≤ (Lib.decodeN n b0 b1 b2 b3).2 ∧ (Lib.decodeN n b0 b1 b2 b3).2 ≤ 4 := by
  revert h
  unfold Lib.decodeN okR
  split
  · intro _
    refine ⟨by simp only; omega, by simp only; omega, ?_, by simp, by simp⟩
    rw [Lib.encodeRuneZ_one (by simp only; omega) (by simp only; omega)]
    simp
  split
  · rename_i hb
    split
    · rename_i hv
      intro _
      refine ⟨by simp only; omega, by simp only; omega, ?_, by simp, by simp⟩
      rw [Lib.encodeRuneZ_two (by simp only; omega) (by simp only; omega)]
      simp only [List.take_succ_cons, List.take_zero]
      congr 1
      · omega
      · congr 1; omega
    · intro h; exact absurd rfl h
  split
  · rename_i hb
    split
    · rename_i hv
      intro _
      refine ⟨by simp only; omega, by simp only; omega, ?_, by simp, by simp⟩
      rw [Lib.encodeRuneZ_three (by simp only; omega)]
      simp only [List.take_succ_cons, List.take_zero]
      congr 1
      · omega
      · congr 1
        · omega
        · congr 1; omega
    · intro h; exact absurd rfl h
  split
  · rename_i hb
    split
    · rename_i hv
      intro _
      refine ⟨by simp only; omega, by simp only; omega, ?_, by simp, by simp⟩
      rw [Lib.encodeRuneZ_four (by simp only; omega) (by simp only; omega)]
      simp only [List.take_succ_cons, List.take_zero]
      congr 1
      · omega
      · congr 1
        · omega
        · congr 1
          · omega
          · congr 1; omega
    · intro h; exact absurd rfl h
  · intro h; exact absurd rfl h
/-- the bytes of a well formed character at its place -/
theorem dec_bytes (s : ByteArray) (i : Nat) (hi : i < s.size) (h : Utf8.decode s i ≠ (65533, 1)) : okR (Utf8.decode s i).1 ∧ i + (Utf8.decode s i).2 ≤ s.size ∧ 1 ≤ (Utf8.decode s i).2 ∧
    s.extract i (i + (Utf8.decode s i).2) = str (Lib.encodeRune ((Utf8.decode s i).1 : Nat)) := by
  rw [Lib.decode_at] at h ⊢
  obtain ⟨h1, h2, h3, h4, h5⟩ := dec_N _ _ _ _ _ h (get_lt _ _) (by omega) (get_lt _ _) (get_lt _ _) (get_lt _ _)
  generalize Lib.decodeN (s.size - i) (s.get! i).toNat (s.get! (i + 1)).toNat (s.get! (i + 2)).toNat (s.get! (i + 3)).toNat = d at *
  refine ⟨h1, by omega, h4, ?_⟩
  unfold Lib.encodeRune
  rw [h3]
  have hsz : s.data.toList.length = s.size := len_s s
  apply ByteArray.ext
  rw [← Array.toList_inj]
  rw [ByteArray.data_extract]
  obtain ⟨r, k⟩ := d
  simp only at h2 h4 h5 ⊢
  have hget : ∀ m, m < s.size → s.data[m]? = some (s.get! m) := by
    intro m hm
    have hm' : m < s.data.size := hm
    rw [Array.getElem?_eq_getElem hm']
    show some _ = some (s.data[m]!)
    rw [getElem!_pos s.data m hm']
  apply List.ext_getElem?
  intro j
  rw [Array.getElem?_toList, Array.getElem?_extract, str_list, List.getElem?_map, List.getElem?_take]
  by_cases hj : j < k
  · have hk4 : j = 0 ∨ j = 1 ∨ j = 2 ∨ j = 3 := by omega
    have hsz' : s.data.size = s.size := rfl
    rw [if_pos (by omega), if_pos hj, hget (i + j) (by omega)]
    rcases hk4 with e | e | e | e <;> subst e <;> simp
  · have hsz' : s.data.size = s.size := rfl
    rw [if_neg (by omega), if_neg hj]
    rfl
/-- how long the character is, and whether it is a loose byte, by the document -/
def szN (n b0 b1 b2 b3 : Nat) : Nat × Bool :=
  if b0 < 128 then (1, false)
  else if 194 ≤ b0 ∧ b0 ≤ 223 ∧ (1 < n ∧ 128 ≤ b1 ∧ b1 ≤ 191) then (2, false)
  else if b0 = 224 ∧ (1 < n ∧ 160 ≤ b1 ∧ b1 ≤ 191) ∧ (2 < n ∧ 128 ≤ b2 ∧ b2 ≤ 191) then (3, false)
  else if b0 = 237 ∧ (1 < n ∧ 128 ≤ b1 ∧ b1 ≤ 159) ∧ (2 < n ∧ 128 ≤ b2 ∧ b2 ≤ 191) then (3, false)
  else if 225 ≤ b0 ∧ b0 ≤ 239 ∧ b0 ≠ 237 ∧ (1 < n ∧ 128 ≤ b1 ∧ b1 ≤ 191) ∧ (2 < n ∧ 128 ≤ b2 ∧ b2 ≤ 191) then (3, false)
  else if b0 = 240 ∧ (1 < n ∧ 144 ≤ b1 ∧ b1 ≤ 191) ∧ (2 < n ∧ 128 ≤ b2 ∧ b2 ≤ 191) ∧ (3 < n ∧ 128 ≤ b3 ∧ b3 ≤ 191) then (4, false)
  else if 241 ≤ b0 ∧ b0 ≤ 243 ∧ (1 < n ∧ 128 ≤ b1 ∧ b1 ≤ 191) ∧ (2 < n ∧ 128 ≤ b2 ∧ b2 ≤ 191) ∧ (3 < n ∧ 128 ≤ b3 ∧ b3 ≤ 191) then (4, false)
  else if b0 = 244 ∧ (1 < n ∧ 128 ≤ b1 ∧ b1 ≤ 143) ∧ (2 < n ∧ 128 ≤ b2 ∧ b2 ≤ 191) ∧ (3 < n ∧ 128 ≤ b3 ∧ b3 ≤ 191) then (4, false)
  else (1, true)
theorem sz_fin {n b0 b1 b2 b3 sz lo hi : Nat} (hs : 2 ≤ sz) (h4 : sz ≤ 4) {C : Prop} [Decidable C] (hC : C ↔ (sz ≤ n ∧ lo ≤ b1 ∧ b1 ≤ hi ∧ (2 < sz → 128 ≤ b2 ∧ b2 ≤ 191) ∧ (3 < sz → 128 ≤ b3 ∧ b3 ≤ 191))) :
    (if C then (sz, false) else (1, true)) = ((Lib.slowN n b0 b1 b2 b3 sz lo hi).2, decide (Lib.slowN n b0 b1 b2 b3 sz lo hi = (65533, 1))) := by
  by_cases h : C
  · rw [if_pos h]
    have h' := hC.1 h
    have : ∃ r, Lib.slowN n b0 b1 b2 b3 sz lo hi = (r, sz) := by
      unfold Lib.slowN
      rw [if_neg (by omega), if_neg (by omega)]
      by_cases e2 : sz ≤ 2
      · rw [if_pos e2]; exact ⟨_, by rw [show sz = 2 by omega]⟩
      rw [if_neg e2, if_neg (by have := h'.2.2.2.1 (by omega); omega)]
      by_cases e3 : sz ≤ 3
      · rw [if_pos e3]; exact ⟨_, by rw [show sz = 3 by omega]⟩
      rw [if_neg e3, if_neg (by have := h'.2.2.2.2 (by omega); omega)]
      exact ⟨_, by rw [show sz = 4 by omega]⟩
    obtain ⟨r, hr⟩ := this
    rw [hr]
    have : decide ((r, sz) = ((65533, 1) : Nat × Nat)) = false := by
      apply decide_eq_false
      intro e
      have := congrArg Prod.snd e
      simp only at this
      omega
    rw [this]
  · rw [if_neg h]
    have : Lib.slowN n b0 b1 b2 b3 sz lo hi = (65533, 1) := by
      unfold Lib.slowN
      by_cases e0 : n < sz
      · rw [if_pos e0]
      rw [if_neg e0]
      by_cases e1 : b1 < lo ∨ hi < b1
      · rw [if_pos e1]
      rw [if_neg e1]
      by_cases e2 : sz ≤ 2
      · exact absurd (hC.2 ⟨by omega, by omega, by omega, by omega, by omega⟩) h
      rw [if_neg e2]
      by_cases e3 : b2 < 128 ∨ 191 < b2
      · rw [if_pos e3]
      rw [if_neg e3]
      by_cases e4 : sz ≤ 3
      · exact absurd (hC.2 ⟨by omega, by omega, by omega, by omega, by omega⟩) h
      rw [if_neg e4]
      by_cases e5 : b3 < 128 ∨ 191 < b3
      · rw [if_pos e5]
      exact absurd (hC.2 ⟨by omega, by omega, by omega, by omega, by omega⟩) h
    rw [this]
    rfl
theorem sz_C2 (n b0 b1 b2 b3 : Nat) (hn : 1 ≤ n) (h1 : b1 < 256) (h2 : b2 < 256) (h3 : b3 < 256) (hb : 194 ≤ b0 ∧ b0 < 224) : szN n b0 b1 b2 b3 = ((Lib.decodeN n b0 b1 b2 b3).2, decide (Lib.decodeN n b0 b1 b2 b3 = (65533, 1))) := by
  rw [← Lib.slow_C2 n b0 b1 b2 b3 hn h1 h2 h3 hb]
  have e : szN n b0 b1 b2 b3 = if (1 < n ∧ 128 ≤ b1 ∧ b1 ≤ 191) then (2, false) else (1, true) := by
    unfold szN
    rw [if_neg (show ¬ b0 < 128 by omega)]
    by_cases h : (1 < n ∧ 128 ≤ b1 ∧ b1 ≤ 191)
    · rw [if_pos ⟨by omega, by omega, h⟩, if_pos h]
    · rw [if_neg (fun k => h k.2.2), if_neg h]
      rw [if_neg (fun k => by have h1 := k.1; omega)]
      rw [if_neg (fun k => by have h1 := k.1; omega)]
      rw [if_neg (fun k => by have h1 := k.1; have h2 := k.2.1; have h3 := k.2.2.1; omega)]
      rw [if_neg (fun k => by have h1 := k.1; omega)]
      rw [if_neg (fun k => by have h1 := k.1; have h2 := k.2.1; omega)]
      rw [if_neg (fun k => by have h1 := k.1; omega)]
  rw [e]
  exact sz_fin (by decide) (by decide) ⟨fun h => ⟨h.1, h.2.1, h.2.2, fun e => absurd e (by decide), fun e => absurd e (by decide)⟩, fun h => ⟨h.1, h.2.1, h.2.2.1⟩⟩
theorem sz_E0 (n b0 b1 b2 b3 : Nat) (hn : 1 ≤ n) (h1 : b1 < 256) (h2 : b2 < 256) (h3 : b3 < 256) (hb : b0 = 224) : szN n b0 b1 b2 b3 = ((Lib.decodeN n b0 b1 b2 b3).2, decide (Lib.decodeN n b0 b1 b2 b3 = (65533, 1))) := by
  rw [← Lib.slow_E0 n b0 b1 b2 b3 hn h1 h2 h3 hb]
  have e : szN n b0 b1 b2 b3 = if (1 < n ∧ 160 ≤ b1 ∧ b1 ≤ 191) ∧ (2 < n ∧ 128 ≤ b2 ∧ b2 ≤ 191) then (3, false) else (1, true) := by
    unfold szN
    rw [if_neg (show ¬ b0 < 128 by omega)]
    rw [if_neg (fun k => by have h1 := k.1; have h2 := k.2.1; omega)]
    by_cases h : (1 < n ∧ 160 ≤ b1 ∧ b1 ≤ 191) ∧ (2 < n ∧ 128 ≤ b2 ∧ b2 ≤ 191)
    · rw [if_pos ⟨by omega, h⟩, if_pos h]
    · rw [if_neg (fun k => h k.2), if_neg h]
      rw [if_neg (fun k => by have h1 := k.1; omega)]
      rw [if_neg (fun k => by have h1 := k.1; have h2 := k.2.1; have h3 := k.2.2.1; omega)]
      rw [if_neg (fun k => by have h1 := k.1; omega)]
      rw [if_neg (fun k => by have h1 := k.1; have h2 := k.2.1; omega)]
      rw [if_neg (fun k => by have h1 := k.1; omega)]
  rw [e]
  exact sz_fin (by decide) (by decide) ⟨fun h => ⟨h.2.1, h.1.2.1, h.1.2.2, fun _ => h.2.2, fun e => absurd e (by decide)⟩, fun h => ⟨⟨Nat.le_trans (by decide) h.1, h.2.1, h.2.2.1⟩, h.1, h.2.2.2.1 (by decide)⟩⟩
theorem sz_E1 (n b0 b1 b2 b3 : Nat) (hn : 1 ≤ n) (h1 : b1 < 256) (h2 : b2 < 256) (h3 : b3 < 256) (hb : (225 ≤ b0 ∧ b0 < 237) ∨ (238 ≤ b0 ∧ b0 < 240)) : szN n b0 b1 b2 b3 = ((Lib.decodeN n b0 b1 b2 b3).2, decide (Lib.decodeN n b0 b1 b2 b3 = (65533, 1))) := by
  rw [← Lib.slow_E1 n b0 b1 b2 b3 hn h1 h2 h3 hb]
  have e : szN n b0 b1 b2 b3 = if (1 < n ∧ 128 ≤ b1 ∧ b1 ≤ 191) ∧ (2 < n ∧ 128 ≤ b2 ∧ b2 ≤ 191) then (3, false) else (1, true) := by
    unfold szN
    rw [if_neg (show ¬ b0 < 128 by omega)]
    rw [if_neg (fun k => by have h1 := k.1; have h2 := k.2.1; omega)]
    rw [if_neg (fun k => by have h1 := k.1; omega)]
    rw [if_neg (fun k => by have h1 := k.1; omega)]
    by_cases h : (1 < n ∧ 128 ≤ b1 ∧ b1 ≤ 191) ∧ (2 < n ∧ 128 ≤ b2 ∧ b2 ≤ 191)
    · rw [if_pos ⟨by omega, by omega, by omega, h⟩, if_pos h]
    · rw [if_neg (fun k => h k.2.2.2), if_neg h]
      rw [if_neg (fun k => by have h1 := k.1; omega)]
      rw [if_neg (fun k => by have h1 := k.1; have h2 := k.2.1; omega)]
      rw [if_neg (fun k => by have h1 := k.1; omega)]
  rw [e]
  exact sz_fin (by decide) (by decide) ⟨fun h => ⟨h.2.1, h.1.2.1, h.1.2.2, fun _ => h.2.2, fun e => absurd e (by decide)⟩, fun h => ⟨⟨Nat.le_trans (by decide) h.1, h.2.1, h.2.2.1⟩, h.1, h.2.2.2.1 (by decide)⟩⟩
theorem sz_ED (n b0 b1 b2 b3 : Nat) (hn : 1 ≤ n) (h1 : b1 < 256) (h2 : b2 < 256) (h3 : b3 < 256) (hb : b0 = 237) : szN n b0 b1 b2 b3 = ((Lib.decodeN n b0 b1 b2 b3).2, decide (Lib.decodeN n b0 b1 b2 b3 = (65533, 1))) := by
  rw [← Lib.slow_ED n b0 b1 b2 b3 hn h1 h2 h3 hb]
  have e : szN n b0 b1 b2 b3 = if (1 < n ∧ 128 ≤ b1 ∧ b1 ≤ 159) ∧ (2 < n ∧ 128 ≤ b2 ∧ b2 ≤ 191) then (3, false) else (1, true) := by
    unfold szN
    rw [if_neg (show ¬ b0 < 128 by omega)]
    rw [if_neg (fun k => by have h1 := k.1; have h2 := k.2.1; omega)]
    rw [if_neg (fun k => by have h1 := k.1; omega)]
    by_cases h : (1 < n ∧ 128 ≤ b1 ∧ b1 ≤ 159) ∧ (2 < n ∧ 128 ≤ b2 ∧ b2 ≤ 191)
    · rw [if_pos ⟨by omega, h⟩, if_pos h]
    · rw [if_neg (fun k => h k.2), if_neg h]
      rw [if_neg (fun k => by have h1 := k.1; have h2 := k.2.1; have h3 := k.2.2.1; omega)]
      rw [if_neg (fun k => by have h1 := k.1; omega)]
      rw [if_neg (fun k => by have h1 := k.1; have h2 := k.2.1; omega)]
      rw [if_neg (fun k => by have h1 := k.1; omega)]
  rw [e]
  exact sz_fin (by decide) (by decide) ⟨fun h => ⟨h.2.1, h.1.2.1, h.1.2.2, fun _ => h.2.2, fun e => absurd e (by decide)⟩, fun h => ⟨⟨Nat.le_trans (by decide) h.1, h.2.1, h.2.2.1⟩, h.1, h.2.2.2.1 (by decide)⟩⟩
theorem sz_F0 (n b0 b1 b2 b3 : Nat) (hn : 1 ≤ n) (h1 : b1 < 256) (h2 : b2 < 256) (h3 : b3 < 256) (hb : b0 = 240) : szN n b0 b1 b2 b3 = ((Lib.decodeN n b0 b1 b2 b3).2, decide (Lib.decodeN n b0 b1 b2 b3 = (65533, 1))) := by
  rw [← Lib.slow_F0 n b0 b1 b2 b3 hn h1 h2 h3 hb]
  have e : szN n b0 b1 b2 b3 = if (1 < n ∧ 144 ≤ b1 ∧ b1 ≤ 191) ∧ (2 < n ∧ 128 ≤ b2 ∧ b2 ≤ 191) ∧ (3 < n ∧ 128 ≤ b3 ∧ b3 ≤ 191) then (4, false) else (1, true) := by
    unfold szN
    rw [if_neg (show ¬ b0 < 128 by omega)]
    rw [if_neg (fun k => by have h1 := k.1; have h2 := k.2.1; omega)]
    rw [if_neg (fun k => by have h1 := k.1; omega)]
    rw [if_neg (fun k => by have h1 := k.1; omega)]
    rw [if_neg (fun k => by have h1 := k.1; have h2 := k.2.1; have h3 := k.2.2.1; omega)]
    by_cases h : (1 < n ∧ 144 ≤ b1 ∧ b1 ≤ 191) ∧ (2 < n ∧ 128 ≤ b2 ∧ b2 ≤ 191) ∧ (3 < n ∧ 128 ≤ b3 ∧ b3 ≤ 191)
    · rw [if_pos ⟨by omega, h⟩, if_pos h]
    · rw [if_neg (fun k => h k.2), if_neg h]
      rw [if_neg (fun k => by have h1 := k.1; have h2 := k.2.1; omega)]
      rw [if_neg (fun k => by have h1 := k.1; omega)]
  rw [e]
  exact sz_fin (by decide) (by decide) ⟨fun h => ⟨h.2.2.1, h.1.2.1, h.1.2.2, fun _ => h.2.1.2, fun _ => h.2.2.2⟩, fun h => ⟨⟨Nat.le_trans (by decide) h.1, h.2.1, h.2.2.1⟩, ⟨Nat.le_trans (by decide) h.1, h.2.2.2.1 (by decide)⟩, h.1, h.2.2.2.2 (by decide)⟩⟩
theorem sz_F1 (n b0 b1 b2 b3 : Nat) (hn : 1 ≤ n) (h1 : b1 < 256) (h2 : b2 < 256) (h3 : b3 < 256) (hb : 241 ≤ b0 ∧ b0 < 244) : szN n b0 b1 b2 b3 = ((Lib.decodeN n b0 b1 b2 b3).2, decide (Lib.decodeN n b0 b1 b2 b3 = (65533, 1))) := by
  rw [← Lib.slow_F1 n b0 b1 b2 b3 hn h1 h2 h3 hb]
  have e : szN n b0 b1 b2 b3 = if (1 < n ∧ 128 ≤ b1 ∧ b1 ≤ 191) ∧ (2 < n ∧ 128 ≤ b2 ∧ b2 ≤ 191) ∧ (3 < n ∧ 128 ≤ b3 ∧ b3 ≤ 191) then (4, false) else (1, true) := by
    unfold szN
    rw [if_neg (show ¬ b0 < 128 by omega)]
    rw [if_neg (fun k => by have h1 := k.1; have h2 := k.2.1; omega)]
    rw [if_neg (fun k => by have h1 := k.1; omega)]
    rw [if_neg (fun k => by have h1 := k.1; omega)]
    rw [if_neg (fun k => by have h1 := k.1; have h2 := k.2.1; have h3 := k.2.2.1; omega)]
    rw [if_neg (fun k => by have h1 := k.1; omega)]
    by_cases h : (1 < n ∧ 128 ≤ b1 ∧ b1 ≤ 191) ∧ (2 < n ∧ 128 ≤ b2 ∧ b2 ≤ 191) ∧ (3 < n ∧ 128 ≤ b3 ∧ b3 ≤ 191)
    · rw [if_pos ⟨by omega, by omega, h⟩, if_pos h]
    · rw [if_neg (fun k => h k.2.2), if_neg h]
      rw [if_neg (fun k => by have h1 := k.1; omega)]
  rw [e]
  exact sz_fin (by decide) (by decide) ⟨fun h => ⟨h.2.2.1, h.1.2.1, h.1.2.2, fun _ => h.2.1.2, fun _ => h.2.2.2⟩, fun h => ⟨⟨Nat.le_trans (by decide) h.1, h.2.1, h.2.2.1⟩, ⟨Nat.le_trans (by decide) h.1, h.2.2.2.1 (by decide)⟩, h.1, h.2.2.2.2 (by decide)⟩⟩
theorem sz_F4 (n b0 b1 b2 b3 : Nat) (hn : 1 ≤ n) (h1 : b1 < 256) (h2 : b2 < 256) (h3 : b3 < 256) (hb : b0 = 244) : szN n b0 b1 b2 b3 = ((Lib.decodeN n b0 b1 b2 b3).2, decide (Lib.decodeN n b0 b1 b2 b3 = (65533, 1))) := by
  rw [← Lib.slow_F4 n b0 b1 b2 b3 hn h1 h2 h3 hb]
  have e : szN n b0 b1 b2 b3 = if (1 < n ∧ 128 ≤ b1 ∧ b1 ≤ 143) ∧ (2 < n ∧ 128 ≤ b2 ∧ b2 ≤ 191) ∧ (3 < n ∧ 128 ≤ b3 ∧ b3 ≤ 191) then (4, false) else (1, true) := by
    unfold szN
    rw [if_neg (show ¬ b0 < 128 by omega)]
    rw [if_neg (fun k => by have h1 := k.1; have h2 := k.2.1; omega)]
    rw [if_neg (fun k => by have h1 := k.1; omega)]
    rw [if_neg (fun k => by have h1 := k.1; omega)]
    rw [if_neg (fun k => by have h1 := k.1; have h2 := k.2.1; have h3 := k.2.2.1; omega)]
    rw [if_neg (fun k => by have h1 := k.1; omega)]
    rw [if_neg (fun k => by have h1 := k.1; have h2 := k.2.1; omega)]
    by_cases h : (1 < n ∧ 128 ≤ b1 ∧ b1 ≤ 143) ∧ (2 < n ∧ 128 ≤ b2 ∧ b2 ≤ 191) ∧ (3 < n ∧ 128 ≤ b3 ∧ b3 ≤ 191)
    · rw [if_pos ⟨by omega, h⟩, if_pos h]
    · rw [if_neg (fun k => h k.2), if_neg h]
  rw [e]
  exact sz_fin (by decide) (by decide) ⟨fun h => ⟨h.2.2.1, h.1.2.1, h.1.2.2, fun _ => h.2.1.2, fun _ => h.2.2.2⟩, fun h => ⟨⟨Nat.le_trans (by decide) h.1, h.2.1, h.2.2.1⟩, ⟨Nat.le_trans (by decide) h.1, h.2.2.2.1 (by decide)⟩, h.1, h.2.2.2.2 (by decide)⟩⟩
set_option maxHeartbeats 1000000 in
theorem sz_dec (n b0 b1 b2 b3 : Nat) (hn : 1 ≤ n) (h0 : b0 < 256) (h1 : b1 < 256) (h2 : b2 < 256) (h3 : b3 < 256) : szN n b0 b1 b2 b3 = ((Lib.decodeN n b0 b1 b2 b3).2, decide (Lib.decodeN n b0 b1 b2 b3 = (65533, 1))) := by
  have hc : b0 < 128 ∨ (128 ≤ b0 ∧ b0 < 194 ∨ 244 < b0) ∨ (194 ≤ b0 ∧ b0 < 224) ∨ b0 = 224 ∨ ((225 ≤ b0 ∧ b0 < 237) ∨ (238 ≤ b0 ∧ b0 < 240)) ∨ b0 = 237 ∨ b0 = 240 ∨ (241 ≤ b0 ∧ b0 < 244) ∨ b0 = 244 := by omega
  rcases hc with h | h | h | h | h | h | h | h | h
  · have e : Lib.decodeN n b0 b1 b2 b3 = (b0, 1) := by unfold Lib.decodeN; rw [if_pos h]
    have e2 : szN n b0 b1 b2 b3 = (1, false) := by unfold szN; rw [if_pos h]
    rw [e, e2]
    have : decide ((b0, 1) = ((65533, 1) : Nat × Nat)) = false := by
      apply decide_eq_false
      intro e
      have := congrArg Prod.fst e
      simp only at this
      omega
    rw [this]
  · have hf : Lib.firstT b0 = 241 := by
      unfold Lib.firstT
      repeat' split
      all_goals first | rfl | (exfalso; omega)
    have e : Lib.decodeN n b0 b1 b2 b3 = (65533, 1) := Lib.bad_eq n b0 b1 b2 b3 h0 hf
    have e2 : szN n b0 b1 b2 b3 = (1, true) := by
      unfold szN
      repeat' split
      all_goals first | rfl | (exfalso; omega)
    rw [e, e2]
    rfl
  · exact sz_C2 n b0 b1 b2 b3 hn h1 h2 h3 h
  · exact sz_E0 n b0 b1 b2 b3 hn h1 h2 h3 h
  · exact sz_E1 n b0 b1 b2 b3 hn h1 h2 h3 h
  · exact sz_ED n b0 b1 b2 b3 hn h1 h2 h3 h
  · exact sz_F0 n b0 b1 b2 b3 hn h1 h2 h3 h
  · exact sz_F1 n b0 b1 b2 b3 hn h1 h2 h3 h
  · exact sz_F4 n b0 b1 b2 b3 hn h1 h2 h3 h
end Go.Proofs.YtcikhbbljhkheaaDoor.Sn
