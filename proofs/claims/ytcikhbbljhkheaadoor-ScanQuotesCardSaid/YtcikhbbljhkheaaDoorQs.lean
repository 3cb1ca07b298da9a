/- The document's size of a character. -/
import Derived.Test.YtcikhbbljhkheaaDoorQr
namespace Go.Proofs.YtcikhbbljhkheaaDoor.Sn
open Go.RowKit Mm
set_option linter.unusedVariables false
theorem szS_of (s : ByteArray) (i : Nat) {b : Nat} (hb : (s.get! i).toNat = b) (hi : i < s.size) : szS s i = szN (s.size - i) b (s.get! (i + 1)).toNat (s.get! (i + 2)).toNat (s.get! (i + 3)).toNat := by unfold szS; rw [hb]
theorem inB_iff (s : ByteArray) (i k lo hi : Nat) (b : Bool) (h : inB s (i + k) lo hi = b) : (k < s.size - i ∧ lo ≤ (s.get! (i + k)).toNat ∧ (s.get! (i + k)).toNat ≤ hi) ↔ b = true := by
  rw [← h]
  unfold inB
  rw [decide_eq_true_eq]
  constructor <;> intro ⟨a, c⟩ <;> exact ⟨by omega, c⟩
theorem szS_A (s : ByteArray) (i b : Nat) (hi : i < s.size) (hb : (s.get! i).toNat = b) (h : b < 128) (x1 x2 x3 y : Bool) (h1 : inB s (i + 1) 128 191 = x1) (h2 : inB s (i + 2) 128 191 = x2) (h3 : inB s (i + 3) 128 191 = x3) (hy : inB s (i + 1) 128 191 = y) : szS s i = (1, false) := by
  have k1 := inB_iff s i 1 128 191 x1 h1
  have k2 := inB_iff s i 2 128 191 x2 h2
  have k3 := inB_iff s i 3 128 191 x3 h3
  have ky := inB_iff s i 1 128 191 y hy
  rw [szS_of s i hb hi]
  unfold szN
  rw [if_pos h]
theorem szS_B (s : ByteArray) (i b : Nat) (hi : i < s.size) (hb : (s.get! i).toNat = b) (h : 128 ≤ b ∧ b < 194) (x1 x2 x3 y : Bool) (h1 : inB s (i + 1) 128 191 = x1) (h2 : inB s (i + 2) 128 191 = x2) (h3 : inB s (i + 3) 128 191 = x3) (hy : inB s (i + 1) 128 191 = y) : szS s i = (1, true) := by
  have k1 := inB_iff s i 1 128 191 x1 h1
  have k2 := inB_iff s i 2 128 191 x2 h2
  have k3 := inB_iff s i 3 128 191 x3 h3
  have ky := inB_iff s i 1 128 191 y hy
  rw [szS_of s i hb hi]
  unfold szN
  rw [if_neg (show ¬ b < 128 by omega)]
  rw [if_neg (fun k => by have h1 := k.1; have h2 := k.2.1; omega)]
  rw [if_neg (fun k => by have h1 := k.1; omega)]
  rw [if_neg (fun k => by have h1 := k.1; omega)]
  rw [if_neg (fun k => by have h1 := k.1; have h2 := k.2.1; have h3 := k.2.2.1; omega)]
  rw [if_neg (fun k => by have h1 := k.1; omega)]
  rw [if_neg (fun k => by have h1 := k.1; have h2 := k.2.1; omega)]
  rw [if_neg (fun k => by have h1 := k.1; omega)]
theorem szS_B2 (s : ByteArray) (i b : Nat) (hi : i < s.size) (hb : (s.get! i).toNat = b) (h : 244 < b) (x1 x2 x3 y : Bool) (h1 : inB s (i + 1) 128 191 = x1) (h2 : inB s (i + 2) 128 191 = x2) (h3 : inB s (i + 3) 128 191 = x3) (hy : inB s (i + 1) 128 191 = y) : szS s i = (1, true) := by
  have k1 := inB_iff s i 1 128 191 x1 h1
  have k2 := inB_iff s i 2 128 191 x2 h2
  have k3 := inB_iff s i 3 128 191 x3 h3
  have ky := inB_iff s i 1 128 191 y hy
  rw [szS_of s i hb hi]
  unfold szN
  rw [if_neg (show ¬ b < 128 by omega)]
  rw [if_neg (fun k => by have h1 := k.1; have h2 := k.2.1; omega)]
  rw [if_neg (fun k => by have h1 := k.1; omega)]
  rw [if_neg (fun k => by have h1 := k.1; omega)]
  rw [if_neg (fun k => by have h1 := k.1; have h2 := k.2.1; have h3 := k.2.2.1; omega)]
  rw [if_neg (fun k => by have h1 := k.1; omega)]
  rw [if_neg (fun k => by have h1 := k.1; have h2 := k.2.1; omega)]
  rw [if_neg (fun k => by have h1 := k.1; omega)]
theorem szS_C2 (s : ByteArray) (i b : Nat) (hi : i < s.size) (hb : (s.get! i).toNat = b) (h : 194 ≤ b ∧ b < 224) (x1 x2 x3 y : Bool) (h1 : inB s (i + 1) 128 191 = x1) (h2 : inB s (i + 2) 128 191 = x2) (h3 : inB s (i + 3) 128 191 = x3) (hy : inB s (i + 1) 128 191 = y) : szS s i = if (x1) = true then (2, false) else (1, true) := by
  have k1 := inB_iff s i 1 128 191 x1 h1
  have k2 := inB_iff s i 2 128 191 x2 h2
  have k3 := inB_iff s i 3 128 191 x3 h3
  have ky := inB_iff s i 1 128 191 y hy
  rw [szS_of s i hb hi]
  unfold szN
  rw [if_neg (show ¬ b < 128 by omega)]
  by_cases hz : (x1) = true
  · have hz' := hz
    rw [if_pos ⟨by omega, by omega, k1.2 hz⟩, if_pos hz]
  · rw [if_neg (fun k => hz (k1.1 k.2.2)), if_neg hz]
    rw [if_neg (fun k => by have h1 := k.1; omega)]
    rw [if_neg (fun k => by have h1 := k.1; omega)]
    rw [if_neg (fun k => by have h1 := k.1; have h2 := k.2.1; have h3 := k.2.2.1; omega)]
    rw [if_neg (fun k => by have h1 := k.1; omega)]
    rw [if_neg (fun k => by have h1 := k.1; have h2 := k.2.1; omega)]
    rw [if_neg (fun k => by have h1 := k.1; omega)]
theorem szS_E0 (s : ByteArray) (i b : Nat) (hi : i < s.size) (hb : (s.get! i).toNat = b) (h : b = 224) (x1 x2 x3 y : Bool) (h1 : inB s (i + 1) 128 191 = x1) (h2 : inB s (i + 2) 128 191 = x2) (h3 : inB s (i + 3) 128 191 = x3) (hy : inB s (i + 1) 160 191 = y) : szS s i = if (y && x2) = true then (3, false) else (1, true) := by
  have k1 := inB_iff s i 1 128 191 x1 h1
  have k2 := inB_iff s i 2 128 191 x2 h2
  have k3 := inB_iff s i 3 128 191 x3 h3
  have ky := inB_iff s i 1 160 191 y hy
  rw [szS_of s i hb hi]
  unfold szN
  rw [if_neg (show ¬ b < 128 by omega)]
  rw [if_neg (fun k => by have h1 := k.1; have h2 := k.2.1; omega)]
  by_cases hz : (y && x2) = true
  · have hz' := hz
    simp only [Bool.and_eq_true] at hz'
    rw [if_pos ⟨by omega, ky.2 hz'.1, k2.2 hz'.2⟩, if_pos hz]
  · rw [if_neg (fun k => hz (by simp only [Bool.and_eq_true]; exact ⟨ky.1 k.2.1, k2.1 k.2.2⟩)), if_neg hz]
    rw [if_neg (fun k => by have h1 := k.1; omega)]
    rw [if_neg (fun k => by have h1 := k.1; have h2 := k.2.1; have h3 := k.2.2.1; omega)]
    rw [if_neg (fun k => by have h1 := k.1; omega)]
    rw [if_neg (fun k => by have h1 := k.1; have h2 := k.2.1; omega)]
    rw [if_neg (fun k => by have h1 := k.1; omega)]
theorem szS_ED (s : ByteArray) (i b : Nat) (hi : i < s.size) (hb : (s.get! i).toNat = b) (h : b = 237) (x1 x2 x3 y : Bool) (h1 : inB s (i + 1) 128 191 = x1) (h2 : inB s (i + 2) 128 191 = x2) (h3 : inB s (i + 3) 128 191 = x3) (hy : inB s (i + 1) 128 159 = y) : szS s i = if (y && x2) = true then (3, false) else (1, true) := by
  have k1 := inB_iff s i 1 128 191 x1 h1
  have k2 := inB_iff s i 2 128 191 x2 h2
  have k3 := inB_iff s i 3 128 191 x3 h3
  have ky := inB_iff s i 1 128 159 y hy
  rw [szS_of s i hb hi]
  unfold szN
  rw [if_neg (show ¬ b < 128 by omega)]
  rw [if_neg (fun k => by have h1 := k.1; have h2 := k.2.1; omega)]
  rw [if_neg (fun k => by have h1 := k.1; omega)]
  by_cases hz : (y && x2) = true
  · have hz' := hz
    simp only [Bool.and_eq_true] at hz'
    rw [if_pos ⟨by omega, ky.2 hz'.1, k2.2 hz'.2⟩, if_pos hz]
  · rw [if_neg (fun k => hz (by simp only [Bool.and_eq_true]; exact ⟨ky.1 k.2.1, k2.1 k.2.2⟩)), if_neg hz]
    rw [if_neg (fun k => by have h1 := k.1; have h2 := k.2.1; have h3 := k.2.2.1; omega)]
    rw [if_neg (fun k => by have h1 := k.1; omega)]
    rw [if_neg (fun k => by have h1 := k.1; have h2 := k.2.1; omega)]
    rw [if_neg (fun k => by have h1 := k.1; omega)]
theorem szS_E1 (s : ByteArray) (i b : Nat) (hi : i < s.size) (hb : (s.get! i).toNat = b) (h : (225 ≤ b ∧ b < 237) ∨ (238 ≤ b ∧ b < 240)) (x1 x2 x3 y : Bool) (h1 : inB s (i + 1) 128 191 = x1) (h2 : inB s (i + 2) 128 191 = x2) (h3 : inB s (i + 3) 128 191 = x3) (hy : inB s (i + 1) 128 191 = y) : szS s i = if (x1 && x2) = true then (3, false) else (1, true) := by
  have k1 := inB_iff s i 1 128 191 x1 h1
  have k2 := inB_iff s i 2 128 191 x2 h2
  have k3 := inB_iff s i 3 128 191 x3 h3
  have ky := inB_iff s i 1 128 191 y hy
  rw [szS_of s i hb hi]
  unfold szN
  rw [if_neg (show ¬ b < 128 by omega)]
  rw [if_neg (fun k => by have h1 := k.1; have h2 := k.2.1; omega)]
  rw [if_neg (fun k => by have h1 := k.1; omega)]
  rw [if_neg (fun k => by have h1 := k.1; omega)]
  by_cases hz : (x1 && x2) = true
  · have hz' := hz
    simp only [Bool.and_eq_true] at hz'
    rw [if_pos ⟨by omega, by omega, by omega, k1.2 hz'.1, k2.2 hz'.2⟩, if_pos hz]
  · rw [if_neg (fun k => hz (by simp only [Bool.and_eq_true]; exact ⟨k1.1 k.2.2.2.1, k2.1 k.2.2.2.2⟩)), if_neg hz]
    rw [if_neg (fun k => by have h1 := k.1; omega)]
    rw [if_neg (fun k => by have h1 := k.1; have h2 := k.2.1; omega)]
    rw [if_neg (fun k => by have h1 := k.1; omega)]
theorem szS_F0 (s : ByteArray) (i b : Nat) (hi : i < s.size) (hb : (s.get! i).toNat = b) (h : b = 240) (x1 x2 x3 y : Bool) (h1 : inB s (i + 1) 128 191 = x1) (h2 : inB s (i + 2) 128 191 = x2) (h3 : inB s (i + 3) 128 191 = x3) (hy : inB s (i + 1) 144 191 = y) : szS s i = if (y && x2 && x3) = true then (4, false) else (1, true) := by
  have k1 := inB_iff s i 1 128 191 x1 h1
  have k2 := inB_iff s i 2 128 191 x2 h2
  have k3 := inB_iff s i 3 128 191 x3 h3
  have ky := inB_iff s i 1 144 191 y hy
  rw [szS_of s i hb hi]
  unfold szN
  rw [if_neg (show ¬ b < 128 by omega)]
  rw [if_neg (fun k => by have h1 := k.1; have h2 := k.2.1; omega)]
  rw [if_neg (fun k => by have h1 := k.1; omega)]
  rw [if_neg (fun k => by have h1 := k.1; omega)]
  rw [if_neg (fun k => by have h1 := k.1; have h2 := k.2.1; have h3 := k.2.2.1; omega)]
  by_cases hz : (y && x2 && x3) = true
  · have hz' := hz
    simp only [Bool.and_eq_true] at hz'
    rw [if_pos ⟨by omega, ky.2 hz'.1.1, k2.2 hz'.1.2, k3.2 hz'.2⟩, if_pos hz]
  · rw [if_neg (fun k => hz (by simp only [Bool.and_eq_true]; exact ⟨⟨ky.1 k.2.1, k2.1 k.2.2.1⟩, k3.1 k.2.2.2⟩)), if_neg hz]
    rw [if_neg (fun k => by have h1 := k.1; have h2 := k.2.1; omega)]
    rw [if_neg (fun k => by have h1 := k.1; omega)]
theorem szS_F1 (s : ByteArray) (i b : Nat) (hi : i < s.size) (hb : (s.get! i).toNat = b) (h : 241 ≤ b ∧ b < 244) (x1 x2 x3 y : Bool) (h1 : inB s (i + 1) 128 191 = x1) (h2 : inB s (i + 2) 128 191 = x2) (h3 : inB s (i + 3) 128 191 = x3) (hy : inB s (i + 1) 128 191 = y) : szS s i = if (x1 && x2 && x3) = true then (4, false) else (1, true) := by
  have k1 := inB_iff s i 1 128 191 x1 h1
  have k2 := inB_iff s i 2 128 191 x2 h2
  have k3 := inB_iff s i 3 128 191 x3 h3
  have ky := inB_iff s i 1 128 191 y hy
  rw [szS_of s i hb hi]
  unfold szN
  rw [if_neg (show ¬ b < 128 by omega)]
  rw [if_neg (fun k => by have h1 := k.1; have h2 := k.2.1; omega)]
  rw [if_neg (fun k => by have h1 := k.1; omega)]
  rw [if_neg (fun k => by have h1 := k.1; omega)]
  rw [if_neg (fun k => by have h1 := k.1; have h2 := k.2.1; have h3 := k.2.2.1; omega)]
  rw [if_neg (fun k => by have h1 := k.1; omega)]
  by_cases hz : (x1 && x2 && x3) = true
  · have hz' := hz
    simp only [Bool.and_eq_true] at hz'
    rw [if_pos ⟨by omega, by omega, k1.2 hz'.1.1, k2.2 hz'.1.2, k3.2 hz'.2⟩, if_pos hz]
  · rw [if_neg (fun k => hz (by simp only [Bool.and_eq_true]; exact ⟨⟨k1.1 k.2.2.1, k2.1 k.2.2.2.1⟩, k3.1 k.2.2.2.2⟩)), if_neg hz]
    rw [if_neg (fun k => by have h1 := k.1; omega)]
theorem szS_F4 (s : ByteArray) (i b : Nat) (hi : i < s.size) (hb : (s.get! i).toNat = b) (h : b = 244) (x1 x2 x3 y : Bool) (h1 : inB s (i + 1) 128 191 = x1) (h2 : inB s (i + 2) 128 191 = x2) (h3 : inB s (i + 3) 128 191 = x3) (hy : inB s (i + 1) 128 143 = y) : szS s i = if (y && x2 && x3) = true then (4, false) else (1, true) := by
  have k1 := inB_iff s i 1 128 191 x1 h1
  have k2 := inB_iff s i 2 128 191 x2 h2
  have k3 := inB_iff s i 3 128 191 x3 h3
  have ky := inB_iff s i 1 128 143 y hy
  rw [szS_of s i hb hi]
  unfold szN
  rw [if_neg (show ¬ b < 128 by omega)]
  rw [if_neg (fun k => by have h1 := k.1; have h2 := k.2.1; omega)]
  rw [if_neg (fun k => by have h1 := k.1; omega)]
  rw [if_neg (fun k => by have h1 := k.1; omega)]
  rw [if_neg (fun k => by have h1 := k.1; have h2 := k.2.1; have h3 := k.2.2.1; omega)]
  rw [if_neg (fun k => by have h1 := k.1; omega)]
  rw [if_neg (fun k => by have h1 := k.1; have h2 := k.2.1; omega)]
  by_cases hz : (y && x2 && x3) = true
  · have hz' := hz
    simp only [Bool.and_eq_true] at hz'
    rw [if_pos ⟨by omega, ky.2 hz'.1.1, k2.2 hz'.1.2, k3.2 hz'.2⟩, if_pos hz]
  · rw [if_neg (fun k => hz (by simp only [Bool.and_eq_true]; exact ⟨⟨ky.1 k.2.1, k2.1 k.2.2.1⟩, k3.1 k.2.2.2⟩)), if_neg hz]
set_option maxRecDepth 100000 in
set_option maxHeartbeats 16000000 in
theorem size_any (s : ByteArray) (i : Nat) (hi : i < s.size) (hs : s.size ≤ 256) (w : World) : Calls Tryd.prog 12 #[.string s, .int .i64 (i : Int)] w fun e w' => e = .returned (.tuple #[.int .i64 ((szS s i).1 : Int), .bool (szS s i).2]) ∧ w = w' := by
  have H1 := Lib.hid (fun lo hi w => within_any s (i + 1) lo hi w)
  have H2 := Lib.hid (fun lo hi w => within_any s (i + 2) lo hi w)
  have H3 := Lib.hid (fun lo hi w => within_any s (i + 3) lo hi w)
  rw [show ((i + 1 : Nat) : Int) = (i : Int) + 1 from by omega] at H1
  rw [show ((i + 2 : Nat) : Int) = (i : Int) + 2 from by omega] at H2
  rw [show ((i + 3 : Nat) : Int) = (i : Int) + 3 from by omega] at H3
  have HG := Lib.hid (show (s.get! i).toNat = s[i].toNat from by rw [get_in s i hi])
  have HB := Lib.hid (show s[i].toNat < 256 from UInt8.toNat_lt _)
  go_enter Tryd.func12, Tryd.ntmps12
  go_wp2_with fail
  refine (H1.out 128 191 _).mono ?_
  rintro e w1 ⟨rfl, rfl⟩
  go_wp2_with fail
  refine (H2.out 128 191 _).mono ?_
  rintro e w1 ⟨rfl, rfl⟩
  go_wp2_with fail
  refine (H3.out 128 191 _).mono ?_
  rintro e w1 ⟨rfl, rfl⟩
  obtain ⟨x1, hx1⟩ : ∃ x, inB s (i + 1) 128 191 = x := ⟨_, rfl⟩
  obtain ⟨x2, hx2⟩ : ∃ x, inB s (i + 2) 128 191 = x := ⟨_, rfl⟩
  obtain ⟨x3, hx3⟩ : ∃ x, inB s (i + 3) 128 191 = x := ⟨_, rfl⟩
  rw [hx1, hx2, hx3]
  have HX1 := Lib.hid hx1
  have HX2 := Lib.hid hx2
  have HX3 := Lib.hid hx3
  clear hx1 hx2 hx3
  generalize s[i].toNat = b at *
  have hc : (b < 128) ∨ (128 ≤ b ∧ b < 194) ∨ (244 < b) ∨ (194 ≤ b ∧ b < 224) ∨ (b = 224) ∨ (b = 237) ∨ ((225 ≤ b ∧ b < 237) ∨ (238 ≤ b ∧ b < 240)) ∨ (b = 240) ∨ (241 ≤ b ∧ b < 244) ∨ (b = 244) := by have := HB.out; omega
  rcases hc with h | h | h | h | h | h | h | h | h | h
  · have HS := Lib.hid (szS_A s i b hi HG.out h x1 x2 x3)
    have HSS := Lib.hid (HS.out x1 HX1.out HX2.out HX3.out HX1.out)
    clear HS
    have f0 : (b : Int) < 128 := by omega
    have f1 : ¬ (194 : Int) ≤ b := by omega
    have f2 : (b : Int) ≤ 223 := by omega
    have f3 : ((b : Int) == 224) = false := by simp; omega
    have g3 : ¬ (b : Int) = 224 := by omega
    have f4 : ((b : Int) == 237) = false := by simp; omega
    have g4 : ¬ (b : Int) = 237 := by omega
    have f5 : ¬ (225 : Int) ≤ b := by omega
    have f6 : (b : Int) ≤ 239 := by omega
    have f7 : ((b : Int) == 240) = false := by simp; omega
    have g7 : ¬ (b : Int) = 240 := by omega
    have f8 : ¬ (241 : Int) ≤ b := by omega
    have f9 : (b : Int) ≤ 243 := by omega
    have f10 : ((b : Int) == 244) = false := by simp; omega
    have g10 : ¬ (b : Int) = 244 := by omega
    have h' := Lib.hid h
    clear h
    go_wp2_with fail
    go_ret2
    rw [HSS.out]
    exact ⟨rfl, rfl⟩
  · have HS := Lib.hid (szS_B s i b hi HG.out h x1 x2 x3)
    have HSS := Lib.hid (HS.out x1 HX1.out HX2.out HX3.out HX1.out)
    clear HS
    have f0 : ¬ (b : Int) < 128 := by omega
    have f1 : ¬ (194 : Int) ≤ b := by omega
    have f2 : (b : Int) ≤ 223 := by omega
    have f3 : ((b : Int) == 224) = false := by simp; omega
    have g3 : ¬ (b : Int) = 224 := by omega
    have f4 : ((b : Int) == 237) = false := by simp; omega
    have g4 : ¬ (b : Int) = 237 := by omega
    have f5 : ¬ (225 : Int) ≤ b := by omega
    have f6 : (b : Int) ≤ 239 := by omega
    have f7 : ((b : Int) == 240) = false := by simp; omega
    have g7 : ¬ (b : Int) = 240 := by omega
    have f8 : ¬ (241 : Int) ≤ b := by omega
    have f9 : (b : Int) ≤ 243 := by omega
    have f10 : ((b : Int) == 244) = false := by simp; omega
    have g10 : ¬ (b : Int) = 244 := by omega
    have h' := Lib.hid h
    clear h
    go_wp2_with fail
    go_ret2
    rw [HSS.out]
    exact ⟨rfl, rfl⟩
  · have HS := Lib.hid (szS_B2 s i b hi HG.out h x1 x2 x3)
    have HSS := Lib.hid (HS.out x1 HX1.out HX2.out HX3.out HX1.out)
    clear HS
    have f0 : ¬ (b : Int) < 128 := by omega
    have f1 : (194 : Int) ≤ b := by omega
    have f2 : ¬ (b : Int) ≤ 223 := by omega
    have f3 : ((b : Int) == 224) = false := by simp; omega
    have g3 : ¬ (b : Int) = 224 := by omega
    have f4 : ((b : Int) == 237) = false := by simp; omega
    have g4 : ¬ (b : Int) = 237 := by omega
    have f5 : (225 : Int) ≤ b := by omega
    have f6 : ¬ (b : Int) ≤ 239 := by omega
    have f7 : ((b : Int) == 240) = false := by simp; omega
    have g7 : ¬ (b : Int) = 240 := by omega
    have f8 : (241 : Int) ≤ b := by omega
    have f9 : ¬ (b : Int) ≤ 243 := by omega
    have f10 : ((b : Int) == 244) = false := by simp; omega
    have g10 : ¬ (b : Int) = 244 := by omega
    have h' := Lib.hid h
    clear h
    go_wp2_with fail
    go_ret2
    rw [HSS.out]
    exact ⟨rfl, rfl⟩
  · have HS := Lib.hid (szS_C2 s i b hi HG.out h x1 x2 x3)
    have HSS := Lib.hid (HS.out x1 HX1.out HX2.out HX3.out HX1.out)
    clear HS
    have f0 : ¬ (b : Int) < 128 := by omega
    have f1 : (194 : Int) ≤ b := by omega
    have f2 : (b : Int) ≤ 223 := by omega
    have f3 : ((b : Int) == 224) = false := by simp; omega
    have g3 : ¬ (b : Int) = 224 := by omega
    have f4 : ((b : Int) == 237) = false := by simp; omega
    have g4 : ¬ (b : Int) = 237 := by omega
    have f5 : ¬ (225 : Int) ≤ b := by omega
    have f6 : (b : Int) ≤ 239 := by omega
    have f7 : ((b : Int) == 240) = false := by simp; omega
    have g7 : ¬ (b : Int) = 240 := by omega
    have f8 : ¬ (241 : Int) ≤ b := by omega
    have f9 : (b : Int) ≤ 243 := by omega
    have f10 : ((b : Int) == 244) = false := by simp; omega
    have g10 : ¬ (b : Int) = 244 := by omega
    have h' := Lib.hid h
    clear h
    cases x1
    all_goals
      go_wp2_with fail
      go_ret2
      rw [HSS.out]
      exact ⟨rfl, rfl⟩
  · have HS := Lib.hid (szS_E0 s i b hi HG.out h x1 x2 x3)
    obtain ⟨y, hy⟩ : ∃ x, inB s (i + 1) 160 191 = x := ⟨_, rfl⟩
    have HY := Lib.hid (fun w' => H1.out 160 191 w')
    rw [hy] at HY
    have HSS := Lib.hid (HS.out y HX1.out HX2.out HX3.out hy)
    clear HS hy
    have f0 : ¬ (b : Int) < 128 := by omega
    have f1 : (194 : Int) ≤ b := by omega
    have f2 : ¬ (b : Int) ≤ 223 := by omega
    have f3 : ((b : Int) == 224) = true := by subst h; rfl
    have g3 : (b : Int) = 224 := by omega
    have f4 : ((b : Int) == 237) = false := by subst h; rfl
    have g4 : ¬ (b : Int) = 237 := by omega
    have f5 : ¬ (225 : Int) ≤ b := by omega
    have f6 : (b : Int) ≤ 239 := by omega
    have f7 : ((b : Int) == 240) = false := by subst h; rfl
    have g7 : ¬ (b : Int) = 240 := by omega
    have f8 : ¬ (241 : Int) ≤ b := by omega
    have f9 : (b : Int) ≤ 243 := by omega
    have f10 : ((b : Int) == 244) = false := by subst h; rfl
    have g10 : ¬ (b : Int) = 244 := by omega
    have h' := Lib.hid h
    clear h
    cases y <;> cases x2
    all_goals
      go_wp2_with fail
      refine (HY.out _).mono ?_
      rintro e w1 ⟨rfl, rfl⟩
      go_wp2_with fail
      go_ret2
      rw [HSS.out]
      exact ⟨rfl, rfl⟩
  · have HS := Lib.hid (szS_ED s i b hi HG.out h x1 x2 x3)
    obtain ⟨y, hy⟩ : ∃ x, inB s (i + 1) 128 159 = x := ⟨_, rfl⟩
    have HY := Lib.hid (fun w' => H1.out 128 159 w')
    rw [hy] at HY
    have HSS := Lib.hid (HS.out y HX1.out HX2.out HX3.out hy)
    clear HS hy
    have f0 : ¬ (b : Int) < 128 := by omega
    have f1 : (194 : Int) ≤ b := by omega
    have f2 : ¬ (b : Int) ≤ 223 := by omega
    have f3 : ((b : Int) == 224) = false := by subst h; rfl
    have g3 : ¬ (b : Int) = 224 := by omega
    have f4 : ((b : Int) == 237) = true := by subst h; rfl
    have g4 : (b : Int) = 237 := by omega
    have f5 : (225 : Int) ≤ b := by omega
    have f6 : (b : Int) ≤ 239 := by omega
    have f7 : ((b : Int) == 240) = false := by subst h; rfl
    have g7 : ¬ (b : Int) = 240 := by omega
    have f8 : ¬ (241 : Int) ≤ b := by omega
    have f9 : (b : Int) ≤ 243 := by omega
    have f10 : ((b : Int) == 244) = false := by subst h; rfl
    have g10 : ¬ (b : Int) = 244 := by omega
    have h' := Lib.hid h
    clear h
    cases y <;> cases x2
    all_goals
      go_wp2_with fail
      refine (HY.out _).mono ?_
      rintro e w1 ⟨rfl, rfl⟩
      go_wp2_with fail
      go_ret2
      rw [HSS.out]
      exact ⟨rfl, rfl⟩
  · have HS := Lib.hid (szS_E1 s i b hi HG.out h x1 x2 x3)
    have HSS := Lib.hid (HS.out x1 HX1.out HX2.out HX3.out HX1.out)
    clear HS
    have f0 : ¬ (b : Int) < 128 := by omega
    have f1 : (194 : Int) ≤ b := by omega
    have f2 : ¬ (b : Int) ≤ 223 := by omega
    have f3 : ((b : Int) == 224) = false := by simp; omega
    have g3 : ¬ (b : Int) = 224 := by omega
    have f4 : ((b : Int) == 237) = false := by simp; omega
    have g4 : ¬ (b : Int) = 237 := by omega
    have f5 : (225 : Int) ≤ b := by omega
    have f6 : (b : Int) ≤ 239 := by omega
    have f7 : ((b : Int) == 240) = false := by simp; omega
    have g7 : ¬ (b : Int) = 240 := by omega
    have f8 : ¬ (241 : Int) ≤ b := by omega
    have f9 : (b : Int) ≤ 243 := by omega
    have f10 : ((b : Int) == 244) = false := by simp; omega
    have g10 : ¬ (b : Int) = 244 := by omega
    have h' := Lib.hid h
    clear h
    cases x1 <;> cases x2
    all_goals
      go_wp2_with fail
      go_ret2
      rw [HSS.out]
      exact ⟨rfl, rfl⟩
  · have HS := Lib.hid (szS_F0 s i b hi HG.out h x1 x2 x3)
    obtain ⟨y, hy⟩ : ∃ x, inB s (i + 1) 144 191 = x := ⟨_, rfl⟩
    have HY := Lib.hid (fun w' => H1.out 144 191 w')
    rw [hy] at HY
    have HSS := Lib.hid (HS.out y HX1.out HX2.out HX3.out hy)
    clear HS hy
    have f0 : ¬ (b : Int) < 128 := by omega
    have f1 : (194 : Int) ≤ b := by omega
    have f2 : ¬ (b : Int) ≤ 223 := by omega
    have f3 : ((b : Int) == 224) = false := by subst h; rfl
    have g3 : ¬ (b : Int) = 224 := by omega
    have f4 : ((b : Int) == 237) = false := by subst h; rfl
    have g4 : ¬ (b : Int) = 237 := by omega
    have f5 : (225 : Int) ≤ b := by omega
    have f6 : ¬ (b : Int) ≤ 239 := by omega
    have f7 : ((b : Int) == 240) = true := by subst h; rfl
    have g7 : (b : Int) = 240 := by omega
    have f8 : ¬ (241 : Int) ≤ b := by omega
    have f9 : (b : Int) ≤ 243 := by omega
    have f10 : ((b : Int) == 244) = false := by subst h; rfl
    have g10 : ¬ (b : Int) = 244 := by omega
    have h' := Lib.hid h
    clear h
    cases y <;> cases x2 <;> cases x3
    all_goals
      go_wp2_with fail
      refine (HY.out _).mono ?_
      rintro e w1 ⟨rfl, rfl⟩
      go_wp2_with fail
      go_ret2
      rw [HSS.out]
      exact ⟨rfl, rfl⟩
  · have HS := Lib.hid (szS_F1 s i b hi HG.out h x1 x2 x3)
    have HSS := Lib.hid (HS.out x1 HX1.out HX2.out HX3.out HX1.out)
    clear HS
    have f0 : ¬ (b : Int) < 128 := by omega
    have f1 : (194 : Int) ≤ b := by omega
    have f2 : ¬ (b : Int) ≤ 223 := by omega
    have f3 : ((b : Int) == 224) = false := by simp; omega
    have g3 : ¬ (b : Int) = 224 := by omega
    have f4 : ((b : Int) == 237) = false := by simp; omega
    have g4 : ¬ (b : Int) = 237 := by omega
    have f5 : (225 : Int) ≤ b := by omega
    have f6 : ¬ (b : Int) ≤ 239 := by omega
    have f7 : ((b : Int) == 240) = false := by simp; omega
    have g7 : ¬ (b : Int) = 240 := by omega
    have f8 : (241 : Int) ≤ b := by omega
    have f9 : (b : Int) ≤ 243 := by omega
    have f10 : ((b : Int) == 244) = false := by simp; omega
    have g10 : ¬ (b : Int) = 244 := by omega
    have h' := Lib.hid h
    clear h
    cases x1 <;> cases x2 <;> cases x3
    all_goals
      go_wp2_with fail
      go_ret2
      rw [HSS.out]
      exact ⟨rfl, rfl⟩
  · have HS := Lib.hid (szS_F4 s i b hi HG.out h x1 x2 x3)
    obtain ⟨y, hy⟩ : ∃ x, inB s (i + 1) 128 143 = x := ⟨_, rfl⟩
    have HY := Lib.hid (fun w' => H1.out 128 143 w')
    rw [hy] at HY
    have HSS := Lib.hid (HS.out y HX1.out HX2.out HX3.out hy)
    clear HS hy
    have f0 : ¬ (b : Int) < 128 := by omega
    have f1 : (194 : Int) ≤ b := by omega
    have f2 : ¬ (b : Int) ≤ 223 := by omega
    have f3 : ((b : Int) == 224) = false := by subst h; rfl
    have g3 : ¬ (b : Int) = 224 := by omega
    have f4 : ((b : Int) == 237) = false := by subst h; rfl
    have g4 : ¬ (b : Int) = 237 := by omega
    have f5 : (225 : Int) ≤ b := by omega
    have f6 : ¬ (b : Int) ≤ 239 := by omega
    have f7 : ((b : Int) == 240) = false := by subst h; rfl
    have g7 : ¬ (b : Int) = 240 := by omega
    have f8 : (241 : Int) ≤ b := by omega
    have f9 : ¬ (b : Int) ≤ 243 := by omega
    have f10 : ((b : Int) == 244) = true := by subst h; rfl
    have g10 : (b : Int) = 244 := by omega
    have h' := Lib.hid h
    clear h
    cases y <;> cases x2 <;> cases x3
    all_goals
      go_wp2_with fail
      refine (HY.out _).mono ?_
      rintro e w1 ⟨rfl, rfl⟩
      go_wp2_with fail
      go_ret2
      rw [HSS.out]
      exact ⟨rfl, rfl⟩
end Go.Proofs.YtcikhbbljhkheaaDoor.Sn
