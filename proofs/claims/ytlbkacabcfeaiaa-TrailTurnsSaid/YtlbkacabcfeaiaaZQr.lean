/- Patterns: the program's reader: letters, words, items. -/
import Derived.Test.YtlbkacabcfeaiaaZQs
namespace Go.Proofs.Ytlbkacabcfeaiaa.Tl
open Go.RowKit Mm
set_option linter.unusedVariables false
/-- the program's reader -/
def rdC (s : ByteArray) (pos it : Nat) (out ch ps : Value) : Array Value := #[.string s, .int .i64 (pos : Int), .int .i64 (it : Int), out, ch, ps]
def xs (s : ByteArray) : List UInt8 := s.data.toList
theorem xs_get {s : ByteArray} {k : Nat} (h : k < s.size) : (xs s)[k]? = some s[k] := by
  have : k < s.data.toList.length := by rw [len_s]; exact h
  unfold xs
  rw [List.getElem?_eq_getElem this]
  rfl
theorem xs_none {s : ByteArray} {k : Nat} (h : s.size ≤ k) : (xs s)[k]? = none := by
  unfold xs
  rw [List.getElem?_eq_none_iff, len_s]
  exact h
theorem xs_len (s : ByteArray) : (xs s).length = s.size := len_s s
theorem at_out {p : UInt8 → Bool} {s : ByteArray} {k : Nat} (h : s.size ≤ k) : atB p (xs s) k = false := by unfold atB; rw [xs_none h]; rfl
theorem at_in {p : UInt8 → Bool} {s : ByteArray} {k : Nat} (h : k < s.size) : atB p (xs s) k = p s[k] := by unfold atB; rw [xs_get h]; rfl
set_option maxRecDepth 100000 in
theorem or_letter : ∀ b : Fin 256, isLetter (UInt8.ofNat b.val) = ((decide (97 ≤ bits BinOp.or IntKind.u8 (b.val : Int) 32) && decide (bits BinOp.or IntKind.u8 (b.val : Int) 32 ≤ 122)) || (b.val : Int) == 95) := by decide
theorem letter_or (b : UInt8) : isLetter b = ((decide (97 ≤ bits BinOp.or IntKind.u8 (b.toNat : Int) 32) && decide (bits BinOp.or IntKind.u8 (b.toNat : Int) 32 ≤ 122)) || (b.toNat : Int) == 95) := by
  have h := or_letter ⟨b.toNat, b.toNat_lt⟩
  simp only [UInt8.ofNat_toNat] at h
  exact h
theorem Blk.c0 {w : World} {g : Nat} {t : TypeId} {s : ByteArray} {pos it : Nat} {out ch ps : Value} (hB : Blk w g t (rdC s pos it out ch ps)) : w.cell? ⟨g, 0, none⟩ = some (.string s) := hB.cell 0
theorem Blk.c1 {w : World} {g : Nat} {t : TypeId} {s : ByteArray} {pos it : Nat} {out ch ps : Value} (hB : Blk w g t (rdC s pos it out ch ps)) : w.cell? ⟨g, 1, none⟩ = some (.int .i64 (pos : Int)) := hB.cell 1
theorem Blk.c2 {w : World} {g : Nat} {t : TypeId} {s : ByteArray} {pos it : Nat} {out ch ps : Value} (hB : Blk w g t (rdC s pos it out ch ps)) : w.cell? ⟨g, 2, none⟩ = some (.int .i64 (it : Int)) := hB.cell 2
theorem Blk.c3 {w : World} {g : Nat} {t : TypeId} {s : ByteArray} {pos it : Nat} {out ch ps : Value} (hB : Blk w g t (rdC s pos it out ch ps)) : w.cell? ⟨g, 3, none⟩ = some out := hB.cell 3
theorem Blk.c4 {w : World} {g : Nat} {t : TypeId} {s : ByteArray} {pos it : Nat} {out ch ps : Value} (hB : Blk w g t (rdC s pos it out ch ps)) : w.cell? ⟨g, 4, none⟩ = some ch := hB.cell 4
theorem Blk.c5 {w : World} {g : Nat} {t : TypeId} {s : ByteArray} {pos it : Nat} {out ch ps : Value} (hB : Blk w g t (rdC s pos it out ch ps)) : w.cell? ⟨g, 5, none⟩ = some ps := hB.cell 5
set_option maxRecDepth 100000 in
set_option maxHeartbeats 4000000 in
theorem letter_any (w : World) (g k : Nat) (s : ByteArray) (pos it : Nat) (out ch ps : Value) (hB : Blk w g 54 (rdC s pos it out ch ps)) (hs : s.size ≤ 1000) (hk : k ≤ 1000) :
    Calls Try.prog 24 #[.pointer (some ⟨g, 0, none⟩), .int .i64 (k : Int)] w fun e w' => e = .returned (.bool (atB isLetter (xs s) k)) ∧ w = w' := by
  have q0 := Blk.c0 hB
  by_cases hlt : k < s.size
  · rw [at_in hlt, letter_or]
    have hb := s[k].toNat_lt
    generalize hy : s[k] = y at *
    go_enter Try.func24, Try.ntmps24
    go_wp2_with fail
    · rename_i h1 h2
      go_ret
      exact ⟨by first | rfl | (rw [decide_eq_true h1]; rfl), rfl⟩
    · rename_i h1 h2
      go_ret
      exact ⟨by first | rfl | (rw [decide_eq_true h1, decide_eq_true h2]; rfl), rfl⟩
    · rename_i h1
      go_ret
      exact ⟨by rw [decide_eq_false (by omega)]; rfl, rfl⟩
  · rw [at_out (by omega)]
    go_enter Try.func24, Try.ntmps24
    go_wp2_with fail
    go_ret
    exact ⟨rfl, rfl⟩
set_option maxRecDepth 100000 in
set_option maxHeartbeats 4000000 in
theorem word_any (w : World) (g k : Nat) (s : ByteArray) (pos it : Nat) (out ch ps : Value) (hB : Blk w g 54 (rdC s pos it out ch ps)) (hs : s.size ≤ 1000) (hk : k ≤ 1000) :
    Calls Try.prog 41 #[.pointer (some ⟨g, 0, none⟩), .int .i64 (k : Int)] w fun e w' => e = .returned (.bool (atB isWord (xs s) k)) ∧ w = w' := by
  have q0 := Blk.c0 hB
  have HL := Lib.hid (letter_any w g k s pos it out ch ps hB hs hk)
  by_cases hlt : k < s.size
  · rw [at_in hlt] at HL
    rw [at_in hlt]
    have hW : isWord s[k] = (isLetter s[k] || (decide (48 ≤ (s[k].toNat : Int)) && decide ((s[k].toNat : Int) ≤ 57))) := by
      unfold isWord isDigit
      congr 1
      have h1 : (decide (48 ≤ s[k]) : Bool) = decide (48 ≤ (s[k].toNat : Int)) := by
        rw [decide_eq_decide, UInt8.le_iff_toNat_le]
        exact ⟨fun h => by have : (48 : UInt8).toNat = 48 := rfl; omega, fun h => by have : (48 : UInt8).toNat = 48 := rfl; omega⟩
      have h2 : (decide (s[k] ≤ 57) : Bool) = decide ((s[k].toNat : Int) ≤ 57) := by
        rw [decide_eq_decide, UInt8.le_iff_toNat_le]
        exact ⟨fun h => by have : (57 : UInt8).toNat = 57 := rfl; omega, fun h => by have : (57 : UInt8).toNat = 57 := rfl; omega⟩
      rw [h1, h2]
    rw [hW]
    have hb := s[k].toNat_lt
    cases hL : isLetter s[k] with
    | true =>
      rw [hL] at HL
      go_enter Try.func41, Try.ntmps41
      go_wp2_with fail
      refine HL.out.mono ?_
      rintro e w' ⟨rfl, rfl⟩
      go_wp2_with fail
      go_ret
      exact ⟨rfl, rfl⟩
    | false =>
      rw [hL] at HL
      go_enter Try.func41, Try.ntmps41
      go_wp2_with fail
      refine HL.out.mono ?_
      rintro e w' ⟨rfl, rfl⟩
      go_wp2_with fail
      · rename_i h1
        go_ret
        exact ⟨by first | rfl | (rw [decide_eq_true h1]; rfl), rfl⟩
      · rename_i h1
        go_ret
        exact ⟨by first | rfl | (rw [decide_eq_false (by omega)]; rfl), rfl⟩
  · rw [at_out (by omega)] at HL
    rw [at_out (by omega)]
    go_enter Try.func41, Try.ntmps41
    go_wp2_with fail
    refine HL.out.mono ?_
    rintro e w' ⟨rfl, rfl⟩
    go_wp2_with fail
    go_ret
    exact ⟨rfl, rfl⟩
set_option maxRecDepth 100000 in
set_option maxHeartbeats 4000000 in
theorem item_any (w : World) (g : Nat) (s : ByteArray) (pos it : Nat) (out ch ps : Value) (hB : Blk w g 54 (rdC s pos it out ch ps)) (hk : it ≤ 1000) :
    Calls Try.prog 25 #[.pointer (some ⟨g, 0, none⟩)] w fun e w' => e = .returned (.bool (decide (it < 48))) ∧ Blk w' g 54 (rdC s pos (it + 1) out ch ps) ∧ w.grownBy w' (some g) := by
  have q2 := Blk.c2 hB
  have hf := hB.frozen 2
  have hH := Lib.hid hB
  have e2 : wrap64 ((it : Int) + 1) = (it : Int) + 1 := by unfold wrap64; omega
  have hd : decide ((it : Int) + 1 ≤ 48) = decide (it < 48) := decide_eq_decide.2 (by omega)
  clear hB
  go_enter Try.func25, Try.ntmps25
  go_wp2_with fail
  go_ret
  exact ⟨rfl, hH.out.set_ 2 (.int .i64 ((it : Int) + 1)), only_set _ _ _ _⟩
end Go.Proofs.Ytlbkacabcfeaiaa.Tl
