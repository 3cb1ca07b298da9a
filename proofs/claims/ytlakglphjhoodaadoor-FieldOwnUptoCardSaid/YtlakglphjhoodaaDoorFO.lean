/- Merged for FieldOwn -/
import Derived.Test.YtlakglphjhoodaaDoorMm
import Derived.Test.YtlakglphjhoodaaDoorRows
import Derived.WalkKit
import Derived.BigQuiet
import Derived.BigRegion
import Derived.Deep.QuietTactic
import Derived.Handy
import Derived.Deep.DeepCutAuto
namespace Go.Proofs.YtlakglphjhoodaaDoor.Fl
open Go.RowKit Mm
set_option linter.unusedVariables false
set_option linter.unusedSimpArgs false
set_option linter.unusedSectionVars false
def letterN (b : Nat) : Prop := b = 95 ∨ (97 ≤ b ∧ b ≤ 122) ∨ (65 ≤ b ∧ b ≤ 90)
def digitN (b : Nat) : Prop := 48 ≤ b ∧ b ≤ 57
instance (b : Nat) : Decidable (letterN b) := by unfold letterN; infer_instance
instance (b : Nat) : Decidable (digitN b) := by unfold digitN; infer_instance
def okAt (l : List UInt8) (k : Nat) : Prop := letterN (l.getD k 0).toNat ∨ (k ≠ 0 ∧ digitN (l.getD k 0).toNat)
instance (l : List UInt8) (k : Nat) : Decidable (okAt l k) := by unfold okAt; infer_instance
def nameOk (s : ByteArray) : Prop := s.size ≠ 0 ∧ s.size ≤ 24 ∧ ∀ k, k < s.size → okAt s.data.toList k
instance (s : ByteArray) : Decidable (nameOk s) := by unfold nameOk; infer_instance
theorem classes (b : Nat) : b < 48 ∨ (48 ≤ b ∧ b ≤ 57) ∨ (57 < b ∧ b < 65) ∨ (65 ≤ b ∧ b ≤ 90) ∨ (90 < b ∧ b < 95) ∨ b = 95 ∨ b = 96 ∨ (97 ≤ b ∧ b ≤ 122) ∨ 122 < b := by omega
theorem byte_get (s : ByteArray) (k : Nat) (h : k < s.size) : (s.data.toList.getD k 0).toNat = s[k].toNat := by
  have : k < s.data.toList.length := by rw [len_s]; exact h
  rw [List.getD_eq_getElem?_getD, List.getElem?_eq_getElem this]
  rfl
set_option maxHeartbeats 8000000 in
set_option maxRecDepth 100000 in
theorem name_any (s : ByteArray) (w : World) (hs : s.size ≤ maxLen) :
    Calls Tryd.prog 40 #[.string s] w fun e w' => e = .returned (.bool (decide (nameOk s))) ∧ w' = w := by
  have hl := len_s s
  unfold maxLen at hs
  by_cases h0 : s.size = 0
  · have hn : decide (nameOk s) = false := decide_eq_false fun h => h.1 h0
    rw [hn]
    have hE : s.toList = [] := by rw [ByteArray.toList_eq]; exact List.eq_nil_of_length_eq_zero (by omega)
    have hE2 : s.toList.isEmpty = true := by rw [hE]; rfl
    clear hn hl hs
    go_enter Tryd.func40, Tryd.ntmps40
    go_wp2
    go_ret
    exact ⟨rfl, rfl⟩
  have hNE : ¬ s.toList = [] := by
    rw [ByteArray.toList_eq]
    intro h
    rw [h] at hl
    simp at hl
    omega
  have hE : s.toList.isEmpty = false := by
    cases h : s.toList with
    | nil => exact absurd h hNE
    | cons a b => rfl
  by_cases h24 : 24 < s.size
  · have hn : decide (nameOk s) = false := decide_eq_false fun h => by have := h.2.1; omega
    rw [hn]
    clear hn hl hs
    go_enter Tryd.func40, Tryd.ntmps40
    go_wp2
    go_ret
    exact ⟨rfl, rfl⟩
  have h24' : s.size ≤ 24 := by omega
  have HNS := Lib.hid (show nameOk s ↔ (∀ k, k < s.size → okAt s.data.toList k) from ⟨fun h => h.2.2, fun h => ⟨h0, h24', h⟩⟩)
  have hget := byte_get s
  clear h24 hs h0 hl
  go_enter Tryd.func40, Tryd.ntmps40
  go_wp2
  go_loopw [15] (fun i wr => ∃ k : Nat, k ≤ s.size ∧ i = .int .i64 k ∧ wr = w ∧ ∀ j, j < k → okAt s.data.toList j) (fun i _ => s.size - (intOf i).toNat)
  case atStart => exact ⟨0, Nat.zero_le _, rfl, rfl, fun j hj => absurd hj (by omega)⟩
  case round =>
    obtain ⟨k, hk, rfl, hbel, hall⟩ := hrel
    subst hbel
    have HA := Lib.hid hall
    clear hall
    by_cases hlt : k < s.size
    · by_cases hk0 : k = 0
      · subst hk0
        rcases classes s[0].toNat with hc | hc | hc | hc | hc | hc | hc | hc | hc
        · have HG := Lib.hid (hget 0 hlt)
          have HF := Lib.hid (show decide (nameOk s) = false from decide_eq_false (fun hh => (fun h => by have := h 0 hlt; unfold okAt letterN digitN at this; rw [HG.out] at this; omega) (HNS.out.1 hh)))
          have e95 : ¬ (s[0].toNat : Int) = 95 := by omega
          have e95b : ((s[0].toNat : Int) == 95) = false := by simpa using e95
          have g48 : (s[0].toNat : Int) < (48 : Int) := by omega
          have ng48 : ¬ (48 : Int) ≤ (s[0].toNat : Int) := by omega
          have g65 : (s[0].toNat : Int) < (65 : Int) := by omega
          have ng65 : ¬ (65 : Int) ≤ (s[0].toNat : Int) := by omega
          have g97 : (s[0].toNat : Int) < (97 : Int) := by omega
          have ng97 : ¬ (97 : Int) ≤ (s[0].toNat : Int) := by omega
          have l57 : (s[0].toNat : Int) ≤ (57 : Int) := by omega
          have nl57 : ¬ (57 : Int) < (s[0].toNat : Int) := by omega
          have l90 : (s[0].toNat : Int) ≤ (90 : Int) := by omega
          have nl90 : ¬ (90 : Int) < (s[0].toNat : Int) := by omega
          have l122 : (s[0].toNat : Int) ≤ (122 : Int) := by omega
          have nl122 : ¬ (122 : Int) < (s[0].toNat : Int) := by omega
          clear hc
          go_wp2
          go_ret
          exact ⟨by rw [HF.out]; rfl, rfl⟩
        · have HG := Lib.hid (hget 0 hlt)
          have HF := Lib.hid (show decide (nameOk s) = false from decide_eq_false (fun hh => (fun h => by have := h 0 hlt; unfold okAt letterN digitN at this; rw [HG.out] at this; omega) (HNS.out.1 hh)))
          have e95 : ¬ (s[0].toNat : Int) = 95 := by omega
          have e95b : ((s[0].toNat : Int) == 95) = false := by simpa using e95
          have g48 : (48 : Int) ≤ (s[0].toNat : Int) := by omega
          have ng48 : ¬ (s[0].toNat : Int) < (48 : Int) := by omega
          have g65 : (s[0].toNat : Int) < (65 : Int) := by omega
          have ng65 : ¬ (65 : Int) ≤ (s[0].toNat : Int) := by omega
          have g97 : (s[0].toNat : Int) < (97 : Int) := by omega
          have ng97 : ¬ (97 : Int) ≤ (s[0].toNat : Int) := by omega
          have l57 : (s[0].toNat : Int) ≤ (57 : Int) := by omega
          have nl57 : ¬ (57 : Int) < (s[0].toNat : Int) := by omega
          have l90 : (s[0].toNat : Int) ≤ (90 : Int) := by omega
          have nl90 : ¬ (90 : Int) < (s[0].toNat : Int) := by omega
          have l122 : (s[0].toNat : Int) ≤ (122 : Int) := by omega
          have nl122 : ¬ (122 : Int) < (s[0].toNat : Int) := by omega
          clear hc
          go_wp2
          go_ret
          exact ⟨by rw [HF.out]; rfl, rfl⟩
        · have HG := Lib.hid (hget 0 hlt)
          have HF := Lib.hid (show decide (nameOk s) = false from decide_eq_false (fun hh => (fun h => by have := h 0 hlt; unfold okAt letterN digitN at this; rw [HG.out] at this; omega) (HNS.out.1 hh)))
          have e95 : ¬ (s[0].toNat : Int) = 95 := by omega
          have e95b : ((s[0].toNat : Int) == 95) = false := by simpa using e95
          have g48 : (48 : Int) ≤ (s[0].toNat : Int) := by omega
          have ng48 : ¬ (s[0].toNat : Int) < (48 : Int) := by omega
          have g65 : (s[0].toNat : Int) < (65 : Int) := by omega
          have ng65 : ¬ (65 : Int) ≤ (s[0].toNat : Int) := by omega
          have g97 : (s[0].toNat : Int) < (97 : Int) := by omega
          have ng97 : ¬ (97 : Int) ≤ (s[0].toNat : Int) := by omega
          have l57 : (57 : Int) < (s[0].toNat : Int) := by omega
          have nl57 : ¬ (s[0].toNat : Int) ≤ (57 : Int) := by omega
          have l90 : (s[0].toNat : Int) ≤ (90 : Int) := by omega
          have nl90 : ¬ (90 : Int) < (s[0].toNat : Int) := by omega
          have l122 : (s[0].toNat : Int) ≤ (122 : Int) := by omega
          have nl122 : ¬ (122 : Int) < (s[0].toNat : Int) := by omega
          clear hc
          go_wp2
          go_ret
          exact ⟨by rw [HF.out]; rfl, rfl⟩
        · have HG := Lib.hid (hget 0 hlt)
          have HO := Lib.hid (show okAt s.data.toList 0 from by unfold okAt letterN digitN; rw [HG.out]; omega)
          have e95 : ¬ (s[0].toNat : Int) = 95 := by omega
          have e95b : ((s[0].toNat : Int) == 95) = false := by simpa using e95
          have g48 : (48 : Int) ≤ (s[0].toNat : Int) := by omega
          have ng48 : ¬ (s[0].toNat : Int) < (48 : Int) := by omega
          have g65 : (65 : Int) ≤ (s[0].toNat : Int) := by omega
          have ng65 : ¬ (s[0].toNat : Int) < (65 : Int) := by omega
          have g97 : (s[0].toNat : Int) < (97 : Int) := by omega
          have ng97 : ¬ (97 : Int) ≤ (s[0].toNat : Int) := by omega
          have l57 : (57 : Int) < (s[0].toNat : Int) := by omega
          have nl57 : ¬ (s[0].toNat : Int) ≤ (57 : Int) := by omega
          have l90 : (s[0].toNat : Int) ≤ (90 : Int) := by omega
          have nl90 : ¬ (90 : Int) < (s[0].toNat : Int) := by omega
          have l122 : (s[0].toNat : Int) ≤ (122 : Int) := by omega
          have nl122 : ¬ (122 : Int) < (s[0].toNat : Int) := by omega
          clear hc
          go_wp2
          go_roundw
          case rel => exact ⟨1, by omega, by go_num, by first | rfl | trivial, fun j hj => by rcases Nat.lt_succ_iff_lt_or_eq.1 hj with h | rfl; exact HA.out j h; exact HO.out⟩
          case measure => simp [intOf]; omega
        · have HG := Lib.hid (hget 0 hlt)
          have HF := Lib.hid (show decide (nameOk s) = false from decide_eq_false (fun hh => (fun h => by have := h 0 hlt; unfold okAt letterN digitN at this; rw [HG.out] at this; omega) (HNS.out.1 hh)))
          have e95 : ¬ (s[0].toNat : Int) = 95 := by omega
          have e95b : ((s[0].toNat : Int) == 95) = false := by simpa using e95
          have g48 : (48 : Int) ≤ (s[0].toNat : Int) := by omega
          have ng48 : ¬ (s[0].toNat : Int) < (48 : Int) := by omega
          have g65 : (65 : Int) ≤ (s[0].toNat : Int) := by omega
          have ng65 : ¬ (s[0].toNat : Int) < (65 : Int) := by omega
          have g97 : (s[0].toNat : Int) < (97 : Int) := by omega
          have ng97 : ¬ (97 : Int) ≤ (s[0].toNat : Int) := by omega
          have l57 : (57 : Int) < (s[0].toNat : Int) := by omega
          have nl57 : ¬ (s[0].toNat : Int) ≤ (57 : Int) := by omega
          have l90 : (90 : Int) < (s[0].toNat : Int) := by omega
          have nl90 : ¬ (s[0].toNat : Int) ≤ (90 : Int) := by omega
          have l122 : (s[0].toNat : Int) ≤ (122 : Int) := by omega
          have nl122 : ¬ (122 : Int) < (s[0].toNat : Int) := by omega
          clear hc
          go_wp2
          go_ret
          exact ⟨by rw [HF.out]; rfl, rfl⟩
        · have HG := Lib.hid (hget 0 hlt)
          have HO := Lib.hid (show okAt s.data.toList 0 from by unfold okAt letterN digitN; rw [HG.out]; omega)
          have e95 : (s[0].toNat : Int) = 95 := by omega
          have e95b : ((s[0].toNat : Int) == 95) = true := by simpa using e95
          have g48 : (48 : Int) ≤ (s[0].toNat : Int) := by omega
          have ng48 : ¬ (s[0].toNat : Int) < (48 : Int) := by omega
          have g65 : (65 : Int) ≤ (s[0].toNat : Int) := by omega
          have ng65 : ¬ (s[0].toNat : Int) < (65 : Int) := by omega
          have g97 : (s[0].toNat : Int) < (97 : Int) := by omega
          have ng97 : ¬ (97 : Int) ≤ (s[0].toNat : Int) := by omega
          have l57 : (57 : Int) < (s[0].toNat : Int) := by omega
          have nl57 : ¬ (s[0].toNat : Int) ≤ (57 : Int) := by omega
          have l90 : (90 : Int) < (s[0].toNat : Int) := by omega
          have nl90 : ¬ (s[0].toNat : Int) ≤ (90 : Int) := by omega
          have l122 : (s[0].toNat : Int) ≤ (122 : Int) := by omega
          have nl122 : ¬ (122 : Int) < (s[0].toNat : Int) := by omega
          clear hc
          go_wp2
          go_roundw
          case rel => exact ⟨1, by omega, by go_num, by first | rfl | trivial, fun j hj => by rcases Nat.lt_succ_iff_lt_or_eq.1 hj with h | rfl; exact HA.out j h; exact HO.out⟩
          case measure => simp [intOf]; omega
        · have HG := Lib.hid (hget 0 hlt)
          have HF := Lib.hid (show decide (nameOk s) = false from decide_eq_false (fun hh => (fun h => by have := h 0 hlt; unfold okAt letterN digitN at this; rw [HG.out] at this; omega) (HNS.out.1 hh)))
          have e95 : ¬ (s[0].toNat : Int) = 95 := by omega
          have e95b : ((s[0].toNat : Int) == 95) = false := by simpa using e95
          have g48 : (48 : Int) ≤ (s[0].toNat : Int) := by omega
          have ng48 : ¬ (s[0].toNat : Int) < (48 : Int) := by omega
          have g65 : (65 : Int) ≤ (s[0].toNat : Int) := by omega
          have ng65 : ¬ (s[0].toNat : Int) < (65 : Int) := by omega
          have g97 : (s[0].toNat : Int) < (97 : Int) := by omega
          have ng97 : ¬ (97 : Int) ≤ (s[0].toNat : Int) := by omega
          have l57 : (57 : Int) < (s[0].toNat : Int) := by omega
          have nl57 : ¬ (s[0].toNat : Int) ≤ (57 : Int) := by omega
          have l90 : (90 : Int) < (s[0].toNat : Int) := by omega
          have nl90 : ¬ (s[0].toNat : Int) ≤ (90 : Int) := by omega
          have l122 : (s[0].toNat : Int) ≤ (122 : Int) := by omega
          have nl122 : ¬ (122 : Int) < (s[0].toNat : Int) := by omega
          clear hc
          go_wp2
          go_ret
          exact ⟨by rw [HF.out]; rfl, rfl⟩
        · have HG := Lib.hid (hget 0 hlt)
          have HO := Lib.hid (show okAt s.data.toList 0 from by unfold okAt letterN digitN; rw [HG.out]; omega)
          have e95 : ¬ (s[0].toNat : Int) = 95 := by omega
          have e95b : ((s[0].toNat : Int) == 95) = false := by simpa using e95
          have g48 : (48 : Int) ≤ (s[0].toNat : Int) := by omega
          have ng48 : ¬ (s[0].toNat : Int) < (48 : Int) := by omega
          have g65 : (65 : Int) ≤ (s[0].toNat : Int) := by omega
          have ng65 : ¬ (s[0].toNat : Int) < (65 : Int) := by omega
          have g97 : (97 : Int) ≤ (s[0].toNat : Int) := by omega
          have ng97 : ¬ (s[0].toNat : Int) < (97 : Int) := by omega
          have l57 : (57 : Int) < (s[0].toNat : Int) := by omega
          have nl57 : ¬ (s[0].toNat : Int) ≤ (57 : Int) := by omega
          have l90 : (90 : Int) < (s[0].toNat : Int) := by omega
          have nl90 : ¬ (s[0].toNat : Int) ≤ (90 : Int) := by omega
          have l122 : (s[0].toNat : Int) ≤ (122 : Int) := by omega
          have nl122 : ¬ (122 : Int) < (s[0].toNat : Int) := by omega
          clear hc
          go_wp2
          go_roundw
          case rel => exact ⟨1, by omega, by go_num, by first | rfl | trivial, fun j hj => by rcases Nat.lt_succ_iff_lt_or_eq.1 hj with h | rfl; exact HA.out j h; exact HO.out⟩
          case measure => simp [intOf]; omega
        · have HG := Lib.hid (hget 0 hlt)
          have HF := Lib.hid (show decide (nameOk s) = false from decide_eq_false (fun hh => (fun h => by have := h 0 hlt; unfold okAt letterN digitN at this; rw [HG.out] at this; omega) (HNS.out.1 hh)))
          have e95 : ¬ (s[0].toNat : Int) = 95 := by omega
          have e95b : ((s[0].toNat : Int) == 95) = false := by simpa using e95
          have g48 : (48 : Int) ≤ (s[0].toNat : Int) := by omega
          have ng48 : ¬ (s[0].toNat : Int) < (48 : Int) := by omega
          have g65 : (65 : Int) ≤ (s[0].toNat : Int) := by omega
          have ng65 : ¬ (s[0].toNat : Int) < (65 : Int) := by omega
          have g97 : (97 : Int) ≤ (s[0].toNat : Int) := by omega
          have ng97 : ¬ (s[0].toNat : Int) < (97 : Int) := by omega
          have l57 : (57 : Int) < (s[0].toNat : Int) := by omega
          have nl57 : ¬ (s[0].toNat : Int) ≤ (57 : Int) := by omega
          have l90 : (90 : Int) < (s[0].toNat : Int) := by omega
          have nl90 : ¬ (s[0].toNat : Int) ≤ (90 : Int) := by omega
          have l122 : (122 : Int) < (s[0].toNat : Int) := by omega
          have nl122 : ¬ (s[0].toNat : Int) ≤ (122 : Int) := by omega
          clear hc
          go_wp2
          go_ret
          exact ⟨by rw [HF.out]; rfl, rfl⟩
      · have hk1 : ¬ (k : Int) = 0 := by omega
        rcases classes s[k].toNat with hc | hc | hc | hc | hc | hc | hc | hc | hc
        · have HG := Lib.hid (hget k hlt)
          have HF := Lib.hid (show decide (nameOk s) = false from decide_eq_false (fun hh => (fun h => by have := h k hlt; unfold okAt letterN digitN at this; rw [HG.out] at this; omega) (HNS.out.1 hh)))
          have e95 : ¬ (s[k].toNat : Int) = 95 := by omega
          have e95b : ((s[k].toNat : Int) == 95) = false := by simpa using e95
          have g48 : (s[k].toNat : Int) < (48 : Int) := by omega
          have ng48 : ¬ (48 : Int) ≤ (s[k].toNat : Int) := by omega
          have g65 : (s[k].toNat : Int) < (65 : Int) := by omega
          have ng65 : ¬ (65 : Int) ≤ (s[k].toNat : Int) := by omega
          have g97 : (s[k].toNat : Int) < (97 : Int) := by omega
          have ng97 : ¬ (97 : Int) ≤ (s[k].toNat : Int) := by omega
          have l57 : (s[k].toNat : Int) ≤ (57 : Int) := by omega
          have nl57 : ¬ (57 : Int) < (s[k].toNat : Int) := by omega
          have l90 : (s[k].toNat : Int) ≤ (90 : Int) := by omega
          have nl90 : ¬ (90 : Int) < (s[k].toNat : Int) := by omega
          have l122 : (s[k].toNat : Int) ≤ (122 : Int) := by omega
          have nl122 : ¬ (122 : Int) < (s[k].toNat : Int) := by omega
          clear hc
          go_wp2
          go_ret
          exact ⟨by rw [HF.out]; rfl, rfl⟩
        · have HG := Lib.hid (hget k hlt)
          have HO := Lib.hid (show okAt s.data.toList k from by unfold okAt letterN digitN; rw [HG.out]; omega)
          have e95 : ¬ (s[k].toNat : Int) = 95 := by omega
          have e95b : ((s[k].toNat : Int) == 95) = false := by simpa using e95
          have g48 : (48 : Int) ≤ (s[k].toNat : Int) := by omega
          have ng48 : ¬ (s[k].toNat : Int) < (48 : Int) := by omega
          have g65 : (s[k].toNat : Int) < (65 : Int) := by omega
          have ng65 : ¬ (65 : Int) ≤ (s[k].toNat : Int) := by omega
          have g97 : (s[k].toNat : Int) < (97 : Int) := by omega
          have ng97 : ¬ (97 : Int) ≤ (s[k].toNat : Int) := by omega
          have l57 : (s[k].toNat : Int) ≤ (57 : Int) := by omega
          have nl57 : ¬ (57 : Int) < (s[k].toNat : Int) := by omega
          have l90 : (s[k].toNat : Int) ≤ (90 : Int) := by omega
          have nl90 : ¬ (90 : Int) < (s[k].toNat : Int) := by omega
          have l122 : (s[k].toNat : Int) ≤ (122 : Int) := by omega
          have nl122 : ¬ (122 : Int) < (s[k].toNat : Int) := by omega
          clear hc
          go_wp2
          go_roundw
          case rel => exact ⟨k + 1, by omega, by go_num, by first | rfl | trivial, fun j hj => by rcases Nat.lt_succ_iff_lt_or_eq.1 hj with h | rfl; exact HA.out j h; exact HO.out⟩
          case measure => simp [intOf]; omega
        · have HG := Lib.hid (hget k hlt)
          have HF := Lib.hid (show decide (nameOk s) = false from decide_eq_false (fun hh => (fun h => by have := h k hlt; unfold okAt letterN digitN at this; rw [HG.out] at this; omega) (HNS.out.1 hh)))
          have e95 : ¬ (s[k].toNat : Int) = 95 := by omega
          have e95b : ((s[k].toNat : Int) == 95) = false := by simpa using e95
          have g48 : (48 : Int) ≤ (s[k].toNat : Int) := by omega
          have ng48 : ¬ (s[k].toNat : Int) < (48 : Int) := by omega
          have g65 : (s[k].toNat : Int) < (65 : Int) := by omega
          have ng65 : ¬ (65 : Int) ≤ (s[k].toNat : Int) := by omega
          have g97 : (s[k].toNat : Int) < (97 : Int) := by omega
          have ng97 : ¬ (97 : Int) ≤ (s[k].toNat : Int) := by omega
          have l57 : (57 : Int) < (s[k].toNat : Int) := by omega
          have nl57 : ¬ (s[k].toNat : Int) ≤ (57 : Int) := by omega
          have l90 : (s[k].toNat : Int) ≤ (90 : Int) := by omega
          have nl90 : ¬ (90 : Int) < (s[k].toNat : Int) := by omega
          have l122 : (s[k].toNat : Int) ≤ (122 : Int) := by omega
          have nl122 : ¬ (122 : Int) < (s[k].toNat : Int) := by omega
          clear hc
          go_wp2
          go_ret
          exact ⟨by rw [HF.out]; rfl, rfl⟩
        · have HG := Lib.hid (hget k hlt)
          have HO := Lib.hid (show okAt s.data.toList k from by unfold okAt letterN digitN; rw [HG.out]; omega)
          have e95 : ¬ (s[k].toNat : Int) = 95 := by omega
          have e95b : ((s[k].toNat : Int) == 95) = false := by simpa using e95
          have g48 : (48 : Int) ≤ (s[k].toNat : Int) := by omega
          have ng48 : ¬ (s[k].toNat : Int) < (48 : Int) := by omega
          have g65 : (65 : Int) ≤ (s[k].toNat : Int) := by omega
          have ng65 : ¬ (s[k].toNat : Int) < (65 : Int) := by omega
          have g97 : (s[k].toNat : Int) < (97 : Int) := by omega
          have ng97 : ¬ (97 : Int) ≤ (s[k].toNat : Int) := by omega
          have l57 : (57 : Int) < (s[k].toNat : Int) := by omega
          have nl57 : ¬ (s[k].toNat : Int) ≤ (57 : Int) := by omega
          have l90 : (s[k].toNat : Int) ≤ (90 : Int) := by omega
          have nl90 : ¬ (90 : Int) < (s[k].toNat : Int) := by omega
          have l122 : (s[k].toNat : Int) ≤ (122 : Int) := by omega
          have nl122 : ¬ (122 : Int) < (s[k].toNat : Int) := by omega
          clear hc
          go_wp2
          go_roundw
          case rel => exact ⟨k + 1, by omega, by go_num, by first | rfl | trivial, fun j hj => by rcases Nat.lt_succ_iff_lt_or_eq.1 hj with h | rfl; exact HA.out j h; exact HO.out⟩
          case measure => simp [intOf]; omega
        · have HG := Lib.hid (hget k hlt)
          have HF := Lib.hid (show decide (nameOk s) = false from decide_eq_false (fun hh => (fun h => by have := h k hlt; unfold okAt letterN digitN at this; rw [HG.out] at this; omega) (HNS.out.1 hh)))
          have e95 : ¬ (s[k].toNat : Int) = 95 := by omega
          have e95b : ((s[k].toNat : Int) == 95) = false := by simpa using e95
          have g48 : (48 : Int) ≤ (s[k].toNat : Int) := by omega
          have ng48 : ¬ (s[k].toNat : Int) < (48 : Int) := by omega
          have g65 : (65 : Int) ≤ (s[k].toNat : Int) := by omega
          have ng65 : ¬ (s[k].toNat : Int) < (65 : Int) := by omega
          have g97 : (s[k].toNat : Int) < (97 : Int) := by omega
          have ng97 : ¬ (97 : Int) ≤ (s[k].toNat : Int) := by omega
          have l57 : (57 : Int) < (s[k].toNat : Int) := by omega
          have nl57 : ¬ (s[k].toNat : Int) ≤ (57 : Int) := by omega
          have l90 : (90 : Int) < (s[k].toNat : Int) := by omega
          have nl90 : ¬ (s[k].toNat : Int) ≤ (90 : Int) := by omega
          have l122 : (s[k].toNat : Int) ≤ (122 : Int) := by omega
          have nl122 : ¬ (122 : Int) < (s[k].toNat : Int) := by omega
          clear hc
          go_wp2
          go_ret
          exact ⟨by rw [HF.out]; rfl, rfl⟩
        · have HG := Lib.hid (hget k hlt)
          have HO := Lib.hid (show okAt s.data.toList k from by unfold okAt letterN digitN; rw [HG.out]; omega)
          have e95 : (s[k].toNat : Int) = 95 := by omega
          have e95b : ((s[k].toNat : Int) == 95) = true := by simpa using e95
          have g48 : (48 : Int) ≤ (s[k].toNat : Int) := by omega
          have ng48 : ¬ (s[k].toNat : Int) < (48 : Int) := by omega
          have g65 : (65 : Int) ≤ (s[k].toNat : Int) := by omega
          have ng65 : ¬ (s[k].toNat : Int) < (65 : Int) := by omega
          have g97 : (s[k].toNat : Int) < (97 : Int) := by omega
          have ng97 : ¬ (97 : Int) ≤ (s[k].toNat : Int) := by omega
          have l57 : (57 : Int) < (s[k].toNat : Int) := by omega
          have nl57 : ¬ (s[k].toNat : Int) ≤ (57 : Int) := by omega
          have l90 : (90 : Int) < (s[k].toNat : Int) := by omega
          have nl90 : ¬ (s[k].toNat : Int) ≤ (90 : Int) := by omega
          have l122 : (s[k].toNat : Int) ≤ (122 : Int) := by omega
          have nl122 : ¬ (122 : Int) < (s[k].toNat : Int) := by omega
          clear hc
          go_wp2
          go_roundw
          case rel => exact ⟨k + 1, by omega, by go_num, by first | rfl | trivial, fun j hj => by rcases Nat.lt_succ_iff_lt_or_eq.1 hj with h | rfl; exact HA.out j h; exact HO.out⟩
          case measure => simp [intOf]; omega
        · have HG := Lib.hid (hget k hlt)
          have HF := Lib.hid (show decide (nameOk s) = false from decide_eq_false (fun hh => (fun h => by have := h k hlt; unfold okAt letterN digitN at this; rw [HG.out] at this; omega) (HNS.out.1 hh)))
          have e95 : ¬ (s[k].toNat : Int) = 95 := by omega
          have e95b : ((s[k].toNat : Int) == 95) = false := by simpa using e95
          have g48 : (48 : Int) ≤ (s[k].toNat : Int) := by omega
          have ng48 : ¬ (s[k].toNat : Int) < (48 : Int) := by omega
          have g65 : (65 : Int) ≤ (s[k].toNat : Int) := by omega
          have ng65 : ¬ (s[k].toNat : Int) < (65 : Int) := by omega
          have g97 : (s[k].toNat : Int) < (97 : Int) := by omega
          have ng97 : ¬ (97 : Int) ≤ (s[k].toNat : Int) := by omega
          have l57 : (57 : Int) < (s[k].toNat : Int) := by omega
          have nl57 : ¬ (s[k].toNat : Int) ≤ (57 : Int) := by omega
          have l90 : (90 : Int) < (s[k].toNat : Int) := by omega
          have nl90 : ¬ (s[k].toNat : Int) ≤ (90 : Int) := by omega
          have l122 : (s[k].toNat : Int) ≤ (122 : Int) := by omega
          have nl122 : ¬ (122 : Int) < (s[k].toNat : Int) := by omega
          clear hc
          go_wp2
          go_ret
          exact ⟨by rw [HF.out]; rfl, rfl⟩
        · have HG := Lib.hid (hget k hlt)
          have HO := Lib.hid (show okAt s.data.toList k from by unfold okAt letterN digitN; rw [HG.out]; omega)
          have e95 : ¬ (s[k].toNat : Int) = 95 := by omega
          have e95b : ((s[k].toNat : Int) == 95) = false := by simpa using e95
          have g48 : (48 : Int) ≤ (s[k].toNat : Int) := by omega
          have ng48 : ¬ (s[k].toNat : Int) < (48 : Int) := by omega
          have g65 : (65 : Int) ≤ (s[k].toNat : Int) := by omega
          have ng65 : ¬ (s[k].toNat : Int) < (65 : Int) := by omega
          have g97 : (97 : Int) ≤ (s[k].toNat : Int) := by omega
          have ng97 : ¬ (s[k].toNat : Int) < (97 : Int) := by omega
          have l57 : (57 : Int) < (s[k].toNat : Int) := by omega
          have nl57 : ¬ (s[k].toNat : Int) ≤ (57 : Int) := by omega
          have l90 : (90 : Int) < (s[k].toNat : Int) := by omega
          have nl90 : ¬ (s[k].toNat : Int) ≤ (90 : Int) := by omega
          have l122 : (s[k].toNat : Int) ≤ (122 : Int) := by omega
          have nl122 : ¬ (122 : Int) < (s[k].toNat : Int) := by omega
          clear hc
          go_wp2
          go_roundw
          case rel => exact ⟨k + 1, by omega, by go_num, by first | rfl | trivial, fun j hj => by rcases Nat.lt_succ_iff_lt_or_eq.1 hj with h | rfl; exact HA.out j h; exact HO.out⟩
          case measure => simp [intOf]; omega
        · have HG := Lib.hid (hget k hlt)
          have HF := Lib.hid (show decide (nameOk s) = false from decide_eq_false (fun hh => (fun h => by have := h k hlt; unfold okAt letterN digitN at this; rw [HG.out] at this; omega) (HNS.out.1 hh)))
          have e95 : ¬ (s[k].toNat : Int) = 95 := by omega
          have e95b : ((s[k].toNat : Int) == 95) = false := by simpa using e95
          have g48 : (48 : Int) ≤ (s[k].toNat : Int) := by omega
          have ng48 : ¬ (s[k].toNat : Int) < (48 : Int) := by omega
          have g65 : (65 : Int) ≤ (s[k].toNat : Int) := by omega
          have ng65 : ¬ (s[k].toNat : Int) < (65 : Int) := by omega
          have g97 : (97 : Int) ≤ (s[k].toNat : Int) := by omega
          have ng97 : ¬ (s[k].toNat : Int) < (97 : Int) := by omega
          have l57 : (57 : Int) < (s[k].toNat : Int) := by omega
          have nl57 : ¬ (s[k].toNat : Int) ≤ (57 : Int) := by omega
          have l90 : (90 : Int) < (s[k].toNat : Int) := by omega
          have nl90 : ¬ (s[k].toNat : Int) ≤ (90 : Int) := by omega
          have l122 : (122 : Int) < (s[k].toNat : Int) := by omega
          have nl122 : ¬ (s[k].toNat : Int) ≤ (122 : Int) := by omega
          clear hc
          go_wp2
          go_ret
          exact ⟨by rw [HF.out]; rfl, rfl⟩
    · have hkk : k = s.size := by omega
      have HF := Lib.hid (show decide (nameOk s) = true from decide_eq_true (HNS.out.2 (fun j hj => HA.out j (by omega))))
      clear hk
      subst hkk
      go_wp2
      go_ret
      exact ⟨by rw [HF.out]; rfl, rfl⟩
end Go.Proofs.YtlakglphjhoodaaDoor.Fl

namespace Go.Proofs.YtlakglphjhoodaaDoor.Fl
open Go.RowKit Mm
end Go.Proofs.YtlakglphjhoodaaDoor.Fl
