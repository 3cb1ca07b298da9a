/- Turns: a number as one of n places; a list within the bounds. -/
import Derived.Test.YtlbkacabcfeaiaaZQm
import Derived.Test.YtlbkacabcfeaiaaAs
import Derived.Deep.QuietTactic
import Derived.BigQuiet
namespace Go.Proofs.Ytlbkacabcfeaiaa.Tl
open Go.RowKit Mm
set_option linter.unusedVariables false
set_option maxRecDepth 100000 in
set_option maxHeartbeats 4000000 in
theorem place_any (k : Int) (hk : (Lit.int .i64 k).wf = true) (n : Nat) (h0 : 0 < n) (h6 : n ≤ 6) (w : World) :
    Calls Try.prog 16 #[.int .i64 k, .int .i64 (n : Int)] w fun e w' => ∃ j : Nat, j < n ∧ e = .returned (.int .i64 (j : Int)) ∧ w = w' := by
  have hn0 : -9223372036854775808 ≤ k ∧ k ≤ 9223372036854775807 := by
    simp [Lit.wf, IntKind.min, IntKind.max, IntKind.bits, IntKind.signed] at hk
    exact hk
  obtain ⟨a1, a2⟩ := hn0
  have hnI : ¬ (n : Int) = 0 := by omega
  clear hk
  by_cases hn : k < 0
  · have t0 : 0 ≤ (-(k + 1)).tmod n := Int.tmod_nonneg _ (by omega)
    have t1 := Int.tmod_lt_of_pos (-(k + 1)) (show 0 < (n : Int) by omega)
    rw [Int.neg_tmod] at t0 t1
    have HR := Lib.hid (show ∃ r : Nat, (r : Int) = -(k + 1).tmod n ∧ r < n from ⟨(-(k + 1).tmod n).toNat, by omega, by omega⟩)
    go_enter Try.func16, Try.ntmps16
    go_wp2_with fail
    go_ret
    obtain ⟨r, hr, hr2⟩ := HR.out
    exact ⟨r, hr2, by rw [hr]; rfl, rfl⟩
  · have t0 : 0 ≤ k % n := Int.emod_nonneg _ (by omega)
    have t1 := Int.emod_lt_of_pos k (show 0 < (n : Int) by omega)
    have HR := Lib.hid (show ∃ r : Nat, (r : Int) = k % n ∧ r < n from ⟨(k % n).toNat, by omega, by omega⟩)
    go_enter Try.func16, Try.ntmps16
    go_wp2_with fail
    go_ret
    obtain ⟨r, hr, hr2⟩ := HR.out
    exact ⟨r, hr2, by rw [hr]; rfl, rfl⟩
set_option maxRecDepth 100000 in
set_option maxHeartbeats 4000000 in
theorem names_wide (l : List ByteArray) (v : Value) (w : World) (hS : Sees w v (sC l)) (hsz : ∀ x ∈ l, x.size ≤ 9223372036854775807) :
    Calls Try.prog 11 #[v] w fun e w' => ∃ b : Bool, e = .returned (.bool b) ∧ (b = true ↔ l.length ≤ 300 ∧ ∀ x ∈ l, x.size ≤ 80) ∧ w = w' := by
  obtain ⟨a, cap, rfl, _, hc, hm, hx⟩ := hS
  rw [sC_len] at hc ⊢
  unfold maxLen at hm
  have HX := Lib.hid hx
  clear hx
  by_cases hl : 300 < l.length
  · have hlI : (300 : Int) < (l.length : Int) := by omega
    go_enter Try.func11, Try.ntmps11
    go_wp2_with fail
    go_ret
    exact ⟨false, rfl, ⟨fun h => (by cases h), fun h => (by omega)⟩, rfl⟩
  · have hlI : ¬ (300 : Int) < (l.length : Int) := by omega
    go_enter Try.func11, Try.ntmps11
    go_wp2_with fail
    go_loopw [3] (fun iv wr => ∃ k : Nat, k ≤ l.length ∧ iv = .int .i64 (k : Int) ∧ wr = w ∧ ∀ x ∈ l.take k, x.size ≤ 80) (fun iv _ => l.length - (intOf iv).toNat)
    case atStart => exact ⟨0, Nat.zero_le _, rfl, rfl, by simp⟩
    case round =>
      obtain ⟨k, hk, rfl, rfl, hall⟩ := hrel
      by_cases hlt : k < l.length
      · rcases HX.out with h0 | ⟨g, off, rfl, hg, hcell⟩
        · have := congrArg List.length h0
          rw [sC_len] at this
          rw [List.length_nil] at this
          omega
        · have ck := hcell k _ (sC_at (List.getElem?_eq_getElem hlt))
          have hz := hsz _ (List.getElem_mem hlt)
          have hmem : ∀ x ∈ l.take (k + 1), x ∈ l.take k ∨ x = l[k] := fun x hx => by
            rw [List.take_succ_eq_append_getElem hlt, List.mem_append, List.mem_singleton] at hx
            exact hx
          have HIN := Lib.hid (List.getElem_mem hlt)
          generalize l[k] = s at *
          clear hcell HX hsz
          by_cases hs : 80 < s.size
          · have hsI : (80 : Int) < (s.size : Int) := by omega
            go_wp2_with fail
            go_ret
            exact ⟨false, rfl, ⟨fun h => (by cases h), fun h => (by have := h.2 s HIN.out; omega)⟩, rfl⟩
          · have hsI : ¬ (80 : Int) < (s.size : Int) := by omega
            go_wp2_with fail
            go_roundw
            case rel =>
              refine ⟨k + 1, by omega, by go_num, by trivial, fun x hx => ?_⟩
              rcases hmem x hx with h | rfl
              · exact hall x h
              · omega
            case measure => simp [intOf]; omega
      · obtain rfl : k = l.length := by omega
        rw [List.take_length] at hall
        go_wp2_with fail
        go_ret
        exact ⟨true, rfl, ⟨fun _ => ⟨by omega, hall⟩, fun _ => rfl⟩, rfl⟩
end Go.Proofs.Ytlbkacabcfeaiaa.Tl
