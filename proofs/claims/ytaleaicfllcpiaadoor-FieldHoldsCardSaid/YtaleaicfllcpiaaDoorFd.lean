/- The document's form and Test. -/
import Derived.Test.YtaleaicfllcpiaaDoorFq
namespace Go.Proofs.YtaleaicfllcpiaaDoor.Fl
open Go.RowKit Mm Law
set_option linter.unusedSimpArgs false
set_option linter.unusedSectionVars false
set_option linter.unusedVariables false
set_option maxRecDepth 100000 in
set_option maxHeartbeats 8000000 in
theorem form_a1 (nm : ByteArray) (op fo lo hi ln : Int) (pt : ByteArray) (h : op < 1) (w : World) :
    Calls Tryd.prog 84 #[.agg #[.string nm, .int .i64 op, .int .i64 fo, .int .i64 lo, .int .i64 hi, .int .i64 ln, .string pt]] w fun e w' => e = .returned (.bool false) ∧ Below w.heap.size w w' := by
  go_enter Tryd.func84, Tryd.ntmps84
  go_wp2_with fail
  go_ret
  exact ⟨rfl, bal (Below.refl _ _) _⟩
set_option maxRecDepth 100000 in
set_option maxHeartbeats 8000000 in
theorem form_a2 (nm : ByteArray) (op fo lo hi ln : Int) (pt : ByteArray) (h : 6 < op) (w : World) :
    Calls Tryd.prog 84 #[.agg #[.string nm, .int .i64 op, .int .i64 fo, .int .i64 lo, .int .i64 hi, .int .i64 ln, .string pt]] w fun e w' => e = .returned (.bool false) ∧ Below w.heap.size w w' := by
  go_enter Tryd.func84, Tryd.ntmps84
  go_wp2_with fail
  go_ret
  exact ⟨rfl, bal (Below.refl _ _) _⟩
set_option maxRecDepth 100000 in
set_option maxHeartbeats 8000000 in
theorem form_a3 (nm : ByteArray) (op fo lo hi ln : Int) (pt : ByteArray) (h0 : 1 ≤ op) (h1 : op ≤ 6) (h : fo < 1) (w : World) :
    Calls Tryd.prog 84 #[.agg #[.string nm, .int .i64 op, .int .i64 fo, .int .i64 lo, .int .i64 hi, .int .i64 ln, .string pt]] w fun e w' => e = .returned (.bool false) ∧ Below w.heap.size w w' := by
  go_enter Tryd.func84, Tryd.ntmps84
  go_wp2_with fail
  go_ret
  exact ⟨rfl, bal (Below.refl _ _) _⟩
set_option maxRecDepth 100000 in
set_option maxHeartbeats 8000000 in
theorem form_a4 (nm : ByteArray) (op fo lo hi ln : Int) (pt : ByteArray) (h0 : 1 ≤ op) (h1 : op ≤ 6) (h : 4 < fo) (w : World) :
    Calls Tryd.prog 84 #[.agg #[.string nm, .int .i64 op, .int .i64 fo, .int .i64 lo, .int .i64 hi, .int .i64 ln, .string pt]] w fun e w' => e = .returned (.bool false) ∧ Below w.heap.size w w' := by
  go_enter Tryd.func84, Tryd.ntmps84
  go_wp2_with fail
  go_ret
  exact ⟨rfl, bal (Below.refl _ _) _⟩
set_option maxRecDepth 100000 in
set_option maxHeartbeats 8000000 in
theorem form_a5 (nm : ByteArray) (op fo lo hi ln : Int) (pt : ByteArray) (h0 : 2 < op) (h1 : op ≤ 6) (h2 : 1 ≤ fo) (h3 : fo ≤ 4) (h : (fo != 1) = true) (w : World) :
    Calls Tryd.prog 84 #[.agg #[.string nm, .int .i64 op, .int .i64 fo, .int .i64 lo, .int .i64 hi, .int .i64 ln, .string pt]] w fun e w' => e = .returned (.bool false) ∧ Below w.heap.size w w' := by
  go_enter Tryd.func84, Tryd.ntmps84
  go_wp2_with fail
  go_ret
  exact ⟨rfl, bal (Below.refl _ _) _⟩
set_option maxRecDepth 100000 in
set_option maxHeartbeats 8000000 in
theorem form_f1a_p (nm : ByteArray) (op lo hi ln : Int) (pt : ByteArray) (h0 : 1 ≤ op) (h1 : op ≤ 2) (h : pt.toList.isEmpty = false) (w : World) :
    Calls Tryd.prog 84 #[.agg #[.string nm, .int .i64 op, .int .i64 1, .int .i64 lo, .int .i64 hi, .int .i64 ln, .string pt]] w fun e w' => e = .returned (.bool false) ∧ Below w.heap.size w w' := by
  go_enter Tryd.func84, Tryd.ntmps84
  go_wp2_with fail
  go_ret
  exact ⟨rfl, bal (Below.refl _ _) _⟩
set_option maxRecDepth 100000 in
set_option maxHeartbeats 8000000 in
theorem form_f1a_h (nm : ByteArray) (op lo hi ln : Int) (h0 : 1 ≤ op) (h1 : op ≤ 2) (h : (hi == 0) = false) (w : World) :
    Calls Tryd.prog 84 #[.agg #[.string nm, .int .i64 op, .int .i64 1, .int .i64 lo, .int .i64 hi, .int .i64 ln, .string ⟨#[]⟩]] w fun e w' => e = .returned (.bool false) ∧ Below w.heap.size w w' := by
  go_enter Tryd.func84, Tryd.ntmps84
  go_wp2_with fail
  go_ret
  exact ⟨rfl, bal (Below.refl _ _) _⟩
set_option maxRecDepth 100000 in
set_option maxHeartbeats 8000000 in
theorem form_f1a_n (nm : ByteArray) (op lo ln : Int) (h0 : 1 ≤ op) (h1 : op ≤ 2) (h : (ln == 0) = false) (w : World) :
    Calls Tryd.prog 84 #[.agg #[.string nm, .int .i64 op, .int .i64 1, .int .i64 lo, .int .i64 0, .int .i64 ln, .string ⟨#[]⟩]] w fun e w' => e = .returned (.bool false) ∧ Below w.heap.size w w' := by
  go_enter Tryd.func84, Tryd.ntmps84
  go_wp2_with fail
  go_ret
  exact ⟨rfl, bal (Below.refl _ _) _⟩
set_option maxRecDepth 100000 in
set_option maxHeartbeats 8000000 in
theorem form_f1a (nm : ByteArray) (op lo : Int) (h0 : 1 ≤ op) (h1 : op ≤ 2) (w : World) :
    Calls Tryd.prog 84 #[.agg #[.string nm, .int .i64 op, .int .i64 1, .int .i64 lo, .int .i64 0, .int .i64 0, .string ⟨#[]⟩]] w fun e w' => e = .returned (.bool true) ∧ Below w.heap.size w w' := by
  go_enter Tryd.func84, Tryd.ntmps84
  go_wp2_with fail
  go_ret
  exact ⟨rfl, bal (Below.refl _ _) _⟩
set_option maxRecDepth 100000 in
set_option maxHeartbeats 8000000 in
theorem form_f1b_p (nm : ByteArray) (op lo hi ln : Int) (pt : ByteArray) (h0 : 2 < op) (h1 : op ≤ 6) (h : pt.toList.isEmpty = false) (w : World) :
    Calls Tryd.prog 84 #[.agg #[.string nm, .int .i64 op, .int .i64 1, .int .i64 lo, .int .i64 hi, .int .i64 ln, .string pt]] w fun e w' => e = .returned (.bool false) ∧ Below w.heap.size w w' := by
  go_enter Tryd.func84, Tryd.ntmps84
  go_wp2_with fail
  go_ret
  exact ⟨rfl, bal (Below.refl _ _) _⟩
set_option maxRecDepth 100000 in
set_option maxHeartbeats 8000000 in
theorem form_f1b_h (nm : ByteArray) (op lo hi ln : Int) (h0 : 2 < op) (h1 : op ≤ 6) (h : (hi == 0) = false) (w : World) :
    Calls Tryd.prog 84 #[.agg #[.string nm, .int .i64 op, .int .i64 1, .int .i64 lo, .int .i64 hi, .int .i64 ln, .string ⟨#[]⟩]] w fun e w' => e = .returned (.bool false) ∧ Below w.heap.size w w' := by
  go_enter Tryd.func84, Tryd.ntmps84
  go_wp2_with fail
  go_ret
  exact ⟨rfl, bal (Below.refl _ _) _⟩
set_option maxRecDepth 100000 in
set_option maxHeartbeats 8000000 in
theorem form_f1b_n (nm : ByteArray) (op lo ln : Int) (h0 : 2 < op) (h1 : op ≤ 6) (h : (ln == 0) = false) (w : World) :
    Calls Tryd.prog 84 #[.agg #[.string nm, .int .i64 op, .int .i64 1, .int .i64 lo, .int .i64 0, .int .i64 ln, .string ⟨#[]⟩]] w fun e w' => e = .returned (.bool false) ∧ Below w.heap.size w w' := by
  go_enter Tryd.func84, Tryd.ntmps84
  go_wp2_with fail
  go_ret
  exact ⟨rfl, bal (Below.refl _ _) _⟩
set_option maxRecDepth 100000 in
set_option maxHeartbeats 8000000 in
theorem form_f1b (nm : ByteArray) (op lo : Int) (h0 : 2 < op) (h1 : op ≤ 6) (w : World) :
    Calls Tryd.prog 84 #[.agg #[.string nm, .int .i64 op, .int .i64 1, .int .i64 lo, .int .i64 0, .int .i64 0, .string ⟨#[]⟩]] w fun e w' => e = .returned (.bool true) ∧ Below w.heap.size w w' := by
  go_enter Tryd.func84, Tryd.ntmps84
  go_wp2_with fail
  go_ret
  exact ⟨rfl, bal (Below.refl _ _) _⟩
set_option maxRecDepth 100000 in
set_option maxHeartbeats 8000000 in
theorem form_f2_p (nm : ByteArray) (op lo hi ln : Int) (pt : ByteArray) (h0 : 1 ≤ op) (h1 : op ≤ 2) (h : pt.toList.isEmpty = false) (w : World) :
    Calls Tryd.prog 84 #[.agg #[.string nm, .int .i64 op, .int .i64 2, .int .i64 lo, .int .i64 hi, .int .i64 ln, .string pt]] w fun e w' => e = .returned (.bool false) ∧ Below w.heap.size w w' := by
  go_enter Tryd.func84, Tryd.ntmps84
  go_wp2_with fail
  go_ret
  exact ⟨rfl, bal (Below.refl _ _) _⟩
set_option maxRecDepth 100000 in
set_option maxHeartbeats 8000000 in
theorem form_f2_h (nm : ByteArray) (op lo hi ln : Int) (h0 : 1 ≤ op) (h1 : op ≤ 2) (h : (hi == 0) = false) (w : World) :
    Calls Tryd.prog 84 #[.agg #[.string nm, .int .i64 op, .int .i64 2, .int .i64 lo, .int .i64 hi, .int .i64 ln, .string ⟨#[]⟩]] w fun e w' => e = .returned (.bool false) ∧ Below w.heap.size w w' := by
  go_enter Tryd.func84, Tryd.ntmps84
  go_wp2_with fail
  go_ret
  exact ⟨rfl, bal (Below.refl _ _) _⟩
set_option maxRecDepth 100000 in
set_option maxHeartbeats 8000000 in
theorem form_f2 (nm : ByteArray) (op lo ln : Int) (h0 : 1 ≤ op) (h1 : op ≤ 2) (w : World) :
    Calls Tryd.prog 84 #[.agg #[.string nm, .int .i64 op, .int .i64 2, .int .i64 lo, .int .i64 0, .int .i64 ln, .string ⟨#[]⟩]] w fun e w' => e = .returned (.bool true) ∧ Below w.heap.size w w' := by
  go_enter Tryd.func84, Tryd.ntmps84
  go_wp2_with fail
  go_ret
  exact ⟨rfl, bal (Below.refl _ _) _⟩
set_option maxRecDepth 100000 in
set_option maxHeartbeats 8000000 in
theorem form_f3_p (nm : ByteArray) (op lo hi ln : Int) (pt : ByteArray) (h0 : 1 ≤ op) (h1 : op ≤ 2) (h : pt.toList.isEmpty = false) (w : World) :
    Calls Tryd.prog 84 #[.agg #[.string nm, .int .i64 op, .int .i64 3, .int .i64 lo, .int .i64 hi, .int .i64 ln, .string pt]] w fun e w' => e = .returned (.bool false) ∧ Below w.heap.size w w' := by
  go_enter Tryd.func84, Tryd.ntmps84
  go_wp2_with fail
  go_ret
  exact ⟨rfl, bal (Below.refl _ _) _⟩
set_option maxRecDepth 100000 in
set_option maxHeartbeats 8000000 in
theorem form_f3_n (nm : ByteArray) (op lo hi ln : Int) (h0 : 1 ≤ op) (h1 : op ≤ 2) (h : (ln == 0) = false) (w : World) :
    Calls Tryd.prog 84 #[.agg #[.string nm, .int .i64 op, .int .i64 3, .int .i64 lo, .int .i64 hi, .int .i64 ln, .string ⟨#[]⟩]] w fun e w' => e = .returned (.bool false) ∧ Below w.heap.size w w' := by
  go_enter Tryd.func84, Tryd.ntmps84
  go_wp2_with fail
  go_ret
  exact ⟨rfl, bal (Below.refl _ _) _⟩
set_option maxRecDepth 100000 in
set_option maxHeartbeats 8000000 in
theorem form_f3 (nm : ByteArray) (op lo hi : Int) (h0 : 1 ≤ op) (h1 : op ≤ 2) (w : World) :
    Calls Tryd.prog 84 #[.agg #[.string nm, .int .i64 op, .int .i64 3, .int .i64 lo, .int .i64 hi, .int .i64 0, .string ⟨#[]⟩]] w fun e w' => e = .returned (.bool true) ∧ Below w.heap.size w w' := by
  go_enter Tryd.func84, Tryd.ntmps84
  go_wp2_with fail
  go_ret
  exact ⟨rfl, bal (Below.refl _ _) _⟩
set_option maxRecDepth 100000 in
set_option maxHeartbeats 8000000 in
theorem form_f4_l (nm : ByteArray) (op lo hi ln : Int) (pt : ByteArray) (h0 : 1 ≤ op) (h1 : op ≤ 2) (h : (lo == 0) = false) (w : World) :
    Calls Tryd.prog 84 #[.agg #[.string nm, .int .i64 op, .int .i64 4, .int .i64 lo, .int .i64 hi, .int .i64 ln, .string pt]] w fun e w' => e = .returned (.bool false) ∧ Below w.heap.size w w' := by
  go_enter Tryd.func84, Tryd.ntmps84
  go_wp2_with fail
  go_ret
  exact ⟨rfl, bal (Below.refl _ _) _⟩
set_option maxRecDepth 100000 in
set_option maxHeartbeats 8000000 in
theorem form_f4_h (nm : ByteArray) (op hi ln : Int) (pt : ByteArray) (h0 : 1 ≤ op) (h1 : op ≤ 2) (h : (hi == 0) = false) (w : World) :
    Calls Tryd.prog 84 #[.agg #[.string nm, .int .i64 op, .int .i64 4, .int .i64 0, .int .i64 hi, .int .i64 ln, .string pt]] w fun e w' => e = .returned (.bool false) ∧ Below w.heap.size w w' := by
  go_enter Tryd.func84, Tryd.ntmps84
  go_wp2_with fail
  go_ret
  exact ⟨rfl, bal (Below.refl _ _) _⟩
set_option maxRecDepth 100000 in
set_option maxHeartbeats 8000000 in
theorem form_f4_n (nm : ByteArray) (op ln : Int) (pt : ByteArray) (h0 : 1 ≤ op) (h1 : op ≤ 2) (h : (ln == 0) = false) (w : World) :
    Calls Tryd.prog 84 #[.agg #[.string nm, .int .i64 op, .int .i64 4, .int .i64 0, .int .i64 0, .int .i64 ln, .string pt]] w fun e w' => e = .returned (.bool false) ∧ Below w.heap.size w w' := by
  go_enter Tryd.func84, Tryd.ntmps84
  go_wp2_with fail
  go_ret
  exact ⟨rfl, bal (Below.refl _ _) _⟩
set_option maxRecDepth 100000 in
set_option maxHeartbeats 8000000 in
theorem form_f4 (nm : ByteArray) (op : Int) (pt : ByteArray) (h0 : 1 ≤ op) (h1 : op ≤ 2) (w : World) :
    Calls Tryd.prog 84 #[.agg #[.string nm, .int .i64 op, .int .i64 4, .int .i64 0, .int .i64 0, .int .i64 0, .string pt]] w fun e w' => e = .returned (.bool true) ∧ Below w.heap.size w w' := by
  go_enter Tryd.func84, Tryd.ntmps84
  go_wp2_with fail
  go_ret
  exact ⟨rfl, bal (Below.refl _ _) _⟩
theorem eq_no {a c : Int} (h : ¬ a = c) : (a == c) = false := by simpa using h
theorem form_no (T : Tst) (h : badForm T ∨ badUse T) (w : World) : Calls Tryd.prog 84 #[T.val] w fun e w' => e = .returned (.bool false) ∧ Below w.heap.size w w' := by
  obtain ⟨nm, op, fo, lo, hi, ln, pt⟩ := T
  show Calls Tryd.prog 84 #[.agg #[.string nm, .int .i64 op, .int .i64 fo, .int .i64 lo, .int .i64 hi, .int .i64 ln, .string pt]] w _
  by_cases a1 : op < 1
  · exact form_a1 nm op fo lo hi ln pt a1 w
  by_cases a2 : 6 < op
  · exact form_a2 nm op fo lo hi ln pt a2 w
  by_cases a3 : fo < 1
  · exact form_a3 nm op fo lo hi ln pt (by omega) (by omega) a3 w
  by_cases a4 : 4 < fo
  · exact form_a4 nm op fo lo hi ln pt (by omega) (by omega) a4 w
  by_cases a5 : 2 < op ∧ ¬ fo = 1
  · exact form_a5 nm op fo lo hi ln pt a5.1 (by omega) (by omega) (by omega) (ne_true a5.2) w
  have hU : badUse ⟨nm, op, fo, lo, hi, ln, pt⟩ := h.resolve_left fun hf => by
    unfold badForm at hf
    rcases hf with hf | hf | hf | hf | hf
    · exact a1 hf
    · exact a2 hf
    · exact a3 hf
    · exact a4 hf
    · exact a5 hf
  unfold badUse at hU
  simp only at hU
  have hf : fo = 1 ∨ fo = 2 ∨ fo = 3 ∨ fo = 4 := by omega
  rcases hf with rfl | rfl | rfl | rfl
  · by_cases b3 : pt = ⟨#[]⟩
    · subst b3
      by_cases b1 : hi = 0
      · subst b1
        have b2 : ¬ ln = 0 := by simpa using hU
        by_cases ho : op ≤ 2
        · exact form_f1a_n nm op lo ln (by omega) ho (eq_no b2) w
        · exact form_f1b_n nm op lo ln (by omega) (by omega) (eq_no b2) w
      · by_cases ho : op ≤ 2
        · exact form_f1a_h nm op lo hi ln (by omega) ho (eq_no b1) w
        · exact form_f1b_h nm op lo hi ln (by omega) (by omega) (eq_no b1) w
    · by_cases ho : op ≤ 2
      · exact form_f1a_p nm op lo hi ln pt (by omega) ho (pt_ne b3) w
      · exact form_f1b_p nm op lo hi ln pt (by omega) (by omega) (pt_ne b3) w
  · by_cases b3 : pt = ⟨#[]⟩
    · subst b3
      have b1 : ¬ hi = 0 := by simpa using hU
      exact form_f2_h nm op lo hi ln (by omega) (by omega) (eq_no b1) w
    · exact form_f2_p nm op lo hi ln pt (by omega) (by omega) (pt_ne b3) w
  · by_cases b3 : pt = ⟨#[]⟩
    · subst b3
      have b1 : ¬ ln = 0 := by simpa using hU
      exact form_f3_n nm op lo hi ln (by omega) (by omega) (eq_no b1) w
    · exact form_f3_p nm op lo hi ln pt (by omega) (by omega) (pt_ne b3) w
  · by_cases b0 : lo = 0
    · subst b0
      by_cases b1 : hi = 0
      · subst b1
        have b2 : ¬ ln = 0 := by simpa using hU
        exact form_f4_n nm op ln pt (by omega) (by omega) (eq_no b2) w
      · exact form_f4_h nm op hi ln pt (by omega) (by omega) (eq_no b1) w
    · exact form_f4_l nm op lo hi ln pt (by omega) (by omega) (eq_no b0) w
theorem form_yes (T : Tst) (h : ¬ badForm T) (hU : ¬ badUse T) (w : World) : Calls Tryd.prog 84 #[T.val] w fun e w' => e = .returned (.bool true) ∧ Below w.heap.size w w' := by
  obtain ⟨nm, op, fo, lo, hi, ln, pt⟩ := T
  show Calls Tryd.prog 84 #[.agg #[.string nm, .int .i64 op, .int .i64 fo, .int .i64 lo, .int .i64 hi, .int .i64 ln, .string pt]] w _
  unfold badForm at h
  unfold badUse at hU
  simp only at hU h
  have hf : fo = 1 ∨ fo = 2 ∨ fo = 3 ∨ fo = 4 := by omega
  rcases hf with rfl | rfl | rfl | rfl
  · obtain ⟨rfl, rfl, rfl⟩ : hi = 0 ∧ ln = 0 ∧ pt = ⟨#[]⟩ := by simpa using hU
    by_cases ho : op ≤ 2
    · exact form_f1a nm op lo (by omega) ho w
    · exact form_f1b nm op lo (by omega) (by omega) w
  · obtain ⟨rfl, rfl⟩ : hi = 0 ∧ pt = ⟨#[]⟩ := by simpa using hU
    exact form_f2 nm op lo ln (by omega) (by omega) w
  · obtain ⟨rfl, rfl⟩ : ln = 0 ∧ pt = ⟨#[]⟩ := by simpa using hU
    exact form_f3 nm op lo hi (by omega) (by omega) w
  · obtain ⟨rfl, rfl, rfl⟩ : lo = 0 ∧ hi = 0 ∧ ln = 0 := by simpa using hU
    exact form_f4 nm op pt (by omega) (by omega) w
end Go.Proofs.YtaleaicfllcpiaaDoor.Fl
