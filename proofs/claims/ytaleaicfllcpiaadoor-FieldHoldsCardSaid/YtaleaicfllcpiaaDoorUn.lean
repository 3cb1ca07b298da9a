/- Two lists of fields that are alike. -/
import Derived.Test.YtaleaicfllcpiaaDoorCf
import Derived.ChangeKeysEq
namespace Go.Proofs.YtaleaicfllcpiaaDoor.Fl
open Go.RowKit Mm Law
set_option linter.unusedVariables false
set_option linter.unusedSimpArgs false
set_option linter.unusedSectionVars false
theorem fld_neq (s : ByteArray) (b : Int) (w : World) : (binOp .neq 27 (.agg #[.string s, .int .i64 b]) (.agg #[.string s, .int .i64 b])).run Tryd.prog w = .ok (.bool false) w := by
  rw [run_neq_struct]
  simp [go_sem]
set_option maxRecDepth 100000 in
set_option maxHeartbeats 2000000 in
theorem unlike_no (l : List Fld) (v u : Value) (w : World) (hv : SeesF w v l) (hu : SeesF w u l) :
    Calls Tryd.prog 19 #[v, u] w fun e w' => e = .returned (.bool false) ∧ Below w.heap.size w w' := by
  obtain ⟨a0, cap0, rfl, hcap, hcm, hx, _⟩ := hv
  obtain ⟨a1, cap1, rfl, hcap1, hcm1, hx1, _⟩ := hu
  have HX := Lib.hid hx
  have HX1 := Lib.hid hx1
  unfold maxLen at hcm hcm1
  have hne : ((l.length : Int) != (l.length : Int)) = false := by simp
  clear hx hx1
  go_enter Tryd.func19, Tryd.ntmps19
  go_wp2
  go_loopw [5] (fun i wr => ∃ k : Nat, k ≤ l.length ∧ i = .int .i64 k ∧ Below w.heap.size w wr) (fun i _ => l.length - (intOf i).toNat)
  case atStart => exact ⟨0, Nat.zero_le _, rfl, Below.refl _ _⟩
  case round =>
    obtain ⟨k, hk, rfl, hbel⟩ := hrel
    by_cases hlt : k < l.length
    · obtain ⟨g, off, rfl, hg, hq⟩ : ∃ g off, a0 = some ⟨g, off, none⟩ ∧ g < w.heap.size ∧ ∀ j f, l[j]? = some f → w.cell? ⟨g, off + j * 2, none⟩ = some (.string f.1) ∧ w.cell? ⟨g, off + (j * 2 + 1), none⟩ = some (.int .i64 f.2) := by
        rcases HX.out with h0 | h0
        · rw [h0] at hlt; simp at hlt
        · exact h0
      obtain ⟨g1, off1, rfl, hg1, hq1⟩ : ∃ g off, a1 = some ⟨g, off, none⟩ ∧ g < w.heap.size ∧ ∀ j f, l[j]? = some f → w.cell? ⟨g, off + j * 2, none⟩ = some (.string f.1) ∧ w.cell? ⟨g, off + (j * 2 + 1), none⟩ = some (.int .i64 f.2) := by
        rcases HX1.out with h0 | h0
        · rw [h0] at hlt; simp at hlt
        · exact h0
      have q0 := (hq k l[k] (by simp [hlt])).1
      have q1 := (hq k l[k] (by simp [hlt])).2
      have p0 := (hq1 k l[k] (by simp [hlt])).1
      have p1 := (hq1 k l[k] (by simp [hlt])).2
      rw [← hbel.cell (p := ⟨g, off + k * 2, none⟩) hg] at q0
      rw [← hbel.cell (p := ⟨g, off + (k * 2 + 1), none⟩) hg] at q1
      rw [← hbel.cell (p := ⟨g1, off1 + k * 2, none⟩) hg1] at p0
      rw [← hbel.cell (p := ⟨g1, off1 + (k * 2 + 1), none⟩) hg1] at p1
      rw [← Nat.add_assoc] at q1 p1
      generalize l[k] = f at *
      obtain ⟨s, b⟩ := f
      have hqq := fld_neq s b
      simp only at q0 q1 p0 p1
      clear hq hq1
      go_wp2
      go_quiet (fail)
      go_wp2
      go_roundw
      case rel => exact ⟨k + 1, by omega, by go_num, below_drewN hbel _⟩
      case measure => simp [intOf]; omega
    · go_wp2
      go_ret
      exact ⟨rfl, hbel⟩
end Go.Proofs.YtaleaicfllcpiaaDoor.Fl
