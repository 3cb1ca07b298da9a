/- find: the place of a name. -/
import Derived.Test.YtaleaicfllcpiaaDoorCo
namespace Go.Proofs.YtaleaicfllcpiaaDoor.Fl
open Go.RowKit Mm Law
set_option linter.unusedVariables false
set_option linter.unusedSimpArgs false
set_option linter.unusedSectionVars false
theorem str_ne {s t : ByteArray} (h : ¬ s = t) : (s.toList == t.toList) = false := by
  rw [ByteArray.toList_eq, ByteArray.toList_eq, beq_eq_false_iff_ne]
  intro e
  apply h
  cases s with
  | mk a => cases t with
    | mk b => simp only [ByteArray.mk.injEq]; exact Array.toList_inj.1 e
theorem str_eq (s : ByteArray) : (s.toList == s.toList) = true := by simp
set_option maxRecDepth 100000 in
set_option maxHeartbeats 2000000 in
theorem find_any (l : List Fld) (v : Value) (t : ByteArray) (w : World) (hv : SeesF w v l) :
    Calls Tryd.prog 52 #[v, .string t] w fun e w' => ∃ r : Int, e = .returned (.int .i64 r) ∧ (0 ≤ r ↔ ∃ f ∈ l, f.1 = t) ∧ Below w.heap.size w w' := by
  obtain ⟨a0, cap0, rfl, hcap, hcm, hx, _⟩ := hv
  have HX := Lib.hid hx
  unfold maxLen at hcm
  clear hx
  go_enter Tryd.func52, Tryd.ntmps52
  go_wp2
  go_loopw [9] (fun i wr => ∃ k : Nat, k ≤ l.length ∧ i = .int .i64 k ∧ Below w.heap.size w wr ∧ ∀ (j : Nat) (h : j < l.length), j < k → ¬ l[j].1 = t) (fun i _ => l.length - (intOf i).toNat)
  case atStart => exact ⟨0, Nat.zero_le _, rfl, Below.refl _ _, fun j _ hj => absurd hj (by omega)⟩
  case round =>
    obtain ⟨k, hk, rfl, hbel, hno⟩ := hrel
    have HN := Lib.hid hno
    clear hno
    by_cases hlt : k < l.length
    · obtain ⟨g, off, rfl, hg, hq⟩ : ∃ g off, a0 = some ⟨g, off, none⟩ ∧ g < w.heap.size ∧ ∀ j f, l[j]? = some f → w.cell? ⟨g, off + j * 2, none⟩ = some (.string f.1) ∧ w.cell? ⟨g, off + (j * 2 + 1), none⟩ = some (.int .i64 f.2) := by
        rcases HX.out with h0 | h0
        · rw [h0] at hlt; simp at hlt
        · exact h0
      have q0 := (hq k l[k] (by simp [hlt])).1
      have q1 := (hq k l[k] (by simp [hlt])).2
      rw [← hbel.cell (p := ⟨g, off + k * 2, none⟩) hg] at q0
      rw [← hbel.cell (p := ⟨g, off + (k * 2 + 1), none⟩) hg] at q1
      rw [← Nat.add_assoc] at q1
      have HM := Lib.hid (show l[k] ∈ l from List.getElem_mem hlt)
      have HK := Lib.hid (show ∀ (h : k < l.length), l[k].1 = l[k].1 from fun _ => rfl)
      generalize hf : l[k] = f at *
      have HF := Lib.hid hf
      obtain ⟨s, b⟩ := f
      simp only at q0 q1
      clear hq hf
      by_cases hst : s = t
      · subst hst
        have he := str_eq s
        go_wp2
        go_ret
        exact ⟨_, rfl, ⟨fun _ => (by first | exact ⟨_, HM.out⟩ | exact ⟨_, HM.out, rfl⟩), fun _ => by omega⟩, bnx hbel (by go_grown)⟩
      · have he := str_ne hst
        have HS := Lib.hid hst
        clear hst
        go_wp2
        go_roundw
        case rel => exact ⟨k + 1, by omega, by go_num, bnx hbel (by go_grown), fun j h hj => by rcases Nat.lt_succ_iff_lt_or_eq.1 hj with h1 | rfl; exact HN.out j h h1; rw [HF.out]; exact HS.out⟩
        case measure => simp [intOf]; omega
    · have HN2 := Lib.hid (show ¬ ∃ f ∈ l, f.1 = t from fun ⟨f, hf, he⟩ => by obtain ⟨j, hj, rfl⟩ := List.getElem_of_mem hf; exact HN.out j hj (by omega) he)
      go_wp2
      go_ret
      exact ⟨_, rfl, ⟨fun h => absurd h (by omega), fun h => absurd h HN2.out⟩, hbel⟩
end Go.Proofs.YtaleaicfllcpiaaDoor.Fl
