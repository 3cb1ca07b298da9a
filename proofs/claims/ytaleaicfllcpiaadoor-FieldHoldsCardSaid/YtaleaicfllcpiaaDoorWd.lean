/- Places and widths. -/
import Derived.Test.YtaleaicfllcpiaaDoorPl
import Derived.Deep.DeepCutAuto
namespace Go.Proofs.YtaleaicfllcpiaaDoor.Fl
open Go.RowKit Mm Law
set_option linter.unusedVariables false
set_option linter.unusedSimpArgs false
set_option linter.unusedSectionVars false
def idxF : List Fld → ByteArray → Nat
  | [], _ => 0
  | f :: r, t => if f.1 = t then 0 else idxF r t + 1
theorem idxF_le (l : List Fld) (t : ByteArray) : idxF l t ≤ l.length := by
  induction l with
  | nil => exact Nat.le_refl _
  | cons f r ih => unfold idxF; split <;> simp <;> omega
theorem idxF_at {l : List Fld} {t : ByteArray} {k : Nat} (hk : k < l.length) (h : l[k].1 = t) (hn : ∀ (j : Nat) (hj : j < l.length), j < k → ¬ l[j].1 = t) : idxF l t = k := by
  induction l generalizing k with
  | nil => simp at hk
  | cons f r ih =>
    unfold idxF
    cases k with
    | zero => rw [if_pos (show f.1 = t from h)]
    | succ k =>
      rw [if_neg (show ¬ f.1 = t from hn 0 (by simp) (by omega)), ih (k := k) (by simpa using hk) (show (r[k]'(by simpa using hk)).1 = t from h) (fun j hj hjk => show ¬ r[j].1 = t from hn (j + 1) (by simp; omega) (by omega))]
theorem idxF_none {l : List Fld} {t : ByteArray} (hn : ∀ (j : Nat) (hj : j < l.length), ¬ l[j].1 = t) : idxF l t = l.length := by
  induction l with
  | nil => rfl
  | cons f r ih =>
    unfold idxF
    rw [if_neg (show ¬ f.1 = t from hn 0 (by simp)), ih (fun j hj => show ¬ r[j].1 = t from hn (j + 1) (by simp; omega))]
    rfl
def idxI (l : List Fld) (t : ByteArray) : Int := if idxF l t < l.length then (idxF l t : Int) else -1
def plcI (l : List Fld) (t : ByteArray) : Int := if idxF l t < l.length then sumTo l (idxF l t) else -1
theorem idx_yes {l : List Fld} {t : ByteArray} {k : Nat} (hk : k < l.length) (h : l[k].1 = t) (hn : ∀ (j : Nat) (hj : j < l.length), j < k → ¬ l[j].1 = t) : idxI l t = (k : Int) ∧ plcI l t = sumTo l k := by
  have e := idxF_at hk h hn
  unfold idxI plcI
  rw [e, if_pos hk, if_pos hk]
  exact ⟨rfl, rfl⟩
theorem idx_no {l : List Fld} {t : ByteArray} (hn : ∀ (j : Nat) (hj : j < l.length), ¬ l[j].1 = t) : idxI l t = -1 ∧ plcI l t = -1 := by
  have e := idxF_none hn
  unfold idxI plcI
  rw [e, if_neg (by omega), if_neg (by omega)]
  exact ⟨rfl, rfl⟩
set_option maxRecDepth 100000 in
set_option maxHeartbeats 2000000 in
theorem find_at (l : List Fld) (v : Value) (t : ByteArray) (w : World) (hv : SeesF w v l) :
    Calls Tryd.prog 52 #[v, .string t] w fun e w' => e = .returned (.int .i64 (idxI l t)) ∧ Below w.heap.size w w' := by
  obtain ⟨a0, cap0, rfl, hcap, hcm, hx, _⟩ := hv
  have HX := Lib.hid hx
  unfold maxLen at hcm
  clear hx
  go_enter Tryd.func52, Tryd.ntmps52
  go_wp2
  go_loopw [9] (fun i wr => ∃ k : Nat, k ≤ l.length ∧ i = .int .i64 k ∧ Below w.heap.size w wr ∧ ∀ (j : Nat) (h : j < l.length), j < k → ¬ l[j].1 = t) (fun i _ => l.length - (intOf i).toNat)
  case atStart => exact ⟨0, Nat.zero_le _, rfl, Below.refl _ _, fun j _ hj => absurd hj (by omega)⟩
  case round =>
    obtain ⟨k, hk, rfl, hbel, hno⟩ := hrel
    have HN := Lib.hid hno
    clear hno
    by_cases hlt : k < l.length
    · obtain ⟨g, off, rfl, hg, hq⟩ : ∃ g off, a0 = some ⟨g, off, none⟩ ∧ g < w.heap.size ∧ ∀ j f, l[j]? = some f → w.cell? ⟨g, off + j * 2, none⟩ = some (.string f.1) ∧ w.cell? ⟨g, off + (j * 2 + 1), none⟩ = some (.int .i64 f.2) := by
        rcases HX.out with h0 | h0
        · rw [h0] at hlt; simp at hlt
        · exact h0
      have q0 := (hq k l[k] (by simp [hlt])).1
      have q1 := (hq k l[k] (by simp [hlt])).2
      rw [← hbel.cell (p := ⟨g, off + k * 2, none⟩) hg] at q0
      rw [← hbel.cell (p := ⟨g, off + (k * 2 + 1), none⟩) hg] at q1
      rw [← Nat.add_assoc] at q1
      have HY := Lib.hid (fun h => (idx_yes (l := l) (t := t) hlt h HN.out).1)
      generalize hf : l[k] = f at *
      have HF := Lib.hid hf
      obtain ⟨s, b⟩ := f
      simp only at q0 q1 HY
      clear hq hf
      by_cases hst : s = t
      · have HR := Lib.hid (HY.out hst)
        subst hst
        have he := str_eq s
        go_wp2
        go_ret
        exact ⟨by rw [HR.out]; rfl, bnx hbel (by go_grown)⟩
      · have he := str_ne hst
        have HS := Lib.hid hst
        clear hst
        go_wp2
        go_roundw
        case rel => exact ⟨k + 1, by omega, by go_num, bnx hbel (by go_grown), fun j h hj => by rcases Nat.lt_succ_iff_lt_or_eq.1 hj with h1 | rfl; exact HN.out j h h1; rw [HF.out]; exact HS.out⟩
        case measure => simp [intOf]; omega
    · have HN2 := Lib.hid (idx_no (l := l) (t := t) fun j hj => HN.out j hj (by omega)).1
      go_wp2
      go_ret
      exact ⟨by rw [HN2.out]; rfl, hbel⟩
theorem sum_bd {l : List Fld} (h : ∀ j, (hj : j < l.length) → 1 ≤ l[j].2 ∧ l[j].2 ≤ 32) : ∀ k, k ≤ l.length → (k : Int) ≤ sumTo l k ∧ sumTo l k ≤ 32 * (k : Int) := by
  intro k
  induction k with
  | zero => intro _; rw [sumTo_zero]; omega
  | succ k ih =>
    intro hk
    have h1 := ih (by omega)
    have h2 := h k (by omega)
    rw [sumTo_succ (by omega)]
    omega
set_option maxRecDepth 100000 in
set_option maxHeartbeats 2000000 in
theorem rplace_any (l : List Fld) (v : Value) (t : ByteArray) (w : World) (hv : SeesF w v l) (h12 : l.length ≤ 12) (hbd : ∀ j, (hj : j < l.length) → 1 ≤ l[j].2 ∧ l[j].2 ≤ 32) :
    Calls Tryd.prog 54 #[v, .string t] w fun e w' => e = .returned (.tuple #[.int .i64 (plcI l t), .int .i64 (idxI l t)]) ∧ Below w.heap.size w w' := by
  obtain ⟨a0, cap0, rfl, hcap, hcm, hx, _⟩ := hv
  have HX := Lib.hid hx
  have HSB := Lib.hid (sum_bd hbd)
  unfold maxLen at hcm
  clear hx hbd
  go_enter Tryd.func54, Tryd.ntmps54
  go_wp2
  go_loopw [6, 7] (fun p i wr => ∃ k : Nat, k ≤ l.length ∧ i = .int .i64 k ∧ p = .int .i64 (sumTo l k) ∧ w = wr ∧ ∀ (j : Nat) (h : j < l.length), j < k → ¬ l[j].1 = t) (fun _ i _ => l.length - (intOf i).toNat)
  case atStart => exact ⟨0, Nat.zero_le _, rfl, by rw [sumTo_zero], rfl, fun j _ hj => absurd hj (by omega)⟩
  case round =>
    obtain ⟨k, hk, rfl, rfl, rfl, hno⟩ := hrel
    have HN := Lib.hid hno
    clear hno
    by_cases hlt : k < l.length
    · obtain ⟨g, off, rfl, hg, hq⟩ : ∃ g off, a0 = some ⟨g, off, none⟩ ∧ g < w.heap.size ∧ ∀ j f, l[j]? = some f → w.cell? ⟨g, off + j * 2, none⟩ = some (.string f.1) ∧ w.cell? ⟨g, off + (j * 2 + 1), none⟩ = some (.int .i64 f.2) := by
        rcases HX.out with h0 | h0
        · rw [h0] at hlt; simp at hlt
        · exact h0
      have q0 := (hq k l[k] (by simp [hlt])).1
      have q1 := (hq k l[k] (by simp [hlt])).2
      rw [← Nat.add_assoc] at q1
      have HY := Lib.hid (fun h => idx_yes (l := l) (t := t) hlt h HN.out)
      have HSS := Lib.hid (sumTo_succ hlt)
      have hs0 := HSB.out k (by omega)
      have hs1 := HSB.out (k + 1) (by omega)
      rw [HSS.out] at hs1
      generalize hf : l[k] = f at *
      have HF := Lib.hid hf
      obtain ⟨s, b⟩ := f
      simp only at q0 q1 HY HSS hs1
      generalize hsk : sumTo l k = sk at *
      clear hq hf hsk
      by_cases hst : s = t
      · have HR := Lib.hid (HY.out hst)
        subst hst
        have he := str_eq s
        go_wp2
        refine bodyPost_ret (v := .tuple #[.int .i64 sk, .int .i64 (k : Int)]) (by simp [results, Tryd.results54, go_sem]) rfl ⟨by rw [HR.out.1, HR.out.2], Below.refl _ _⟩
      · have he := str_ne hst
        have HS := Lib.hid hst
        clear hst
        go_wp2
        go_roundw
        case rel => exact ⟨k + 1, by omega, by go_num, by rw [HSS.out], by first | rfl | trivial, fun j h hj => by rcases Nat.lt_succ_iff_lt_or_eq.1 hj with h1 | rfl; exact HN.out j h h1; rw [HF.out]; exact HS.out⟩
        case measure => simp [intOf]; omega
    · have HN2 := Lib.hid (idx_no (l := l) (t := t) fun j hj => HN.out j hj (by omega))
      go_wp2
      refine bodyPost_ret (v := .tuple #[.int .i64 (-1), .int .i64 (-1)]) (by simp [results, Tryd.results54, go_sem]) rfl ⟨by rw [HN2.out.1, HN2.out.2], Below.refl _ _⟩
set_option maxRecDepth 100000 in
set_option maxHeartbeats 2000000 in
theorem rwidth_any (l : List Fld) (v : Value) (w : World) (hv : SeesF w v l) (h12 : l.length ≤ 12) (hbd : ∀ j, (hj : j < l.length) → 1 ≤ l[j].2 ∧ l[j].2 ≤ 32) :
    Calls Tryd.prog 48 #[v] w fun e w' => e = .returned (.int .i64 (sumTo l l.length)) ∧ w = w' := by
  obtain ⟨a0, cap0, rfl, hcap, hcm, hx, _⟩ := hv
  have HX := Lib.hid hx
  have HSB := Lib.hid (sum_bd hbd)
  unfold maxLen at hcm
  clear hx hbd
  go_enter Tryd.func48, Tryd.ntmps48
  go_wp2
  go_loopw [3, 4] (fun p i wr => ∃ k : Nat, k ≤ l.length ∧ i = .int .i64 k ∧ p = .int .i64 (sumTo l k) ∧ w = wr) (fun _ i _ => l.length - (intOf i).toNat)
  case atStart => exact ⟨0, Nat.zero_le _, rfl, by rw [sumTo_zero], rfl⟩
  case round =>
    obtain ⟨k, hk, rfl, rfl, rfl⟩ := hrel
    by_cases hlt : k < l.length
    · obtain ⟨g, off, rfl, hg, hq⟩ : ∃ g off, a0 = some ⟨g, off, none⟩ ∧ g < w.heap.size ∧ ∀ j f, l[j]? = some f → w.cell? ⟨g, off + j * 2, none⟩ = some (.string f.1) ∧ w.cell? ⟨g, off + (j * 2 + 1), none⟩ = some (.int .i64 f.2) := by
        rcases HX.out with h0 | h0
        · rw [h0] at hlt; simp at hlt
        · exact h0
      have q1 := (hq k l[k] (by simp [hlt])).2
      rw [← Nat.add_assoc] at q1
      have HSS := Lib.hid (sumTo_succ hlt)
      have hs0 := HSB.out k (by omega)
      have hs1 := HSB.out (k + 1) (by omega)
      rw [HSS.out] at hs1
      generalize l[k] = f at *
      obtain ⟨s, b⟩ := f
      simp only at q1 HSS hs1
      generalize hsk : sumTo l k = sk at *
      clear hq hsk
      go_wp2
      go_roundw
      case rel => exact ⟨k + 1, by omega, by go_num, by rw [HSS.out], by first | rfl | trivial⟩
      case measure => simp [intOf]; omega
    · have HK := Lib.hid (show k = l.length by omega)
      go_wp2
      go_ret
      exact ⟨by rw [HK.out]; rfl, rfl⟩
set_option maxRecDepth 100000 in
set_option maxHeartbeats 2000000 in
theorem width_any (l : List Fld) (v : Value) (w : World) (hv : SeesF w v l) (h12 : l.length ≤ 12) (hbd : ∀ j, (hj : j < l.length) → 1 ≤ l[j].2 ∧ l[j].2 ≤ 32) :
    Calls Tryd.prog 43 #[v] w fun e w' => e = .returned (.int .i64 (sumTo l l.length)) ∧ Below w.heap.size w w' := by
  obtain ⟨a0, cap0, rfl, hcap, hcm, hx, _⟩ := hv
  have HX := Lib.hid hx
  have HSB := Lib.hid (sum_bd hbd)
  unfold maxLen at hcm
  clear hx hbd
  go_enter Tryd.func43, Tryd.ntmps43
  go_wp2
  go_loopw [3, 8] (fun p i wr => ∃ k : Nat, k ≤ l.length ∧ i = .int .i64 k ∧ p = .int .i64 (sumTo l k) ∧ Below w.heap.size w wr) (fun _ i _ => l.length - (intOf i).toNat)
  case atStart => exact ⟨0, Nat.zero_le _, rfl, by rw [sumTo_zero], Below.refl _ _⟩
  case round =>
    obtain ⟨k, hk, rfl, rfl, hbel⟩ := hrel
    by_cases hlt : k < l.length
    · obtain ⟨g, off, rfl, hg, hq⟩ : ∃ g off, a0 = some ⟨g, off, none⟩ ∧ g < w.heap.size ∧ ∀ j f, l[j]? = some f → w.cell? ⟨g, off + j * 2, none⟩ = some (.string f.1) ∧ w.cell? ⟨g, off + (j * 2 + 1), none⟩ = some (.int .i64 f.2) := by
        rcases HX.out with h0 | h0
        · rw [h0] at hlt; simp at hlt
        · exact h0
      have q0 := (hq k l[k] (by simp [hlt])).1
      have q1 := (hq k l[k] (by simp [hlt])).2
      rw [← hbel.cell (p := ⟨g, off + k * 2, none⟩) hg] at q0
      rw [← hbel.cell (p := ⟨g, off + (k * 2 + 1), none⟩) hg] at q1
      rw [← Nat.add_assoc] at q1
      have HSS := Lib.hid (sumTo_succ hlt)
      have hs0 := HSB.out k (by omega)
      have hs1 := HSB.out (k + 1) (by omega)
      rw [HSS.out] at hs1
      generalize l[k] = f at *
      obtain ⟨s, b⟩ := f
      simp only at q0 q1 HSS hs1
      generalize hsk : sumTo l k = sk at *
      clear hq hsk
      go_wp2
      go_roundw
      case rel => exact ⟨k + 1, by omega, by go_num, by rw [HSS.out], bnx hbel (by go_grown)⟩
      case measure => simp [intOf]; omega
    · have HK := Lib.hid (show k = l.length by omega)
      go_wp2
      go_ret
      exact ⟨by rw [HK.out]; rfl, hbel⟩
end Go.Proofs.YtaleaicfllcpiaaDoor.Fl
