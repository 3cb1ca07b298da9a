/- Plain law of Members: the headers of a cube, one behind the other. No program in sight. -/
import Derived.Test.YtdiijannpfogdaaUp
namespace Go.Proofs.Ytdiijannpfogdaa.Tn
open Go.RowKit

def bitD (b : Bool) : UInt8 := if b then 49 else 48
def hdr (n : Nat) (h : Nat → Bool) : List UInt8 := up (fun i => bitD (h i)) n
theorem hdr_len (n : Nat) (h : Nat → Bool) : (hdr n h).length = n := by simp [hdr]
theorem hdr_at (n : Nat) (h : Nat → Bool) (i : Nat) (hi : i < n) : byt (hdr n h) i = bitD (h i) := byt_up _ _ _ hi
/-- the next header, from place k - 1 down -/
def nextF (c : Nat → Bool) : Nat → (Nat → Bool) → Option (Nat → Bool)
  | 0, _ => none
  | k + 1, h => if c k then nextF c k h else if h k then nextF c k (drop h k) else some (put h k)
theorem next_none {c : Nat → Bool} : ∀ {k : Nat} {h : Nat → Bool}, nextF c k h = none → ∀ i, i < k → c i = false → h i = true := by
  intro k
  induction k with
  | zero => intro h _ i hi; omega
  | succ k ih =>
    intro h hn i hi hc
    unfold nextF at hn
    split at hn
    · rename_i hk
      by_cases e : i = k
      · subst e; rw [hk] at hc; cases hc
      · exact ih hn i (by omega) hc
    · split at hn
      · rename_i hk
        by_cases e : i = k
        · subst e; exact hk
        · have := ih hn i (by omega) hc
          simp only [drop, Bool.and_eq_true] at this
          exact this.1
      · cases hn
structure Nx (c : Nat → Bool) (k : Nat) (h h' : Nat → Bool) (i : Nat) : Prop where
  lt : i < k
  c0 : c i = false
  h0 : h i = false
  h1 : h' i = true
  below : ∀ j, j < i → h' j = h j
  free : ∀ j, i < j → j < k → c j = false → h j = true ∧ h' j = false
  care : ∀ j, c j = true → h' j = h j
  above : ∀ j, k ≤ j → h' j = h j
theorem next_some {c : Nat → Bool} : ∀ {k : Nat} {h h' : Nat → Bool}, nextF c k h = some h' → ∃ i, Nx c k h h' i := by
  intro k
  induction k with
  | zero => intro h h' hn; cases hn
  | succ k ih =>
    intro h h' hn
    unfold nextF at hn
    split at hn
    · rename_i hk
      obtain ⟨i, x⟩ := ih hn
      refine ⟨i, by have := x.lt; omega, x.c0, x.h0, x.h1, x.below, fun j h1 h2 h3 => ?_, x.care, fun j hj => x.above j (by omega)⟩
      by_cases e : j = k
      · subst e; rw [hk] at h3; cases h3
      · exact x.free j h1 (by omega) h3
    · rename_i hck
      split at hn
      · rename_i hk
        obtain ⟨i, x⟩ := ih hn
        have hlt := x.lt
        have hd : ∀ j, j ≠ k → drop h k j = h j := fun j hj => by simp [drop, hj]
        refine ⟨i, by omega, x.c0, by rw [← hd i (by omega)]; exact x.h0, x.h1, fun j hj => by rw [x.below j hj, hd j (by omega)], fun j h1 h2 h3 => ?_, fun j hj => ?_, fun j hj => ?_⟩
        · by_cases e : j = k
          · subst e
            refine ⟨hk, ?_⟩
            rw [x.above j (Nat.le_refl _)]; simp [drop]
          · have := x.free j h1 (by omega) h3
            rw [hd j e] at this
            exact this
        · rw [x.care j hj, hd j (by rintro rfl; exact hck hj)]
        · rw [x.above j (by omega), hd j (by omega)]
      · rename_i hk
        cases hn
        have hp : ∀ j, j ≠ k → put h k j = h j := fun j hj => by simp [put, hj]
        exact ⟨k, by omega, by simpa using hck, by simpa using hk, by simp [put], fun j hj => hp j (by omega), fun j h1 h2 => by omega, fun j hj => hp j (by rintro rfl; exact hck hj), fun j hj => hp j (by omega)⟩
/-- a header as a number -/
def vlu (h : Nat → Bool) : Nat → Nat
  | 0 => 0
  | k + 1 => 2 * vlu h k + (if h k then 1 else 0)
theorem vlu_lt (h : Nat → Bool) : ∀ k, vlu h k < 2 ^ k := by
  intro k
  induction k with
  | zero => simp [vlu]
  | succ k ih => rw [Nat.pow_succ]; unfold vlu; split <;> omega
theorem vlu_same {h h' : Nat → Bool} : ∀ {k : Nat}, (∀ j, j < k → h' j = h j) → vlu h' k = vlu h k := by
  intro k
  induction k with
  | zero => intro _; rfl
  | succ k ih => intro hs; unfold vlu; rw [ih (fun j hj => hs j (by omega)), hs k (by omega)]
theorem vlu_less {h h' : Nat → Bool} {i : Nat} (hb : ∀ j, j < i → h' j = h j) (h0 : h i = false) (h1 : h' i = true) : ∀ {k : Nat}, i < k → vlu h k < vlu h' k := by
  intro k
  induction k with
  | zero => intro hi; omega
  | succ k ih =>
    intro hi
    by_cases e : i = k
    · subst e
      simp only [vlu]
      rw [vlu_same hb, h0, h1]
      simp
    · have := ih (by omega)
      simp only [vlu]
      split <;> split <;> omega
theorem next_less {c : Nat → Bool} {n : Nat} {h h' : Nat → Bool} (hn : nextF c n h = some h') : 2 ^ n - vlu h' n < 2 ^ n - vlu h n := by
  obtain ⟨i, x⟩ := next_some hn
  have h1 := vlu_less x.below x.h0 x.h1 x.lt
  have h2 := vlu_lt h' n
  omega
/-- all headers from h on -/
def memL (c : Nat → Bool) (n : Nat) (h : Nat → Bool) : List (Nat → Bool) :=
  h :: match _hn : nextF c n h with
    | none => []
    | some h' => memL c n h'
termination_by 2 ^ n - vlu h n
decreasing_by exact next_less _hn
theorem mem_none {c : Nat → Bool} {n : Nat} {h : Nat → Bool} (hn : nextF c n h = none) : memL c n h = [h] := by
  rw [memL]
  split
  · rfl
  · rename_i e; rw [hn] at e; cases e
theorem mem_some {c : Nat → Bool} {n : Nat} {h h' : Nat → Bool} (hn : nextF c n h = some h') : memL c n h = h :: memL c n h' := by
  rw [memL]
  split
  · rename_i e; rw [hn] at e; cases e
  · rename_i e; rw [hn] at e; cases e; rfl
def memT (c : Nat → Bool) (n : Nat) (h : Nat → Bool) : List (List UInt8) := (memL c n h).map (hdr n)
theorem memT_none {c : Nat → Bool} {n : Nat} {h : Nat → Bool} (hn : nextF c n h = none) : memT c n h = [hdr n h] := by simp [memT, mem_none hn]
theorem memT_some {c : Nat → Bool} {n : Nat} {h h' : Nat → Bool} (hn : nextF c n h = some h') : memT c n h = hdr n h :: memT c n h' := by simp [memT, mem_some hn]
theorem memT_len {c : Nat → Bool} {n : Nat} (N : Nat) : ∀ {h : Nat → Bool}, 2 ^ n - vlu h n ≤ N → ∀ x ∈ memT c n h, x.length = n := by
  induction N with
  | zero => intro h hN; have := vlu_lt h n; omega
  | succ N ih =>
    intro h hN x hx
    cases hn : nextF c n h with
    | none => rw [memT_none hn] at hx; obtain rfl : x = hdr n h := (by simpa using hx); exact hdr_len _ _
    | some h' =>
      rw [memT_some hn] at hx
      rcases List.mem_cons.1 hx with rfl | hx
      · exact hdr_len _ _
      · exact ih (by have := next_less hn; omega) x hx
theorem memT_size {c : Nat → Bool} {n : Nat} {h : Nat → Bool} : ∀ x ∈ memT c n h, x.length = n := memT_len _ (Nat.le_refl _)
/-- all headers of a cube -/
def memAll (n : Nat) (c o : Nat → Bool) : List (List UInt8) := if n = 0 then [] else memT c n o
/-- the last free place at which h has 0 -/
def lst (c h : Nat → Bool) : Nat → Int
  | 0 => -1
  | k + 1 => if !c k && !h k then (k : Int) else lst c h k
theorem lst_lo (c h : Nat → Bool) : ∀ k, -1 ≤ lst c h k ∧ lst c h k < k := by
  intro k
  induction k with
  | zero => simp [lst]
  | succ k ih => unfold lst; split <;> omega
theorem lst_none {c h : Nat → Bool} : ∀ {k : Nat}, (∀ i, i < k → c i = false → h i = true) → lst c h k = -1 := by
  intro k
  induction k with
  | zero => intro _; rfl
  | succ k ih =>
    intro hs
    unfold lst
    rw [if_neg]
    · exact ih fun i hi => hs i (by omega)
    · intro e
      simp only [Bool.and_eq_true, Bool.not_eq_true'] at e
      have := hs k (by omega) e.1
      rw [e.2] at this; cases this
theorem lst_some {c h : Nat → Bool} {i : Nat} (hc : c i = false) (h0 : h i = false) : ∀ {k : Nat}, i < k → (∀ j, i < j → j < k → c j = false → h j = true) → lst c h k = i := by
  intro k
  induction k with
  | zero => intro hi; omega
  | succ k ih =>
    intro hi hs
    unfold lst
    by_cases e : i = k
    · subst e; rw [if_pos (by simp [hc, h0])]
    · rw [if_neg]
      · exact ih (by omega) fun j h1 h2 => hs j h1 (by omega)
      · intro e2
        simp only [Bool.and_eq_true, Bool.not_eq_true'] at e2
        have := hs k (by omega) (by omega) e2.1
        rw [e2.2] at this; cases this
theorem next_last {c : Nat → Bool} {n : Nat} {h h' : Nat → Bool} (hn : nextF c n h = some h') : ∃ i : Nat, lst c h n = i ∧ i < n ∧ ∀ j, j < n → h' j = if j = i then true else if i < j ∧ c j = false then false else h j := by
  obtain ⟨i, x⟩ := next_some hn
  refine ⟨i, lst_some x.c0 x.h0 x.lt (fun j h1 h2 h3 => (x.free j h1 h2 h3).1), x.lt, fun j hj => ?_⟩
  by_cases e : j = i
  · subst e; rw [if_pos rfl]; exact x.h1
  · rw [if_neg e]
    by_cases h2 : i < j ∧ c j = false
    · rw [if_pos h2]; exact (x.free j h2.1 hj h2.2).2
    · rw [if_neg h2]
      by_cases h3 : i < j
      · exact x.care j (by cases hc : c j with | true => rfl | false => exact absurd ⟨h3, hc⟩ h2)
      · exact x.below j (by omega)
end Go.Proofs.Ytdiijannpfogdaa.Tn
