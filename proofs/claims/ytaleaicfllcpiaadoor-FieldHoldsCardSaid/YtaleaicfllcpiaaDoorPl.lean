/- Pack: the plain law, and small lemmas. -/
import Derived.Test.YtaleaicfllcpiaaDoorCe
import Derived.Test.YtaleaicfllcpiaaDoorBi
import Derived.Test.YtaleaicfllcpiaaDoorIn
import Derived.Test.YtaleaicfllcpiaaDoorSb
namespace Go.Proofs.YtaleaicfllcpiaaDoor.Fl
open Go.RowKit Mm Law
set_option linter.unusedVariables false
set_option linter.unusedSimpArgs false
set_option linter.unusedSectionVars false
theorem chkFrom_all (l : List Fld) : ∀ (n k : Nat), l.length - k ≤ n → (chkFrom l k).1 = 0 → ∀ j, k ≤ j → (h : j < l.length) → ¬ badAt l j l[j] := by
  intro n
  induction n with
  | zero => intro k hn _ j hj h; omega
  | succ n ih =>
    intro k hn h0 j hj h
    have hk : k < l.length := by omega
    by_cases hb : badAt l k l[k]
    · rw [chkFrom_bad hk hb] at h0
      exact absurd (show (40 : Int) = 0 from h0) (by decide)
    · rw [chkFrom_ok hk hb] at h0
      rcases Nat.lt_or_ge k j with h1 | h1
      · exact ih (k + 1) (by omega) h0 j h1 h
      · have : k = j := by omega
        subst this
        exact hb
theorem chk_zero {l : List Fld} (h : (chk l).1 = 0) : 0 < l.length ∧ l.length ≤ 12 ∧ ∀ j, (hj : j < l.length) → 1 ≤ l[j].2 ∧ l[j].2 ≤ 32 := by
  rcases chk_cases l with ⟨h1, e⟩ | ⟨h1, e⟩ | ⟨h1, h2, e⟩
  · rw [e] at h; exact absurd h (by decide)
  · rw [e] at h; exact absurd h (by decide)
  · rw [e] at h
    refine ⟨h1, h2, fun j hj => ?_⟩
    have hb := chkFrom_all l l.length 0 (by omega) h j (Nat.zero_le _) hj
    unfold badAt at hb
    refine ⟨?_, ?_⟩ <;> refine Classical.byContradiction fun hc => hb ?_
    · exact .inr (.inr (.inr (.inr (.inl (by omega)))))
    · exact .inr (.inr (.inr (.inr (.inr (.inl (by omega))))))
def bitsAt (l : List Fld) (k : Nat) : Nat := ((l[k]?.map fun f : Fld => f.2).getD 0).toNat
def valAt (x : List Int) (k : Nat) : Int := x.getD k 0
def tooB (l : List Fld) (x : List Int) (k : Nat) : Prop := valAt x k < 0 ∨ (topN (bitsAt l k) : Int) < valAt x k
def pkT (l : List Fld) (x : List Int) : Nat → List UInt8
  | 0 => []
  | k + 1 => pkT l x k ++ hiB (valAt x k).toNat (bitsAt l k) (bitsAt l k)
open Classical in
noncomputable def pkE (l : List Fld) (x : List Int) : Int := if (chk l).1 ≠ 0 then (chk l).1 else if x.length ≠ l.length then 1 else if ∃ k, k < l.length ∧ tooB l x k then 42 else 0
open Classical in
noncomputable def pkS (l : List Fld) (x : List Int) : List UInt8 := if pkE l x = 0 then pkT l x l.length else []
theorem pkT_len {l : List Fld} {x : List Int} (h : ∀ j, (hj : j < l.length) → 1 ≤ l[j].2 ∧ l[j].2 ≤ 32) : ∀ k, k ≤ l.length → (pkT l x k).length ≤ 32 * k := by
  intro k
  induction k with
  | zero => intro _; simp [pkT]
  | succ k ih =>
    intro hk
    have h1 := ih (by omega)
    have h2 := h k (by omega)
    unfold pkT
    rw [List.length_append, hiB_len]
    have : bitsAt l k ≤ 32 := by
      unfold bitsAt
      rw [List.getElem?_eq_getElem (by omega)]
      simp only [Option.map_some, Option.getD_some]
      omega
    omega
theorem pk_chk {l : List Fld} {x : List Int} {c : Int} (h : (chk l).1 = c) (h0 : c ≠ 0) : pkE l x = c ∧ pkS l x = [] := by
  have e : pkE l x = c := by unfold pkE; rw [if_pos (by rw [h]; exact h0), h]
  exact ⟨e, by unfold pkS; rw [e, if_neg h0]⟩
theorem pk_len {l : List Fld} {x : List Int} (h : (chk l).1 = 0) (h0 : x.length ≠ l.length) : pkE l x = 1 ∧ pkS l x = [] := by
  have e : pkE l x = 1 := by unfold pkE; rw [if_neg (by rw [h]; simp), if_pos h0]
  exact ⟨e, by unfold pkS; rw [e, if_neg (by decide)]⟩
theorem pk_big {l : List Fld} {x : List Int} (h : (chk l).1 = 0) (h0 : x.length = l.length) {k : Nat} (hk : k < l.length) (hb : tooB l x k) : pkE l x = 42 ∧ pkS l x = [] := by
  have e : pkE l x = 42 := by unfold pkE; rw [if_neg (by rw [h]; simp), if_neg (by omega), if_pos ⟨k, hk, hb⟩]
  exact ⟨e, by unfold pkS; rw [e, if_neg (by decide)]⟩
theorem pk_ok {l : List Fld} {x : List Int} (h : (chk l).1 = 0) (h0 : x.length = l.length) (hb : ∀ k, k < l.length → ¬ tooB l x k) : pkE l x = 0 ∧ pkS l x = pkT l x l.length := by
  have e : pkE l x = 0 := by unfold pkE; rw [if_neg (by rw [h]; simp), if_neg (by omega), if_neg (fun ⟨k, hk, hh⟩ => hb k hk hh)]
  exact ⟨e, by unfold pkS; rw [if_pos e]⟩
theorem pk_form (l : List Fld) (x : List Int) : -9223372036854775808 ≤ pkE l x ∧ pkE l x ≤ 9223372036854775807 := by
  unfold pkE
  split
  · have := chk_form l; omega
  · split
    · decide
    · split <;> decide
theorem bitsAt_of {l : List Fld} {k : Nat} {f : Fld} (h : l[k]? = some f) (h1 : 1 ≤ f.2) : (bitsAt l k : Int) = f.2 := by
  unfold bitsAt
  rw [h]
  simp only [Option.map_some, Option.getD_some]
  omega
theorem SB_below {B b : Nat} {l : List UInt8} {w w' : World} (h : SB B b l w) (hb : Below w.heap.size w w') : SB B b l w' := by
  have hh : ∀ p, Lib.BuilderAt 85 5 B b p (Lib.byteCells l) w → Lib.BuilderAt 85 5 B b p (Lib.byteCells l) w' := by
    rintro p ⟨h1, v, h2, h3, h4⟩
    exact ⟨h1, v, (hb.block b (Array.getElem?_eq_some_iff.1 h2).1).trans h2, own_below h3 hb (Nat.le_refl _), h4⟩
  exact h.imp (hh _) (hh _)
theorem SB_new (w : World) (B : Nat) (h : B ≤ w.heap.size) : SB B w.heap.size [] (w.alloc (.cells #[.pointer none, .slice none 0 0] 85)) :=
  .inl ⟨h, .slice none 0 0, Blk.new w _ _, World.ownsRow_nil _ _ _ _, by simp [Value.ownBlock]⟩
end Go.Proofs.YtaleaicfllcpiaaDoor.Fl
