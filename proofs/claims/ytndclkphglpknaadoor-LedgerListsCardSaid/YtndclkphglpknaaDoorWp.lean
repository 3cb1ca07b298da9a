/- Plain law of Whole: the records of a disk, from a place on, numbered on. No program in sight. -/
import Derived.Test.YtndclkphglpknaaDoorRd
namespace Go.Proofs.YtndclkphglpknaaDoor.Lg
open Go.RowKit Mm
theorem not_spoilt' (d : List UInt8) (h : ¬ spoilt d) : n4 d 8 ≤ 16384 := (not_spoilt d h).2.2.2.2.2
theorem rdE_zero {d : List UInt8} (h : rdE d = 0) : 16 ≤ d.length ∧ ¬ spoilt d ∧ n4 d 8 + 20 ≤ d.length ∧ n4 d 8 ≤ 16384 ∧ n4 d (16 + n4 d 8) = crc (d.take (16 + n4 d 8)) := by
  unfold rdE at h
  split at h
  · simp at h
  · split at h
    · simp at h
    · split at h
      · simp at h
      · split at h
        · simp at h
        · rename_i a b c e
          exact ⟨by omega, b, by omega, not_spoilt' d b, Classical.byContradiction e⟩
theorem rdT_len' {d : List UInt8} (h : n4 d 8 + 20 ≤ d.length) : (rdT d).length = n4 d 8 := by unfold rdT; simp; omega
/-- a record with its place -/
structure RA where
  pl : Nat
  sq : Nat
  kd : Nat
  tx : List UInt8
  hp : pl ≤ 1000000
  hs : sq < 4294967296
  hk : kd < 256
  ht : tx.length ≤ 16384
theorem num4_lt4 (l : List UInt8) (h : l.length ≤ 4) : num4 l < 4294967296 := by
  match l, h with
  | [], _ => decide
  | [a], _ => have := a.toNat_lt; simp only [num4, List.foldl_cons, List.foldl_nil]; omega
  | [a, b], _ => have := a.toNat_lt; have := b.toNat_lt; simp only [num4, List.foldl_cons, List.foldl_nil]; omega
  | [a, b, c], _ => have := a.toNat_lt; have := b.toNat_lt; have := c.toNat_lt; simp only [num4, List.foldl_cons, List.foldl_nil]; omega
  | [a, b, c, d], _ => have := a.toNat_lt; have := b.toNat_lt; have := c.toNat_lt; have := d.toNat_lt; simp only [num4, List.foldl_cons, List.foldl_nil]; omega
theorem n4_lt (d : List UInt8) (k : Nat) : n4 d k < 4294967296 := num4_lt4 _ (by simp; omega)
def nextOk (l : List UInt8) (p sq : Nat) : Prop := l.length ≤ 1000000 ∧ rdE (l.drop p) = 0 ∧ n4 (l.drop p) 4 = sq
instance (l : List UInt8) (p sq : Nat) : Decidable (nextOk l p sq) := by unfold nextOk; infer_instance
theorem nextOk_len {l : List UInt8} {p sq : Nat} (h : nextOk l p sq) : p + n4 (l.drop p) 8 + 20 ≤ l.length ∧ n4 (l.drop p) 8 ≤ 16384 ∧ (rdT (l.drop p)).length = n4 (l.drop p) 8 := by
  obtain ⟨_, _, h3, h4, _⟩ := rdE_zero h.2.1
  have hT := rdT_len' h3
  rw [List.length_drop] at h3
  exact ⟨by omega, h4, hT⟩
def recs (l : List UInt8) (p sq : Nat) : List RA :=
  if h : nextOk l p sq then
    ⟨p, n4 (l.drop p) 4, (bt (l.drop p) 2).toNat, rdT (l.drop p), by have := nextOk_len h; have := h.1; omega, n4_lt _ _, (bt (l.drop p) 2).toNat_lt, by have := nextOk_len h; omega⟩ :: recs l (p + n4 (l.drop p) 8 + 20) (sq + 1)
  else []
termination_by l.length - p
decreasing_by have := nextOk_len h; omega
def endOf (p : Nat) (rs : List RA) : Nat := rs.foldl (fun _ r => r.pl + r.tx.length + 20) p
theorem endOf_nil (p : Nat) : endOf p [] = p := rfl
theorem endOf_snoc (p : Nat) (rs : List RA) (r : RA) : endOf p (rs ++ [r]) = r.pl + r.tx.length + 20 := by simp [endOf]
theorem recs_yes {l : List UInt8} {p sq : Nat} (h : nextOk l p sq) : ∃ r : RA, recs l p sq = r :: recs l (p + n4 (l.drop p) 8 + 20) (sq + 1) ∧ r.pl = p ∧ r.sq = n4 (l.drop p) 4 ∧ r.kd = (bt (l.drop p) 2).toNat ∧ r.tx = rdT (l.drop p) ∧ r.tx.length = n4 (l.drop p) 8 ∧ r.sq = sq := by
  rw [recs, dif_pos h]
  exact ⟨_, rfl, rfl, rfl, rfl, rfl, (nextOk_len h).2.2, h.2.2⟩
theorem recs_no {l : List UInt8} {p sq : Nat} (h : ¬ nextOk l p sq) : recs l p sq = [] := by rw [recs, dif_neg h]
/-- where it ends there is no next one -/
theorem recs_end (l : List UInt8) : ∀ (n p sq : Nat), l.length - p ≤ n → p ≤ l.length → ¬ nextOk l (endOf p (recs l p sq)) (sq + (recs l p sq).length) ∧ endOf p (recs l p sq) ≤ l.length := by
  intro n
  induction n with
  | zero =>
    intro p sq hn hp
    have h : ¬ nextOk l p sq := fun h => by have := nextOk_len h; omega
    rw [recs_no h]
    exact ⟨h, hp⟩
  | succ n ih =>
    intro p sq hn hp
    by_cases h : nextOk l p sq
    · obtain ⟨r, hr, hpl, _, _, _, hlen, _⟩ := recs_yes h
      have hl := nextOk_len h
      rw [hr]
      have e : endOf p (r :: recs l (p + n4 (l.drop p) 8 + 20) (sq + 1)) = endOf (p + n4 (l.drop p) 8 + 20) (recs l (p + n4 (l.drop p) 8 + 20) (sq + 1)) := by
        simp only [endOf, List.foldl_cons, hpl, hlen]
      rw [e, List.length_cons, show sq + ((recs l (p + n4 (l.drop p) 8 + 20) (sq + 1)).length + 1) = sq + 1 + (recs l (p + n4 (l.drop p) 8 + 20) (sq + 1)).length by omega]
      exact ih _ _ (by omega) (by omega)
    · rw [recs_no h]
      exact ⟨h, hp⟩
theorem recs_len (l : List UInt8) : ∀ (n p sq : Nat), l.length - p ≤ n → p ≤ l.length → (recs l p sq).length + p ≤ l.length := by
  intro n
  induction n with
  | zero =>
    intro p sq hn hp
    have h : ¬ nextOk l p sq := fun h => by have := nextOk_len h; omega
    rw [recs_no h]
    simpa using hp
  | succ n ih =>
    intro p sq hn hp
    by_cases h : nextOk l p sq
    · obtain ⟨r, hr, _⟩ := recs_yes h
      have hl := nextOk_len h
      have := ih (p + n4 (l.drop p) 8 + 20) (sq + 1) (by omega) (by omega)
      rw [hr, List.length_cons]
      omega
    · rw [recs_no h]
      simpa using hp
/-- why it ends -/
def codeOf (l : List UInt8) (p : Nat) : Int := if p = l.length then 0 else if rdE (l.drop p) = 0 then 192 else rdE (l.drop p)
def whl (l : List UInt8) : List RA := recs l 0 1
def whE (l : List UInt8) : Nat := endOf 0 (whl l)
/-- a record's cells -/
def raV (r : RA) : Value := .agg #[.int .i64 r.sq, .int .i64 r.kd, .string (str r.tx)]
def raC (r : RA) : List Value := [.int .i64 r.sq, .int .i64 r.kd, .string (str r.tx)]
def rasC (rs : List RA) : List Value := rs.flatMap raC
theorem rasC_snoc (rs : List RA) (r : RA) : rasC (rs ++ [r]) = rasC rs ++ raC r := by simp [rasC]
theorem rasC_len (rs : List RA) : (rasC rs).length = rs.length * 3 := by
  induction rs with
  | nil => rfl
  | cons r rs ih => simp only [rasC, List.flatMap_cons, List.length_append, List.length_cons] at ih ⊢; rw [ih]; simp [raC]; omega
theorem rasC_at (rs : List RA) : ∀ j r, rs[j]? = some r → (rasC rs)[j * 3]? = some (.int .i64 r.sq) ∧ (rasC rs)[j * 3 + 1]? = some (.int .i64 r.kd) ∧ (rasC rs)[j * 3 + 2]? = some (.string (str r.tx)) := by
  induction rs with
  | nil => intro j r h; cases h
  | cons x rs ih =>
    intro j r h
    cases j with
    | zero => cases h; exact ⟨rfl, rfl, rfl⟩
    | succ j =>
      obtain ⟨h0, h1, h2⟩ := ih j r (by simpa using h)
      refine ⟨?_, ?_, ?_⟩
      · rw [show (j + 1) * 3 = j * 3 + 3 by omega]; exact h0
      · rw [show (j + 1) * 3 + 1 = j * 3 + 1 + 3 by omega]; exact h1
      · rw [show (j + 1) * 3 + 2 = j * 3 + 2 + 3 by omega]; exact h2
end Go.Proofs.YtndclkphglpknaaDoor.Lg
