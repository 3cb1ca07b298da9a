/- Word: the plain law. -/
import Derived.Test.YtaleaicfllcpiaaDoorWd
namespace Go.Proofs.YtaleaicfllcpiaaDoor.Fl
open Go.RowKit Mm Law
set_option linter.unusedVariables false
set_option linter.unusedSimpArgs false
set_option linter.unusedSectionVars false
open Classical in
noncomputable def badW (l pre : List Fld) (s : Fld) : Int :=
  if idxF l s.1 < l.length then (if ∃ g ∈ pre, g.1 = s.1 then 45 else if s.2 < 0 ∨ (topN (bitsAt l (idxF l s.1)) : Int) < s.2 then 42 else 0) else 41
def plcN (l : List Fld) (s : Fld) : Nat := (sumTo l (idxF l s.1)).toNat
def bitN (l : List Fld) (s : Fld) : Nat := bitsAt l (idxF l s.1)
def stepW (l : List Fld) (W : List UInt8) (s : Fld) : List UInt8 := W.take (plcN l s) ++ hiB s.2.toNat (bitN l s) (bitN l s) ++ W.drop (plcN l s + bitN l s)
noncomputable def wdR (l : List Fld) : List Fld → List Fld → List UInt8 → Int × List UInt8
  | _, [], W => (0, W)
  | pre, s :: r, W => if badW l pre s = 0 then wdR l (pre ++ [s]) r (stepW l W s) else (badW l pre s, [])
def widN (l : List Fld) : Nat := (sumTo l l.length).toNat
open Classical in
noncomputable def wdA (l S : List Fld) : Int × List UInt8 := if 12 < S.length then (2, []) else if (chk l).1 ≠ 0 then ((chk l).1, []) else wdR l [] S (List.replicate (widN l) 120)
theorem wd_long {l S : List Fld} (h : 12 < S.length) : wdA l S = (2, []) := by unfold wdA; rw [if_pos h]
theorem wd_chk {l S : List Fld} (h : ¬ 12 < S.length) (h0 : (chk l).1 ≠ 0) : wdA l S = ((chk l).1, []) := by unfold wdA; rw [if_neg h, if_pos h0]
theorem wd_go {l S : List Fld} (h : ¬ 12 < S.length) (h0 : (chk l).1 = 0) : wdA l S = wdR l [] S (List.replicate (widN l) 120) := by unfold wdA; rw [if_neg h, if_neg (by rw [h0]; simp)]
theorem wd_end (l S : List Fld) (W : List UInt8) {k : Nat} (h : S.length ≤ k) : wdR l (S.take k) (S.drop k) W = (0, W) := by
  rw [List.drop_eq_nil_of_le h, wdR]
theorem wd_bad {l S : List Fld} {W : List UInt8} {k : Nat} (h : k < S.length) (hb : badW l (S.take k) S[k] ≠ 0) : wdR l (S.take k) (S.drop k) W = (badW l (S.take k) S[k], []) := by
  rw [List.drop_eq_getElem_cons h, wdR, if_neg hb]
theorem wd_ok {l S : List Fld} {W : List UInt8} {k : Nat} (h : k < S.length) (hb : badW l (S.take k) S[k] = 0) : wdR l (S.take k) (S.drop k) W = wdR l (S.take (k + 1)) (S.drop (k + 1)) (stepW l W S[k]) := by
  rw [List.drop_eq_getElem_cons h, wdR, if_pos hb, List.take_succ_eq_append_getElem h]
theorem bad_41 {l pre : List Fld} {s : Fld} (h : ¬ idxF l s.1 < l.length) : badW l pre s = 41 := by unfold badW; rw [if_neg h]
theorem bad_45 {l pre : List Fld} {s : Fld} (h : idxF l s.1 < l.length) (h2 : ∃ g ∈ pre, g.1 = s.1) : badW l pre s = 45 := by unfold badW; rw [if_pos h, if_pos h2]
theorem bad_42 {l pre : List Fld} {s : Fld} (h : idxF l s.1 < l.length) (h2 : ¬ ∃ g ∈ pre, g.1 = s.1) (h3 : s.2 < 0 ∨ (topN (bitN l s) : Int) < s.2) : badW l pre s = 42 := by unfold badW; rw [if_pos h, if_neg h2, if_pos (show s.2 < 0 ∨ (topN (bitsAt l (idxF l s.1)) : Int) < s.2 from h3)]
theorem bad_0 {l pre : List Fld} {s : Fld} (h : idxF l s.1 < l.length) (h2 : ¬ ∃ g ∈ pre, g.1 = s.1) (h3 : ¬ (s.2 < 0 ∨ (topN (bitN l s) : Int) < s.2)) : badW l pre s = 0 := by unfold badW; rw [if_pos h, if_neg h2, if_neg (show ¬ (s.2 < 0 ∨ (topN (bitsAt l (idxF l s.1)) : Int) < s.2) from h3)]
theorem badW_form (l pre : List Fld) (s : Fld) : badW l pre s = 0 ∨ badW l pre s = 41 ∨ badW l pre s = 42 ∨ badW l pre s = 45 := by
  unfold badW
  split
  · split
    · simp
    · split <;> simp
  · simp
theorem wdR_form (l : List Fld) : ∀ (r pre : List Fld) (W : List UInt8), (wdR l pre r W).1 = 0 ∨ (wdR l pre r W).1 = 41 ∨ (wdR l pre r W).1 = 42 ∨ (wdR l pre r W).1 = 45 := by
  intro r
  induction r with
  | nil => intro pre W; left; rfl
  | cons s r ih =>
    intro pre W
    unfold wdR
    split
    · exact ih _ _
    · exact badW_form l pre s
theorem wdA_form (l S : List Fld) : -9223372036854775808 ≤ (wdA l S).1 ∧ (wdA l S).1 ≤ 9223372036854775807 := by
  unfold wdA
  split
  · decide
  · split
    · have := chk_form l; omega
    · have := wdR_form l S [] (List.replicate (widN l) 120); omega
/-- the place and the width of a field that is there -/
theorem plc_fits {l : List Fld} (hbd : ∀ j, (hj : j < l.length) → 1 ≤ l[j].2 ∧ l[j].2 ≤ 32) {s : Fld} (h : idxF l s.1 < l.length) :
    plcI l s.1 = (plcN l s : Int) ∧ idxI l s.1 = (idxF l s.1 : Int) ∧ (bitN l s : Int) = l[idxF l s.1].2 ∧ 1 ≤ bitN l s ∧ bitN l s ≤ 32 ∧ plcN l s + bitN l s ≤ widN l ∧ sumTo l (idxF l s.1) = (plcN l s : Int) := by
  have h1 := sum_bd hbd (idxF l s.1) (by omega)
  have h2 := hbd _ h
  have h3 := sumTo_succ h
  have hb := bitsAt_of (l := l) (k := idxF l s.1) (f := l[idxF l s.1]) (by simp [h]) h2.1
  have hmono : ∀ m, idxF l s.1 + 1 + m ≤ l.length → sumTo l (idxF l s.1 + 1) ≤ sumTo l (idxF l s.1 + 1 + m) := by
    intro m
    induction m with
    | zero => intro _; exact Int.le_refl _
    | succ m ih =>
      intro hm
      have a := ih (by omega)
      have b := sumTo_succ (l := l) (k := idxF l s.1 + 1 + m) (by omega)
      have c := hbd (idxF l s.1 + 1 + m) (by omega)
      rw [show idxF l s.1 + 1 + (m + 1) = idxF l s.1 + 1 + m + 1 by omega]
      omega
  have h4 := hmono (l.length - (idxF l s.1 + 1)) (by omega)
  rw [show idxF l s.1 + 1 + (l.length - (idxF l s.1 + 1)) = l.length by omega] at h4
  unfold plcI idxI plcN bitN widN
  rw [if_pos h, if_pos h]
  omega
theorem stepW_len {l : List Fld} {W : List UInt8} {s : Fld} (h : plcN l s + bitN l s ≤ W.length) : (stepW l W s).length = W.length := by
  unfold stepW
  rw [List.length_append, List.length_append, List.length_take, List.length_drop, hiB_len]
  omega
end Go.Proofs.YtaleaicfllcpiaaDoor.Fl
