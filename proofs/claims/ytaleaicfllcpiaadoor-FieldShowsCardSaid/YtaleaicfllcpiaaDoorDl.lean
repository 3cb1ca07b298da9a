/- Show: the plain law. -/
import Derived.Test.YtaleaicfllcpiaaDoorDs
import Derived.Test.YtaleaicfllcpiaaDoorBl
namespace Go.Proofs.YtaleaicfllcpiaaDoor.Fl
open Go.RowKit Mm Law
set_option linter.unusedVariables false
set_option linter.unusedSimpArgs false
set_option linter.unusedSectionVars false
open Classical in
noncomputable def itemT (l : List Fld) (H : List UInt8) (k : Nat) : List ByteArray :=
  if cntN (fldB l H k) = 0 then [] else [((l[k]?.map fun f : Fld => f.1).getD .empty) ++ ⟨#[32, 61, 32]⟩ ++ partB (fldB l H k)]
noncomputable def shT (l : List Fld) (H : List UInt8) : Nat → List ByteArray
  | 0 => []
  | k + 1 => shT l H k ++ itemT l H k
open Classical in
noncomputable def shE (l : List Fld) (H : List UInt8) : Int := if (chk l).1 ≠ 0 then (chk l).1 else if ofB dShow H (sumTo l l.length) then 0 else 46
def anyT : List UInt8 := [97, 110, 121]
noncomputable def joinT (xs : List ByteArray) : List UInt8 := Lib.join (xs.map (·.data.toList)) [32, 38, 32]
open Classical in
noncomputable def shS (l : List Fld) (H : List UInt8) : List UInt8 := if shE l H = 0 then (if shT l H l.length = [] then anyT else joinT (shT l H l.length)) else []
theorem sh_chk {l : List Fld} {H : List UInt8} {c : Int} (h1 : (chk l).1 = c) (h0 : c ≠ 0) : shE l H = c ∧ shS l H = [] := by
  have e : shE l H = c := by unfold shE; rw [if_pos (by rw [h1]; exact h0), h1]
  exact ⟨e, by unfold shS; rw [e, if_neg h0]⟩
theorem sh_bad {l : List Fld} {H : List UInt8} (h1 : (chk l).1 = 0) (h0 : ¬ ofB dShow H (sumTo l l.length)) : shE l H = 46 ∧ shS l H = [] := by
  have e : shE l H = 46 := by unfold shE; rw [if_neg (by rw [h1]; simp), if_neg h0]
  exact ⟨e, by unfold shS; rw [e, if_neg (by decide)]⟩
theorem sh_ok {l : List Fld} {H : List UInt8} (h1 : (chk l).1 = 0) (h0 : ofB dShow H (sumTo l l.length)) : shE l H = 0 ∧ shS l H = if shT l H l.length = [] then anyT else joinT (shT l H l.length) := by
  have e : shE l H = 0 := by unfold shE; rw [if_neg (by rw [h1]; simp), if_pos h0]
  exact ⟨e, by unfold shS; rw [if_pos e]⟩
theorem sh_form (l : List Fld) (H : List UInt8) : -9223372036854775808 ≤ shE l H ∧ shE l H ≤ 9223372036854775807 := by
  unfold shE
  split
  · have := chk_form l; omega
  · split <;> decide
theorem item_no {l : List Fld} {H : List UInt8} {k : Nat} (h : cntN (fldB l H k) = 0) : shT l H (k + 1) = shT l H k := by
  show shT l H k ++ itemT l H k = _
  unfold itemT
  rw [if_pos h, List.append_nil]
theorem item_yes {l : List Fld} {H : List UInt8} {k : Nat} (hk : k < l.length) (h : cntN (fldB l H k) ≠ 0) : shT l H (k + 1) = shT l H k ++ [l[k].1 ++ ⟨#[32, 61, 32]⟩ ++ partB (fldB l H k)] := by
  show shT l H k ++ itemT l H k = _
  unfold itemT
  rw [if_neg h, List.getElem?_eq_getElem hk]
  rfl
theorem join_snoc (sep : List UInt8) (xs : List (List UInt8)) (y : List UInt8) : Lib.join (xs ++ [y]) sep = if xs = [] then y else Lib.join xs sep ++ sep ++ y := by
  cases xs with
  | nil => rw [if_pos rfl, List.nil_append, Lib.join_one]
  | cons a r =>
    rw [if_neg (by simp), List.cons_append, Lib.join_cons, Lib.join_cons]
    unfold Lib.joinTail
    rw [List.map_append, List.flatten_append]
    simp
end Go.Proofs.YtaleaicfllcpiaaDoor.Fl
