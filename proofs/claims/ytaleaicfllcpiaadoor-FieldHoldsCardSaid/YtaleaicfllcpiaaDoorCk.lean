/- Check: the plain law. -/
import Derived.Test.YtaleaicfllcpiaaDoorFi
namespace Go.Proofs.YtaleaicfllcpiaaDoor.Fl
open Go.RowKit Mm Law
set_option linter.unusedVariables false
set_option linter.unusedSimpArgs false
set_option linter.unusedSectionVars false
def sumTo (l : List Fld) (k : Nat) : Int := ((l.take k).map (·.2)).sum
def anyS : ByteArray := ⟨#[97, 110, 121]⟩
def noneS : ByteArray := ⟨#[110, 111, 110, 101]⟩
/-- the field at that place offends -/
def badAt (l : List Fld) (k : Nat) (f : Fld) : Prop :=
  ¬ nameOk f.1 ∨ f.1 = anyS ∨ f.1 = noneS ∨ (∃ g ∈ l.take k, g.1 = f.1) ∨ f.2 < 1 ∨ 32 < f.2 ∨ 256 < sumTo l k + f.2
open Classical in
noncomputable def chkFrom (l : List Fld) (k : Nat) : Int × Int := if h : k < l.length then (if badAt l k l[k] then (40, (k : Int)) else chkFrom l (k + 1)) else (0, 0)
termination_by l.length - k
noncomputable def chk (l : List Fld) : Int × Int := if 12 < l.length then (2, 0) else if l = [] then (40, 0) else chkFrom l 0
theorem chkFrom_bad {l : List Fld} {k : Nat} (h : k < l.length) (hb : badAt l k l[k]) : chkFrom l k = (40, (k : Int)) := by
  rw [chkFrom, dif_pos h, if_pos hb]
theorem chkFrom_ok {l : List Fld} {k : Nat} (h : k < l.length) (hb : ¬ badAt l k l[k]) : chkFrom l k = chkFrom l (k + 1) := by
  rw [chkFrom, dif_pos h, if_neg hb]
theorem chkFrom_end {l : List Fld} {k : Nat} (h : ¬ k < l.length) : chkFrom l k = (0, 0) := by
  rw [chkFrom, dif_neg h]
theorem sumTo_succ {l : List Fld} {k : Nat} (h : k < l.length) : sumTo l (k + 1) = sumTo l k + l[k].2 := by
  unfold sumTo
  rw [List.take_succ_eq_append_getElem h, List.map_append, List.sum_append]
  simp only [List.map_cons, List.map_nil, List.sum_cons, List.sum_nil, Int.add_zero]
theorem sumTo_zero (l : List Fld) : sumTo l 0 = 0 := by simp [sumTo]
theorem check_long (l : List Fld) (v : Value) (w : World) (hv : SeesF w v l) (h : 12 < l.length) :
    Calls Tryd.prog 38 #[v] w fun e w' => e = .returned (.tuple #[.int .i64 2, .int .i64 0]) ∧ Below w.heap.size w w' := by
  obtain ⟨a0, cap0, rfl, hcap, hcm, _, _⟩ := hv
  unfold maxLen at hcm
  go_enter Tryd.func38, Tryd.ntmps38
  go_wp2
  all_goals refine bodyPost_ret (v := .tuple #[.int .i64 2, .int .i64 0]) (by simp [results, Tryd.results38, go_sem]) rfl ⟨rfl, Below.refl _ _⟩
theorem check_nil (v : Value) (w : World) (hv : SeesF w v []) :
    Calls Tryd.prog 38 #[v] w fun e w' => e = .returned (.tuple #[.int .i64 40, .int .i64 0]) ∧ Below w.heap.size w w' := by
  obtain ⟨a0, cap0, rfl, hcap, hcm, _, _⟩ := hv
  unfold maxLen at hcm
  simp only [List.length_nil]
  go_enter Tryd.func38, Tryd.ntmps38
  go_wp2
  all_goals refine bodyPost_ret (v := .tuple #[.int .i64 40, .int .i64 0]) (by simp [results, Tryd.results38, go_sem]) rfl ⟨rfl, Below.refl _ _⟩
end Go.Proofs.YtaleaicfllcpiaaDoor.Fl
