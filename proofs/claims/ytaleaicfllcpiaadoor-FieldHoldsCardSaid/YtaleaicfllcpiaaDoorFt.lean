/- Tests of a field: the plain law. -/
import Derived.Test.YtaleaicfllcpiaaDoorBl
import Derived.Test.YtaleaicfllcpiaaDoorUo
import Derived.Test.YtaleaicfllcpiaaDoorCv
import Derived.Test.YtaleaicfllcpiaaDoorQB
namespace Go.Proofs.YtaleaicfllcpiaaDoor.Fl
open Go.RowKit Mm Law
set_option linter.unusedVariables false
set_option linter.unusedSimpArgs false
set_option linter.unusedSectionVars false
structure Tst where
  nm : ByteArray
  op : Int
  fo : Int
  lo : Int
  hi : Int
  ln : Int
  pt : ByteArray
def Tst.cs (T : Tst) : Array Value := #[.string T.nm, .int .i64 T.op, .int .i64 T.fo, .int .i64 T.lo, .int .i64 T.hi, .int .i64 T.ln, .string T.pt]
def Tst.val (T : Tst) : Value := .agg T.cs
def badForm (T : Tst) : Prop := T.op < 1 ∨ 6 < T.op ∨ T.fo < 1 ∨ 4 < T.fo ∨ (2 < T.op ∧ T.fo ≠ 1)
def badUse (T : Tst) : Prop := (T.fo = 4 ∧ T.lo ≠ 0) ∨ (T.fo ≠ 3 ∧ T.hi ≠ 0) ∨ (T.fo ≠ 2 ∧ T.ln ≠ 0) ∨ (T.fo ≠ 4 ∧ T.pt ≠ ⟨#[]⟩)
def badVal (T : Tst) (b : Nat) : Prop := T.lo < 0 ∨ (topN b : Int) < T.lo ∨ T.hi < 0 ∨ (topN b : Int) < T.hi ∨ T.ln < 0 ∨ (b : Int) < T.ln
def badPre (T : Tst) (b : Nat) : Prop := T.fo = 2 ∧ T.lo.toNat % 2 ^ (b - T.ln.toNat) ≠ 0
def badRng (T : Tst) : Prop := T.fo = 3 ∧ T.hi < T.lo
def badPat (T : Tst) (b : Nat) : Prop := T.fo = 4 ∧ ¬ (T.pt.size = b ∧ ∀ x ∈ T.pt.data.toList, x ∈ dShow)
open Classical in
noncomputable def fitE (T : Tst) (b : Nat) : Int := if badForm T then 47 else if badUse T then 47 else if badVal T b then 42 else if badPre T b then 42 else if badRng T then 43 else if badPat T b then 44 else 0
theorem fit_form {T : Tst} {b : Nat} (h : badForm T) : fitE T b = 47 := by unfold fitE; rw [if_pos h]
theorem fit_use {T : Tst} {b : Nat} (h : badUse T) : fitE T b = 47 := by
  unfold fitE
  by_cases h0 : badForm T
  · rw [if_pos h0]
  · rw [if_neg h0, if_pos h]
theorem fit_val {T : Tst} {b : Nat} (h0 : ¬ badForm T) (h1 : ¬ badUse T) (h : badVal T b) : fitE T b = 42 := by
  unfold fitE; rw [if_neg h0, if_neg h1, if_pos h]
theorem fit_pre {T : Tst} {b : Nat} (h0 : ¬ badForm T) (h1 : ¬ badUse T) (h2 : ¬ badVal T b) (h : badPre T b) : fitE T b = 42 := by
  unfold fitE; rw [if_neg h0, if_neg h1, if_neg h2, if_pos h]
theorem fit_rng {T : Tst} {b : Nat} (h0 : ¬ badForm T) (h1 : ¬ badUse T) (h2 : ¬ badVal T b) (h3 : ¬ badPre T b) (h : badRng T) : fitE T b = 43 := by
  unfold fitE; rw [if_neg h0, if_neg h1, if_neg h2, if_neg h3, if_pos h]
theorem fit_pat {T : Tst} {b : Nat} (h0 : ¬ badForm T) (h1 : ¬ badUse T) (h2 : ¬ badVal T b) (h3 : ¬ badPre T b) (h4 : ¬ badRng T) (h : badPat T b) : fitE T b = 44 := by
  unfold fitE; rw [if_neg h0, if_neg h1, if_neg h2, if_neg h3, if_neg h4, if_pos h]
theorem fit_ok {T : Tst} {b : Nat} (h0 : ¬ badForm T) (h1 : ¬ badUse T) (h2 : ¬ badVal T b) (h3 : ¬ badPre T b) (h4 : ¬ badRng T) (h5 : ¬ badPat T b) : fitE T b = 0 := by
  unfold fitE; rw [if_neg h0, if_neg h1, if_neg h2, if_neg h3, if_neg h4, if_neg h5]
theorem fit_bd (T : Tst) (b : Nat) : 0 ≤ fitE T b ∧ fitE T b ≤ 47 := by
  unfold fitE
  repeat' split
  all_goals omega
end Go.Proofs.YtaleaicfllcpiaaDoor.Fl
