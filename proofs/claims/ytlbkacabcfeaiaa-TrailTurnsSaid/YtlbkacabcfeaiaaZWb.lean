/- Patterns: the program writes a tree: brackets, suffixes. -/
import Derived.Test.YtlbkacabcfeaiaaZWa
namespace Go.Proofs.Ytlbkacabcfeaiaa.Tl
open Go.RowKit Mm
set_option linter.unusedVariables false
def wrF : T → FuncId
  | .leaf _ _ _ _ => 71
  | .seq _ => 76
  | .alt _ => 86
  | .suf _ _ => 68
/-- a tree's text -/
def WrC (t : T) : Prop := ∀ (w : World) (S : Nat → Prop) (ty : TypeId) (pay : Value), IsT w S (.iface ty pay) t → Calls Try.prog (wrF t) #[pay] w fun e w' => e = .returned (.string (str (txt t))) ∧ Below w.heap.size w w'
theorem str_app (a b : List UInt8) : str a ++ str b = str (a ++ b) := str_eq (by rw [ByteArray.data_append, Array.toList_append]; rfl)
set_option maxRecDepth 100000 in
set_option maxHeartbeats 4000000 in
theorem bracketed_any {t : T} (hw : WrC t) (hb : bd t ≤ 100000) (w : World) (S : Nat → Prop) (v : Value) (h : IsT w S v t) :
    Calls Try.prog 69 #[v] w fun e w' => e = .returned (.string (str (brk true (txt t)))) ∧ Below w.heap.size w w' := by
  have ht := txt_bd t
  have hz := str_size (txt t)
  have hE := Lib.hid (show (⟨#[40]⟩ : ByteArray) ++ str (txt t) ++ ⟨#[41]⟩ = str (brk true (txt t)) from by
    show str [40] ++ str (txt t) ++ str [41] = _
    rw [str_app, str_app]
    rfl)
  obtain ⟨ty, pay, rfl⟩ := h.form
  have HC := Lib.hid (hw w S ty pay h)
  clear hw
  cases h
  all_goals
    generalize str (txt _) = z at *
    go_enter Try.func69, Try.ntmps69
    go_wp2_with fail
    refine HC.out.mono ?_
    rintro e w1 ⟨rfl, hb1⟩
    have HB := Lib.hid hb1
    clear hb1
    go_wp2_with fail
    go_ret
    exact ⟨congrArg (fun x => Ending.returned (Value.string x)) hE.out, HB.out⟩
end Go.Proofs.Ytlbkacabcfeaiaa.Tl
