/- The document's Word. -/
import Derived.Test.YtaleaicfllcpiaaDoorWo
import Derived.Test.YtaleaicfllcpiaaDoorHd
import Derived.Test.YtaleaicfllcpiaaDoorFw
namespace Go.Proofs.YtaleaicfllcpiaaDoor.Fl
open Go.RowKit Mm Law
set_option linter.unusedVariables false
set_option linter.unusedSimpArgs false
set_option linter.unusedSectionVars false
def WdAns (w : World) (l S : List Fld) (e : Ending) (w' : World) : Prop := e = .returned (.tuple #[.string (str (wdA l S).2), .int .i64 (wdA l S).1]) ∧ Below w.heap.size w w'
theorem wd_ans {w : World} {l S : List Fld} {s : ByteArray} {c : Int} {t : List UInt8} (h : wdA l S = (c, t)) (hs : s = str t) {w' : World} (hb : Below w.heap.size w w') : WdAns w l S (.returned (.tuple #[.string s, .int .i64 c])) w' := by
  unfold WdAns
  rw [h, hs]
  exact ⟨rfl, hb⟩
theorem str_split (W H : List UInt8) (p q : Nat) : (str W).extract 0 p ++ str H ++ (str W).extract q (str W).size = str (W.take p ++ H ++ W.drop q) := by
  have e1 : (str W).extract 0 p = str (W.take p) := by rw [str_takeF, str_list]
  have e2 : (str W).extract q (str W).size = str (W.drop q) := by
    apply ByteArray.ext
    rw [← Array.toList_inj]
    simp [str, ByteArray.data_extract, ByteArray.size]
    rw [List.take_of_length_le (by simp)]
  rw [e1, e2, str_app, str_app]
/-- the cells of a list of fields, at every later world -/
theorem cells_later {w : World} {l : List Fld} {a0 : Option Addr} (hx : l = [] ∨ ∃ b off, a0 = some ⟨b, off, none⟩ ∧ b < w.heap.size ∧ ∀ j f, l[j]? = some f → w.cell? ⟨b, off + j * 2, none⟩ = some (.string f.1) ∧ w.cell? ⟨b, off + (j * 2 + 1), none⟩ = some (.int .i64 f.2)) (h0 : 0 < l.length) :
    ∃ g off, a0 = some ⟨g, off, none⟩ ∧ g < w.heap.size ∧ ∀ w', Below w.heap.size w w' → ∀ j f, l[j]? = some f → w'.cell? ⟨g, off + j * 2, none⟩ = some (.string f.1) ∧ w'.cell? ⟨g, off + j * 2 + 1, none⟩ = some (.int .i64 f.2) := by
  rcases hx with rfl | ⟨g, off, ha, hg, hq⟩
  · simp at h0
  · refine ⟨g, off, ha, hg, fun w' hb j f hj => ?_⟩
    have h := hq j f hj
    rw [hb.cell (p := ⟨g, off + j * 2, none⟩) hg, Nat.add_assoc, hb.cell (p := ⟨g, off + (j * 2 + 1), none⟩) hg]
    exact h
end Go.Proofs.YtaleaicfllcpiaaDoor.Fl
