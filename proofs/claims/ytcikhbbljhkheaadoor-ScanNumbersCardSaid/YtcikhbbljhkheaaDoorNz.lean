/- ScanNumbers. -/
import Derived.Test.YtcikhbbljhkheaaDoorNp
import Derived.Test.YtcikhbbljhkheaaDoorRows
import Derived.MakeChecks
import Derived.Stop.LaidErr
import Derived.Lib.SmallJoins
import Derived.Lib.LaidTab
namespace Go.Proofs.YtcikhbbljhkheaaDoor.Sn
open Go.RowKit Mm
theorem num_258 : numT 258 true = ⟨#[48, 46, 48, 46, 49, 46, 50]⟩ ∧ numE 258 = 0 := by
  have hB : numB 258 := ⟨by omega, by omega⟩
  constructor
  · unfold numT
    rw [if_pos hB, if_pos rfl]
    show str (quadL 258) = _
    unfold quadL dd
    rw [show (258 : Nat) / 16777216 = 0 from rfl, show (258 : Nat) / 65536 % 256 = 0 from rfl, show (258 : Nat) / 256 % 256 = 1 from rfl, show (258 : Nat) % 256 = 2 from rfl,
      Lib.decDigits_one (i := 0) (by decide), Lib.decDigits_one (i := 1) (by decide), Lib.decDigits_one (i := 2) (by decide)]
    rfl
  · unfold numE
    rw [if_pos hB]
set_option maxRecDepth 100000 in
set_option maxHeartbeats 4000000 in
theorem numbers_walk (v : Int) (_hv : (Lit.int .i64 v).wf = true) (d : Bool) (w : World) (ht : Tab w) :
    Calls Tryd.prog 4 #[.int .i64 v, .bool d] w fun e w' => e = .returned (.bool true) ∧ Below w.heap.size w w' := by
  have hst : ∀ w', Below w.heap.size w w' → Tab w' := fun w' hb => by
    obtain ⟨g, hg⟩ := tab_named
    exact Joins.tab_stays hg ht hb (Nat.le_refl _)
  have h1 := number_any v d w ht
  have h2 := rnumber_any v d
  have h3 := fun w' (hb : Below w.heap.size w w') => number_any 258 true w' (hst w' hb)
  unfold NumAns at h1 h2 h3
  rw [num_258.1, num_258.2] at h3
  generalize numT v d = T at *
  generalize numE v = E at *
  have H1 := Lib.hid h1
  have H2 := Lib.hid h2
  have H3 := Lib.hid h3
  have t1 : (E == E) = true := by simp
  have t2 : (T.toList == T.toList) = true := by simp
  clear h1 h2 h3 hst ht
  go_enter Tryd.func4, Tryd.ntmps4
  go_wp2_with fail
  refine H1.out.mono ?_
  rintro e w1 ⟨rfl, hb1⟩
  go_wp2_with fail
  refine (H2.out _).mono ?_
  rintro e w2 ⟨rfl, hb2⟩
  have HB := Lib.hid (bnx hb1 hb2)
  clear hb1 hb2
  go_wp2_with fail
  refine (H3.out _ HB.out).mono ?_
  rintro e w3 ⟨rfl, hb3⟩
  go_wp2_with fail
  go_ret
  exact ⟨rfl, bnx HB.out hb3⟩
set_option maxRecDepth 100000 in
theorem scanNumbers_laid {w : World} (h : laidMetH Tryd.prog Rows.scanNumbersRow.laid w) : Tab w := by
  rw [MakeChecks.laidMetH_plain _ _ _ (by kernel_rfl)] at h
  have hg : Tryd.prog.globalNamed "internal/strconv.uint64pow10" = some 3 := by kernel_rfl
  exact Lib.tabIs_of_head (n := 20) (t := 66) (e := 54) hg (by kernel_rfl) (by kernel_rfl) (by kernel_rfl) (by kernel_rfl) (by kernel_rfl) h.tail.tail
end Go.Proofs.YtcikhbbljhkheaaDoor.Sn
