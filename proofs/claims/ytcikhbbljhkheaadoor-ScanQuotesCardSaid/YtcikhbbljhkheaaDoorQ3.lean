/- ScanQuotes. -/
import Derived.Test.YtcikhbbljhkheaaDoorQ2
import Derived.Test.YtcikhbbljhkheaaDoorRows
import Derived.MakeChecks
import Derived.Stop.LaidErr
import Derived.Lib.LaidU8
namespace Go.Proofs.YtcikhbbljhkheaaDoor.Sn
open Go.RowKit Mm
theorem qu_a : quT ⟨#[97]⟩ = ⟨#[34, 97, 34]⟩ ∧ quE ⟨#[97]⟩ = 0 := by
  constructor
  · decide
  · decide
set_option maxRecDepth 100000 in
set_option maxHeartbeats 4000000 in
theorem quotes_walk (s : ByteArray) (_hs : s.size ≤ maxLen) (w : World) (ht : Lib.Utf8Tabs 0 1 w) :
    Calls Tryd.prog 3 #[.string s] w fun e w' => e = .returned (.bool true) ∧ Below w.heap.size w w' := by
  have h1 := quote_any s w ht
  have h2 := rquote_any s
  have h3 := fun w' (hb : Below w.heap.size w w') => quote_any ⟨#[97]⟩ w' (Utf8Tabs_below ht hb)
  unfold QuAns at h1 h2 h3
  rw [qu_a.1, qu_a.2] at h3
  generalize quT s = T at *
  generalize quE s = E at *
  have H1 := Lib.hid h1
  have H2 := Lib.hid h2
  have H3 := Lib.hid h3
  have t1 : (E == E) = true := by simp
  have t2 : (T.toList == T.toList) = true := by simp
  clear h1 h2 h3 ht
  go_enter Tryd.func3, Tryd.ntmps3
  go_wp2_with fail
  refine H1.out.mono ?_
  rintro e w1 ⟨rfl, hb1⟩
  go_wp2_with fail
  refine (H2.out _).mono ?_
  rintro e w2 ⟨rfl, hb2⟩
  have HB := Lib.hid (bnx hb1 hb2)
  clear hb1 hb2
  go_wp2_with fail
  refine (H3.out _ HB.out).mono ?_
  rintro e w3 ⟨rfl, hb3⟩
  go_wp2_with fail
  go_ret
  exact ⟨rfl, bnx HB.out hb3⟩
set_option maxRecDepth 100000 in
theorem scanQuotes_laid {w : World} (h : laidMetH Tryd.prog Rows.scanQuotesRow.laid w) : Lib.Utf8Tabs 0 1 w := by
  rw [MakeChecks.laidMetH_plain _ _ _ (by kernel_rfl)] at h
  exact utf8Tabs_of_reads (ρ := Tryd.lays260_ren) Tryd.lays260 ⟨by kernel_rfl, by kernel_rfl, by kernel_rfl, by kernel_rfl, by kernel_rfl, by kernel_rfl, by kernel_rfl⟩ (Lib.laidMet.reads h (.tail _ (.head _))) (Lib.laidMet.reads h (.head _))
end Go.Proofs.YtcikhbbljhkheaaDoor.Sn
