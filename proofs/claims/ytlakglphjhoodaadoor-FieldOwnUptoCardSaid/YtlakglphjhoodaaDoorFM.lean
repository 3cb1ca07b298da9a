/- Merged for FieldOwn -/
import Derived.Test.YtlakglphjhoodaaDoorFH
import Derived.Test.YtlakglphjhoodaaDoorA7
import Derived.Test.YtlakglphjhoodaaDoorRows
import Derived.MakeChecks
import Derived.Stop.LaidErr
import Derived.Test.YtlakglphjhoodaaDoorFL
import Derived.Test.YtlakglphjhoodaaDoorFQ
import Derived.Test.YtlakglphjhoodaaDoorFK
import Derived.Test.YtlakglphjhoodaaDoorFF
import Derived.Test.YtlakglphjhoodaaDoorFA
namespace Go.Proofs.YtlakglphjhoodaaDoor.Fl
open Go.RowKit Mm Law
set_option linter.unusedSimpArgs false
set_option linter.unusedSectionVars false
theorem useB_row : ∀ f, 1 ≤ f → f ≤ 4 → ∀ j, j < 4 → ∀ {H : Type}, ∃ bs, (([.agg [.lit (.bool false), .lit (.bool false), .lit (.bool false), .lit (.bool false)], .agg [.lit (.bool true), .lit (.bool false), .lit (.bool false), .lit (.bool false)], .agg [.lit (.bool true), .lit (.bool false), .lit (.bool true), .lit (.bool false)], .agg [.lit (.bool true), .lit (.bool true), .lit (.bool false), .lit (.bool false)], .agg [.lit (.bool false), .lit (.bool false), .lit (.bool false), .lit (.bool true)]] : List (DataW H)))[f]? = some (.agg bs) ∧ bs[j]? = some (.lit (.bool (useB f j))) := by
  intro f h1 h2 j hj H
  have hf : f = 1 ∨ f = 2 ∨ f = 3 ∨ f = 4 := by omega
  have hjj : j = 0 ∨ j = 1 ∨ j = 2 ∨ j = 3 := by omega
  rcases hf with rfl | rfl | rfl | rfl <;> rcases hjj with rfl | rfl | rfl | rfl <;> exact ⟨_, rfl, rfl⟩
set_option maxRecDepth 100000 in
theorem used_of {w : World} {rest : List (String × DataW Unit)} (h : laidMet Tryd.prog (("reach/field.used", Rows.laid_reach_field_used) :: rest) w) : Used w := by
  obtain ⟨ps, ⟨g', t', cs, fuel, p, q, hg', ht', hvar, hd, _, _⟩, _⟩ := h
  have hg : Tryd.prog.globalNamed "reach/field.used" = some 0 := by kernel_rfl
  obtain rfl := Option.some.inj (hg.symm.trans hg')
  have hty : (Tryd.prog.globals[0]?).map (·.type) = some 90 := by kernel_rfl
  obtain rfl := Option.some.inj (hty.symm.trans ht')
  have hc : ∀ f j, 1 ≤ f → f ≤ 4 → j < 4 → w.cell? ⟨0, f * 4 + j, none⟩ = some (.bool (useB f j)) := by
    intro f j h1 h2 h3
    obtain ⟨bs, hb1, hb2⟩ := useB_row f h1 h2 j h3
    have hcell := table_bools (e := 89) (tb := 4) Tryd.underlying90 Tryd.underlying89 Tryd.underlying4 (by kernel_rfl) (by kernel_rfl) (by kernel_rfl) hd f bs hb1 j _ hb2 h3
    have hv := World.var?_cell hg hvar (f * 4 + j)
    rw [hv]
    simpa using hcell
  refine ⟨?_, hc⟩
  have h0 := hc 1 0 (by decide) (by decide) (by decide)
  refine Classical.byContradiction fun hz => ?_
  have : w.heap.size = 0 := by omega
  simp [World.cell?, this] at h0
end Go.Proofs.YtlakglphjhoodaaDoor.Fl

namespace Go.Proofs.YtlakglphjhoodaaDoor.Fl
open Go.RowKit Mm Law
set_option linter.unusedVariables false
theorem good_fit {T : Tst} {b : Nat} (h : Good b T) : fitE T b = 0 := by
  cases h with
  | num nm op lo h1 h2 hlo => exact fit_ok (by unfold badForm; simp; omega) (by unfold badUse; simp) (by unfold badVal; simp; omega) (by unfold badPre; simp) (by unfold badRng; simp) (by unfold badPat; simp)
  | pre nm op lo ln h1 hlo hln hp => exact fit_ok (by unfold badForm; simp; omega) (by unfold badUse; simp) (by unfold badVal; simp; omega) (by unfold badPre; simp [hp]) (by unfold badRng; simp) (by unfold badPat; simp)
  | rng nm op lo hi h1 hlo hhi => exact fit_ok (by unfold badForm; simp; omega) (by unfold badUse; simp) (by unfold badVal; simp; omega) (by unfold badPre; simp) (by unfold badRng; simp; omega) (by unfold badPat; simp)
  | pat nm op pt h1 hs hd => exact fit_ok (by unfold badForm; simp; omega) (by unfold badUse; simp) (by unfold badVal; simp) (by unfold badPre; simp) (by unfold badRng; simp) (fun h => h.2 ⟨hs, hd⟩)
theorem good_pt {T : Tst} {b : Nat} (h : Good b T) (hb : b ≤ 32) : T.pt.size ≤ maxLen := by
  unfold maxLen
  cases h with
  | num nm op lo h1 h2 hlo => show (⟨#[]⟩ : ByteArray).size ≤ _; decide
  | pre nm op lo ln h1 hlo hln hp => show (⟨#[]⟩ : ByteArray).size ≤ _; decide
  | rng nm op lo hi h1 hlo hhi => show (⟨#[]⟩ : ByteArray).size ≤ _; decide
  | pat nm op pt h1 hs hd => show pt.size ≤ _; omega
theorem cu_good {T : Tst} {l : List Fld} (hl : Lay l) {k : Nat} (hk : k < l.length) (hn : T.nm = l[k].1) (h : Good (bitsAt l k) T) : cuE T l = 0 ∧ idxF l T.nm = k := by
  have hi : idxF l T.nm = k := by rw [hn]; exact lay_idx hl hk
  exact ⟨cu_tst (by rw [lay_chk hl]) ((tst_yes hk hi (bitsAt_get hl.wide hk).1.symm).trans (good_fit h)), hi⟩
theorem cu_len {T : Tst} {l : List Fld} (hl : Lay l) {k : Nat} (hk : k < l.length) (hn : T.nm = l[k].1) (h : Good (bitsAt l k) T) : ∀ c ∈ cuT T l, c.length = posN l l.length := by
  obtain ⟨h0, hi⟩ := cu_good hl hk hn h
  intro c hc
  unfold cuT at hc
  rw [if_pos h0, hi] at hc
  obtain ⟨c0, hc0, rfl⟩ := List.mem_map.1 hc
  have := val_size h c0 hc0
  have hps := pos_succ hl.wide hk
  have hpm := pos_mono hl.wide (j := k + 1) (k := l.length) (by omega) (Nat.le_refl _)
  unfold wrapC
  simp
  omega
theorem cu_few {T : Tst} {l : List Fld} (hl : Lay l) {k : Nat} (hk : k < l.length) (hn : T.nm = l[k].1) (h : Good (bitsAt l k) T) : (cuT T l).length ≤ 8589934592 := by
  obtain ⟨h0, hi⟩ := cu_good hl hk hn h
  unfold cuT
  rw [if_pos h0, hi, List.length_map]
  exact val_len (bitsAt_get hl.wide hk).2.2 h
theorem count_step (P : List UInt8 → Bool) (L : List (List UInt8)) {j : Nat} (hj : j < L.length) : (L.take (j + 1)).countP P = (L.take j).countP P + if P L[j] = true then 1 else 0 := by
  rw [List.take_succ_eq_append_getElem hj, List.countP_append, List.countP_singleton]
end Go.Proofs.YtlakglphjhoodaaDoor.Fl
