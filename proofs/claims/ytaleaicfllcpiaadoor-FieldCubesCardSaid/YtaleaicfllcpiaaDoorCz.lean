/- FieldCubes. -/
import Derived.Test.YtaleaicfllcpiaaDoorCd
import Derived.Test.YtaleaicfllcpiaaDoorRv
import Derived.Test.YtaleaicfllcpiaaDoorA7
import Derived.Test.YtaleaicfllcpiaaDoorRows
import Derived.MakeChecks
import Derived.Stop.LaidErr
namespace Go.Proofs.YtaleaicfllcpiaaDoor.Fl
open Go.RowKit Mm Law
set_option linter.unusedSimpArgs false
set_option linter.unusedSectionVars false
set_option linter.unusedVariables false
set_option maxRecDepth 100000 in
set_option maxHeartbeats 4000000 in
theorem cubes_walk (v : Value) (l : List Fld) (hsz : l.length * 24 ≤ 140737488355328) (nm : ByteArray) (op fo lo hi ln : Int) (pt : ByteArray) (hpm : pt.size ≤ maxLen) (w : World) (hS : SeesF w v l) (hu : Used w) :
    Calls Tryd.prog 6 #[v, .agg #[.string nm, .int .i64 op, .int .i64 fo, .int .i64 lo, .int .i64 hi, .int .i64 ln, .string pt]] w fun e w' => e = .returned (.bool true) ∧ Below w.heap.size w w' := by
  have hfm : ∀ f ∈ l, f.1.size ≤ maxLen ∧ (Lit.int .i64 f.2).wf = true := by
    obtain ⟨_, _, _, _, _, _, hw⟩ := hS; exact hw
  have hC := fun w' (h : Below w.heap.size w w') => rcubes_any l v ⟨nm, op, fo, lo, hi, ln, pt⟩ hpm w' (hS.below h)
  have hD := fun w' (h : Below w.heap.size w w') => cubes_any l v ⟨nm, op, fo, lo, hi, ln, pt⟩ hpm w' (hS.below h) (hu.below h)
  unfold CuAns Tst.val Tst.cs at hC hD
  simp only at hC hD
  have hE := cu_bd ⟨nm, op, fo, lo, hi, ln, pt⟩ l
  generalize cuE ⟨nm, op, fo, lo, hi, ln, pt⟩ l = E at *
  generalize cuT ⟨nm, op, fo, lo, hi, ln, pt⟩ l = L at *
  have HC := Lib.hid hC
  have HD := Lib.hid hD
  have HEF := Lib.hid hE
  have HP := Lib.hid (fun w' (h : Below w.heap.size w w') => copy_any l v w' (hS.below h) hsz)
  have HUN := Lib.hid (fun w' u (h : Below w.heap.size w w') (hu : SeesF w' u l) => unlike_no l v u w' (hS.below h) hu)
  have HO := Lib.hid (fun (w' : World) (B : Nat) (u : Value) (h : w'.ownsRow B 27 2 u l.length (fcells l)) => own_sees h hfm)
  have t1 : (E == E) = true := by simp
  clear hfm hS hsz hC hD hE hu
  go_enter Tryd.func6, Tryd.ntmps6
  go_wp2_with fail
  refine (HC.out _ (bal (Below.refl _ _) _)).mono ?_
  rintro e w1 ⟨v1, rfl, ho1, hb1⟩
  have HD1 := Lib.hid ((EiS.new w #[.string nm, .int .i64 op, .int .i64 fo, .int .i64 lo, .int .i64 hi, .int .i64 ln, .string pt]).go hb1)
  have HS1 := Lib.hid (SeesS.of_own ho1)
  clear ho1 hb1
  go_wp2_with fail
  refine (HP.out _ HD1.out.2).mono ?_
  rintro e w2 ⟨u, rfl, ho, hb2⟩
  have HD2 := Lib.hid (HD1.out.go hb2)
  have HSU := Lib.hid (HO.out _ _ _ ho)
  have HS2 := Lib.hid (HS1.out.below hb2)
  have e0 := HD2.out.1.cell 0
  have e1 := HD2.out.1.cell 1
  have e2 := HD2.out.1.cell 2
  have e3 := HD2.out.1.cell 3
  have e4 := HD2.out.1.cell 4
  have e5 := HD2.out.1.cell 5
  have e6 := HD2.out.1.cell 6
  clear ho hb2 HS1 HD1
  go_wp2_with fail
  refine (HD.out _ HD2.out.2).mono ?_
  rintro e w3 ⟨v3, rfl, ho3, hb3⟩
  have HG3 := Lib.hid (bnx HD2.out.2 hb3)
  have HS3 := Lib.hid (HS2.out.below hb3)
  have HT3 := Lib.hid (SeesS.of_own ho3)
  have HSU3 := Lib.hid (HSU.out.below hb3)
  clear ho3 hb3 e0 e1 e2 e3 e4 e5 e6
  go_wp2_with fail
  refine (num_any _ _ HEF.out).mono ?_
  rintro e w' ⟨rfl, rfl⟩
  go_wp2_with fail
  refine (same_yes L _ _ _ HT3.out HS3.out).mono ?_
  rintro e w4 ⟨rfl, hb4⟩
  have hg4 := bnx HG3.out hb4
  go_wp2_with fail
  refine (HUN.out _ _ hg4 (HSU3.out.below hb4)).mono ?_
  rintro e w5 ⟨rfl, hb5⟩
  have hg5 := bnx hg4 hb5
  go_wp2_with fail
  refine (known_yes _).mono ?_
  rintro e w7 ⟨rfl, hb7⟩
  go_wp2_with fail
  go_ret
  exact ⟨rfl, bnx hg5 hb7⟩
theorem useB_row : ∀ f, 1 ≤ f → f ≤ 4 → ∀ j, j < 4 → ∀ {H : Type}, ∃ bs, (([.agg [.lit (.bool false), .lit (.bool false), .lit (.bool false), .lit (.bool false)], .agg [.lit (.bool true), .lit (.bool false), .lit (.bool false), .lit (.bool false)], .agg [.lit (.bool true), .lit (.bool false), .lit (.bool true), .lit (.bool false)], .agg [.lit (.bool true), .lit (.bool true), .lit (.bool false), .lit (.bool false)], .agg [.lit (.bool false), .lit (.bool false), .lit (.bool false), .lit (.bool true)]] : List (DataW H)))[f]? = some (.agg bs) ∧ bs[j]? = some (.lit (.bool (useB f j))) := by
  intro f h1 h2 j hj H
  have hf : f = 1 ∨ f = 2 ∨ f = 3 ∨ f = 4 := by omega
  have hjj : j = 0 ∨ j = 1 ∨ j = 2 ∨ j = 3 := by omega
  rcases hf with rfl | rfl | rfl | rfl <;> rcases hjj with rfl | rfl | rfl | rfl <;> exact ⟨_, rfl, rfl⟩
set_option maxRecDepth 100000 in
theorem used_of {w : World} {rest : List (String × DataW Unit)} (h : laidMet Tryd.prog (("reach/field.used", Rows.laid_reach_field_used) :: rest) w) : Used w := by
  obtain ⟨ps, ⟨g', t', cs, fuel, p, q, hg', ht', hvar, hd, _, _⟩, _⟩ := h
  have hg : Tryd.prog.globalNamed "reach/field.used" = some 0 := by kernel_rfl
  obtain rfl := Option.some.inj (hg.symm.trans hg')
  have hty : (Tryd.prog.globals[0]?).map (·.type) = some 134 := by kernel_rfl
  obtain rfl := Option.some.inj (hty.symm.trans ht')
  have hc : ∀ f j, 1 ≤ f → f ≤ 4 → j < 4 → w.cell? ⟨0, f * 4 + j, none⟩ = some (.bool (useB f j)) := by
    intro f j h1 h2 h3
    obtain ⟨bs, hb1, hb2⟩ := useB_row f h1 h2 j h3
    have hcell := table_bools (e := 133) (tb := 4) Tryd.underlying134 Tryd.underlying133 Tryd.underlying4 (by kernel_rfl) (by kernel_rfl) (by kernel_rfl) hd f bs hb1 j _ hb2 h3
    have hv := World.var?_cell hg hvar (f * 4 + j)
    rw [hv]
    simpa using hcell
  refine ⟨?_, hc⟩
  have h0 := hc 1 0 (by decide) (by decide) (by decide)
  refine Classical.byContradiction fun hz => ?_
  have : w.heap.size = 0 := by omega
  simp [World.cell?, this] at h0
set_option maxRecDepth 100000 in
theorem fieldCubes_laid {w : World} (h : laidMetH Tryd.prog Rows.fieldCubesRow.laid w) : Used w := by
  rw [MakeChecks.laidMetH_plain _ _ _ (by kernel_rfl)] at h
  exact used_of h.tail
end Go.Proofs.YtaleaicfllcpiaaDoor.Fl
