/- The statement 'RunRendersUpto': the program's function returns true at every input of bulk at most the given bound, and each argument reads behind the call as it read before. -/
import Derived.Test.YtmcijdpbjhcimaaDoorRo
import Derived.Test.YtmcijdpbjhcimaaDoorLaw
import Derived.Test.YtmcijdpbjhcimaaDoorCards
import Derived.Test.YtmcijdpbjhcimaaDoorTie
import Derived.SevenTiedAt
import Derived.LaidMore
import Derived.Stop.Joined
import Derived.Lay
import Derived.Test.YtmcijdpbjhcimaaDoorAu
import Derived.WalkKit
import Derived.ProofKit
import Derived.OpenShut
import Derived.SliceStrings
import Derived.SizedLaws
import Derived.JoinedCond
import Derived.Deep.CondSized
namespace Go.Proofs.YtmcijdpbjhcimaaDoor.runRenders
open Go.ChangeShapes Go.WideShapes Go.ChangeAt Go.RowKit
open Go.ChangeMaps (open_string shut_string)
set_option linter.unusedVariables false
theorem own : ownKnob Tryd.prog.godebug = none := by kernel_rfl
theorem laid : laidOutB Tryd.prog = true := by kernel_rfl
set_option maxRecDepth 100000 in
theorem door_met (os : Os) (args : Array Value) : laidMetH Tryd.prog Rows.runRendersUptoRow.laid ((World.doorLaid Tryd.prog 4000 os).forCall (fun _ _ => 0) ⟨#[], args, []⟩).memory :=
  laidMetH_of_parts3 (fuel := 8) (laidMet_of_run' 8 (by kernel_rfl) (by kernel_rfl)) (by kernel_rfl) (by kernel_rfl)
set_option maxRecDepth 100000 in
theorem lifted (os : Os) (started : os.Started) (H : Type) (enc : TypeId × Value → H) (F : Stop.Interp) :
    ReturnsInHanded {} Tryd.checked os 3 .any (fun w args => ((Rows.OpenSpec.upto Rows.runRendersSpec).pre enc Tryd.prog Tryd.f3 [] false w args ∧ laidMetH Tryd.prog Rows.runRendersUptoRow.laid w) ∧ sizedMet enc Tryd.prog Tryd.f3 (Rows.OpenSpec.upto Rows.runRendersSpec) false w args) (((Rows.OpenSpec.upto Rows.runRendersSpec).at F).post enc Tryd.prog Tryd.f3 false true false false) := by
  refine Law.cond_and (C := Tryd.checked) (s := Rows.OpenSpec.upto Rows.runRendersSpec) (k := Rows.uptoSmall) rfl (X := fun w _ => laidMetH Tryd.prog Rows.runRendersUptoRow.laid w) (fun _ _ _ hh h => h.of_heap hh) own started (by kernel_rfl) Tryd.func3
    (Law.open_witness (enc := enc) (C := Tryd.checked) (os := os) (s := Rows.OpenSpec.upto Rows.runRendersSpec) (k := Rows.uptoSmall) rfl (X := fun w _ => laidMetH Tryd.prog Rows.runRendersUptoRow.laid w) false (World.doorLaid Tryd.prog 4000 os) #[.agg #[.int .i64 0, .int .i64 0, .int .i64 0, .int .i64 0, .slice none 0 0]] 8 rfl (World.shaped_of_RefB (by kernel_rfl) (by kernel_rfl)) (by kernel_rfl) (x := ([.agg [.lit (.int .i64 0), .lit (.int .i64 0), .lit (.int .i64 0), .lit (.int .i64 0), .nil]], [], [])) (by kernel_rfl) rfl (by kernel_rfl) (by kernel_rfl) (door_met os _)) ?_
  intro W base args ds gs before hval0 hW _ hk hsz hL _
  have hval : ∀ (j : Nat) t v, Tryd.f3.params[j]? = some t → args[j]? = some v → Value.okWide Tryd.prog W .any base t v := hval0
  have hW' := hW
  obtain ⟨p, q, hA0, hV, rfl, hfz, hnd⟩ := hW
  have hA : DataW.TrodAll enc Tryd.prog W 0 (fun _ => true) true Tryd.f3.params.toList args.toList ds p := hA0
  rw [Tryd.params3] at hA hval
  obtain ⟨v0, vs0, d0, ds0, p0, q0, hargs, rfl, rfl, h0, r0⟩ := trodAll_cons hA
  obtain ⟨rfl, rfl, rfl⟩ := trodAll_nil r0
  obtain rfl : args = #[v0] := by cases args; simp_all
  obtain ⟨rfl, rfl⟩ := trodVars_none hV
  obtain ⟨a00, a01, a02, a03, sl0, R0, V0, rfl, A0, B0, M0⟩ := Rn.open_argW Tryd.underlying25 (by kernel_rfl) (by kernel_rfl) (by kernel_rfl) (by kernel_rfl) (by kernel_rfl) (by kernel_rfl) rfl Tryd.underlying23 Tryd.underlying30 (by kernel_rfl) (by kernel_rfl) (by kernel_rfl) (by kernel_rfl) (by kernel_rfl) (by kernel_rfl) (by kernel_rfl) (by kernel_rfl) (by kernel_rfl) (by kernel_rfl) (by kernel_rfl) Tryd.underlying9 (by kernel_rfl) (hval 0 25 v0 rfl rfl) h0
  refine (Rn.runRenders_walk2 a00 a01 a02 a03 sl0 R0 V0 W A0 B0 (Rn.bound_W hk M0 (by simp)) (Rn.runRenders_laid hL)).mono fun e W' ⟨he, hb⟩ => ?_
  subst he
  exact ⟨_, rfl, Law.law_post hW' rfl rfl Tryd.underlying4 laid (by kernel_rfl) rfl hb⟩
set_option maxRecDepth 100000 in
theorem holds : Rows.RunRendersUptoSaid :=
  OpenClaim.holds_of_cond 3 Tryd.f3 rfl rfl rfl rfl rfl rfl rfl ⟨rfl, rfl, rfl, rfl, rfl⟩ rfl rfl rfl rfl rfl (by kernel_rfl) Tryd.func3 (by kernel_rfl)
    (of_decide_eq_true (by kernel_rfl)) (by unfold Func.isWrapper; first | (rw [if_pos (by decide +kernel)]; kernel_rfl) | (rw [if_neg (by decide +kernel)]; exact ⟨rfl, rfl⟩))
    (fun os started H enc _ F => lifted os started H enc F)
set_option maxRecDepth 100000 in
theorem proved : Rows.RunRendersUptoCardSaid :=
  Claim7.holds_tied_plain_at .later [] [.data, .data, .data, .data] true (true, "1e57524b083e604faf0d8d5168a7217c6ba1a8e5b665a076340558c12f8d56dc") false
    holds (fun _ h => by cases h) (by kernel_rfl) (fun _ h => by cases h) runRendersUpto_row_tie rfl ⟨rfl, rfl⟩ (by kernel_rfl) rfl
    (fun f fn hf hfn => by
      obtain rfl : f = 3 := Option.some.inj ((show Tryd.prog.funcNamed "reach/reachlaw17.RunRenders" = some 3 by kernel_rfl).symm.trans hf) |>.symm
      obtain rfl : fn = Tryd.f3 := (Option.some.inj (Tryd.func3.symm.trans hfn)).symm
      exact ⟨by kernel_rfl, fun j t ht => by
        rw [Tryd.params3] at ht
        have hm : t ∈ [25] := by simpa using Array.mem_of_getElem? ht
        have hall : ([25].all fun u => !Tryd.prog.wantsStandIn u) = true := by kernel_rfl
        exact (show Tryd.prog.wantsStandIn t = false by simpa using List.all_eq_true.1 hall t hm)⟩)
    (by kernel_rfl)
#print axioms proved
end Go.Proofs.YtmcijdpbjhcimaaDoor.runRenders
