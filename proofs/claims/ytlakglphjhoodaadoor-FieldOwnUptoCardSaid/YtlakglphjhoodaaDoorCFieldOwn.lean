/- The statement 'FieldOwnUpto': the program's function returns true at every input of bulk at most the given bound, and each argument reads behind the call as it read before. -/
import Derived.Test.YtlakglphjhoodaaDoorOg
import Derived.Test.YtlakglphjhoodaaDoorLaw
import Derived.Test.YtlakglphjhoodaaDoorCards
import Derived.Test.YtlakglphjhoodaaDoorTie
import Derived.SevenTiedAt
import Derived.LaidMore
import Derived.Stop.Joined
import Derived.Lay
import Derived.Test.YtlakglphjhoodaaDoorAu
import Derived.WalkKit
import Derived.ProofKit
import Derived.OpenShut
import Derived.SliceStrings
import Derived.SizedLaws
import Derived.JoinedCond
import Derived.Deep.CondSized
namespace Go.Proofs.YtlakglphjhoodaaDoor.fieldOwn
open Go.ChangeShapes Go.WideShapes Go.ChangeAt Go.RowKit
open Go.ChangeMaps (open_string shut_string)
set_option linter.unusedSimpArgs false
set_option linter.unusedSectionVars false
set_option linter.unusedVariables false
theorem own : ownKnob Tryd.prog.godebug = none := by kernel_rfl
theorem laid : laidOutB Tryd.prog = true := by kernel_rfl
set_option maxRecDepth 100000 in
theorem lifted (os : Os) (started : os.Started) (H : Type) (enc : TypeId × Value → H) (F : Stop.Interp) :
    ReturnsInHanded {} Tryd.checked os 3 .any (fun w args => ((Rows.OpenSpec.upto Rows.fieldOwnSpec).pre enc Tryd.prog Tryd.f3 [] false w args ∧ laidMetH Tryd.prog Rows.fieldOwnUptoRow.laid w) ∧ sizedMet enc Tryd.prog Tryd.f3 (Rows.OpenSpec.upto Rows.fieldOwnSpec) false w args) (((Rows.OpenSpec.upto Rows.fieldOwnSpec).at F).post enc Tryd.prog Tryd.f3 false true false false) := by
  refine Law.cond_and (C := Tryd.checked) (s := Rows.OpenSpec.upto Rows.fieldOwnSpec) (k := Rows.uptoSmall) rfl (X := fun w _ => laidMetH Tryd.prog Rows.fieldOwnUptoRow.laid w) (fun _ _ _ hh h => h.of_heap hh) own started (by kernel_rfl) Tryd.func3
    (Law.open_witness (enc := enc) (C := Tryd.checked) (os := os) (s := Rows.OpenSpec.upto Rows.fieldOwnSpec) (k := Rows.uptoSmall) rfl (X := fun w _ => laidMetH Tryd.prog Rows.fieldOwnUptoRow.laid w) false (World.laidAll Tryd.prog os Rows.fieldOwnUptoRow.laid) #[.slice none 0 0, .slice none 0 0] 8 (World.laidAll_os _ _ _) (World.shaped_of_ZipB (by kernel_rfl) (by kernel_rfl)) (by kernel_rfl) (x := ([.nil, .nil], [], [])) (by kernel_rfl) rfl (by kernel_rfl) (by kernel_rfl) (by rw [MakeChecks.laidMetH_plain _ _ _ (by kernel_rfl)]; exact laidMet_laidAll _ (by kernel_rfl) (by kernel_rfl))) ?_
  intro W base args ds gs before hval0 hW _ hk hsz hL _
  have hval : ∀ (j : Nat) t v, Tryd.f3.params[j]? = some t → args[j]? = some v → Value.okWide Tryd.prog W .any base t v := hval0
  have hW' := hW
  obtain ⟨p, q, hA0, hV, rfl, hfz, hnd⟩ := hW
  have hA : DataW.TrodAll enc Tryd.prog W 0 (fun _ => true) true Tryd.f3.params.toList args.toList ds p := hA0
  rw [Tryd.params3] at hA hval
  obtain ⟨v0, vs0, d0, ds0, p0, q0, hargs, rfl, rfl, h0, r0⟩ := trodAll_cons hA
  obtain ⟨v1, vs1, d1, ds1, p1, q1, rfl, rfl, rfl, h1, r1⟩ := trodAll_cons r0
  obtain ⟨rfl, rfl, rfl⟩ := trodAll_nil r1
  obtain rfl : args = #[v0, v1] := by cases args; simp_all
  obtain ⟨rfl, rfl⟩ := trodVars_none hV
  obtain ⟨X0, A0, Z0, D0⟩ := Law.open_argI Tryd.underlying22 Tryd.underlying3 (by kernel_rfl) (hval 0 22 v0 rfl rfl) h0
  obtain ⟨X1, A1, W1⟩ := Fl.open_argK Tryd.underlying23 Tryd.underlying30 (by kernel_rfl) rfl rfl rfl rfl rfl (by kernel_rfl) (by kernel_rfl) (by kernel_rfl) (by kernel_rfl) (by kernel_rfl) (by kernel_rfl) (by kernel_rfl) (by kernel_rfl) (by kernel_rfl) (by kernel_rfl) (hval 1 23 v1 rfl rfl) h1
  refine (Fl.own_walk2 v0 X0 (Law.len_argI hsz (j := 0) rfl rfl Tryd.underlying22 (by kernel_rfl) D0) v1 X1 W ⟨A0, Z0⟩ ⟨A1, W1⟩ (Fl.fieldOwn_laid hL)).mono fun e W' ⟨he, hb⟩ => ?_
  subst he
  exact ⟨_, rfl, Law.law_post hW' rfl rfl Tryd.underlying4 laid (by kernel_rfl) rfl hb⟩
set_option maxRecDepth 100000 in
theorem holds : Rows.FieldOwnUptoSaid :=
  OpenClaim.holds_of_cond 3 Tryd.f3 rfl rfl rfl rfl rfl rfl rfl ⟨rfl, rfl, rfl, rfl, rfl⟩ rfl rfl rfl rfl rfl (by kernel_rfl) Tryd.func3 (by kernel_rfl)
    (of_decide_eq_true (by kernel_rfl)) (by unfold Func.isWrapper; first | (rw [if_pos (by decide +kernel)]; kernel_rfl) | (rw [if_neg (by decide +kernel)]; exact ⟨rfl, rfl⟩))
    (fun os started H enc _ F => lifted os started H enc F)
set_option maxRecDepth 100000 in
theorem proved : Rows.FieldOwnUptoCardSaid :=
  Claim7.holds_tied_plain_at .later [] [.data, .data, .pinned] true (true, "ac8472c6fe4b6b75a3f85e3392f22519a040fa07ded8e5bb37eb8420741c73df") false
    holds (fun _ h => by cases h) (by kernel_rfl) (fun _ h => by cases h) fieldOwnUpto_row_tie rfl ⟨rfl, rfl⟩ (by kernel_rfl) rfl
    (fun f fn hf hfn => by
      obtain rfl : f = 3 := Option.some.inj ((show Tryd.prog.funcNamed "reach/reachlaw4.FieldOwn" = some 3 by kernel_rfl).symm.trans hf) |>.symm
      obtain rfl : fn = Tryd.f3 := (Option.some.inj (Tryd.func3.symm.trans hfn)).symm
      exact ⟨by kernel_rfl, fun j t ht => by
        rw [Tryd.params3] at ht
        have hm : t ∈ [22, 23] := by simpa using Array.mem_of_getElem? ht
        have hall : ([22, 23].all fun u => !Tryd.prog.wantsStandIn u) = true := by kernel_rfl
        exact (show Tryd.prog.wantsStandIn t = false by simpa using List.all_eq_true.1 hall t hm)⟩)
    (by kernel_rfl)
#print axioms proved
end Go.Proofs.YtlakglphjhoodaaDoor.fieldOwn
