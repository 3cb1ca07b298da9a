/- The statement 'FieldCubes': the program's function returns true at every input, and each argument reads behind the call as it read before. -/
import Derived.Test.YtaleaicfllcpiaaDoorCz
import Derived.Test.YtaleaicfllcpiaaDoorLaw
import Derived.Test.YtaleaicfllcpiaaDoorCards
import Derived.Test.YtaleaicfllcpiaaDoorTie
import Derived.SevenTiedAt
import Derived.LaidMore
import Derived.Stop.Joined
import Derived.Lay
import Derived.Test.YtaleaicfllcpiaaDoorA7
import Derived.WalkKit
import Derived.ProofKit
import Derived.OpenShut
import Derived.SliceStrings
import Derived.SizedLaws
namespace Go.Proofs.YtaleaicfllcpiaaDoor.fieldCubes
open Go.ChangeShapes Go.WideShapes Go.ChangeAt Go.RowKit
open Go.ChangeMaps (open_string shut_string)
set_option linter.unusedSimpArgs false
set_option linter.unusedSectionVars false
set_option linter.unusedVariables false
theorem own : ownKnob Tryd.prog.godebug = none := by kernel_rfl
theorem laid : laidOutB Tryd.prog = true := by kernel_rfl
set_option maxRecDepth 100000 in
theorem lifted (os : Os) (started : os.Started) (H : Type) (enc : TypeId × Value → H) :
    ReturnsInHanded {} Tryd.checked os 6 .any (fun w args => (Rows.fieldCubesSpec.pre enc Tryd.prog Tryd.f6 [] false w args ∧ laidMetH Tryd.prog Rows.fieldCubesRow.laid w) ∧ sizedMet enc Tryd.prog Tryd.f6 (OpenSpec.ofChange Rows.fieldCubesSpec) false w args) (Rows.fieldCubesSpec.post enc Tryd.prog Tryd.f6 false true false false) := by
  refine returnsInHanded_of_change_and (C := Tryd.checked) (X := fun w _ => laidMetH Tryd.prog Rows.fieldCubesRow.laid w) (fun _ _ _ hh h => h.of_heap hh) own started (by kernel_rfl) Tryd.func6
    (ChangeSpec.witness_shaped (enc := enc) (C := Tryd.checked) (os := os) (X := fun w _ => laidMetH Tryd.prog Rows.fieldCubesRow.laid w) false (World.laidAll Tryd.prog os Rows.fieldCubesRow.laid) #[.slice none 0 0, .agg #[.string .empty, .int .i64 0, .int .i64 0, .int .i64 0, .int .i64 0, .int .i64 0, .string .empty]] 8 (World.laidAll_os _ _ _) (World.shaped_of_ZipB (by kernel_rfl) (by kernel_rfl)) (by kernel_rfl) (by kernel_rfl) (by kernel_rfl) (by rw [MakeChecks.laidMetH_plain _ _ _ (by kernel_rfl)]; exact laidMet_laidAll _ (by kernel_rfl) (by kernel_rfl))) ?_
  intro W base args ds gs before hval0 hW _ hsz hL _
  have hval : ∀ (j : Nat) t v, Tryd.f6.params[j]? = some t → args[j]? = some v → Value.okWide Tryd.prog W .any base t v := hval0
  have hW' := hW
  obtain ⟨p, q, hA0, hV, rfl, hfz, hnd⟩ := hW
  have hA : DataW.TrodAll enc Tryd.prog W 0 (fun _ => true) true Tryd.f6.params.toList args.toList ds p := hA0
  rw [Tryd.params6] at hA hval
  obtain ⟨v0, vs0, d0, ds0, p0, q0, hargs, rfl, rfl, h0, r0⟩ := trodAll_cons hA
  obtain ⟨v1, vs1, d1, ds1, p1, q1, rfl, rfl, rfl, h1, r1⟩ := trodAll_cons r0
  obtain ⟨rfl, rfl, rfl⟩ := trodAll_nil r1
  obtain rfl : args = #[v0, v1] := by cases args; simp_all
  obtain ⟨rfl, rfl⟩ := trodVars_none hV
  obtain ⟨X0, A0, D0⟩ := Law.open_argF Tryd.underlying23 Tryd.underlying27 (by kernel_rfl) rfl rfl (by kernel_rfl) (by kernel_rfl) (by kernel_rfl) (by kernel_rfl) (hval 0 23 v0 rfl rfl) h0
  obtain ⟨c10, c11, c12, c13, c14, c15, c16, y10, y11, y12, y13, y14, y15, y16, m1, rfl, rfl, rfl, hy10, hy11, hy12, hy13, hy14, hy15, hy16⟩ := Law.open_agg7 Tryd.underlying52 (by kernel_rfl) (by kernel_rfl) (hval 1 52 v1 rfl rfl) h1
  obtain ⟨s10, e10, rfl, ws10⟩ := DataW.trod_string Tryd.underlying9 hy10
  obtain ⟨a11, e11, rfl, wa11⟩ := DataW.trod_int Tryd.underlying3 hy11
  obtain ⟨a12, e12, rfl, wa12⟩ := DataW.trod_int Tryd.underlying3 hy12
  obtain ⟨a13, e13, rfl, wa13⟩ := DataW.trod_int Tryd.underlying3 hy13
  obtain ⟨a14, e14, rfl, wa14⟩ := DataW.trod_int Tryd.underlying3 hy14
  obtain ⟨a15, e15, rfl, wa15⟩ := DataW.trod_int Tryd.underlying3 hy15
  obtain ⟨s16, e16, rfl, ws16⟩ := DataW.trod_string Tryd.underlying9 hy16
  simp only [List.cons.injEq, and_true] at e10 e11 e12 e13 e14 e15 e16
  subst e10 e11 e12 e13 e14 e15 e16
  refine (Fl.cubes_walk v0 X0 (Law.len_argF hsz (j := 0) rfl rfl Tryd.underlying23 (by kernel_rfl) D0) s10 a11 a12 a13 a14 a15 s16 ws16 W A0 (Fl.fieldCubes_laid hL)).mono fun e W' ⟨he, hb⟩ => ?_
  subst he
  exact ⟨_, rfl, Law.law_post hW' rfl rfl Tryd.underlying4 laid (by kernel_rfl) rfl hb⟩
set_option maxRecDepth 100000 in
theorem holds : Rows.FieldCubesSaid :=
  OpenClaim.holds_of_wide 6 Tryd.f6 rfl rfl rfl rfl rfl rfl rfl ⟨rfl, rfl, rfl, rfl, rfl⟩ rfl rfl rfl rfl rfl (by kernel_rfl) Tryd.func6 (by kernel_rfl)
    (of_decide_eq_true (by kernel_rfl)) (by unfold Func.isWrapper; first | (rw [if_pos (by decide +kernel)]; kernel_rfl) | (rw [if_neg (by decide +kernel)]; exact ⟨rfl, rfl⟩))
    (fun os started H enc _ => lifted os started H enc)
set_option maxRecDepth 100000 in
theorem proved : Rows.FieldCubesCardSaid :=
  Claim7.holds_tied_plain_at .later [] [.data, .data, .pinned] true (true, "aef413c184ae60183216212568c126ab2775e6effea86c22d1b42df763f452a5") false
    holds (fun _ h => by cases h) (by kernel_rfl) (fun _ h => by cases h) fieldCubes_row_tie rfl ⟨rfl, rfl⟩ (by kernel_rfl) rfl
    (fun f fn hf hfn => by
      obtain rfl : f = 6 := Option.some.inj ((show Tryd.prog.funcNamed "reach/reachlaw4.FieldCubes" = some 6 by kernel_rfl).symm.trans hf) |>.symm
      obtain rfl : fn = Tryd.f6 := (Option.some.inj (Tryd.func6.symm.trans hfn)).symm
      exact ⟨by kernel_rfl, fun j t ht => by
        rw [Tryd.params6] at ht
        have hm : t ∈ [23, 52] := by simpa using Array.mem_of_getElem? ht
        have hall : ([23, 52].all fun u => !Tryd.prog.wantsStandIn u) = true := by kernel_rfl
        exact (show Tryd.prog.wantsStandIn t = false by simpa using List.all_eq_true.1 hall t hm)⟩)
    (by kernel_rfl)
#print axioms proved
end Go.Proofs.YtaleaicfllcpiaaDoor.fieldCubes
