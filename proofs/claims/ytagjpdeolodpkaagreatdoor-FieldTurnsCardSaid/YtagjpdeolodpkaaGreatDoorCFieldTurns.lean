/- The statement 'FieldTurns': the program's function returns true at every input, and each argument reads behind the call as it read before. -/
import Derived.Test.YtagjpdeolodpkaaGreatDoorTr
import Derived.Test.YtagjpdeolodpkaaGreatDoorLaw
import Derived.Test.YtagjpdeolodpkaaGreatDoorCards
import Derived.Test.YtagjpdeolodpkaaGreatDoorTie
import Derived.SevenTiedAt
import Derived.LaidMore
import Derived.Stop.Joined
import Derived.Lay
import Derived.Test.YtagjpdeolodpkaaGreatDoorA7
import Derived.WalkKit
import Derived.ProofKit
import Derived.OpenShut
import Derived.SliceStrings
import Derived.SizedLaws
namespace Go.Proofs.YtagjpdeolodpkaaGreatDoor.fieldTurns
open Go.ChangeShapes Go.WideShapes Go.ChangeAt Go.RowKit
open Go.ChangeMaps (open_string shut_string)
set_option linter.unusedSimpArgs false
set_option linter.unusedSectionVars false
set_option linter.unusedVariables false
theorem own : ownKnob Tryz.prog.godebug = none := by kernel_rfl
theorem laid : laidOutB Tryz.prog = true := by kernel_rfl
set_option maxRecDepth 100000 in
theorem lifted (os : Os) (started : os.Started) (H : Type) (enc : TypeId × Value → H) :
    ReturnsInHanded {} Tryz.checked os 3 .any (fun w args => (Rows.fieldTurnsSpec.pre enc Tryz.prog Tryz.f3 [] false w args ∧ laidMetH Tryz.prog Rows.fieldTurnsRow.laid w) ∧ sizedMet enc Tryz.prog Tryz.f3 (OpenSpec.ofChange Rows.fieldTurnsSpec) false w args) (Rows.fieldTurnsSpec.post enc Tryz.prog Tryz.f3 false true false false) := by
  refine returnsInHanded_of_change_and (C := Tryz.checked) (X := fun w _ => laidMetH Tryz.prog Rows.fieldTurnsRow.laid w) (fun _ _ _ hh h => h.of_heap hh) own started (by kernel_rfl) Tryz.func3
    (ChangeSpec.witness_shaped (enc := enc) (C := Tryz.checked) (os := os) (X := fun w _ => laidMetH Tryz.prog Rows.fieldTurnsRow.laid w) false (World.laidAll Tryz.prog os Rows.fieldTurnsRow.laid) #[.slice none 0 0, .slice none 0 0, .agg #[.string .empty, .int .i64 0, .int .i64 0, .int .i64 0, .int .i64 0, .int .i64 0, .string .empty], .string .empty] 8 (World.laidAll_os _ _ _) (World.shaped_of_ZipB (by kernel_rfl) (by kernel_rfl)) (by kernel_rfl) (by kernel_rfl) (by kernel_rfl) (by rw [MakeChecks.laidMetH_plain _ _ _ (by kernel_rfl)]; exact laidMet_laidAll _ (by kernel_rfl) (by kernel_rfl))) ?_
  intro W base args ds gs before hval0 hW _ hsz hL _
  have hval : ∀ (j : Nat) t v, Tryz.f3.params[j]? = some t → args[j]? = some v → Value.okWide Tryz.prog W .any base t v := hval0
  have hW' := hW
  obtain ⟨p, q, hA0, hV, rfl, hfz, hnd⟩ := hW
  have hA : DataW.TrodAll enc Tryz.prog W 0 (fun _ => true) true Tryz.f3.params.toList args.toList ds p := hA0
  rw [Tryz.params3] at hA hval
  obtain ⟨v0, vs0, d0, ds0, p0, q0, hargs, rfl, rfl, h0, r0⟩ := trodAll_cons hA
  obtain ⟨v1, vs1, d1, ds1, p1, q1, rfl, rfl, rfl, h1, r1⟩ := trodAll_cons r0
  obtain ⟨v2, vs2, d2, ds2, p2, q2, rfl, rfl, rfl, h2, r2⟩ := trodAll_cons r1
  obtain ⟨v3, vs3, d3, ds3, p3, q3, rfl, rfl, rfl, h3, r3⟩ := trodAll_cons r2
  obtain ⟨rfl, rfl, rfl⟩ := trodAll_nil r3
  obtain rfl : args = #[v0, v1, v2, v3] := by cases args; simp_all
  obtain ⟨rfl, rfl⟩ := trodVars_none hV
  obtain ⟨X0, A0, D0⟩ := Law.open_argF Tryz.underlying22 Tryz.underlying26 (by kernel_rfl) rfl rfl (by kernel_rfl) (by kernel_rfl) (by kernel_rfl) (by kernel_rfl) (hval 0 22 v0 rfl rfl) h0
  obtain ⟨X1, A1, D1⟩ := Law.open_argF Tryz.underlying22 Tryz.underlying26 (by kernel_rfl) rfl rfl (by kernel_rfl) (by kernel_rfl) (by kernel_rfl) (by kernel_rfl) (hval 1 22 v1 rfl rfl) h1
  obtain ⟨c20, c21, c22, c23, c24, c25, c26, y20, y21, y22, y23, y24, y25, y26, m2, rfl, rfl, rfl, hy20, hy21, hy22, hy23, hy24, hy25, hy26⟩ := Law.open_agg7 Tryz.underlying24 (by kernel_rfl) (by kernel_rfl) (hval 2 24 v2 rfl rfl) h2
  obtain ⟨s20, e20, rfl, ws20⟩ := DataW.trod_string Tryz.underlying9 hy20
  obtain ⟨a21, e21, rfl, wa21⟩ := DataW.trod_int Tryz.underlying3 hy21
  obtain ⟨a22, e22, rfl, wa22⟩ := DataW.trod_int Tryz.underlying3 hy22
  obtain ⟨a23, e23, rfl, wa23⟩ := DataW.trod_int Tryz.underlying3 hy23
  obtain ⟨a24, e24, rfl, wa24⟩ := DataW.trod_int Tryz.underlying3 hy24
  obtain ⟨a25, e25, rfl, wa25⟩ := DataW.trod_int Tryz.underlying3 hy25
  obtain ⟨s26, e26, rfl, ws26⟩ := DataW.trod_string Tryz.underlying9 hy26
  simp only [List.cons.injEq, and_true] at e20 e21 e22 e23 e24 e25 e26
  subst e20 e21 e22 e23 e24 e25 e26
  obtain ⟨s3, rfl, rfl, rfl, w3⟩ := open_string Tryz.underlying9 (hval 3 9 v3 rfl rfl) h3
  refine (Fl.turns_walk v0 X0 (Law.len_argF hsz (j := 0) rfl rfl Tryz.underlying22 (by kernel_rfl) D0) v1 X1 (Law.len_argF hsz (j := 1) rfl rfl Tryz.underlying22 (by kernel_rfl) D1) s20 ws20 a21 a22 a23 wa23 a24 a25 s26 ws26 s3 w3 W A0 A1 (Fl.fieldTurns_laid hL)).mono fun e W' ⟨he, hb⟩ => ?_
  subst he
  exact ⟨_, rfl, Law.law_post hW' rfl rfl Tryz.underlying4 laid (by kernel_rfl) rfl hb⟩
set_option maxRecDepth 100000 in
theorem holds : Rows.FieldTurnsSaid :=
  OpenClaim.holds_of_wide 3 Tryz.f3 rfl rfl rfl rfl rfl rfl rfl ⟨rfl, rfl, rfl, rfl, rfl⟩ rfl rfl rfl rfl rfl (by kernel_rfl) Tryz.func3 (by kernel_rfl)
    (of_decide_eq_true (by kernel_rfl)) (by unfold Func.isWrapper; first | (rw [if_pos (by decide +kernel)]; kernel_rfl) | (rw [if_neg (by decide +kernel)]; exact ⟨rfl, rfl⟩))
    (fun os started H enc _ => lifted os started H enc)
set_option maxRecDepth 100000 in
theorem proved : Rows.FieldTurnsCardSaid :=
  Claim7.holds_tied_plain_at .later [] [.data, .data, .data, .data, .data, .pinned] true (true, "01952e84c29ff80f795a94c0ec3864de89723be4dcc17c31e670371c869ef0ec") false
    holds (fun _ h => by cases h) (by kernel_rfl) (fun _ h => by cases h) fieldTurns_row_tie rfl ⟨rfl, rfl⟩ (by kernel_rfl) rfl
    (fun f fn hf hfn => by
      obtain rfl : f = 3 := Option.some.inj ((show Tryz.prog.funcNamed "reach/reachlaw4.FieldTurns" = some 3 by kernel_rfl).symm.trans hf) |>.symm
      obtain rfl : fn = Tryz.f3 := (Option.some.inj (Tryz.func3.symm.trans hfn)).symm
      exact ⟨by kernel_rfl, fun j t ht => by
        rw [Tryz.params3] at ht
        have hm : t ∈ [22, 22, 24, 9] := by simpa using Array.mem_of_getElem? ht
        have hall : ([22, 22, 24, 9].all fun u => !Tryz.prog.wantsStandIn u) = true := by kernel_rfl
        exact (show Tryz.prog.wantsStandIn t = false by simpa using List.all_eq_true.1 hall t hm)⟩)
    (by kernel_rfl)
#print axioms proved
end Go.Proofs.YtagjpdeolodpkaaGreatDoor.fieldTurns
