/- FieldUnpacks. -/
import Derived.Test.YtaleaicfllcpiaaDoorUy
import Derived.Test.YtaleaicfllcpiaaDoorPz
import Derived.Test.YtaleaicfllcpiaaDoorRows
import Derived.MakeChecks
namespace Go.Proofs.YtaleaicfllcpiaaDoor.Fl
open Go.RowKit Mm Law
set_option linter.unusedVariables false
set_option linter.unusedSimpArgs false
set_option linter.unusedSectionVars false
set_option maxRecDepth 100000 in
set_option maxHeartbeats 4000000 in
theorem unpacks_walk (v : Value) (l : List Fld) (hsz : l.length * 24 ≤ 140737488355328) (t : ByteArray) (htm : t.size ≤ maxLen) (w : World) (hS : SeesF w v l) (_ : True) :
    Calls Tryd.prog 4 #[v, .string t] w fun e w' => e = .returned (.bool true) ∧ Below w.heap.size w w' := by
  have hfm : ∀ f ∈ l, f.1.size ≤ maxLen ∧ (Lit.int .i64 f.2).wf = true := by
    obtain ⟨_, _, _, _, _, _, hw⟩ := hS; exact hw
  have hC := fun w' (h : Below w.heap.size w w') => runpack_any l v t htm w' (hS.below h)
  have hD := fun w' (h : Below w.heap.size w w') => unpack_any l v t htm w' (hS.below h)
  unfold UnAns at hC hD
  have hE := un_form l t.data.toList
  generalize unE l t.data.toList = E at *
  generalize unV l t.data.toList = L at *
  have HC := Lib.hid hC
  have HD := Lib.hid hD
  have HEF := Lib.hid hE
  have HP := Lib.hid (fun w' (h : Below w.heap.size w w') => copy_any l v w' (hS.below h) hsz)
  have HUN := Lib.hid (fun w' u (h : Below w.heap.size w w') (hu : SeesF w' u l) => unlike_no l v u w' (hS.below h) hu)
  have HO := Lib.hid (fun (w' : World) (B : Nat) (u : Value) (h : w'.ownsRow B 27 2 u l.length (fcells l)) => own_sees h hfm)
  have t1 : (E == E) = true := by simp
  clear hfm hS hsz hC hD hE htm
  go_enter Tryd.func4, Tryd.ntmps4
  go_wp2_with fail
  refine (HC.out _ (Below.refl _ _)).mono ?_
  rintro e w1 ⟨v1, rfl, ho1, hb1⟩
  have HS1 := Lib.hid (SeesS.of_own ho1)
  clear ho1
  go_wp2_with fail
  refine (HP.out _ hb1).mono ?_
  rintro e w2 ⟨u, rfl, ho, hb2⟩
  have HG2 := Lib.hid (bnx hb1 hb2)
  have HSU := Lib.hid (HO.out _ _ _ ho)
  have HS2 := Lib.hid (HS1.out.below hb2)
  clear ho hb1 hb2 HS1
  go_wp2_with fail
  refine (HD.out _ HG2.out).mono ?_
  rintro e w3 ⟨v3, rfl, ho3, hb3⟩
  have HG3 := Lib.hid (bnx HG2.out hb3)
  have HS3 := Lib.hid (HS2.out.below hb3)
  have HT3 := Lib.hid (SeesS.of_own ho3)
  have HSU3 := Lib.hid (HSU.out.below hb3)
  clear ho3 hb3
  go_wp2_with fail
  refine (num_any _ _ HEF.out).mono ?_
  rintro e w' ⟨rfl, rfl⟩
  go_wp2_with fail
  refine (alike_yes L _ _ _ HT3.out HS3.out).mono ?_
  rintro e w4 ⟨rfl, hb4⟩
  have hg4 := bnx HG3.out hb4
  go_wp2_with fail
  refine (HUN.out _ _ hg4 (HSU3.out.below hb4)).mono ?_
  rintro e w5 ⟨rfl, hb5⟩
  have hg5 := bnx hg4 hb5
  go_wp2_with fail
  refine (known_yes _).mono ?_
  rintro e w7 ⟨rfl, hb7⟩
  go_wp2_with fail
  go_ret
  exact ⟨rfl, bnx hg5 hb7⟩
theorem fieldUnpacks_laid {w : World} (_ : laidMetH Tryd.prog Rows.fieldUnpacksRow.laid w) : True := trivial
end Go.Proofs.YtaleaicfllcpiaaDoor.Fl
