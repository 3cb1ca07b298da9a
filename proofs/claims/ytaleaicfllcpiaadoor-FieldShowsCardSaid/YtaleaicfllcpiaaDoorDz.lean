/- FieldShows. -/
import Derived.Test.YtaleaicfllcpiaaDoorDp
import Derived.Test.YtaleaicfllcpiaaDoorRv
import Derived.Test.YtaleaicfllcpiaaDoorRows
import Derived.MakeChecks
import Derived.Stop.LaidErr
namespace Go.Proofs.YtaleaicfllcpiaaDoor.Fl
open Go.RowKit Mm Law
set_option linter.unusedVariables false
set_option linter.unusedSimpArgs false
set_option linter.unusedSectionVars false
set_option maxRecDepth 100000 in
set_option maxHeartbeats 4000000 in
theorem shows_walk (v : Value) (l : List Fld) (hsz : l.length * 24 ≤ 140737488355328) (t : ByteArray) (htm : t.size ≤ maxLen) (w : World) (hS : SeesF w v l) (htb : Tab w) :
    Calls Tryd.prog 9 #[v, .string t] w fun e w' => e = .returned (.bool true) ∧ Below w.heap.size w w' := by
  have hfm : ∀ f ∈ l, f.1.size ≤ maxLen ∧ (Lit.int .i64 f.2).wf = true := by
    obtain ⟨_, _, _, _, _, _, hw⟩ := hS; exact hw
  have hC := fun w' (h : Below w.heap.size w w') => rshow_any l v t htm w' (hS.below h)
  have hD := fun w' (h : Below w.heap.size w w') => show_all l v t htm w' (hS.below h) (tab_below htb h)
  unfold ShAns at hC hD
  have hE := sh_form l t.data.toList
  generalize shE l t.data.toList = E at *
  generalize str (shS l t.data.toList) = T at *
  have HC := Lib.hid hC
  have HD := Lib.hid hD
  have HEF := Lib.hid hE
  have HP := Lib.hid (fun w' (h : Below w.heap.size w w') => copy_any l v w' (hS.below h) hsz)
  have HUN := Lib.hid (fun w' u (h : Below w.heap.size w w') (hu : SeesF w' u l) => unlike_no l v u w' (hS.below h) hu)
  have HO := Lib.hid (fun (w' : World) (B : Nat) (u : Value) (h : w'.ownsRow B 27 2 u l.length (fcells l)) => own_sees h hfm)
  have t1 : (E == E) = true := by simp
  have t2 : (T.toList == T.toList) = true := by simp
  clear hfm hS hsz hC hD hE htm htb
  go_enter Tryd.func9, Tryd.ntmps9
  go_wp2_with fail
  refine (HC.out _ (Below.refl _ _)).mono ?_
  rintro e w1 ⟨rfl, hb1⟩
  go_wp2_with fail
  refine (HP.out _ hb1).mono ?_
  rintro e w2 ⟨u, rfl, ho, hb2⟩
  have HG2 := Lib.hid (bnx hb1 hb2)
  have HSU := Lib.hid (HO.out _ _ _ ho)
  clear ho hb1 hb2
  go_wp2_with fail
  refine (HD.out _ HG2.out).mono ?_
  rintro e w3 ⟨rfl, hb3⟩
  have HG3 := Lib.hid (bnx HG2.out hb3)
  have HSU3 := Lib.hid (HSU.out.below hb3)
  clear hb3
  go_wp2_with fail
  refine (num_any _ _ HEF.out).mono ?_
  rintro e w' ⟨rfl, rfl⟩
  go_wp2_with fail
  refine (HUN.out _ _ HG3.out HSU3.out).mono ?_
  rintro e w5 ⟨rfl, hb5⟩
  have hg5 := bnx HG3.out hb5
  go_wp2_with fail
  refine (known_yes _).mono ?_
  rintro e w7 ⟨rfl, hb7⟩
  go_wp2_with fail
  go_ret
  exact ⟨rfl, bnx hg5 hb7⟩
set_option maxRecDepth 100000 in
theorem fieldShows_laid {w : World} (h : laidMetH Tryd.prog Rows.fieldShowsRow.laid w) : Tab w := by
  rw [MakeChecks.laidMetH_plain _ _ _ (by kernel_rfl)] at h
  have hg : Tryd.prog.globalNamed "internal/strconv.uint64pow10" = some 4 := by kernel_rfl
  exact Lib.tabIs_of_head (n := 20) (t := 179) (e := 144) hg (by kernel_rfl) (by kernel_rfl) (by kernel_rfl) (by kernel_rfl) (by kernel_rfl) h.tail.tail
end Go.Proofs.YtaleaicfllcpiaaDoor.Fl
