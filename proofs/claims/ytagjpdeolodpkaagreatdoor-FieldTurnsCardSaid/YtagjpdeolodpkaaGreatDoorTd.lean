/- FieldTurns: told. -/
import Derived.Test.YtagjpdeolodpkaaGreatDoorCd
import Derived.Test.YtagjpdeolodpkaaGreatDoorRv
import Derived.Test.YtagjpdeolodpkaaGreatDoorPz
import Derived.Test.YtagjpdeolodpkaaGreatDoorPq
import Derived.Test.YtagjpdeolodpkaaGreatDoorWs
import Derived.Test.YtagjpdeolodpkaaGreatDoorUy
import Derived.Test.YtagjpdeolodpkaaGreatDoorDp
import Derived.Test.YtagjpdeolodpkaaGreatDoorTw
namespace Go.Proofs.YtagjpdeolodpkaaGreatDoor.Fl
open Go.RowKit Mm Law
set_option linter.unusedSimpArgs false
set_option linter.unusedSectionVars false
set_option linter.unusedVariables false
theorem one_sees (w : World) (nm : ByteArray) (lo : Int) (hnm : nm.size ≤ maxLen) (hlo : (Lit.int .i64 lo).wf = true) (ty : TypeId) :
    SeesF (w.alloc (.cells #[.string nm, .int .i64 lo] ty)) (.slice (some ⟨w.heap.size, 0, none⟩) 1 1) [(nm, lo)] := by
  refine ⟨_, 1, rfl, Nat.le_refl _, (by decide), .inr ⟨w.heap.size, 0, rfl, (Blk.new w ty #[.string nm, .int .i64 lo]).lt, fun j f hj => ?_⟩, ?_⟩
  · match j with
    | 0 => cases hj; exact ⟨(Blk.new w ty #[.string nm, .int .i64 lo]).cell 0, (Blk.new w ty #[.string nm, .int .i64 lo]).cell 1⟩
    | j + 1 => cases hj
  · intro f hf
    obtain rfl := List.mem_singleton.1 hf
    exact ⟨hnm, hlo⟩
set_option maxRecDepth 100000 in
set_option maxHeartbeats 16000000 in
theorem told_any (l : List Fld) (v u : Value) (nm : ByteArray) (hnm : nm.size ≤ maxLen) (op fo lo hi ln : Int) (hlo : (Lit.int .i64 lo).wf = true) (pt : ByteArray) (hpm : pt.size ≤ maxLen) (t : ByteArray) (htm : t.size ≤ maxLen) (w : World) (hv : SeesF w v l) (hu : SeesF w u l) (hus : Used w) (htb : Tab w) :
    Calls Tryz.prog 4 #[v, u, .agg #[.string nm, .int .i64 op, .int .i64 fo, .int .i64 lo, .int .i64 hi, .int .i64 ln, .string pt], .string t] w fun e w' => e = .returned (.bool true) ∧ Below w.heap.size w w' := by
  have hc := fun w' (h : Below w.heap.size w w') => check_any l v w' (hv.below h)
  have hrc := fun w' (h : Below w.heap.size w w') => rcheck_any l u w' (hu.below h)
  have hcu := fun w' (h : Below w.heap.size w w') => cubes_any l v ⟨nm, op, fo, lo, hi, ln, pt⟩ hpm w' (hv.below h) (hus.below h)
  have hrcu := fun w' (h : Below w.heap.size w w') => rcubes_any l u ⟨nm, op, fo, lo, hi, ln, pt⟩ hpm w' (hu.below h)
  have hwo := fun w' x (h : Below w.heap.size w w') (hx : SeesF w' x [(nm, lo)]) => word_any l [(nm, lo)] v x w' (hv.below h) hx
  have hrwo := fun w' x (h : Below w.heap.size w w') (hx : SeesF w' x [(nm, lo)]) => rword_any l [(nm, lo)] u x w' (hu.below h) hx
  have hun := fun w' (h : Below w.heap.size w w') => unpack_any l v t htm w' (hv.below h)
  have hrun := fun w' (h : Below w.heap.size w w') => runpack_any l u t htm w' (hu.below h)
  have hsh := fun w' (h : Below w.heap.size w w') => show_all l v t htm w' (hv.below h) (tab_below htb h)
  have hrsh := fun w' (h : Below w.heap.size w w') => rshow_any l u t htm w' (hu.below h)
  have hpk := fun w' x (h : Below w.heap.size w w') (hx : SeesS w' x 1 (unV l t.data.toList).length (inC (unV l t.data.toList))) => pack_any l (unV l t.data.toList) v x w' (hv.below h) hx (unV_wf l _)
  have hrpk := fun w' x (h : Below w.heap.size w w') (hx : SeesS w' x 1 (unV l t.data.toList).length (inC (unV l t.data.toList))) => rpack_any l (unV l t.data.toList) u x w' (hu.below h) hx (unV_wf l _)
  unfold Ans at hc hrc
  unfold CuAns Tst.val Tst.cs at hcu hrcu
  simp only at hcu hrcu
  unfold WdAns at hwo hrwo
  unfold UnAns at hun hrun
  unfold ShAns at hsh hrsh
  unfold PkAns at hpk hrpk
  have b1 : -9223372036854775808 ≤ (chk l).1 ∧ (chk l).1 ≤ 9223372036854775807 := by have := chk_form l; omega
  have b2 := cu_bd ⟨nm, op, fo, lo, hi, ln, pt⟩ l
  have b3 := wdA_form l [(nm, lo)]
  have b4 := un_form l t.data.toList
  have b5 := sh_form l t.data.toList
  have b6 := pk_form l (unV l t.data.toList)
  obtain ⟨c1, c2, hcc⟩ : ∃ c1 c2, chk l = (c1, c2) := ⟨_, _, rfl⟩
  rw [hcc] at hc hrc b1
  simp only at hc hrc b1
  clear hcc
  generalize cuE ⟨nm, op, fo, lo, hi, ln, pt⟩ l = E1 at *
  generalize cuT ⟨nm, op, fo, lo, hi, ln, pt⟩ l = L at *
  generalize (wdA l [(nm, lo)]).1 = E2 at *
  generalize str (wdA l [(nm, lo)]).2 = S2 at *
  generalize unE l t.data.toList = E3 at *
  generalize shE l t.data.toList = E4 at *
  generalize str (shS l t.data.toList) = S4 at *
  generalize pkE l (unV l t.data.toList) = E5 at *
  generalize str (pkS l (unV l t.data.toList)) = S5 at *
  generalize unV l t.data.toList = V at *
  have HE0 := Lib.hid (EiS.new w #[.string nm, .int .i64 op, .int .i64 fo, .int .i64 lo, .int .i64 hi, .int .i64 ln, .string pt])
  have HON := Lib.hid (fun (w' : World) => one_sees w' nm lo hnm hlo)
  have B1 := Lib.hid b1
  have B2 := Lib.hid b2
  have B3 := Lib.hid b3
  have B4 := Lib.hid b4
  have B5 := Lib.hid b5
  have B6 := Lib.hid b6
  have HC := Lib.hid hc
  have HRC := Lib.hid hrc
  have HCU := Lib.hid hcu
  have HRCU := Lib.hid hrcu
  have HWO := Lib.hid hwo
  have HRWO := Lib.hid hrwo
  have HUN := Lib.hid hun
  have HRUN := Lib.hid hrun
  have HSH := Lib.hid hsh
  have HRSH := Lib.hid hrsh
  have HPK := Lib.hid hpk
  have HRPK := Lib.hid hrpk
  have t0 : (c1 == c1) = true := by simp
  have t1 : (c2 == c2) = true := by simp
  have t2 : (E1 == E1) = true := by simp
  have t3 : (E2 == E2) = true := by simp
  have t4 : (E3 == E3) = true := by simp
  have t5 : (E4 == E4) = true := by simp
  have t6 : (E5 == E5) = true := by simp
  have sS2 : (S2.toList == S2.toList) = true := by simp
  have sS4 : (S4.toList == S4.toList) = true := by simp
  have sS5 : (S5.toList == S5.toList) = true := by simp
  clear b1 b2 b3 b4 b5 b6 hc hrc hcu hrcu hwo hrwo hun hrun hsh hrsh hpk hrpk hv hu hus htb hnm hlo hpm htm
  go_enter Tryz.func4, Tryz.ntmps4
  go_wp2_with fail
  refine (HC.out _ HE0.out.2).mono ?_
  rintro e w1 ⟨rfl, hb⟩
  have HD1 := Lib.hid (HE0.out.go hb)
  clear hb
  go_wp2_with fail
  refine (HRC.out _ HD1.out.2).mono ?_
  rintro e w2 ⟨rfl, hb⟩
  have HD2 := Lib.hid (HD1.out.go hb)
  clear hb HD1
  go_wp2_with fail
  refine (num_any _ _ B1.out).mono ?_
  rintro e w' ⟨rfl, rfl⟩
  have e0 := HD2.out.1.cell 0
  have e1 := HD2.out.1.cell 1
  have e2 := HD2.out.1.cell 2
  have e3 := HD2.out.1.cell 3
  have e4 := HD2.out.1.cell 4
  have e5 := HD2.out.1.cell 5
  have e6 := HD2.out.1.cell 6
  go_wp2_with fail
  refine (HCU.out _ HD2.out.2).mono ?_
  rintro e w3 ⟨v3, rfl, ho, hb⟩
  have HD3 := Lib.hid (HD2.out.go hb)
  have HL := Lib.hid (SeesS.of_own ho)
  clear hb HD2 ho
  clear e0 e1 e2 e3 e4 e5 e6
  have e0 := HD3.out.1.cell 0
  have e1 := HD3.out.1.cell 1
  have e2 := HD3.out.1.cell 2
  have e3 := HD3.out.1.cell 3
  have e4 := HD3.out.1.cell 4
  have e5 := HD3.out.1.cell 5
  have e6 := HD3.out.1.cell 6
  go_wp2_with fail
  refine (HRCU.out _ HD3.out.2).mono ?_
  rintro e w4 ⟨v4, rfl, ho, hb⟩
  have HL_4 := Lib.hid (HL.out.below hb)
  have HD4 := Lib.hid (HD3.out.go hb)
  have HM := Lib.hid (SeesS.of_own ho)
  clear hb HL HD3 ho
  clear e0 e1 e2 e3 e4 e5 e6
  have e0 := HD4.out.1.cell 0
  have e3 := HD4.out.1.cell 3
  go_wp2_with fail
  have HX := Lib.hid (HON.out w4 41)
  have hb := bal (Below.refl w4.heap.size w4) (.cells #[.string nm, .int .i64 lo] 41)
  have HL_5 := Lib.hid (HL_4.out.below hb)
  have HM_5 := Lib.hid (HM.out.below hb)
  have HD5 := Lib.hid (HD4.out.go hb)
  clear hb e0 e3 HD4 HL_4 HM
  go_wp2_with fail
  refine (HWO.out _ _ HD5.out.2 HX.out).mono ?_
  rintro e w6 ⟨rfl, hb⟩
  have HL_6 := Lib.hid (HL_5.out.below hb)
  have HM_6 := Lib.hid (HM_5.out.below hb)
  have HX_6 := Lib.hid (HX.out.below hb)
  have HD6 := Lib.hid (HD5.out.go hb)
  clear hb HL_5 HM_5 HX HD5
  go_wp2_with fail
  refine (HRWO.out _ _ HD6.out.2 HX_6.out).mono ?_
  rintro e w7 ⟨rfl, hb⟩
  have HL_7 := Lib.hid (HL_6.out.below hb)
  have HM_7 := Lib.hid (HM_6.out.below hb)
  have HX_7 := Lib.hid (HX_6.out.below hb)
  have HD7 := Lib.hid (HD6.out.go hb)
  clear hb HL_6 HM_6 HX_6 HD6
  go_wp2_with fail
  refine (HUN.out _ HD7.out.2).mono ?_
  rintro e w8 ⟨v8, rfl, ho, hb⟩
  have HL_8 := Lib.hid (HL_7.out.below hb)
  have HM_8 := Lib.hid (HM_7.out.below hb)
  have HD8 := Lib.hid (HD7.out.go hb)
  have HN := Lib.hid (SeesS.of_own ho)
  clear hb HL_7 HM_7 HD7 ho
  go_wp2_with fail
  refine (HRUN.out _ HD8.out.2).mono ?_
  rintro e w9 ⟨v9, rfl, ho, hb⟩
  have HL_9 := Lib.hid (HL_8.out.below hb)
  have HM_9 := Lib.hid (HM_8.out.below hb)
  have HN_9 := Lib.hid (HN.out.below hb)
  have HD9 := Lib.hid (HD8.out.go hb)
  have HO := Lib.hid (SeesS.of_own ho)
  clear hb HL_8 HM_8 HN HD8 ho
  go_wp2_with fail
  refine (HSH.out _ HD9.out.2).mono ?_
  rintro e w10 ⟨rfl, hb⟩
  have HL_10 := Lib.hid (HL_9.out.below hb)
  have HM_10 := Lib.hid (HM_9.out.below hb)
  have HN_10 := Lib.hid (HN_9.out.below hb)
  have HO_10 := Lib.hid (HO.out.below hb)
  have HD10 := Lib.hid (HD9.out.go hb)
  clear hb HL_9 HM_9 HN_9 HO HD9
  go_wp2_with fail
  refine (HRSH.out _ HD10.out.2).mono ?_
  rintro e w11 ⟨rfl, hb⟩
  have HL_11 := Lib.hid (HL_10.out.below hb)
  have HM_11 := Lib.hid (HM_10.out.below hb)
  have HN_11 := Lib.hid (HN_10.out.below hb)
  have HO_11 := Lib.hid (HO_10.out.below hb)
  have HD11 := Lib.hid (HD10.out.go hb)
  clear hb HL_10 HM_10 HN_10 HO_10 HD10
  go_wp2_with fail
  refine (HPK.out _ _ HD11.out.2 HO_11.out).mono ?_
  rintro e w12 ⟨rfl, hb⟩
  have HL_12 := Lib.hid (HL_11.out.below hb)
  have HM_12 := Lib.hid (HM_11.out.below hb)
  have HN_12 := Lib.hid (HN_11.out.below hb)
  have HO_12 := Lib.hid (HO_11.out.below hb)
  have HD12 := Lib.hid (HD11.out.go hb)
  clear hb HL_11 HM_11 HN_11 HO_11 HD11
  go_wp2_with fail
  refine (HRPK.out _ _ HD12.out.2 HO_12.out).mono ?_
  rintro e w13 ⟨rfl, hb⟩
  have HL_13 := Lib.hid (HL_12.out.below hb)
  have HM_13 := Lib.hid (HM_12.out.below hb)
  have HN_13 := Lib.hid (HN_12.out.below hb)
  have HO_13 := Lib.hid (HO_12.out.below hb)
  have HD13 := Lib.hid (HD12.out.go hb)
  clear hb HL_12 HM_12 HN_12 HO_12 HD12
  go_wp2_with fail
  refine (num_any _ _ B2.out).mono ?_
  rintro e w' ⟨rfl, rfl⟩
  go_wp2_with fail
  refine (same_yes L _ _ _ HL_13.out HM_13.out).mono ?_
  rintro e w30 ⟨rfl, hb⟩
  have HL_14 := Lib.hid (HL_13.out.below hb)
  have HM_14 := Lib.hid (HM_13.out.below hb)
  have HN_14 := Lib.hid (HN_13.out.below hb)
  have HO_14 := Lib.hid (HO_13.out.below hb)
  have HD14 := Lib.hid (HD13.out.go hb)
  go_wp2_with fail
  refine (num_any _ _ B3.out).mono ?_
  rintro e w' ⟨rfl, rfl⟩
  go_wp2_with fail
  refine (num_any _ _ B4.out).mono ?_
  rintro e w' ⟨rfl, rfl⟩
  go_wp2_with fail
  refine (alike_yes V _ _ _ HN_14.out HO_14.out).mono ?_
  rintro e w31 ⟨rfl, hb⟩
  have HL_15 := Lib.hid (HL_14.out.below hb)
  have HM_15 := Lib.hid (HM_14.out.below hb)
  have HN_15 := Lib.hid (HN_14.out.below hb)
  have HO_15 := Lib.hid (HO_14.out.below hb)
  have HD15 := Lib.hid (HD14.out.go hb)
  go_wp2_with fail
  refine (num_any _ _ B5.out).mono ?_
  rintro e w' ⟨rfl, rfl⟩
  go_wp2_with fail
  refine (num_any _ _ B6.out).mono ?_
  rintro e w' ⟨rfl, rfl⟩
  go_wp2_with fail
  go_ret
  exact ⟨rfl, HD15.out.2⟩
end Go.Proofs.YtagjpdeolodpkaaGreatDoor.Fl
