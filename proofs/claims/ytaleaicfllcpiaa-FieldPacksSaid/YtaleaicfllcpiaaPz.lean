/- FieldPacks. -/
import Derived.Test.YtaleaicfllcpiaaPq
import Derived.Test.YtaleaicfllcpiaaRv
namespace Go.Proofs.Ytaleaicfllcpiaa.Fl
open Go.RowKit Mm Law
set_option linter.unusedVariables false
set_option linter.unusedSimpArgs false
set_option linter.unusedSectionVars false
set_option maxRecDepth 100000 in
set_option maxHeartbeats 2000000 in
theorem alike_yes (T : List Int) (v u : Value) (w : World) (hv : SeesS w v 1 T.length (inC T)) (hu : SeesS w u 1 T.length (inC T)) :
    Calls Try.prog 25 #[v, u] w fun e w' => e = .returned (.bool true) ∧ Below w.heap.size w w' := by
  obtain ⟨a0, cap0, rfl, hcap, hcm⟩ := hv.form
  obtain ⟨a1, cap1, rfl, hcap1, hcm1⟩ := hu.form
  have HX := Lib.hid hv
  have HX1 := Lib.hid hu
  unfold maxLen at hcm hcm1
  have hne : ((T.length : Int) != (T.length : Int)) = false := by simp
  clear hv hu
  go_enter Try.func25, Try.ntmps25
  go_wp2
  go_loopw [5] (fun i wr => ∃ k : Nat, k ≤ T.length ∧ i = .int .i64 k ∧ Below w.heap.size w wr) (fun i _ => T.length - (intOf i).toNat)
  case atStart => exact ⟨0, Nat.zero_le _, rfl, Below.refl _ _⟩
  case round =>
    obtain ⟨k, hk, rfl, hbel⟩ := hrel
    by_cases hlt : k < T.length
    · obtain ⟨_, g, off, rfl, hg, hq⟩ := HX.out.at (by omega)
      obtain ⟨_, g1, off1, rfl, hg1, hq1⟩ := HX1.out.at (by omega)
      have kat := inC_at T k T[k] (by simp [hlt])
      have q0 := hq _ _ kat
      have p0 := hq1 _ _ kat
      rw [← hbel.cell (p := ⟨g, off + k, none⟩) hg] at q0
      rw [← hbel.cell (p := ⟨g1, off1 + k, none⟩) hg1] at p0
      generalize T[k] = z at *
      have hzz : (z != z) = false := by simp
      have hx1 : (k : Int) < (T.length : Int) := by omega
      have hx0 : (0 : Int) ≤ (k : Int) := by omega
      clear hq hq1 kat
      go_wp2
      go_quiet (fail)
      go_wp2
      go_roundw
      case rel => exact ⟨k + 1, by omega, by go_num, below_drewN hbel _⟩
      case measure => simp [intOf]; omega
    · go_wp2
      go_ret
      exact ⟨rfl, hbel⟩
set_option maxRecDepth 100000 in
set_option maxHeartbeats 4000000 in
theorem packs_walk (v : Value) (l : List Fld) (hsz : l.length * 24 ≤ 140737488355328) (u : Value) (x : List Int) (hxz : x.length * 8 ≤ 140737488355328) (w : World) (hS : SeesF w v l) (hX : SeesS w u 1 x.length (inC x) ∧ ∀ z ∈ x, (Lit.int .i64 z).wf = true) :
    Calls Try.prog 6 #[v, u] w fun e w' => e = .returned (.bool true) ∧ Below w.heap.size w w' := by
  have hfm : ∀ f ∈ l, f.1.size ≤ maxLen ∧ (Lit.int .i64 f.2).wf = true := by
    obtain ⟨_, _, _, _, _, _, hw⟩ := hS; exact hw
  obtain ⟨hU, hxw⟩ := hX
  have hC := fun w' (h : Below w.heap.size w w') => rpack_any l x v u w' (hS.below h) (hU.below h) hxw
  have hD := fun w' (h : Below w.heap.size w w') => pack_any l x v u w' (hS.below h) (hU.below h) hxw
  unfold PkAns at hC hD
  have hE := pk_form l x
  generalize pkE l x = E at *
  generalize str (pkS l x) = T at *
  have HC := Lib.hid hC
  have HD := Lib.hid hD
  have HEF := Lib.hid hE
  have HP := Lib.hid (fun w' (h : Below w.heap.size w w') => copy_any l v w' (hS.below h) hsz)
  have HUN := Lib.hid (fun w' u (h : Below w.heap.size w w') (hu : SeesF w' u l) => unlike_no l v u w' (hS.below h) hu)
  have HO := Lib.hid (fun (w' : World) (B : Nat) (u : Value) (h : w'.ownsRow B 61 2 u l.length (fcells l)) => own_sees h hfm)
  obtain ⟨a1, cap1, rfl, hcap1, hcm1⟩ := hU.form
  have HU := Lib.hid hU
  have HXZ := Lib.hid hxz
  unfold maxLen at hcm1
  have t1 : (E == E) = true := by simp
  have t2 : (T.toList == T.toList) = true := by simp
  clear hfm hS hsz hC hD hE hU hxz hxw
  go_enter Try.func6, Try.ntmps6
  go_wp2_with fail
  refine (HC.out _ (Below.refl _ _)).mono ?_
  rintro e w1 ⟨rfl, hb1⟩
  go_wp2_with fail
  refine (HP.out _ hb1).mono ?_
  rintro e w2 ⟨u, rfl, ho, hb2⟩
  have HG2 := Lib.hid (bnx hb1 hb2)
  have HSU := Lib.hid (HO.out _ _ _ ho)
  clear ho hb1 hb2
  go_wp2_with fail
  go_loopw [8, 9] (fun m i wr => ∃ k : Nat, k ≤ x.length ∧ i = .int .i64 k ∧ Below w2.heap.size w2 wr ∧ wr.ownsRow w2.heap.size 3 1 m k (inC (x.take k))) (fun _ i _ => x.length - (intOf i).toNat)
  case atStart => exact ⟨0, Nat.zero_le _, rfl, Below.refl _ _, World.ownsRow_nil _ _ _ _⟩
  case round =>
    obtain ⟨k, hk, rfl, hbel, hown⟩ := hrel
    have HOW := Lib.hid hown
    clear hown
    by_cases hlt : k < x.length
    · obtain ⟨_, g, off, rfl, hg, hq⟩ := HU.out.at (by omega)
      have q0 := hq _ _ (inC_at x k x[k] (by simp [hlt]))
      rw [← (bnx HG2.out hbel).cell (p := ⟨g, off + k, none⟩) hg] at q0
      have HT := Lib.hid (show x.take (k + 1) = x.take k ++ [x[k]] from List.take_succ_eq_append_getElem hlt)
      generalize x[k] = z at *
      clear hq
      go_wp2_with (at_builtin; refine app_int z HOW.out rfl rfl rfl rfl (by have := HXZ.out; omega) hbel.size ?_; intro v1 w3 hown1 hb3)
      go_roundw
      case rel => exact ⟨k + 1, by omega, by go_num, hbel.trans hb3, by rw [HT.out]; exact hown1⟩
      case measure => simp [intOf]; omega
    · have hkk : k = x.length := by omega
      have HO2 := Lib.hid (SeesS.of_own (show wr.ownsRow w2.heap.size 3 1 u8 x.length (inC x) from by have := HOW.out; rw [hkk, List.take_length] at this; exact this))
      have HG3 := Lib.hid (bnx HG2.out hbel)
      have HSU3 := Lib.hid (HSU.out.below hbel)
      clear HOW hbel hkk
      go_wp2_with fail
      refine (HD.out _ HG3.out).mono ?_
      rintro e w4 ⟨rfl, hb4⟩
      have hg4 := bnx HG3.out hb4
      go_wp2_with fail
      refine (num_any _ _ HEF.out).mono ?_
      rintro e w' ⟨rfl, rfl⟩
      go_wp2_with fail
      refine (HUN.out _ _ hg4 (HSU3.out.below hb4)).mono ?_
      rintro e w5 ⟨rfl, hb5⟩
      have hg5 := bnx hg4 hb5
      go_wp2_with fail
      refine (alike_yes x _ _ _ (HU.out.below hg5) ((HO2.out.below hb4).below hb5)).mono ?_
      rintro e w6 ⟨rfl, hb6⟩
      go_wp2_with fail
      refine (known_yes _).mono ?_
      rintro e w7 ⟨rfl, hb7⟩
      go_wp2_with fail
      go_ret
      exact ⟨rfl, bnx (bnx hg5 hb6) hb7⟩
end Go.Proofs.Ytaleaicfllcpiaa.Fl
