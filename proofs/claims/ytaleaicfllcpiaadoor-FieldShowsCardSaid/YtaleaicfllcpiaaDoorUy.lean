/- The document's Unpack. -/
import Derived.Test.YtaleaicfllcpiaaDoorUx
import Derived.Test.YtaleaicfllcpiaaDoorHd
import Derived.Deep.DeepCutAuto
import Derived.StillTailTactics
namespace Go.Proofs.YtaleaicfllcpiaaDoor.Fl
open Go.RowKit Mm Law
set_option linter.unusedVariables false
set_option linter.unusedSimpArgs false
set_option linter.unusedSectionVars false
set_option maxRecDepth 100000 in
set_option maxHeartbeats 8000000 in
theorem runpack_any (l : List Fld) (v : Value) (t : ByteArray) (ht : t.size ≤ maxLen) (w : World) (hv : SeesF w v l) :
    Calls Tryd.prog 17 #[v, .string t] w (UnAns w l t.data.toList) := by
  have HCK := Lib.hid (rcheck_any l v w hv)
  have HV := Lib.hid hv
  obtain ⟨a0, cap0, rfl, hcap, hcm, hx, hw⟩ := hv
  have HX := Lib.hid hx
  have HW := Lib.hid hw
  unfold maxLen at hcm ht
  obtain ⟨c1, c2, hcc⟩ : ∃ c1 c2, chk l = (c1, c2) := ⟨_, _, rfl⟩
  rw [hcc] at HCK
  have h1 : (chk l).1 = c1 := by rw [hcc]
  clear hx hw hcc
  by_cases hc : c1 = 0
  · subst hc
    have HZ := Lib.hid (chk_zero h1)
    have HC0 := Lib.hid h1
    have hz : 0 < l.length ∧ l.length ≤ 12 := ⟨HZ.out.1, HZ.out.2.1⟩
    obtain ⟨hl0, hl12⟩ := hz
    have HTL := Lib.hid (len_s t)
    have HTW := Lib.hid (fun w' (h : Below w.heap.size w w') => rwidth_any l _ w' (HV.out.below h) hl12 HZ.out.2.2)
    have HWD : Wide l := HZ.out.2.2
    have HWI := Lib.hid HWD
    have hsum := pos_int HWD (k := l.length) (Nat.le_refl _)
    have hsb := sum_bd HZ.out.2.2 l.length (Nat.le_refl _)
    rw [hsum] at HTW hsb
    have HSM := Lib.hid hsum
    clear h1 HWD hsum
    go_enter Tryd.func17, Tryd.ntmps17
    go_wp2_with fail
    refine HCK.out.mono ?_
    rintro e w1 ⟨rfl, hb1⟩
    go_wp2_with fail
    refine (HTW.out _ hb1).mono ?_
    rintro e w2 ⟨rfl, rfl⟩
    have HB2 := Lib.hid hb1
    have HOF := Lib.hid (fun w => of_any t b01 (by decide) (posN l l.length : Int) (by unfold maxLen; omega) w)
    clear hb1 HTW HCK
    go_wp2_with fail
    refine (HOF.out _).mono ?_
    rintro e w3 ⟨⟨b, rfl, hb⟩, hb3⟩
    have HB3 := Lib.hid (bnx HB2.out hb3)
    have HBI := Lib.hid hb
    clear hb hb3
    cases b with
    | true =>
      have HOK0 := Lib.hid (HBI.out.1 rfl)
      have HOK := Lib.hid (un_ok HC0.out (show ofB dBits t.data.toList (sumTo l l.length) from by rw [HSM.out]; exact HOK0.out))
      have HPN := Lib.hid (show t.size = posN l l.length from by have := HOK0.out.1; have := HTL.out; omega)
      go_wp2_with fail
      go_loopw [9, 10, 11] (fun m p i wr => ∃ k : Nat, k ≤ l.length ∧ i = .int .i64 (k : Int) ∧ p = .int .i64 (posN l k : Int) ∧ wr.ownsRow w.heap.size 3 1 m k (inC (unT l t.data.toList k)) ∧ Below w.heap.size w wr) (fun _ _ i _ => l.length - (intOf i).toNat)
      case atStart => exact ⟨0, Nat.zero_le _, rfl, by rw [pos_zero]; rfl, World.ownsRow_nil _ _ _ _, HB3.out⟩
      case round =>
        obtain ⟨k, hk, rfl, rfl, hown, hbel⟩ := hrel
        have HOW := Lib.hid hown
        clear hown
        by_cases hlt : k < l.length
        · obtain ⟨g, off, rfl, hg, hq⟩ : ∃ g off, a0 = some ⟨g, off, none⟩ ∧ g < w.heap.size ∧ ∀ j f, l[j]? = some f → w.cell? ⟨g, off + j * 2, none⟩ = some (.string f.1) ∧ w.cell? ⟨g, off + (j * 2 + 1), none⟩ = some (.int .i64 f.2) := by
            rcases HX.out with h0 | h0
            · rw [h0] at hlt; simp at hlt
            · exact h0
          have q1 := (hq k l[k] (by simp [hlt])).2
          rw [← hbel.cell (p := ⟨g, off + (k * 2 + 1), none⟩) hg] at q1
          rw [← Nat.add_assoc] at q1
          have hbk := bitsAt_get HWI.out hlt
          have hps := pos_succ HWI.out hlt
          have hpm := pos_mono HWI.out (j := k + 1) (k := l.length) (by omega) (Nat.le_refl _)
          have e1 : t.extract (posN l k) (posN l k + bitsAt l k) = str (fldB l t.data.toList k) := by rw [ext_take, Nat.add_sub_cancel_left]; rfl
          have hfl : (str (fldB l t.data.toList k)).size = bitsAt l k := by rw [str_size]; exact fldB_len HWI.out (by have := HPN.out; have := HTL.out; omega) hlt
          have HNU := Lib.hid (fun w => rvalue_any (str (fldB l t.data.toList k)) (by omega) w)
          have HNL := Lib.hid (show (str (fldB l t.data.toList k)).data.toList = fldB l t.data.toList k from str_list _)
          rw [HNL.out] at HNU
          have HUT := Lib.hid (show unT l t.data.toList (k + 1) = unT l t.data.toList k ++ [(numB (fldB l t.data.toList k) : Int)] from rfl)
          generalize str (fldB l t.data.toList k) = sg at *
          obtain ⟨B, hB⟩ : ∃ B, bitsAt l k = B := ⟨_, rfl⟩
          obtain ⟨P, hP⟩ : ∃ P, posN l k = P := ⟨_, rfl⟩
          rw [hB] at hbk hps e1
          rw [hP] at hps e1
          have HPS := Lib.hid hps
          have HP := Lib.hid hP
          have hb1 : l[k].2 = (B : Int) := hbk.1.symm
          rw [hb1] at q1
          have hpt : P + B ≤ t.size := by have := HPN.out; omega
          have hts : t.size ≤ 384 := by have := HPN.out; omega
          rw [hP]
          have hsl : ∀ W : World, (Instr.slice 9 (.string t) (some (.int .i64 (P : Int))) (some (.int .i64 ((P : Int) + (B : Int)))) none).run Tryd.prog W = .ok (.string sg) W := fun W => by
            have h := run_slice_string (P := Tryd.prog) W 9 t .i64 .i64 (P : Int) ((P : Int) + (B : Int)) Tryd.underlying9 (by omega) (by omega) (by omega)
            rw [show ((P : Int)).toNat = P from by omega, show ((P : Int) + (B : Int)).toNat = P + B from by omega, e1] at h
            exact h
          have hw1 : IntKind.i64.wrap ((P : Int) + (B : Int)) = (P : Int) + (B : Int) := IntWalk.i64_in _ (by omega)
          have y1 : (k : Int) < (l.length : Int) := by omega
          have x0 : (0 : Int) ≤ (P : Int) := by omega
          have x1 : (P : Int) ≤ (P : Int) + (B : Int) := by omega
          have x2 : (P : Int) + (B : Int) ≤ (t.size : Int) := by omega
          clear hq hb1 hbk hps hpm hB hP hfl HNL e1
          generalize numB (fldB l t.data.toList k) = N at *
          go_wp2_with fail
          refine (HNU.out _).mono ?_
          rintro e w5 ⟨rfl, rfl⟩
          go_wp2_with (at_builtin; refine app_int (N : Int) HOW.out rfl rfl rfl rfl (by omega) hbel.size ?_; intro v1 w6 hown1 hb6; have q6 : w6.cell? ⟨g, off + k * 2 + 1, none⟩ = some (.int .i64 (B : Int)) := by rw [hb6.cell (p := ⟨g, off + k * 2 + 1, none⟩) hg]; exact q1)
          go_roundw
          case rel => exact ⟨k + 1, by omega, by go_num, by rw [HPS.out]; go_num, by rw [HUT.out]; exact hown1, hbel.trans hb6⟩
          case measure => simp [intOf]; omega
        · have hkl : k = l.length := by omega
          have HO := Lib.hid (show wr.ownsRow w.heap.size 3 1 u9 (unT l t.data.toList l.length).length (inC (unT l t.data.toList l.length)) from by rw [unT_len]; have := HOW.out; rw [hkl] at this; exact this)
          clear hkl
          go_wp2_with fail
          refine bodyPost_ret (v := .tuple #[u9, .int .i64 0]) (by simp [results, Tryd.results17, go_sem]) rfl (un_ans HOK.out HO.out hbel)
    | false =>
      have HBD := Lib.hid (un_bad (h := t.data.toList) HC0.out (fun h => by rw [HSM.out] at h; exact absurd (HBI.out.2 h) (by simp)))
      go_wp2_with fail
      refine bodyPost_ret (v := .tuple #[.slice none 0 0, .int .i64 46]) (by simp [results, Tryd.results17, go_sem]) rfl (un_ans HBD.out (World.ownsRow_nil _ _ _ _) HB3.out)
  · have hne : (c1 != 0) = true := by simpa using hc
    have HA := Lib.hid (un_chk (h := t.data.toList) h1 hc)
    clear hc h1
    go_enter Tryd.func17, Tryd.ntmps17
    go_wp2_with fail
    refine HCK.out.mono ?_
    rintro e w1 ⟨rfl, hb1⟩
    go_wp2_with fail
    refine bodyPost_ret (v := .tuple #[.slice none 0 0, .int .i64 c1]) (by simp [results, Tryd.results17, go_sem]) rfl (un_ans HA.out (World.ownsRow_nil _ _ _ _) hb1)
end Go.Proofs.YtaleaicfllcpiaaDoor.Fl
