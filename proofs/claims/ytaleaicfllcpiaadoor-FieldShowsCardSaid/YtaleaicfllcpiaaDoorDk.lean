/- The document's Show. -/
import Derived.Test.YtaleaicfllcpiaaDoorDj
import Derived.Test.YtaleaicfllcpiaaDoorUy
namespace Go.Proofs.YtaleaicfllcpiaaDoor.Fl
open Go.RowKit Mm Law
set_option linter.unusedVariables false
set_option linter.unusedSimpArgs false
set_option linter.unusedSectionVars false
def ShAns (w : World) (l : List Fld) (H : List UInt8) (e : Ending) (w' : World) : Prop := e = .returned (.tuple #[.string (str (shS l H)), .int .i64 (shE l H)]) ∧ Below w.heap.size w w'
theorem sh_ans {w : World} {l : List Fld} {H : List UInt8} {s : ByteArray} {c : Int} {t : List UInt8} (h : shE l H = c ∧ shS l H = t) (hs : s = str t) {w' : World} (hb : Below w.heap.size w w') : ShAns w l H (.returned (.tuple #[.string s, .int .i64 c])) w' := by
  unfold ShAns
  rw [h.1, h.2, hs]
  exact ⟨rfl, hb⟩
def b01x : ByteArray := ⟨#[48, 49, 120]⟩
theorem str_emp {s : ByteArray} (h : s.data.toList = []) : s = ⟨#[]⟩ := by rw [← str_of s, h]; rfl
theorem data_app (a b : ByteArray) : (a ++ b).data.toList = a.data.toList ++ b.data.toList := by simp
theorem join_step {l : List Fld} {H : List UInt8} {k : Nat} {s pt : ByteArray} (hk : k < l.length) (hs : s.data.toList = joinT (shT l H k)) (hc : cntN (fldB l H k) ≠ 0) (hp : partB (fldB l H k) = pt) (hz : shT l H k ≠ []) :
    (s ++ ⟨#[32, 38, 32]⟩ ++ (l[k].1 ++ ⟨#[32, 61, 32]⟩ ++ pt)).data.toList = joinT (shT l H (k + 1)) := by
  rw [item_yes hk hc, joinT_snoc, if_neg hz, hp, data_app, data_app, hs]
theorem join_first {l : List Fld} {H : List UInt8} {k : Nat} {pt : ByteArray} (hk : k < l.length) (hc : cntN (fldB l H k) ≠ 0) (hp : partB (fldB l H k) = pt) (hz : shT l H k = []) :
    (l[k].1 ++ ⟨#[32, 61, 32]⟩ ++ pt).data.toList = joinT (shT l H (k + 1)) := by
  rw [item_yes hk hc, joinT_snoc, if_pos hz, hp]
theorem join_skip {l : List Fld} {H : List UInt8} {k : Nat} {s : ByteArray} (hs : s.data.toList = joinT (shT l H k)) (hc : cntN (fldB l H k) = 0) : s.data.toList = joinT (shT l H (k + 1)) := by
  rw [item_no hc]; exact hs
set_option maxRecDepth 100000 in
set_option maxHeartbeats 16000000 in
theorem rshow_any (l : List Fld) (v : Value) (t : ByteArray) (ht : t.size ≤ maxLen) (w : World) (hv : SeesF w v l) :
    Calls Tryd.prog 36 #[v, .string t] w (ShAns w l t.data.toList) := by
  have HCK := Lib.hid (rcheck_any l v w hv)
  have HV := Lib.hid hv
  obtain ⟨a0, cap0, rfl, hcap, hcm, hx, hw⟩ := hv
  have HX := Lib.hid hx
  have HW := Lib.hid hw
  unfold maxLen at hcm ht
  obtain ⟨c1, c2, hcc⟩ : ∃ c1 c2, chk l = (c1, c2) := ⟨_, _, rfl⟩
  rw [hcc] at HCK
  have h1 : (chk l).1 = c1 := by rw [hcc]
  clear hx hw hcc
  by_cases hc : c1 = 0
  · subst hc
    have HZ := Lib.hid (chk_zero h1)
    have HC0 := Lib.hid h1
    have hz : 0 < l.length ∧ l.length ≤ 12 := ⟨HZ.out.1, HZ.out.2.1⟩
    obtain ⟨hl0, hl12⟩ := hz
    have HTL := Lib.hid (len_s t)
    have HTW := Lib.hid (fun w' (h : Below w.heap.size w w') => rwidth_any l _ w' (HV.out.below h) hl12 HZ.out.2.2)
    have HWD : Wide l := HZ.out.2.2
    have HWI := Lib.hid HWD
    have hsum := pos_int HWD (k := l.length) (Nat.le_refl _)
    have hsb := sum_bd HZ.out.2.2 l.length (Nat.le_refl _)
    rw [hsum] at HTW hsb
    have HSM := Lib.hid hsum
    clear h1 HWD hsum
    go_enter Tryd.func36, Tryd.ntmps36
    go_wp2_with fail
    refine HCK.out.mono ?_
    rintro e w1 ⟨rfl, hb1⟩
    go_wp2_with fail
    refine (HTW.out _ hb1).mono ?_
    rintro e w2 ⟨rfl, rfl⟩
    have HB2 := Lib.hid hb1
    have HOF := Lib.hid (fun w => of_any t b01x (by decide) (posN l l.length : Int) (by unfold maxLen; omega) w)
    clear hb1 HTW HCK
    go_wp2_with fail
    refine (HOF.out _).mono ?_
    rintro e w3 ⟨⟨b, rfl, hb⟩, hb3⟩
    have HB3 := Lib.hid (bnx HB2.out hb3)
    have HBI := Lib.hid hb
    clear hb hb3
    cases b with
    | true =>
      have HOK0 := Lib.hid (HBI.out.1 rfl)
      have HOK := Lib.hid (sh_ok HC0.out (show ofB dShow t.data.toList (sumTo l l.length) from by rw [HSM.out]; exact HOK0.out))
      have HPN := Lib.hid (show t.size = posN l l.length from by have := HOK0.out.1; have := HTL.out; omega)
      have HJB := Lib.hid (fun k hk => join_bd HC0.out HWI.out (H := t.data.toList) (by rw [HTL.out, HPN.out]) k hk)
      go_wp2_with fail
      go_loopw [9, 10, 11] (fun m p i wr => ∃ (k : Nat) (s : ByteArray), k ≤ l.length ∧ i = .int .i64 (k : Int) ∧ p = .int .i64 (posN l k : Int) ∧ m = .string s ∧ s.data.toList = joinT (shT l t.data.toList k) ∧ Below w.heap.size w wr) (fun _ _ i _ => l.length - (intOf i).toNat)
      case atStart => exact ⟨0, ⟨#[]⟩, Nat.zero_le _, rfl, by rw [pos_zero]; rfl, rfl, rfl, HB3.out⟩
      case round =>
        obtain ⟨k, s, hk, rfl, rfl, rfl, hsj, hbel⟩ := hrel
        have HSJ := Lib.hid hsj
        have HBEL := Lib.hid hbel
        have hssz : s.size ≤ 2760 := by have h := (HJB.out k hk).1; rw [← hsj, len_s] at h; omega
        clear hsj
        by_cases hlt : k < l.length
        · obtain ⟨g, off, rfl, hg, hq⟩ : ∃ g off, a0 = some ⟨g, off, none⟩ ∧ g < w.heap.size ∧ ∀ j f, l[j]? = some f → w.cell? ⟨g, off + j * 2, none⟩ = some (.string f.1) ∧ w.cell? ⟨g, off + (j * 2 + 1), none⟩ = some (.int .i64 f.2) := by
            rcases HX.out with h0 | h0
            · rw [h0] at hlt; simp at hlt
            · exact h0
          have q0 := (hq k l[k] (by simp [hlt])).1
          have q1 := (hq k l[k] (by simp [hlt])).2
          rw [← hbel.cell (p := ⟨g, off + k * 2, none⟩) hg] at q0
          rw [← hbel.cell (p := ⟨g, off + (k * 2 + 1), none⟩) hg] at q1
          rw [← Nat.add_assoc] at q1
          have hbk := bitsAt_get HWI.out hlt
          have hps := pos_succ HWI.out hlt
          have hpm := pos_mono HWI.out (j := k + 1) (k := l.length) (by omega) (Nat.le_refl _)
          have e1 : t.extract (posN l k) (posN l k + bitsAt l k) = str (fldB l t.data.toList k) := by rw [ext_take, Nat.add_sub_cancel_left]; rfl
          have hfl : (str (fldB l t.data.toList k)).size = bitsAt l k := by rw [str_size]; exact fldB_len HWI.out (by have := HPN.out; have := HTL.out; omega) hlt
          have HSL := Lib.hid (show (fldB l t.data.toList k).length = (str (fldB l t.data.toList k)).size from (str_size _).symm)
          have HVA := Lib.hid (fun w => rvalue_any (str (fldB l t.data.toList k)) (by omega) w)
          have HCO := Lib.hid (fun w => count_any (str (fldB l t.data.toList k)) (by omega) w)
          have hnv : numB (fldB l t.data.toList k) < 4294967296 := by
            have h := numB_bd (l := fldB l t.data.toList k) (by rw [HSL.out]; omega) (fldB l t.data.toList k).length
            rwa [List.take_length] at h
          have HNB := Lib.hid (fun w => rnumber_any (numB (fldB l t.data.toList k)) hnv w)
          have HQU := Lib.hid (fun w => rquad_any (numB (fldB l t.data.toList k)) hnv w)
          have hcl := cnt_le (fldB l t.data.toList k)
          have HDE := Lib.hid (fun w => decimal_any (cntN (fldB l t.data.toList k)) (by rw [HSL.out] at hcl; omega) w)
          have hpz := part_bd HWI.out (H := t.data.toList) (by rw [HTL.out, HPN.out]) hlt
          have HNL := Lib.hid (show (str (fldB l t.data.toList k)).data.toList = fldB l t.data.toList k from str_list _)
          rw [HNL.out] at HVA HCO
          have HPP := Lib.hid (fun hn h2 => part_p (S := fldB l t.data.toList k) hn h2)
          have HPQ := Lib.hid (fun hn h2 => part_q (S := fldB l t.data.toList k) hn h2)
          have HPN2 := Lib.hid (fun hn => part_n (S := fldB l t.data.toList k) hn)
          have HJS := Lib.hid (fun pt hc hp hz => join_step (l := l) (H := t.data.toList) (k := k) (s := s) (pt := pt) hlt HSJ.out hc hp hz)
          have HJF := Lib.hid (fun pt hc hp hz => join_first (l := l) (H := t.data.toList) (k := k) (pt := pt) hlt hc hp hz)
          have HJX := Lib.hid (join_skip (l := l) (H := t.data.toList) (k := k) HSJ.out)
          have hnz := chk_names HC0.out k hlt
          have HNE := Lib.hid (fun (hz : shT l t.data.toList k ≠ []) => emp_not (s := s) (fun h => hz ((HJB.out k hk).2.1 (by rw [← HSJ.out]; exact h))))
          have HEM := Lib.hid (fun (hz : shT l t.data.toList k = []) => str_emp (s := s) (by rw [HSJ.out, hz]; rfl))
          generalize hST : shT l t.data.toList k = ST at *
          generalize hFB : fldB l t.data.toList k = FB at *
          generalize hsg : str FB = sg at *
          generalize partB FB = PT at *
          generalize l[k].1 = nm at *
          obtain ⟨B, hB⟩ : ∃ B, bitsAt l k = B := ⟨_, rfl⟩
          obtain ⟨P, hP⟩ : ∃ P, posN l k = P := ⟨_, rfl⟩
          rw [hB] at hbk hps e1 hfl
          rw [hP] at hps e1
          have HPS := Lib.hid hps
          have hb1 : l[k].2 = (B : Int) := hbk.1.symm
          rw [hb1] at q1
          have hpt : P + B ≤ t.size := by have := HPN.out; omega
          have hts : t.size ≤ 384 := by have := HPN.out; omega
          rw [hP]
          have hsl : ∀ W : World, (Instr.slice 9 (.string t) (some (.int .i64 (P : Int))) (some (.int .i64 ((P : Int) + (B : Int)))) none).run Tryd.prog W = .ok (.string sg) W := fun W => by
            have h := run_slice_string (P := Tryd.prog) W 9 t .i64 .i64 (P : Int) ((P : Int) + (B : Int)) Tryd.underlying9 (by omega) (by omega) (by omega)
            rw [show ((P : Int)).toNat = P from by omega, show ((P : Int) + (B : Int)).toNat = P + B from by omega, e1] at h
            exact h
          have y1 : (k : Int) < (l.length : Int) := by omega
          have x0 : (0 : Int) ≤ (P : Int) := by omega
          have x1 : (P : Int) ≤ (P : Int) + (B : Int) := by omega
          have x2 : (P : Int) + (B : Int) ≤ (t.size : Int) := by omega
          have HFL := Lib.hid (show FB.length = sg.size from by rw [HSL.out])
          generalize numB FB = N at *
          generalize hCN : cntN FB = C at *
          have hcs : C ≤ sg.size := by have := HFL.out; omega
          have hsg32 : sg.size ≤ 32 := by omega
          have hs1 : ¬ 9223372036854775807 < nm.size + 3 := by omega
          clear hq hb1 hbk hps hpm hB hP hfl HNL e1 hcl HSL hsg hFB
          go_wp2_with fail
          refine (HCO.out _).mono ?_
          rintro e w5 ⟨⟨b, rfl, hbf⟩, hb5⟩
          have HBF := Lib.hid hbf
          have HB5 := Lib.hid (bnx HBEL.out hb5)
          have r0 : w5.cell? ⟨g, off + k * 2, none⟩ = some (.string nm) := by rw [hb5.cell (p := ⟨g, off + k * 2, none⟩) (Nat.lt_of_lt_of_le hg HBEL.out.size)]; exact q0
          clear hbf hb5 q0 q1 hbel
          go_wp2_with fail
          refine (HVA.out _).mono ?_
          rintro e w6 ⟨rfl, rfl⟩
          by_cases hc0 : C = 0
          · subst hc0
            have HJ2 := Lib.hid (HJX.out rfl)
            clear hCN
            go_wp2_with fail
            go_roundw
            case rel => exact ⟨k + 1, s, by omega, by go_num, by rw [HPS.out]; go_num, rfl, HJ2.out, HB5.out⟩
            case measure => simp [intOf]; omega
          · have z0 : ((C : Int) == 0) = false := by rw [beq_eq_false_iff_ne]; omega
            have HCC := Lib.hid (show C ≠ 0 from hc0)
            have HCN := Lib.hid hCN
            clear hc0 hCN HJX
            by_cases hcl : C = sg.size
            · have HP := Lib.hid (show PT = numB2 N from HPN2.out (by rw [HFL.out]; exact hcl))
              have z1 : ((C : Int) == (sg.size : Int)) = true := by rw [beq_iff_eq]; omega
              rw [HP.out] at hpz
              generalize numB2 N = pt at *
              have hs3 : ¬ 9223372036854775807 < nm.size + 3 + pt.size := by omega
              clear hcl HPQ HPP HPN2
              go_wp2_with fail
              refine (HNB.out _).mono ?_
              rintro e w7 ⟨rfl, hb7⟩
              have HB7 := Lib.hid (bnx HB5.out hb7)
              clear hb7
              by_cases hz : ST = []
              · have HJ2 := Lib.hid (HJF.out pt HCC.out HP.out hz)
                obtain rfl := HEM.out hz
                clear hz HNE HEM HJS HJF
                go_wp2_with fail
                go_roundw
                case rel => exact ⟨k + 1, _, by omega, by go_num, by rw [HPS.out]; go_num, rfl, (by have h := HJ2.out; simp only [ByteArray.append_assoc] at h ⊢; exact h), HB7.out⟩
                case measure => simp [intOf]; omega
              · have HJ2 := Lib.hid (HJS.out pt HCC.out HP.out hz)
                have hne := HNE.out hz
                have hs5 : ¬ 9223372036854775807 < s.size + 3 := by omega
                have hs6 : ¬ 9223372036854775807 < s.size + 3 + (nm.size + 3 + pt.size) := by omega
                clear hz HNE HEM HJS HJF
                go_wp2_with fail
                go_roundw
                case rel => exact ⟨k + 1, _, by omega, by go_num, by rw [HPS.out]; go_num, rfl, (by have h := HJ2.out; simp only [ByteArray.append_assoc] at h ⊢; exact h), HB7.out⟩
                case measure => simp [intOf]; omega
            · have z1 : ((C : Int) == (sg.size : Int)) = false := by rw [beq_eq_false_iff_ne]; omega
              have HCL := Lib.hid (show C ≠ FB.length from by rw [HFL.out]; exact hcl)
              clear hcl
              cases b with
              | true =>
                have HP := Lib.hid (show PT = quadB N ++ ⟨#[47]⟩ ++ ddT C from HPQ.out HCL.out (HBF.out.1 rfl))
                rw [HP.out] at hpz
                simp only [ByteArray.size_append, show (⟨#[47]⟩ : ByteArray).size = 1 from rfl] at hpz
                rw [show (str (Lib.decDigits C)) = ddT C from rfl] at HDE
                generalize quadB N = qq at *
                generalize ddT C = dd at *
                have hs3 : ¬ 9223372036854775807 < nm.size + 3 + qq.size := by omega
                have hs4 : ¬ 9223372036854775807 < nm.size + 3 + qq.size + 1 := by omega
                have hs7 : ¬ 9223372036854775807 < nm.size + 3 + qq.size + 1 + dd.size := by omega
                clear HPQ HPP HPN2
                go_wp2_with fail
                refine (HQU.out _).mono ?_
                rintro e w7 ⟨rfl, hb7⟩
                go_wp2_with fail
                refine (HDE.out _).mono ?_
                rintro e w8 ⟨rfl, hb8⟩
                have HB8 := Lib.hid (bnx (bnx HB5.out hb7) hb8)
                clear hb7 hb8
                by_cases hz : ST = []
                · have HJ2 := Lib.hid (HJF.out (qq ++ ⟨#[47]⟩ ++ dd) HCC.out HP.out hz)
                  obtain rfl := HEM.out hz
                  clear hz HNE HEM HJS HJF
                  go_wp2_with fail
                  go_roundw
                  case rel => exact ⟨k + 1, _, by omega, by go_num, by rw [HPS.out]; go_num, rfl, (by have h := HJ2.out; simp only [ByteArray.append_assoc] at h ⊢; exact h), HB8.out⟩
                  case measure => simp [intOf]; omega
                · have HJ2 := Lib.hid (HJS.out (qq ++ ⟨#[47]⟩ ++ dd) HCC.out HP.out hz)
                  have hne := HNE.out hz
                  have hs5 : ¬ 9223372036854775807 < s.size + 3 := by omega
                  have hs6 : ¬ 9223372036854775807 < s.size + 3 + (nm.size + 3 + (qq.size + 1 + dd.size)) := by omega
                  clear hz HNE HEM HJS HJF
                  go_wp2_with fail
                  go_roundw
                  case rel => exact ⟨k + 1, _, by omega, by go_num, by rw [HPS.out]; go_num, rfl, (by have h := HJ2.out; simp only [ByteArray.append_assoc] at h ⊢; exact h), HB8.out⟩
                  case measure => simp [intOf]; omega
              | false =>
                have HP := Lib.hid (show PT = ⟨#[37]⟩ ++ sg from HPP.out HCL.out (fun h => absurd (HBF.out.2 h) (by simp)))
                have hs3 : ¬ 9223372036854775807 < nm.size + 3 + 1 := by omega
                have hs4 : ¬ 9223372036854775807 < nm.size + 3 + 1 + sg.size := by omega
                clear HPQ HPP HPN2
                by_cases hz : ST = []
                · have HJ2 := Lib.hid (HJF.out (⟨#[37]⟩ ++ sg) HCC.out HP.out hz)
                  obtain rfl := HEM.out hz
                  clear hz HNE HEM HJS HJF
                  go_wp2_with fail
                  go_roundw
                  case rel => exact ⟨k + 1, _, by omega, by go_num, by rw [HPS.out]; go_num, rfl, (by have h := HJ2.out; simp only [ByteArray.append_assoc] at h ⊢; exact h), HB5.out⟩
                  case measure => simp [intOf]; omega
                · have HJ2 := Lib.hid (HJS.out (⟨#[37]⟩ ++ sg) HCC.out HP.out hz)
                  have hne := HNE.out hz
                  have hs5 : ¬ 9223372036854775807 < s.size + 3 := by omega
                  have hs6 : ¬ 9223372036854775807 < s.size + 3 + (nm.size + 3 + (1 + sg.size)) := by omega
                  clear hz HNE HEM HJS HJF
                  go_wp2_with fail
                  go_roundw
                  case rel => exact ⟨k + 1, _, by omega, by go_num, by rw [HPS.out]; go_num, rfl, (by have h := HJ2.out; simp only [ByteArray.append_assoc] at h ⊢; exact h), HB5.out⟩
                  case measure => simp [intOf]; omega
        · have hkl : k = l.length := by omega
          subst hkl
          have HBE := Lib.hid ((HJB.out _ (Nat.le_refl _)).2)
          by_cases hz : shT l t.data.toList l.length = []
          · have h2 := HOK.out
            rw [if_pos hz] at h2
            have HA := Lib.hid h2
            obtain rfl := str_emp (s := s) (by rw [HSJ.out, hz]; rfl)
            clear h2 hz
            go_wp2_with fail
            refine bodyPost_ret (v := .tuple #[.string ⟨#[97, 110, 121]⟩, .int .i64 0]) (by simp [results, Tryd.results36, go_sem]) rfl (sh_ans HA.out rfl HBEL.out)
          · have h2 := HOK.out
            rw [if_neg hz] at h2
            have HA := Lib.hid h2
            have hne := emp_not (s := s) (fun h => hz (HBE.out.1 (by rw [← HSJ.out]; exact h)))
            clear h2 hz
            go_wp2_with fail
            refine bodyPost_ret (v := .tuple #[.string s, .int .i64 0]) (by simp [results, Tryd.results36, go_sem]) rfl (sh_ans HA.out (by rw [← HSJ.out, str_of]) HBEL.out)
    | false =>
      have HBD := Lib.hid (sh_bad (H := t.data.toList) HC0.out (fun h => by rw [HSM.out] at h; exact absurd (HBI.out.2 h) (by simp)))
      go_wp2_with fail
      refine bodyPost_ret (v := .tuple #[.string ⟨#[]⟩, .int .i64 46]) (by simp [results, Tryd.results36, go_sem]) rfl (sh_ans HBD.out rfl HB3.out)
  · have hne : (c1 != 0) = true := by simpa using hc
    have HA := Lib.hid (sh_chk (H := t.data.toList) h1 hc)
    clear hc h1
    go_enter Tryd.func36, Tryd.ntmps36
    go_wp2_with fail
    refine HCK.out.mono ?_
    rintro e w1 ⟨rfl, hb1⟩
    go_wp2_with fail
    refine bodyPost_ret (v := .tuple #[.string ⟨#[]⟩, .int .i64 c1]) (by simp [results, Tryd.results36, go_sem]) rfl (sh_ans HA.out rfl hb1)
end Go.Proofs.YtaleaicfllcpiaaDoor.Fl
