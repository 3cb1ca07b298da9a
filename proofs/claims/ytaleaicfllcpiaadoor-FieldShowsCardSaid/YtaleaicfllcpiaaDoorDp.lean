/- The program's Show. -/
import Derived.Test.YtaleaicfllcpiaaDoorDk
import Derived.Test.YtaleaicfllcpiaaDoorUx
import Derived.Deep.DeepCutAuto
import Derived.StillTailTactics
import Derived.Deep.RegionHeld3
import Derived.Deep.AppendLies
namespace Go.Proofs.YtaleaicfllcpiaaDoor.Fl
open Go.RowKit Mm Law
set_option linter.unusedVariables false
set_option linter.unusedSimpArgs false
set_option linter.unusedSectionVars false
set_option maxRecDepth 100000 in
theorem step_app_str {B : Nat} {v : Value} {m : Nat} {L : List (List UInt8)} {w : World} {s0 : ByteArray} {ops : Array Oper} {o : Oper} {a : Act} {K : Act → World → Prop} {Q : Exit → Act → World → Prop} {E : Prop} (s x : Operand)
    (hown : w.ownsRow B 9 1 v m (sC L)) (hgd : o.guard = none) (ho : o.op = .call { callee := .builtin .append, args := #[s, x], argTypes := #[53, 53] })
    (hs : a.eval s = v) (hx : a.eval x = .slice (some ⟨w.heap.size, 0, none⟩) 1 1) (hn : (m + 1) * 16 ≤ 140737488355328) (hB : B ≤ w.heap.size)
    (h : ∀ v' w', w'.ownsRow B 9 1 v' (m + 1) (sC (L ++ [s0.data.toList])) → Below B w w' → w.grownBy w' v.ownBlock → K (a.put o.dst v') w') :
    if Region.wanted o (yielded ops a.tmps) = true then Oper.wp Tryd.prog o a (w.alloc (.cells #[.string s0] 9)) K Q else E := by
  obtain ⟨i0, hi, hz0, hz1, hz2⟩ := info_parts info_str
  have hown2 : (w.alloc (.cells #[.string s0] 9)).ownsRow B 9 1 v m (sC L) := hown.alloc _
  refine step_append_lies _ hgd s x 53 ho B 9 i0 _ 1 16 Tryd.underlying53 hi hz0 hz1 hz2 rfl (by decide) v m _ hs hown2 ⟨w.heap.size, 0, none⟩ 1 1 [.string s0] hx rfl (cells_new w #[.string s0] _)
    (by simp [Value.oneCell']) (by decide) (by simp only [maxLen]; omega) (by omega) (by simp; omega) _ rfl ?_
  intro g cap w1 hown' hg _ _
  have h1 : Below B w (w.alloc (.cells #[.string s0] 9)) := (Below.refl _ _).alloc hB _
  refine h _ w1 (by have e : sC (L ++ [s0.data.toList]) = sC L ++ [.string s0] := by simp [sC, str_of]
                    rw [e]; exact hown') (h1.grown hg (by simp; omega) (fun k hk => (hown.lt k hk).1)) ?_
  exact ⟨hg.os, hg.tape, hg.output, Nat.le_trans (by simp) hg.size, fun k hk hne => (hg.block k (by simp; omega) hne).trans (Below.heap_alloc w _ k hk)⟩
set_option maxRecDepth 100000 in
set_option maxHeartbeats 8000000 in
theorem show_all (l : List Fld) (v : Value) (t : ByteArray) (ht : t.size ≤ maxLen) (w : World) (hv : SeesF w v l) (htb : Tab w) :
    Calls Tryd.prog 37 #[v, .string t] w (ShAns w l t.data.toList) := by
  have HTB := Lib.hid htb
  clear htb
  have HCK := Lib.hid (check_any l v w hv)
  have HV := Lib.hid hv
  obtain ⟨a0, cap0, rfl, hcap, hcm, hx, hw⟩ := hv
  have HX := Lib.hid hx
  have HW := Lib.hid hw
  unfold maxLen at hcm ht
  obtain ⟨c1, c2, hcc⟩ : ∃ c1 c2, chk l = (c1, c2) := ⟨_, _, rfl⟩
  rw [hcc] at HCK
  have h1 : (chk l).1 = c1 := by rw [hcc]
  clear hx hw hcc
  by_cases hc : c1 = 0
  · subst hc
    have HZ := Lib.hid (chk_zero h1)
    have HC0 := Lib.hid h1
    have hz : 0 < l.length ∧ l.length ≤ 12 := ⟨HZ.out.1, HZ.out.2.1⟩
    obtain ⟨hl0, hl12⟩ := hz
    have HTL := Lib.hid (len_s t)
    have HTW := Lib.hid (fun w' (h : Below w.heap.size w w') => width_any l _ w' (HV.out.below h) hl12 HZ.out.2.2)
    have HWD : Wide l := HZ.out.2.2
    have HWI := Lib.hid HWD
    have hsum := pos_int HWD (k := l.length) (Nat.le_refl _)
    have hsb := sum_bd HZ.out.2.2 l.length (Nat.le_refl _)
    rw [hsum] at HTW hsb
    have HSM := Lib.hid hsum
    clear h1 HWD hsum
    go_enter Tryd.func37, Tryd.ntmps37
    go_wp2_with fail
    refine HCK.out.mono ?_
    rintro e w1 ⟨rfl, hb1⟩
    go_wp2_with fail
    refine (HTW.out _ hb1).mono ?_
    rintro e w2 ⟨rfl, hb2⟩
    have HB2 := Lib.hid (bnx hb1 hb2)
    clear hb1 hb2 HTW HCK
    by_cases hpn : t.size = posN l l.length
    · have hne : ((t.size : Int) != (posN l l.length : Int)) = false := by rw [hpn]; simp
      have HPN := Lib.hid hpn
      have HTR := Lib.hid (fun w => trim_any t b01x w (by omega) (by decide) (Go.Proofs.ascii_of_all (by decide)))
      clear hpn
      by_cases hd : ∀ b ∈ t.data.toList, b ∈ dShow
      · have HD := Lib.hid hd
        have HTR2 := HTR.out
        rw [(trims_nil t.data.toList b01x.data.toList).2 hd] at HTR2
        have HT2 := Lib.hid HTR2
        have HOK := Lib.hid (sh_ok HC0.out (show ofB dShow t.data.toList (sumTo l l.length) from ⟨by have := HSM.out; have := HPN.out; have := HTL.out; omega, hd⟩))
        clear HTR HTR2 hd
        go_wp2_with fail
        refine (HT2.out _).mono ?_
        rintro e w3 ⟨rfl, hb3⟩
        have HB3 := Lib.hid (bnx HB2.out hb3)
        clear hb3
        go_wp2_with fail
        go_loopw [1, 8, 32] (fun h m i wr => ∃ (k : Nat) (s : ByteArray), k ≤ l.length ∧ i = .int .i64 (k : Int) ∧ h = .string s ∧ s.data.toList = t.data.toList.drop (posN l k) ∧ wr.ownsRow w.heap.size 9 1 m (shT l t.data.toList k).length (sC ((shT l t.data.toList k).map (·.data.toList))) ∧ Below w.heap.size w wr) (fun _ _ i _ => l.length - (intOf i).toNat)
        case atStart => exact ⟨0, t, Nat.zero_le _, rfl, rfl, by rw [pos_zero, List.drop_zero], World.ownsRow_nil _ _ _ _, HB3.out⟩
        case round =>
          obtain ⟨k, s, hk, rfl, rfl, hsd, hown, hbel⟩ := hrel
          have HSD := Lib.hid hsd
          have HOW := Lib.hid hown
          clear hsd hown
          by_cases hlt : k < l.length
          · obtain ⟨g, off, rfl, hg, hq⟩ : ∃ g off, a0 = some ⟨g, off, none⟩ ∧ g < w.heap.size ∧ ∀ j f, l[j]? = some f → w.cell? ⟨g, off + j * 2, none⟩ = some (.string f.1) ∧ w.cell? ⟨g, off + (j * 2 + 1), none⟩ = some (.int .i64 f.2) := by
              rcases HX.out with h0 | h0
              · rw [h0] at hlt; simp at hlt
              · exact h0
            have q0 := (hq k l[k] (by simp [hlt])).1
            have q1 := (hq k l[k] (by simp [hlt])).2
            rw [← hbel.cell (p := ⟨g, off + k * 2, none⟩) hg] at q0
            rw [← hbel.cell (p := ⟨g, off + (k * 2 + 1), none⟩) hg] at q1
            rw [← Nat.add_assoc] at q1
            have hbk := bitsAt_get HWI.out hlt
            have hps := pos_succ HWI.out hlt
            have hpm := pos_mono HWI.out (j := k + 1) (k := l.length) (by omega) (Nat.le_refl _)
            have hss : s.size = t.size - posN l k := by rw [← len_s, HSD.out, List.length_drop, HTL.out]
            have hsz : bitsAt l k ≤ s.size := by have := HPN.out; omega
            have e1 : s.extract 0 (bitsAt l k) = str (fldB l t.data.toList k) := by rw [ext_take, HSD.out]; rfl
            have e2 : s.extract (bitsAt l k) s.size = str (t.data.toList.drop (posN l (k + 1))) := by
              rw [ext_take, HSD.out, List.drop_drop, ← hps, List.take_of_length_le]
              rw [List.length_drop, HTL.out]
              omega
            have hfl : (str (fldB l t.data.toList k)).size = bitsAt l k := by rw [str_size]; exact fldB_len HWI.out (by have := HPN.out; have := HTL.out; omega) hlt
            have HSH := Lib.hid (fun w' (h : Below w.heap.size w w') => show_any (str (fldB l t.data.toList k)) (by omega) w' (tab_below HTB.out h))
            have HTX := Lib.hid (fun w => trim_any (str (fldB l t.data.toList k)) ⟨#[120]⟩ w (by omega) (by decide) (Go.Proofs.ascii_of_all (by decide)))
            rw [str_list] at HSH HTX
            have HS2 := Lib.hid (str_list (t.data.toList.drop (posN l (k + 1))))
            generalize str (t.data.toList.drop (posN l (k + 1))) = s2 at *
            generalize str (fldB l t.data.toList k) = sg at *
            obtain ⟨B, hB⟩ : ∃ B, bitsAt l k = B := ⟨_, rfl⟩
            rw [hB] at hbk hsz e1 e2
            have hb1 : l[k].2 = (B : Int) := hbk.1.symm
            rw [hb1] at q1
            have x0 : (0 : Int) ≤ (B : Int) := by omega
            have x1 : (B : Int) ≤ (s.size : Int) := by omega
            have y1 : (k : Int) < (l.length : Int) := by omega
            clear hq hb1 hbk hps hpm hss hsz hfl hB
            go_upto_region 10 with fail
            generalize hW : World.alloc wr _ = W
            have hB : Blk W wr.heap.size 27 #[.string l[k].1, .int .i64 (B : Int)] := by rw [← hW]; exact Blk.new _ _ _
            have hbW : Below wr.heap.size wr W := by rw [← hW]; go_grown
            have hcB := hB.cell 1
            have HBK := Lib.hid hB
            have HB4 := Lib.hid (bnx hbel hbW)
            have HOW4 := Lib.hid (own_below HOW.out hbW (Nat.le_refl _))
            clear hW q0 q1 hB hbW hbel
            go_wp2_with fail
            refine (HTX.out _).mono ?_
            rintro e w5 ⟨rfl, hb5⟩
            have HB5 := Lib.hid (bnx HB4.out hb5)
            have HOW5 := Lib.hid (own_below HOW4.out hb5 (Nat.le_refl _))
            have HBK5 := Lib.hid (HBK.out.below hb5 HBK.out.lt)
            clear hb5 hcB
            by_cases hz : cntN (fldB l t.data.toList k) = 0
            · have HI := Lib.hid (item_no (l := l) (H := t.data.toList) (k := k) hz)
              have htr := (trims_nil (fldB l t.data.toList k) [120]).2 ((cnt_zero _).1 hz)
              have hem : (⟨(Lib.trimS (fldB l t.data.toList k) (⟨#[120]⟩ : ByteArray).data.toList).toArray⟩ : ByteArray) = .empty := by
                rw [show (⟨#[120]⟩ : ByteArray).data.toList = [120] from rfl, htr]
                rfl
              rw [hem]
              clear hem htr hz
              go_wp2_with fail
              go_roundw
              case rel => exact ⟨k + 1, s2, by omega, by go_num, rfl, HS2.out, by rw [HI.out]; exact HOW5.out, HB5.out⟩
              case measure => simp [intOf]; omega
            · have HI := Lib.hid (item_yes (l := l) (H := t.data.toList) hlt hz)
              have htr : Lib.trimS (fldB l t.data.toList k) (⟨#[120]⟩ : ByteArray).data.toList ≠ [] := fun h => hz ((cnt_zero _).2 ((trims_nil (fldB l t.data.toList k) [120]).1 h))
              have hne2 : (⟨(Lib.trimS (fldB l t.data.toList k) (⟨#[120]⟩ : ByteArray).data.toList).toArray⟩ : ByteArray).toList.isEmpty = false := emp_not (by simpa using htr)
              generalize (⟨(Lib.trimS (fldB l t.data.toList k) (⟨#[120]⟩ : ByteArray).data.toList).toArray⟩ : ByteArray) = tr at *
              clear htr hz
              have hnm := chk_names HC0.out k hlt
              have hfl2 := fldB_len HWI.out (H := t.data.toList) (by have := HPN.out; have := HTL.out; omega) hlt
              have hb32 := (bitsAt_get HWI.out hlt).2.2
              have hps := part_size (S := fldB l t.data.toList k) (by omega) (by have h := numB_bd (l := fldB l t.data.toList k) (by omega) (fldB l t.data.toList k).length; rwa [List.take_length] at h)
              generalize partB (fldB l t.data.toList k) = pt at *
              generalize l[k].1 = nm at *
              have hs1 : ¬ 9223372036854775807 < nm.size + 3 := by omega
              have hs2 : ¬ 9223372036854775807 < nm.size + 3 + pt.size := by omega
              have HNE := Lib.hid (row_ne HOW.out)
              have hll : (shT l t.data.toList k).length ≤ 13 := by have := shT_len l t.data.toList k; omega
              have hK0 : w5.drew.cell? ⟨wr.heap.size, 0, none⟩ = some (.string nm) ∧ Below w.heap.size w w5.drew := ⟨HBK5.out.cell 0, HB5.out.drew⟩
              clear hnm hfl2 hb32 hps
              go_upto_region 13 with fail
              go_region_held3 (fun w' => w'.cell? ⟨wr.heap.size, 0, none⟩ = some (.string nm) ∧ Below w.heap.size w w')
                (with_reducible (first | assumption | exact hK0 | exact hK2 | exact hK3 | exact hK4))
                (first | (go_at_call 67; refine (HSH.out _ HB5.out.drew).mono ?_; rintro e w9 ⟨rfl, hb9⟩; have hb9' : Below w5.heap.size w5 w9 := ((Below.refl w5.heap.size w5).drew).trans (show Below w5.heap.size w5.drew w9 from hb9); have hK2 : w9.cell? ⟨wr.heap.size, 0, none⟩ = some (.string nm) ∧ Below w.heap.size w w9 := ⟨(HBK5.out.below hb9' HBK5.out.lt).cell 0, bnx HB5.out hb9'⟩; have hK3 : (w9.alloc (.cells #[.string (nm ++ ⟨#[32, 61, 32]⟩ ++ pt)] 9)).cell? ⟨wr.heap.size, 0, none⟩ = some (.string nm) ∧ Below w.heap.size w (w9.alloc (.cells #[.string (nm ++ ⟨#[32, 61, 32]⟩ ++ pt)] 9)) := ⟨((HBK5.out.below hb9' HBK5.out.lt).alloc _).cell 0, bal (bnx HB5.out hb9') _⟩) | (refine step_app_str (s0 := nm ++ ⟨#[32, 61, 32]⟩ ++ pt) (.tmp 47) (.tmp 54) (own_below HOW5.out hb9' (Nat.le_refl _)) ?gd ?gc ?gs ?gx (by omega) (bnx HB5.out hb9').size ?_; (case gd => rfl); (case gc => rfl); (case gs => rfl); (case gx => rfl); intro v1 w6 hown6 hb6 hgr6; have hK4 : w6.cell? ⟨wr.heap.size, 0, none⟩ = some (.string nm) ∧ Below w.heap.size w w6 := ⟨((HBK5.out.below hb9' HBK5.out.lt).grown hgr6 (fun e => HNE.out e.symm)).cell 0, (bnx HB5.out hb9').trans hb6⟩) | fail)
              go_wp2_with fail
              go_roundw
              case rel => exact ⟨k + 1, s2, by omega, by go_num, rfl, HS2.out, by rw [HI.out, List.length_append, List.map_append]; exact hown6, hK4.2⟩
              case measure => simp [intOf]; omega
          · have hkl : k = l.length := by omega
            have HO := Lib.hid (show wr.ownsRow w.heap.size 9 1 u8 (shT l t.data.toList l.length).length (sC ((shT l t.data.toList l.length).map (·.data.toList))) from by have := HOW.out; rw [hkl] at this; exact this)
            clear hkl
            have HJB := Lib.hid ((join_bd HC0.out HWI.out (H := t.data.toList) (by rw [HTL.out, HPN.out]) l.length (Nat.le_refl _)).1)
            by_cases hz : shT l t.data.toList l.length = []
            · have h2 := HOK.out
              rw [if_pos hz] at h2
              have HA := Lib.hid h2
              have ho := HO.out
              rw [hz] at ho
              obtain ⟨au, cu, rfl⟩ := own_len ho
              clear h2 hz ho HOW HO
              go_wp2_with fail
              refine bodyPost_ret (v := .tuple #[.string ⟨#[97, 110, 121]⟩, .int .i64 0]) (by simp [results, Tryd.results37, go_sem]) rfl (sh_ans HA.out rfl hbel)
            · have h2 := HOK.out
              rw [if_neg hz] at h2
              have HA := Lib.hid h2
              have hpos := List.length_pos_iff.2 hz
              have hll : (shT l t.data.toList l.length).length ≤ 12 := by have := shT_len l t.data.toList l.length; omega
              have hss := SeesS.of_own HO.out
              obtain ⟨au, cu, rfl, hcu, _⟩ := hss.form
              obtain ⟨_, g2, o2, rfl, hg2, hq2⟩ := hss.at hpos
              have HJ := Lib.hid (Tryd.strings_Join g2 o2 cu (shT l t.data.toList l.length) ⟨#[32, 38, 32]⟩ wr (fun j x hj => hq2 j _ (by rw [sC, List.map_map, List.getElem?_map, hj]; rfl)) hg2 (by omega) hcu (by have := HJB.out; unfold joinT at this; exact Nat.le_trans this (by omega)))
              generalize hn : (shT l t.data.toList l.length).length = n at *
              have hn0 : ¬ n = 0 := by omega
              have HN := Lib.hid hn
              clear h2 hz hss hq2 HOW HO hn
              go_wp2_with fail
              refine HJ.out.mono ?_
              rintro e w9 ⟨rfl, hb9⟩
              go_wp2_with fail
              refine bodyPost_ret (v := .tuple #[.string (str (joinT (shT l t.data.toList l.length))), .int .i64 0]) (by simp [results, Tryd.results37, go_sem, joinT, str]) rfl (sh_ans HA.out rfl (bnx hbel hb9))
      · have HBD := Lib.hid (sh_bad HC0.out (show ¬ ofB dShow t.data.toList (sumTo l l.length) from fun h => hd h.2))
        have htr : Lib.trimS t.data.toList b01x.data.toList ≠ [] := fun h => hd ((trims_nil t.data.toList b01x.data.toList).1 h)
        have hne2 : (⟨(Lib.trimS t.data.toList b01x.data.toList).toArray⟩ : ByteArray).toList.isEmpty = false := emp_not (by simpa using htr)
        generalize (⟨(Lib.trimS t.data.toList b01x.data.toList).toArray⟩ : ByteArray) = tr at *
        clear hd htr
        go_wp2_with fail
        refine (HTR.out _).mono ?_
        rintro e w3 ⟨rfl, hb3⟩
        go_wp2_with fail
        refine bodyPost_ret (v := .tuple #[.string ⟨#[]⟩, .int .i64 46]) (by simp [results, Tryd.results37, go_sem]) rfl (sh_ans HBD.out rfl (bnx HB2.out hb3))
    · have hne : ((t.size : Int) != (posN l l.length : Int)) = true := by rw [bne_iff_ne]; omega
      have HBD := Lib.hid (sh_bad (H := t.data.toList) HC0.out (fun h => by have := h.1; have := HSM.out; have := HTL.out; omega))
      clear hpn
      go_wp2_with fail
      refine bodyPost_ret (v := .tuple #[.string ⟨#[]⟩, .int .i64 46]) (by simp [results, Tryd.results37, go_sem]) rfl (sh_ans HBD.out rfl HB2.out)
  · have hne : (c1 != 0) = true := by simpa using hc
    have HA := Lib.hid (sh_chk (H := t.data.toList) h1 hc)
    clear hc h1
    go_enter Tryd.func37, Tryd.ntmps37
    go_wp2_with fail
    refine HCK.out.mono ?_
    rintro e w1 ⟨rfl, hb1⟩
    go_wp2_with fail
    refine bodyPost_ret (v := .tuple #[.string ⟨#[]⟩, .int .i64 c1]) (by simp [results, Tryd.results37, go_sem]) rfl (sh_ans HA.out rfl hb1)
end Go.Proofs.YtaleaicfllcpiaaDoor.Fl
