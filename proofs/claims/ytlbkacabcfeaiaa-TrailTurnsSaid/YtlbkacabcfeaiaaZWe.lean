/- Patterns: the program writes choices. Printed by mkwr.py. -/
import Derived.Test.YtlbkacabcfeaiaaZWd
namespace Go.Proofs.Ytlbkacabcfeaiaa.Tl
open Go.RowKit Mm
set_option linter.unusedVariables false
set_option maxRecDepth 100000 in
set_option maxHeartbeats 8000000 in
theorem choice_write {l : List T} (hall : ∀ t ∈ l, WrC t) (hb : bdL l ≤ 90000) (w : World) (S : Nat → Prop) (u : Value) (vs : List Value) (hf : Fz w 57 1 u l.length vs) (hA : AllT w S vs l) :
    Calls Try.prog 86 #[u] w fun e w' => e = .returned (.string (str (txt (.alt l)))) ∧ Below w.heap.size w w' := by
  obtain ⟨a0, cap, rfl, hcap, hcm⟩ := hf.form
  unfold maxLen at hcm
  have HC := Lib.hid (fun h : 0 < l.length => Fz.cells hf h)
  have HA := Lib.hid hA
  have HW := Lib.hid hall
  have hlen := bdL_len l
  have htl : (txtA l).length = l.length := by rw [txtA_map, List.length_map]
  have HT := Lib.hid (show ∀ k (h : k < l.length), txtA (l.take (k + 1)) = txtA (l.take k) ++ [orUnit (txt l[k])] from fun k h => by
    rw [txtA_map, txtA_map, List.take_succ_eq_append_getElem h, List.map_append]
    rfl)
  have HK := Lib.hid (show ∀ k, k ≤ l.length → (txtA (l.take k)).length = k from fun k h => by rw [txtA_map, List.length_map, List.length_take]; omega)
  have hjl : (Lib.join (txtA l) [32, 124, 32]).length + 6 ≤ bd (.alt l) := by have := txt_bd (.alt l); rw [txt] at this; exact this
  have hbd : bd (.alt l) = bdL l + 8 := rfl
  have HJ := Lib.hid (show txt (.alt l) = Lib.join (txtA l) [32, 124, 32] from by rw [txt])
  clear hf hA hall
  go_enter Try.func86, Try.ntmps86
  go_wp2_with fail
  go_loopw [3, 9] (fun s i wr => ∃ k : Nat, k ≤ l.length ∧ i = .int .i64 (k : Int) ∧ Ws w s (txtA (l.take k)) wr) (fun _ i _ => l.length - (intOf i).toNat)
  case atStart => exact ⟨0, Nat.zero_le _, rfl, Ws.start w⟩
  case round =>
    obtain ⟨k, hk, rfl, hws⟩ := hrel
    have HF := Lib.hid hws
    have hkl := HK.out k hk
    by_cases hlt : k < l.length
    · obtain ⟨g, rfl, hg, hc⟩ := HC.out (by omega)
      obtain ⟨v, hv, ht⟩ := HA.out.at hlt
      have q := hc k v hv
      have q0 : wr.cell? ⟨g, k, none⟩ = some v := (Below.cell hws.bel (p := ⟨g, k, none⟩) hg).trans q
      have HS := Lib.hid (HT.out k hlt)
      have hwt := HW.out _ (List.getElem_mem hlt)
      have hbt := bdL_mem (List.getElem_mem hlt)
      have ht2 := ht.keep (w' := wr) (fun _ h => h) (fun g _ hg => hws.bel.block g hg)
      clear hws hc hv q ht
      generalize l[k] = t at *
      obtain ⟨ty, pay, rfl⟩ := ht2.form
      have HX := Lib.hid (hwt wr S ty pay ht2)
      have HBr := Lib.hid (fun (X : World) (h : IsT X S (.iface ty pay) t) => bracketed_any hwt (by omega) X S _ h)
      have HI := Lib.hid ht2
      have HE := Lib.hid (show str (txt t) = ⟨#[]⟩ → orUnit (txt t) = brk true (txt t) from fun h => by
        have h2 : txt t = [] := by have h3 := congrArg (fun b : ByteArray => b.data.toList) h; exact h3
        unfold orUnit
        rw [h2]
        rfl)
      have HE2 := Lib.hid (show ¬ str (txt t) = ⟨#[]⟩ → orUnit (txt t) = txt t from fun h => by
        unfold orUnit
        rw [if_neg]
        intro h2
        exact h (by rw [h2]; rfl))
      have hzs := str_size (txt t)
      generalize hzz : str (txt t) = z at HX HE HE2 hzs
      have HZ := Lib.hid hzz.symm
      clear hzz
      generalize hsb : str (brk true (txt t)) = zb at HBr
      have HSB := Lib.hid hsb
      clear hsb
      by_cases hz0 : z = ⟨#[]⟩
      · have HO := Lib.hid (HE.out hz0)
        subst hz0
        cases ht2
        all_goals
          go_wp2_with fail
          refine HX.out.mono ?_
          rintro e w3 ⟨rfl, hb3⟩
          have HF2a := Lib.hid (HF.out.below hb3)
          have HI2 := Lib.hid (HI.out.keep (w' := w3) (fun _ h => h) (fun g _ hg => hb3.block g hg))
          clear hb3
          go_wp2_with fail
          refine (HBr.out _ HI2.out).mono ?_
          rintro e w4 ⟨rfl, hb4⟩
          have HF2 := Lib.hid (HF2a.out.below hb4)
          clear hb4
          go_wp2_with first | refine Ws.push HSB.out.symm HF2.out (by omega) rfl rfl rfl rfl (fun v' w' HF3 => ?_) | fail
          rename_i HF3
          have HF4 := Lib.hid HF3
          clear HF3
          go_wp2_with fail
          go_roundw
          case rel => exact ⟨k + 1, by omega, by go_num, by rw [HS.out, HO.out]; exact HF4.out⟩
          case measure => simp [intOf]; omega
      · have HO := Lib.hid (HE2.out hz0)
        have hNE : ¬ z.toList = [] := by
          rw [ByteArray.toList_eq]
          intro h
          exact hz0 (ByteArray.ext (Array.toList_inj.1 h))
        have hEm : z.toList.isEmpty = false := by
          cases h : z.toList with
          | nil => exact absurd h hNE
          | cons a b => rfl
        clear hzs hNE hz0 HE HE2
        cases ht2
        all_goals
          go_wp2_with fail
          refine HX.out.mono ?_
          rintro e w3 ⟨rfl, hb3⟩
          have HF2 := Lib.hid (HF.out.below hb3)
          clear hb3
          go_wp2_with first | refine Ws.push HZ.out HF2.out (by omega) rfl rfl rfl rfl (fun v' w' HF3 => ?_) | fail
          rename_i HF3
          have HF4 := Lib.hid HF3
          clear HF3
          go_wp2_with fail
          go_roundw
          case rel => exact ⟨k + 1, by omega, by go_num, by rw [HS.out, HO.out]; exact HF4.out⟩
          case measure => simp [intOf]; omega
    · obtain rfl : k = l.length := by omega
      rw [List.take_length] at HF
      clear hws
      obtain ⟨a1, c1, rfl⟩ := HF.out.len
      have HJn := Lib.hid (HF.out.join [32, 124, 32] (by omega) (by omega))
      clear htl hjl hbd hkl HK HT HF
      generalize txtA l = L at *
      go_wp2_with fail
      refine HJn.out.mono ?_
      rintro e w' ⟨rfl, hb2⟩
      have HB := Lib.hid hb2
      clear hb2
      go_wp2_with fail
      go_ret
      exact ⟨by rw [HJ.out]; rfl, HB.out⟩
end Go.Proofs.Ytlbkacabcfeaiaa.Tl
