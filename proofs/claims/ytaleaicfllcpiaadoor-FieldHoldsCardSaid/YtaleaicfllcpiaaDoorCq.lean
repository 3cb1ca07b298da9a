/- The document's Check: what it answers. -/
import Derived.Test.YtaleaicfllcpiaaDoorCm
namespace Go.Proofs.YtaleaicfllcpiaaDoor.Fl
open Go.RowKit Mm Law
set_option linter.unusedVariables false
set_option linter.unusedSimpArgs false
set_option linter.unusedSectionVars false
set_option maxRecDepth 100000 in
set_option maxHeartbeats 4000000 in
theorem rcheck_main (l : List Fld) (v : Value) (w : World) (hv : SeesF w v l) (h0 : 0 < l.length) (h12 : l.length ≤ 12) :
    Calls Tryd.prog 46 #[v] w (Ans w (chkFrom l 0)) := by
  have HV := Lib.hid hv
  obtain ⟨a0, cap0, rfl, hcap, hcm, hx, hw⟩ := hv
  have HX := Lib.hid hx
  have HW := Lib.hid hw
  unfold maxLen at hcm
  clear hx hw
  have hz0 : ((l.length : Int) == 0) = false := by rw [beq_eq_false_iff_ne]; omega
  have hz1 : decide ((12 : Int) < (l.length : Int)) = false := by rw [decide_eq_false_iff_not]; omega
  go_enter Tryd.func46, Tryd.ntmps46
  go_wp2
  go_loopw [4, 5] (fun s i wr => ∃ k : Nat, k ≤ l.length ∧ i = .int .i64 k ∧ s = .int .i64 (sumTo l k) ∧ 0 ≤ sumTo l k ∧ sumTo l k ≤ 256 ∧ Below w.heap.size w wr ∧ chkFrom l k = chkFrom l 0) (fun _ i _ => l.length - (intOf i).toNat)
  case atStart => exact ⟨0, Nat.zero_le _, rfl, by rw [sumTo_zero], by rw [sumTo_zero]; omega, by rw [sumTo_zero]; omega, Below.refl _ _, rfl⟩
  case round =>
    obtain ⟨k, hk, rfl, rfl, hs0, hs1, hbel, hch⟩ := hrel
    obtain ⟨wo, rfl⟩ : ∃ wo : World, wo = wr := ⟨_, rfl⟩
    have HC := Lib.hid hch
    clear hch
    by_cases hlt : k < l.length
    · obtain ⟨g, off, rfl, hg, hq⟩ : ∃ g off, a0 = some ⟨g, off, none⟩ ∧ g < w.heap.size ∧ ∀ j f, l[j]? = some f → w.cell? ⟨g, off + j * 2, none⟩ = some (.string f.1) ∧ w.cell? ⟨g, off + (j * 2 + 1), none⟩ = some (.int .i64 f.2) := by
        rcases HX.out with h0 | h0
        · rw [h0] at hlt; simp at hlt
        · exact h0
      have q0 := (hq k l[k] (by simp [hlt])).1
      have q1 := (hq k l[k] (by simp [hlt])).2
      rw [← hbel.cell (p := ⟨g, off + k * 2, none⟩) hg] at q0
      rw [← hbel.cell (p := ⟨g, off + (k * 2 + 1), none⟩) hg] at q1
      rw [← Nat.add_assoc] at q1
      have HM := HW.out l[k] (List.getElem_mem hlt)
      have HSS := Lib.hid (sumTo_succ hlt)
      have HBD := Lib.hid (fun (h : badAt l k l[k]) => chkFrom_bad hlt h)
      have HOK := Lib.hid (fun (h : ¬ badAt l k l[k]) => chkFrom_ok hlt h)
      have HQ := Lib.hid hq
      clear hq
      generalize l[k] = f at *
      obtain ⟨s, b⟩ := f
      simp only at q0 q1 HM
      obtain ⟨hsz, hbw⟩ := HM
      have hbd : -9223372036854775808 ≤ b ∧ b ≤ 9223372036854775807 := by
        have := hbw
        simp [Lit.wf, IntKind.min, IntKind.max, IntKind.bits, IntKind.signed] at this
        omega
      obtain ⟨hb0, hb1⟩ := hbd
      clear hbw
      by_cases hname : nameOk s
      · have HN := Lib.hid (fun w => show Calls Tryd.prog 78 #[.string s] w (fun e w' => e = .returned (.bool true) ∧ w = w') from by rw [← decide_eq_true hname]; exact (rname_any s w hsz).mono fun _ _ ⟨h1, h2⟩ => ⟨h1, h2.symm⟩)
        have HNO := Lib.hid hname
        clear hname
        by_cases hany : s = anyS
        · have HB := Lib.hid (show badAt l k (s, b) from .inr (.inl hany))
          have hqa := any_eq hany
          clear hany
          go_wp2_with (go_at_call 78; refine (HN.out _).mono ?_; rintro e w' ⟨rfl, rfl⟩)
          refine bodyPost_ret (v := .tuple #[.int .i64 40, .int .i64 (k : Int)]) (by simp [results, Tryd.results46, go_sem]) rfl ⟨by rw [← HC.out, HBD.out HB.out], bal hbel _⟩
        · have HNA := Lib.hid hany
          have hqa := any_ne hany
          clear hany
          by_cases hnone : s = noneS
          · have HB := Lib.hid (show badAt l k (s, b) from .inr (.inr (.inl hnone)))
            have hqn := none_eq hnone
            clear hnone
            go_wp2_with (go_at_call 78; refine (HN.out _).mono ?_; rintro e w' ⟨rfl, rfl⟩)
            refine bodyPost_ret (v := .tuple #[.int .i64 40, .int .i64 (k : Int)]) (by simp [results, Tryd.results46, go_sem]) rfl ⟨by rw [← HC.out, HBD.out HB.out], bal hbel _⟩
          · have HNN := Lib.hid hnone
            have hqn := none_ne hnone
            clear hnone
            by_cases hlo : b < 1
            · have HB := Lib.hid (show badAt l k (s, b) from .inr (.inr (.inr (.inr (.inl hlo)))))
              go_wp2_with (go_at_call 78; refine (HN.out _).mono ?_; rintro e w' ⟨rfl, rfl⟩)
              refine bodyPost_ret (v := .tuple #[.int .i64 40, .int .i64 (k : Int)]) (by simp [results, Tryd.results46, go_sem]) rfl ⟨by rw [← HC.out, HBD.out HB.out], bal hbel _⟩
            · have hlo' : 1 ≤ b := by omega
              by_cases hhi : 32 < b
              · have HB := Lib.hid (show badAt l k (s, b) from .inr (.inr (.inr (.inr (.inr (.inl hhi))))))
                clear hlo
                go_wp2_with (go_at_call 78; refine (HN.out _).mono ?_; rintro e w' ⟨rfl, rfl⟩)
                refine bodyPost_ret (v := .tuple #[.int .i64 40, .int .i64 (k : Int)]) (by simp [results, Tryd.results46, go_sem]) rfl ⟨by rw [← HC.out, HBD.out HB.out], bal hbel _⟩
              · have hhi' : b ≤ 32 := by omega
                have HL := Lib.hid (And.intro hlo hhi)
                have hl1 : decide (b < 1) = false := decide_eq_false hlo
                have hl2 : decide (32 < b) = false := decide_eq_false hhi
                clear hlo hhi hb0 hb1
                go_wp2_with (go_at_call 78; refine (HN.out _).mono ?_; rintro e w' ⟨rfl, rfl⟩)
                generalize hW : World.alloc wo _ = W
                have hB : Blk W wo.heap.size 27 #[.string s, .int .i64 b] := by rw [← hW]; exact Blk.new _ _ _
                have hbW : Below w.heap.size w W := by rw [← hW]; exact bal hbel _
                clear hW
                go_loopw [8] (fun u wx => ∃ j : Nat, j ≤ k ∧ u = .int .i64 j ∧ Below W.heap.size W wx ∧ ∀ (i : Nat) (h : i < l.length), i < j → ¬ l[i].1 = s) (fun u _ => k - (intOf u).toNat)
                case atStart => exact ⟨0, Nat.zero_le _, rfl, Below.refl _ _, fun i _ hi => absurd hi (by omega)⟩
                case round =>
                  obtain ⟨j, hj, rfl, hbx, hno⟩ := hrel
                  have HNJ := Lib.hid hno
                  clear hno
                  have hBx := hB.below hbx hB.lt
                  have hcx := hBx.cell
                  have hbwx := bnx hbW hbx
                  by_cases hjk : j < k
                  · have p0 := (HQ.out j l[j] (by simp [show j < l.length by omega])).1
                    rw [← hbwx.cell (p := ⟨g, off + j * 2, none⟩) hg] at p0
                    have HTK := Lib.hid (show ∀ (h : j < l.length), l[j].1 = s → ∃ f ∈ l.take k, f.1 = s from fun h e => ⟨l[j], List.mem_take_iff_getElem.2 ⟨j, by omega, rfl⟩, e⟩)
                    have HJ := Lib.hid (show ∀ (h : j < l.length), l[j].1 = l[j].1 from fun _ => rfl)
                    generalize hf2 : l[j] = f2 at *
                    have HF2 := Lib.hid hf2
                    obtain ⟨s2, b2⟩ := f2
                    simp only at p0
                    clear hf2
                    have x1 : (j : Int) < (l.length : Int) := by omega
                    have x0 : (0 : Int) ≤ (j : Int) := by omega
                    by_cases hss : s2 = s
                    · have HB := Lib.hid (show badAt l k (s, b) from .inr (.inr (.inr (.inl (HTK.out (by omega) (by rw [HF2.out]; exact hss))))))
                      have he : (s2.toList == s.toList) = true := by rw [hss]; exact str_eq s
                      clear hss
                      go_wp2
                      go_quiet (fail)
                      go_wp2
                      refine bodyPost_ret (v := .tuple #[.int .i64 40, .int .i64 (k : Int)]) (by simp [results, Tryd.results46, go_sem]) rfl ⟨by rw [← HC.out, HBD.out HB.out], below_drewN hbwx _⟩
                    · have he := str_ne hss
                      have HSN := Lib.hid hss
                      clear hss
                      go_wp2
                      go_quiet (fail)
                      go_wp2
                      go_roundw
                      case rel => exact ⟨j + 1, by omega, by go_num, below_drewN hbx _, fun i h hi => by rcases Nat.lt_succ_iff_lt_or_eq.1 hi with h1 | rfl; exact HNJ.out i h h1; rw [HF2.out]; exact HSN.out⟩
                      case measure => simp [intOf]; omega
                  · have HF := Lib.hid (show ¬ ∃ f ∈ l.take k, f.1 = s from fun ⟨f, hf, he⟩ => by
                      obtain ⟨i, hi, rfl⟩ := List.mem_take_iff_getElem.1 hf
                      exact HNJ.out i (by omega) (by omega) he)
                    by_cases hsm : 256 < sumTo l k + b
                    · have HB := Lib.hid (show badAt l k (s, b) from .inr (.inr (.inr (.inr (.inr (.inr hsm))))))
                      go_wp2
                      refine bodyPost_ret (v := .tuple #[.int .i64 40, .int .i64 (k : Int)]) (by simp [results, Tryd.results46, go_sem]) rfl ⟨by rw [← HC.out, HBD.out HB.out], hbwx⟩
                    · have hsm' : sumTo l k + b ≤ 256 := by omega
                      have HG := Lib.hid (show ¬ badAt l k (s, b) from by
                        rintro (h | h | h | h | h | h | h)
                        · exact h HNO.out
                        · exact HNA.out h
                        · exact HNN.out h
                        · exact HF.out h
                        · exact absurd (show b < 1 from h) (by omega)
                        · exact absurd (show 32 < b from h) (by omega)
                        · exact hsm h)
                      clear hsm
                      go_wp2
                      go_roundw
                      case rel => exact ⟨k + 1, by omega, by go_num, by rw [HSS.out], by rw [HSS.out]; first | omega | (simp only; omega), by rw [HSS.out]; first | omega | (simp only; omega), hbwx, by rw [← HOK.out HG.out]; exact HC.out⟩
                      case measure => simp [intOf]; omega
      · have HB := Lib.hid (show badAt l k (s, b) from .inl hname)
        have HN := Lib.hid (fun w => show Calls Tryd.prog 78 #[.string s] w (fun e w' => e = .returned (.bool false) ∧ w = w') from by rw [← decide_eq_false hname]; exact (rname_any s w hsz).mono fun _ _ ⟨h1, h2⟩ => ⟨h1, h2.symm⟩)
        clear hname
        go_wp2_with (go_at_call 78; refine (HN.out _).mono ?_; rintro e w' ⟨rfl, rfl⟩)
        refine bodyPost_ret (v := .tuple #[.int .i64 40, .int .i64 (k : Int)]) (by simp [results, Tryd.results46, go_sem]) rfl ⟨by rw [← HC.out, HBD.out HB.out], bal hbel _⟩
    · have hkk : k = l.length := by omega
      have HE := Lib.hid (show chkFrom l 0 = (0, 0) from by rw [← HC.out]; exact chkFrom_end hlt)
      go_wp2
      refine bodyPost_ret (v := .tuple #[.int .i64 0, .int .i64 0]) (by simp [results, Tryd.results46, go_sem]) rfl ⟨by rw [HE.out], hbel⟩
end Go.Proofs.YtaleaicfllcpiaaDoor.Fl
