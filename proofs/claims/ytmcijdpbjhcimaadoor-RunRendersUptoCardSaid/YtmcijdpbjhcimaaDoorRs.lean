/- RunRenders: the document's Render. -/
import Derived.Test.YtmcijdpbjhcimaaDoorRr
import Derived.Deep.CutBlock
namespace Go.Proofs.YtmcijdpbjhcimaaDoor.Rn
open Go.RowKit Go.Shelf Mm
theorem sL_app (a b : List (List UInt8)) : sL (a ++ b) = sL a ++ sL b := by simp [sL]
theorem sL_one (L : List (List UInt8)) : ∀ u ∈ sL L, u.oneCell' = true := by
  intro u hu
  simp only [sL, List.mem_map] at hu
  obtain ⟨s, _, rfl⟩ := hu
  rfl
theorem rendT_len (kd co te li : Int) (R : List Rep) (h1 : (Lib.itoa co).length ≤ 21) (h2 : (Lib.itoa li).length ≤ 21) : (rendT kd co te li R).length ≤ wR R + 200 := by
  have h := rendR_len R
  unfold rendT
  have e1 : tPe.length = 12 := rfl
  have e2 : tCo.length = 21 := rfl
  have e3 : tLi.length = 7 := rfl
  have e4 : tQu.length = 13 := rfl
  have e5 : tIf.length = 11 := rfl
  have e6 : tQn.length = 10 := rfl
  have e7 : tBu.length = 15 := rfl
  (repeat' split) <;> (try simp only [len_app, List.length_cons, List.length_nil]) <;> omega
theorem row_one (X : World) (t : ByteArray) {L : List (List UInt8)} (hL : L = [bs t]) : (X.alloc (.cells #[.string t] 9)).ownsRow X.heap.size 9 1 (.slice (some ⟨X.heap.size, 0, none⟩) 1 1) L.length (sL L) := by
  subst hL
  have h := own_one X 9 #[.string t] (Nat.le_refl _)
  have e : sL [bs t] = [.string t] := by show [Value.string (str (bs t))] = _; rw [show str (bs t) = t from str_of t]
  rw [e]
  exact h
set_option maxRecDepth 100000 in
set_option maxHeartbeats 4000000 in
theorem rRender_any (w : World) (kd co te li : Int) (R : List Rep) (V : List Vs) (v : Value) (hv : RepsW w v R V) (ht : Tab w) (c0 : -9223372036854775808 ≤ co) (c1 : co ≤ 9223372036854775807) (l0 : -9223372036854775808 ≤ li) (l1 : li ≤ 9223372036854775807) (hR : wR R ≤ 68719476736) :
    Calls Tryd.prog 7 #[.agg #[.int .i64 kd, .int .i64 co, .int .i64 te, .int .i64 li, v]] w fun e w' => e = .returned (.string (str (rendT kd co te li R))) ∧ Below w.heap.size w w' := by
  obtain ⟨a0, cap, rfl, hcap, hcm⟩ := hv.form
  unfold maxLen at hcm
  have HV := Lib.hid hv
  have z1 := Lib.itoa_length_le co c0 c1
  have z2 := Lib.itoa_length_le li l0 l1
  rw [← str_size] at z1 z2
  have HI := Lib.hid (fun X (h : Below w.heap.size w X) => itoa_any co c0 c1 X (tab_below ht h))
  have HL := Lib.hid (fun X (h : Below w.heap.size w X) => itoa_any li l0 l1 X (tab_below ht h))
  have hX0 := Blk.new w 25 #[.int .i64 kd, .int .i64 co, .int .i64 te, .int .i64 li, .slice a0 R.length cap]
  have HX := Lib.hid hX0
  clear hv ht hX0 c0 c1 l0 l1
  have HZ1 := Lib.hid (bs_str (Lib.itoa co))
  have HZ2 := Lib.hid (bs_str (Lib.itoa li))
  generalize str (Lib.itoa co) = za at *
  generalize str (Lib.itoa li) = zb at *
  go_enter Tryd.func7, Tryd.ntmps7
  go_wp2_with fail
  refine (HI.out _ (bal (Below.refl _ _) _)).mono ?_
  rintro e w1 ⟨rfl, hb1⟩
  have HX1 := Lib.hid (HX.out.below hb1 HX.out.lt)
  have HB1 := Lib.hid (bnx (bal (Below.refl w.heap.size w) _) hb1)
  clear hb1
  have k3 := HX1.out.cell 3
  go_wp2_with fail
  refine (HL.out _ HB1.out).mono ?_
  rintro e w2 ⟨rfl, hb2⟩
  have HX2 := Lib.hid (HX1.out.below hb2 HX1.out.lt)
  have HB2 := Lib.hid (bnx HB1.out hb2)
  clear hb2 k3 HX HX1 HB1
  have k0 := HX2.out.cell 0
  go_upto_block 0 with fail
  clear k0
  go_cut [0, 5] (fun _ s5 wx => ∃ L : List (List UInt8), linesT L = rendT kd co te li R ∧ L.length ≤ 68719476736 ∧ wx.ownsRow w2.heap.size 9 1 s5 L.length (sL L) ∧ Below w2.heap.size w2 wx)
  case first =>
    have k2 := fun o => (HX2.out.alloc o).cell 2
    have k4 := HX2.out.cell 4
    by_cases d1 : kd = 1
    · subst d1
      have HF := Lib.hid (show linesT (repsT R) = rendT 1 co te li R from rfl)
      clear k2
      go_wp2_with fail
      go_loopw [5, 6] (fun s i wr => ∃ k : Nat, k ≤ R.length ∧ i = .int .i64 (k : Int) ∧ wr.ownsRow w2.heap.size 9 1 s (repsT (R.take k)).length (sL (repsT (R.take k))) ∧ Below w2.heap.size w2 wr) (fun _ i _ => R.length - (intOf i).toNat)
      case atStart => exact ⟨0, Nat.zero_le _, rfl, World.ownsRow_nil _ _ _ _, Below.refl _ _⟩
      case round =>
        obtain ⟨k, hk, rfl, hown, hbel⟩ := hrel
        have HO := Lib.hid hown
        have HBL := Lib.hid hbel
        have HBW := Lib.hid (HB2.out.trans (hbel.mono HB2.out.size))
        have c4 := (HX2.out.below hbel HX2.out.lt).cell 4
        clear hown hbel k4
        by_cases hlt : k < R.length
        · obtain ⟨g, off, rfl, hg, hq⟩ := HV.out.at (by omega)
          obtain ⟨u, _, hx, hxw⟩ := hq k hlt
          obtain ⟨up, ue, ul⟩ := u
          have hp := hxw.p
          have he := hxw.e
          have hl := hxw.l
          dsimp only at hp he hl
          obtain ⟨ap, cp, rfl, _, _⟩ := sees_form hp
          obtain ⟨ae, ce, rfl, _, _⟩ := sees_form he
          obtain ⟨al, cl, rfl, _, _⟩ := sees_form hl
          clear hp he hl
          obtain ⟨q0, q1, q2, q3, q4, q5, q6, q7, q8⟩ := hx.below HBW.out hg
          have HR := Lib.hid (show repsT (R.take (k + 1)) = repsT (R.take k) ++ toldT R[k] from by
            unfold repsT
            rw [List.take_succ_eq_append_getElem hlt, List.flatMap_append]
            simp)
          have hlr := reps_many (R.take k)
          have hlt2 := wR_take_le R k
          have hyw := wR_mem (List.getElem_mem hlt)
          have hym := told_many R[k]
          have hyl := sizes_le R[k]
          have hyz := wL_len R[k].li
          have HRP := Lib.hid (told_any wr R[k] _ (hxw.below HBW.out) (by omega))
          have hn1 : (repsT (R.take k)).length + (toldT R[k]).length ≤ 137438953472 := by omega
          generalize R[k] = y at *
          unfold yA at HRP
          generalize y.po.length = pn at *
          generalize y.en.length = en at *
          generalize y.li.length = ln at *
          clear hq hx hxw hyl
          go_wp2_with fail
          refine HRP.out.mono ?_
          rintro e w3 ⟨v, rfl, hov, hb3⟩
          have HO3 := Lib.hid (own_below HO.out hb3 (Nat.le_refl _))
          have HV3 := Lib.hid (Sees.of_own hov)
          have HB4 := Lib.hid (bnx HBL.out hb3)
          obtain ⟨av, cv, hv⟩ := own_len hov
          subst hv
          clear hov hb3 c4 q0 q1 q2 q3 q4 q5 q6 q7 q8
          go_wp2_with (at_builtin; refine app_sees 28 Tryd.underlying28 info_str rfl HO3.out HV3.out rfl rfl rfl rfl (sL_one _) (by rw [sL_len]; simp only [maxLen]; omega) (by rw [sL_len]; omega) HB4.out.size ?_; intro v4 w4 hown4 hg4)
          have hb5 := HB4.out.grown hg4 HB4.out.size (fun k hk => (HO3.out.lt k hk).1)
          go_roundw
          case rel => exact ⟨k + 1, by omega, by go_num, by rw [HR.out, List.length_append, sL_app]; rw [sL_len] at hown4; exact hown4, hb5⟩
          case measure => simp [intOf]; omega
        · obtain rfl : k = R.length := by omega
          have hlr := reps_many R
          go_wp2_with fail
          go_meet
          refine ⟨repsT R, HF.out, by omega, ?_, HBL.out⟩
          have h := HO.out
          rw [List.take_length] at h
          exact h
    · have s1 : (kd == 1) = false := by simpa using d1
      clear k4
      by_cases d2 : kd = 2
      · subst d2
        clear d1
        by_cases e1 : te = 1
        · subst e1
          have HF := Lib.hid (show linesT [bs (⟨tPe.toArray⟩ ++ za ++ ⟨(tCo ++ tLi).toArray⟩ ++ zb)] = rendT 2 co 1 li R from by
            unfold rendT
            simp [linesT, bs_app, bs_lit, HZ1.out, HZ2.out])
          go_wp2_with fail
          go_meet
          exact ⟨[bs (⟨tPe.toArray⟩ ++ za ++ ⟨(tCo ++ tLi).toArray⟩ ++ zb)], HF.out, by simp, row_one w2 _ rfl, bal (Below.refl _ _) _⟩
        · have t1 : (te == 1) = false := by simpa using e1
          have HF := Lib.hid (show linesT [bs (⟨tPe.toArray⟩ ++ za ++ ⟨(tQu ++ tLi).toArray⟩ ++ zb)] = rendT 2 co te li R from by
            unfold rendT
            simp [linesT, bs_app, bs_lit, HZ1.out, HZ2.out, e1])
          clear e1
          go_wp2_with fail
          go_meet
          exact ⟨[bs (⟨tPe.toArray⟩ ++ za ++ ⟨(tQu ++ tLi).toArray⟩ ++ zb)], HF.out, by simp, row_one w2 _ rfl, bal (Below.refl _ _) _⟩
      · have s2 : (kd == 2) = false := by simpa using d2
        by_cases d3 : kd = 3
        · subst d3
          clear d1 d2
          by_cases e1 : te = 1
          · subst e1
            have HF := Lib.hid (show linesT [bs (⟨tIf.toArray⟩ ++ za ++ ⟨tCo.toArray⟩)] = rendT 3 co 1 li R from by
              unfold rendT
              simp [linesT, bs_app, bs_lit, HZ1.out])
            go_wp2_with fail
            go_meet
            exact ⟨[bs (⟨tIf.toArray⟩ ++ za ++ ⟨tCo.toArray⟩)], HF.out, by simp, row_one w2 _ rfl, bal (Below.refl _ _) _⟩
          · have t1 : (te == 1) = false := by simpa using e1
            have HF := Lib.hid (show linesT [bs (⟨tIf.toArray⟩ ++ za ++ ⟨tQn.toArray⟩ ++ zb)] = rendT 3 co te li R from by
              unfold rendT
              simp [linesT, bs_app, bs_lit, HZ1.out, HZ2.out, e1])
            clear e1
            go_wp2_with fail
            go_meet
            exact ⟨[bs (⟨tIf.toArray⟩ ++ za ++ ⟨tQn.toArray⟩ ++ zb)], HF.out, by simp, row_one w2 _ rfl, bal (Below.refl _ _) _⟩
        · have s3 : (kd == 3) = false := by simpa using d3
          by_cases d4 : kd = 4
          · subst d4
            clear d1 d2 d3
            have HF := Lib.hid (show linesT [bs (⟨tBu.toArray⟩)] = rendT 4 co te li R from by
              unfold rendT
              simp [linesT, bs_lit])
            go_wp2_with fail
            go_meet
            exact ⟨[bs (⟨tBu.toArray⟩)], HF.out, by simp, row_one w2 _ rfl, bal (Below.refl _ _) _⟩
          · have s4 : (kd == 4) = false := by simpa using d4
            have HF := Lib.hid (show linesT [] = rendT kd co te li R from by
              unfold rendT
              simp [linesT, d1, d2, d3, d4])
            clear d1 d2 d3 d4
            go_wp2_with fail
            go_meet
            exact ⟨[], HF.out, by simp, World.ownsRow_nil _ _ _ _, Below.refl _ _⟩
  case rest =>
    obtain ⟨L, hL, hln, hown, hbel⟩ := hcut
    have hlen := rendT_len kd co te li R (by rw [← HZ1.out, bs_len]; omega) (by rw [← HZ2.out, bs_len]; omega)
    rw [← hL] at hlen
    have HLL := Lib.hid hL
    have HBW := Lib.hid (HB2.out.trans (hbel.mono HB2.out.size))
    have HS := Lib.hid hown
    obtain ⟨av, cv, hv⟩ := own_len hown
    subst hv
    clear hL hown hbel
    go_wp2_with fail
    go_loop [7, 8] (fun s i => ∃ k : Nat, k ≤ L.length ∧ i = .int .i64 (k : Int) ∧ s = .string (str (linesT (L.take k)))) (fun _ i => L.length - (intOf i).toNat)
    case atStart => exact ⟨0, Nat.zero_le _, rfl, rfl⟩
    case round =>
      obtain ⟨k, hk, rfl, rfl⟩ := hrel
      by_cases hlt : k < L.length
      · obtain ⟨g, cp, e, hcp, _, _, hx⟩ := own_at HS.out (by omega)
        cases e
        have q0 := hx k _ (sL_at hlt)
        have hT : linesT (L.take (k + 1)) = linesT (L.take k) ++ bs (str L[k]) ++ [10] := by
          rw [List.take_succ_eq_append_getElem hlt, linesT_app, linesT_one, bs_str, List.append_assoc]
        have hT2 : (linesT (L.take (k + 1))).length ≤ (linesT L).length := by
          conv => rhs; rw [← List.take_append_drop (k + 1) L, linesT_app]
          rw [len_app]; omega
        rw [hT, len_app, len_app, bs_len, ← str_size] at hT2
        have HT := Lib.hid (show str (linesT (L.take (k + 1))) = str (linesT (L.take k)) ++ str L[k] ++ ⟨#[10]⟩ from by
          rw [hT, str_add, str_add]
          rfl)
        generalize str L[k] = s at *
        generalize str (linesT (L.take k)) = X at *
        simp only [List.length_cons, List.length_nil] at hT2
        clear hx hT
        go_wp2_with fail
        go_round
        case rel => exact ⟨k + 1, by omega, by go_num, by rw [HT.out]⟩
        case measure => simp [intOf]; omega
      · obtain rfl : k = L.length := by omega
        go_wp2_with fail
        go_ret
        exact ⟨by rw [← HLL.out]; simp, HBW.out⟩
end Go.Proofs.YtmcijdpbjhcimaaDoor.Rn
