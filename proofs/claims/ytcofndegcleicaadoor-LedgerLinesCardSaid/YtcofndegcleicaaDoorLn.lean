/- LedgerLines. -/
import Derived.Test.YtcofndegcleicaaDoorUk
import Derived.Test.YtcofndegcleicaaDoorPg
namespace Go.Proofs.YtcofndegcleicaaDoor.Lg
open Go.RowKit Mm Law
def litV : ByteArray := ⟨#[49, 58, 97]⟩
theorem lit_up1 : upE litV.data.toList = 0 ∧ upL litV.data.toList = [litA1] := by
  have h : pkL [litA1] = litV.data.toList := by
    unfold pkL lnT
    simp only [List.map_cons, List.map_nil, List.flatten_cons, List.flatten_nil]
    rw [show (litA1.size : Int) = ((1 : Nat) : Int) from rfl, Lib.itoa_nonneg, Lib.decDigits_one (by decide)]
    rfl
  have := up_ok (l := [litA1]) (by rw [h]; decide)
  rw [h] at this
  exact this
theorem pk_back {l : List ByteArray} (h : pkE l = 0) : upE (pkS l) = 0 ∧ upL (pkS l) = l := by
  have hl : (pkL l).length ≤ 16384 := by
    refine Nat.le_of_not_lt fun hc => ?_
    unfold pkE at h
    rw [if_pos hc] at h
    exact absurd h (by decide)
  have h1 := up_ok hl
  rw [(pk_ok hl).2]
  exact h1
theorem up_back {t : List UInt8} (h : upE t = 0) : pkE (upL t) = 0 ∧ pkS (upL t) = t ∧ ∀ s ∈ upL t, s.size ≤ 140737488355328 := by
  have hl : t.length ≤ 16384 := by
    refine Nat.le_of_not_lt fun hc => ?_
    rw [(up_long hc).1] at h
    exact absurd h (by decide)
  have hex : ∃ m, pkL m = t := by
    refine Classical.byContradiction fun hc => ?_
    unfold upE at h
    rw [if_neg (by omega), if_neg hc] at h
    exact absurd h (by decide)
  obtain ⟨m, rfl⟩ := hex
  have h1 := (up_ok hl).2
  have h2 := pk_ok hl
  rw [h1]
  refine ⟨h2.1, h2.2, fun s hs => ?_⟩
  have h3 : ∀ (m : List ByteArray), s ∈ m → s.size ≤ (pkL m).length := by
    intro m
    induction m with
    | nil => intro h; exact absurd h (by simp)
    | cons a m ih =>
      intro h
      rw [pkL_cons, List.length_append, lnT_len]
      rcases List.mem_cons.1 h with rfl | h
      · omega
      · have := ih h
        omega
  have := h3 m hs
  omega
theorem str_of (s : ByteArray) : str s.data.toList = s := ByteArray.ext (Array.ext' (str_list _))
set_option maxRecDepth 100000 in
set_option maxHeartbeats 4000000 in
theorem lines_walk (v : Value) (l : List ByteArray) (hsz : ∀ s ∈ l, s.size ≤ 140737488355328) (t : ByteArray) (_ : t.size ≤ maxLen) (w : World) (hS : Sees w v (sC l)) (ht : Tab w) :
    Calls Tryd.prog 7 #[v, .string t] w fun e w' => e = .returned (.bool true) ∧ Below w.heap.size w w' := by
  have HV := Lib.hid hS
  have HD := Lib.hid (fun (w' : World) (u : Value) (h : Below w.heap.size w w') (hu : Sees w' u (sC l)) => pack_any l u w' hu hsz (tab_below ht h))
  have HD2 := Lib.hid (fun (h0 : upE t.data.toList = 0) (w' : World) (u : Value) (h : Below w.heap.size w w') (hu : Sees w' u (sC (upL t.data.toList))) => pack_any _ u w' hu (up_back h0).2.2 (tab_below ht h))
  have HP1 := Lib.hid (fun w => unpack_any (str (pkS l)) w)
  have HP2 := Lib.hid (fun w => unpack_any t w)
  have HP3 := Lib.hid (fun w => unpack_any litV w)
  have HEF := Lib.hid (pk_form l)
  have HEG := Lib.hid (up_form t.data.toList)
  have HBK := Lib.hid (pk_back (l := l))
  have HUB := Lib.hid (fun h => up_back (t := t.data.toList) h)
  have HU := Lib.hid (fun g cap u w h1 h2 h3 h4 h5 => unturned_yes l g cap u w h1 h2 h3 h4 h5)
  obtain ⟨a0, cap0, rfl, hN, hcap, hcm, hx⟩ := hS
  rw [sC_len] at hcap HV ⊢
  unfold maxLen at hcm
  unfold PkAns at HD HD2
  unfold UpAns at HP1 HP2 HP3
  rw [lit_up1.1, lit_up1.2] at HP3
  rw [str_list] at HP1
  have HSO := Lib.hid (str_of t)
  generalize t.data.toList = U at *
  generalize pkS l = T at *
  generalize pkE l = E at *
  generalize upE U = G at *
  generalize upL U = L at *
  clear hx hN hsz ht
  by_cases hl : l.length ≤ 200000
  · have HR := Lib.hid (fun v w hv => roomy_any l v w hv hl)
    go_enter Tryd.func7, Tryd.ntmps7
    go_wp2_with (at_builtin; refine app_strs (l := l) (own_empty w 9 (Nat.le_refl _)) (HV.out.alloc _) rfl rfl rfl rfl (by omega) (by simp) ?_; intro v1 w1 hown1 hgr1; have hb1 := (bal (Below.refl _ w) (.cells #[] 9)).trans (below_grown (own_empty w 9 (Nat.le_refl _)) hgr1 (by simp)); have HS1 := Lib.hid (show Sees w1 v1 (sC l) from Sees.of_own hown1); clear hown1 hgr1)
    refine (HR.out _ _ (HV.out.below hb1)).mono ?_
    rintro e w2 ⟨g, cap, rfl, hc2, hown2, hb2⟩
    obtain ⟨g', cap', hv', _, hm2⟩ := own_cap hown2 (by omega)
    cases hv'
    have HB2 := Lib.hid (bnx hb1 hb2)
    have HO2 := Lib.hid (Sees.of_own hown2)
    have HS2 := Lib.hid (show Sees w2 (.slice (some ⟨g, 0, none⟩) l.length cap) (sC l) from by have h := HO2.out.take l.length (by rw [List.length_append, sC_len]; omega); rw [List.take_left' (sC_len l)] at h; exact h)
    have HQ2 := Lib.hid (show g < w2.heap.size ∧ ∀ j x, (sC l ++ sC [behind, farB])[j]? = some x → w2.cell? ⟨g, j, none⟩ = some x from by
      obtain ⟨g', cap', hv', _, _, hg', hq'⟩ := own_at hown2 (by omega)
      cases hv'
      exact ⟨hg', hq'⟩)
    have HW2 := Lib.hid (HS1.out.below hb2)
    clear hown2 hb1 hb2 HS1
    go_wp2_with fail
    refine (HD.out _ _ HB2.out HS2.out).mono ?_
    rintro e w3 ⟨rfl, hb3⟩
    have HB3 := Lib.hid (bnx HB2.out hb3)
    have HW3 := Lib.hid (HW2.out.below hb3)
    go_wp2_with fail
    refine (HU.out g cap _ _ hc2 hm2 (Nat.lt_of_lt_of_le HQ2.out.1 hb3.size) (fun j x hx => by rw [hb3.cell (p := ⟨g, j, none⟩) HQ2.out.1]; exact HQ2.out.2 j x hx) HW3.out).mono ?_
    rintro e w4 ⟨rfl, hb4⟩
    have HB4 := Lib.hid (bnx HB3.out hb4)
    have HW4 := Lib.hid (HW3.out.below hb4)
    have htt : (t.toList == t.toList) = true := by simp
    by_cases hE : E = 0
    · have HK := HBK.out hE
      rw [HK.1, HK.2] at HP1
      clear HK
      subst hE
      go_wp2_with fail
      refine (HP1.out _).mono ?_
      rintro e w5 ⟨v5, rfl, hown5, hb5⟩
      have HB5 := Lib.hid (bnx HB4.out hb5)
      have hs5 := Sees.of_own hown5
      have hs1 := HW4.out.below hb5
      clear hown5 hb5
      obtain ⟨a1, cap1, rfl, _, hcap1, hcm1, hx1⟩ := hs1
      obtain ⟨a2, cap2, rfl, _, hcap2, hcm2, hx2⟩ := hs5
      rw [sC_len] at hcap1 hcap2 ⊢
      unfold maxLen at hcm1 hcm2
      have HX1 := Lib.hid hx1
      have HX2 := Lib.hid hx2
      clear hx1 hx2
      go_wp2_with fail
      go_loopw [11] (fun i wr => ∃ k : Nat, k ≤ l.length ∧ i = .int .i64 (k : Int) ∧ Below w5.heap.size w5 wr) (fun i _ => l.length - (intOf i).toNat)
      case atStart => exact ⟨0, Nat.zero_le _, rfl, Below.refl _ _⟩
      case round =>
        obtain ⟨k, hk, rfl, hbel⟩ := hrel
        by_cases hlt : k < l.length
        · obtain ⟨g1, o1, rfl, hg1, q1⟩ := sx_at HX1.out hbel hlt
          obtain ⟨g2, o2, rfl, hg2, q2⟩ := sx_at HX2.out hbel hlt
          have hne : (l[k].toList == l[k].toList) = true := by simp
          generalize l[k] = s at *
          have x0 : (0 : Int) ≤ (k : Int) := by omega
          have x1 : (k : Int) < (l.length : Int) := by omega
          go_upto_region 13 with fail
          go_quiet (fail)
          go_wp2_with fail
          go_roundw
          case rel => exact ⟨k + 1, by omega, by go_num, below_drewN hbel _⟩
          case measure => simp [intOf]; omega
        · have x1 : ¬ (k : Int) < (l.length : Int) := by omega
          have HB6' := Lib.hid (bnx HB5.out hbel)
          go_wp2_with fail
          refine (HP2.out _).mono ?_
          rintro e w6 ⟨v6, rfl, hown6, hb6⟩
          have HB6 := Lib.hid (bnx HB6'.out hb6)
          have HS6 := Lib.hid (Sees.of_own hown6)
          clear hown6 hb6
          by_cases hG : G = 0
          · have HDD := HD2.out hG
            have HK := HUB.out hG
            rw [HK.1, HK.2.1, HSO.out] at HDD
            have HD3 := Lib.hid HDD
            clear HDD HK
            subst hG
            go_wp2_with fail
            refine (HD3.out _ _ HB6.out HS6.out).mono ?_
            rintro e w7 ⟨rfl, hb7⟩
            have HB7 := Lib.hid (bnx HB6.out hb7)
            go_wp2_with fail
            refine (HP3.out _).mono ?_
            rintro e w8 ⟨v8, rfl, hown8, hb8⟩
            obtain ⟨g8, cap8, rfl, _, _, _, _⟩ := own_at hown8 (by decide)
            have HB8 := Lib.hid (bnx HB7.out hb8)
            clear hown8 hb8
            go_wp2_with fail
            go_ret
            exact ⟨rfl, HB8.out⟩
          · have hg0 : (G == 0) = false := beq_eq_false_iff_ne.2 hG
            go_wp2_with fail
            refine (HP3.out _).mono ?_
            rintro e w8 ⟨v8, rfl, hown8, hb8⟩
            obtain ⟨g8, cap8, rfl, _, _, _, _⟩ := own_at hown8 (by decide)
            have HB8 := Lib.hid (bnx HB6.out hb8)
            clear hown8 hb8
            go_wp2_with fail
            go_ret
            exact ⟨rfl, HB8.out⟩
    · have he0 : (E == 0) = false := beq_eq_false_iff_ne.2 hE
      go_wp2_with fail
      refine (HP2.out _).mono ?_
      rintro e w6 ⟨v6, rfl, hown6, hb6⟩
      have HB6 := Lib.hid (bnx HB4.out hb6)
      have HS6 := Lib.hid (Sees.of_own hown6)
      clear hown6 hb6
      by_cases hG : G = 0
      · have HDD := HD2.out hG
        have HK := HUB.out hG
        rw [HK.1, HK.2.1, HSO.out] at HDD
        have HD3 := Lib.hid HDD
        clear HDD HK
        subst hG
        go_wp2_with fail
        refine (HD3.out _ _ HB6.out HS6.out).mono ?_
        rintro e w7 ⟨rfl, hb7⟩
        have HB7 := Lib.hid (bnx HB6.out hb7)
        go_wp2_with fail
        refine (HP3.out _).mono ?_
        rintro e w8 ⟨v8, rfl, hown8, hb8⟩
        obtain ⟨g8, cap8, rfl, _, _, _, _⟩ := own_at hown8 (by decide)
        have HB8 := Lib.hid (bnx HB7.out hb8)
        clear hown8 hb8
        go_wp2_with fail
        go_ret
        exact ⟨rfl, HB8.out⟩
      · have hg0 : (G == 0) = false := beq_eq_false_iff_ne.2 hG
        go_wp2_with fail
        refine (HP3.out _).mono ?_
        rintro e w8 ⟨v8, rfl, hown8, hb8⟩
        obtain ⟨g8, cap8, rfl, _, _, _, _⟩ := own_at hown8 (by decide)
        have HB8 := Lib.hid (bnx HB6.out hb8)
        clear hown8 hb8
        go_wp2_with fail
        go_ret
        exact ⟨rfl, HB8.out⟩
  · go_enter Tryd.func7, Tryd.ntmps7
    go_wp2_with fail
    go_ret
    exact ⟨rfl, Below.refl _ _⟩
set_option maxRecDepth 100000 in
theorem ledgerLines_laid {w : World} (h : laidMetH Tryd.prog Rows.ledgerLinesRow.laid w) : Tab w := by
  rw [MakeChecks.laidMetH_plain _ _ _ (by kernel_rfl)] at h
  have hg0 : Tryd.prog.globalNamed "internal/strconv.uint64pow10" = some 0 := by kernel_rfl
  exact Lib.tabIs_of_head (n := 20) (t := 117) (e := 99) hg0 (by kernel_rfl) (by kernel_rfl) (by kernel_rfl) (by kernel_rfl) (by kernel_rfl) h.tail.tail
end Go.Proofs.YtcofndegcleicaaDoor.Lg
