/- The document's at. -/
import Derived.Test.YtaleaicfllcpiaaDoorVo
namespace Go.Proofs.YtaleaicfllcpiaaDoor.Fl
open Go.RowKit Mm Law
set_option linter.unusedSimpArgs false
set_option linter.unusedSectionVars false
set_option linter.unusedVariables false
set_option maxRecDepth 100000 in
set_option maxHeartbeats 8000000 in
theorem at_3 (nm : ByteArray) (lo b : Nat) (hb : b ≤ 32) (hlo : lo ≤ topN b) (w : World) :
    Calls Tryd.prog 55 #[.agg #[.string nm, .int .i64 3, .int .i64 1, .int .i64 (lo : Int), .int .i64 0, .int .i64 0, .string ⟨#[]⟩], .int .i64 (b : Int)] w (StrRow w ((gre b 0 lo).map (preT b))) := by
  have htb := top_lt b hb
  have HC := Lib.hid (fun w => rfrom_at b 0 lo (0) ((lo : Int) - 1) hb (by omega) (by omega) (by omega) (by omega) w)
  have HT := Lib.hid (fun w => (rtop_any b (by omega) w).mono (fun _ _ x => And.intro x.1 x.2.symm))
  have hlo2 : lo ≤ 4294967296 := by omega
  clear htb hlo
  go_enter Tryd.func55, Tryd.ntmps55
  go_wp2_with fail
  refine (HC.out _).mono ?_
  rintro e w1 ⟨v1, rfl, ho1, hb1⟩
  go_wp2_with fail
  go_ret
  exact str_row (bal (Below.refl _ _) _) ho1 hb1
set_option maxRecDepth 100000 in
set_option maxHeartbeats 8000000 in
theorem at_4 (nm : ByteArray) (lo b : Nat) (hb : b ≤ 32) (hlo : lo ≤ topN b) (w : World) :
    Calls Tryd.prog 55 #[.agg #[.string nm, .int .i64 4, .int .i64 1, .int .i64 (lo : Int), .int .i64 0, .int .i64 0, .string ⟨#[]⟩], .int .i64 (b : Int)] w (StrRow w ((gre b 0 (lo + 1)).map (preT b))) := by
  have htb := top_lt b hb
  have HC := Lib.hid (fun w => rfrom_at b 0 (lo + 1) (0) ((lo : Int)) hb (by omega) (by omega) (by omega) (by omega) w)
  have HT := Lib.hid (fun w => (rtop_any b (by omega) w).mono (fun _ _ x => And.intro x.1 x.2.symm))
  have hlo2 : lo ≤ 4294967296 := by omega
  clear htb hlo
  go_enter Tryd.func55, Tryd.ntmps55
  go_wp2_with fail
  refine (HC.out _).mono ?_
  rintro e w1 ⟨v1, rfl, ho1, hb1⟩
  go_wp2_with fail
  go_ret
  exact str_row (bal (Below.refl _ _) _) ho1 hb1
set_option maxRecDepth 100000 in
set_option maxHeartbeats 8000000 in
theorem at_5 (nm : ByteArray) (lo b : Nat) (hb : b ≤ 32) (hlo : lo ≤ topN b) (w : World) :
    Calls Tryd.prog 55 #[.agg #[.string nm, .int .i64 5, .int .i64 1, .int .i64 (lo : Int), .int .i64 0, .int .i64 0, .string ⟨#[]⟩], .int .i64 (b : Int)] w (StrRow w ((gre b (lo + 1) (2 ^ b)).map (preT b))) := by
  have htb := top_lt b hb
  have HC := Lib.hid (fun w => rfrom_at b (lo + 1) (2 ^ b) ((lo : Int) + 1) ((topN b : Int)) hb (by omega) (by omega) (by omega) (by omega) w)
  have HT := Lib.hid (fun w => (rtop_any b (by omega) w).mono (fun _ _ x => And.intro x.1 x.2.symm))
  have hlo2 : lo ≤ 4294967296 := by omega
  have hw2 : IntKind.i64.wrap ((lo : Int) + 1) = (lo : Int) + 1 := IntWalk.i64_in _ (by omega)
  clear htb hlo
  go_enter Tryd.func55, Tryd.ntmps55
  go_wp2_with fail
  have hN := EiS.new w #[.string nm, .int .i64 5, .int .i64 1, .int .i64 (lo : Int), .int .i64 0, .int .i64 0, .string ⟨#[]⟩]
  generalize hW : World.alloc w _ = W at *
  have hD : EiS w #[.string nm, .int .i64 5, .int .i64 1, .int .i64 (lo : Int), .int .i64 0, .int .i64 0, .string ⟨#[]⟩] W.drew := ⟨hN.1.drew, hN.2.drew⟩
  have hK0 : W.drew.cell? ⟨w.heap.size, 3, none⟩ = some (.int .i64 (lo : Int)) ∧ Below w.heap.size w W.drew := ⟨hD.1.cell 3, hD.2⟩
  clear hW hN
  go_region_held3 (fun w' => w'.cell? ⟨w.heap.size, 3, none⟩ = some (.int .i64 (lo : Int)) ∧ Below w.heap.size w w')
    (with_reducible (first | assumption | exact hK0 | exact hK1 | fail))
    (first | (go_at_call 85; refine (HT.out _).mono ?_; rintro e w2 ⟨rfl, rfl⟩) | (go_at_call 86; refine (HC.out _).mono ?_; rintro e w1 ⟨v1, rfl, ho1, hb1⟩; have hD1 := EiS.go hD hb1; have hK1 : w1.cell? ⟨w.heap.size, 3, none⟩ = some (.int .i64 (lo : Int)) ∧ Below w.heap.size w w1 := ⟨hD1.1.cell 3, hD1.2⟩) | fail)
  go_wp2_with fail
  go_ret
  exact str_row hD.2 ho1 hb1
set_option maxRecDepth 100000 in
set_option maxHeartbeats 8000000 in
theorem at_6 (nm : ByteArray) (lo b : Nat) (hb : b ≤ 32) (hlo : lo ≤ topN b) (w : World) :
    Calls Tryd.prog 55 #[.agg #[.string nm, .int .i64 6, .int .i64 1, .int .i64 (lo : Int), .int .i64 0, .int .i64 0, .string ⟨#[]⟩], .int .i64 (b : Int)] w (StrRow w ((gre b lo (2 ^ b)).map (preT b))) := by
  have htb := top_lt b hb
  have HC := Lib.hid (fun w => rfrom_at b lo (2 ^ b) ((lo : Int)) ((topN b : Int)) hb (by omega) (by omega) (by omega) (by omega) w)
  have HT := Lib.hid (fun w => (rtop_any b (by omega) w).mono (fun _ _ x => And.intro x.1 x.2.symm))
  have hlo2 : lo ≤ 4294967296 := by omega
  clear htb hlo
  go_enter Tryd.func55, Tryd.ntmps55
  go_wp2_with fail
  have hN := EiS.new w #[.string nm, .int .i64 6, .int .i64 1, .int .i64 (lo : Int), .int .i64 0, .int .i64 0, .string ⟨#[]⟩]
  generalize hW : World.alloc w _ = W at *
  have hD : EiS w #[.string nm, .int .i64 6, .int .i64 1, .int .i64 (lo : Int), .int .i64 0, .int .i64 0, .string ⟨#[]⟩] W.drew := ⟨hN.1.drew, hN.2.drew⟩
  have hK0 : W.drew.cell? ⟨w.heap.size, 3, none⟩ = some (.int .i64 (lo : Int)) ∧ Below w.heap.size w W.drew := ⟨hD.1.cell 3, hD.2⟩
  clear hW hN
  go_region_held3 (fun w' => w'.cell? ⟨w.heap.size, 3, none⟩ = some (.int .i64 (lo : Int)) ∧ Below w.heap.size w w')
    (with_reducible (first | assumption | exact hK0 | exact hK1 | fail))
    (first | (go_at_call 85; refine (HT.out _).mono ?_; rintro e w2 ⟨rfl, rfl⟩) | (go_at_call 86; refine (HC.out _).mono ?_; rintro e w1 ⟨v1, rfl, ho1, hb1⟩; have hD1 := EiS.go hD hb1; have hK1 : w1.cell? ⟨w.heap.size, 3, none⟩ = some (.int .i64 (lo : Int)) ∧ Below w.heap.size w w1 := ⟨hD1.1.cell 3, hD1.2⟩) | fail)
  go_wp2_with fail
  go_ret
  exact str_row hD.2 ho1 hb1
set_option maxRecDepth 100000 in
set_option maxHeartbeats 8000000 in
theorem at_e1 (nm : ByteArray) (fo lo hi ln : Int) (pt : ByteArray) (b : Nat) (c : List UInt8) (h3 : (fo != 3) = true) (hl : c.length ≤ 32)
    (HO : Hid (∀ w, Calls Tryd.prog 87 #[.agg #[.string nm, .int .i64 1, .int .i64 fo, .int .i64 lo, .int .i64 hi, .int .i64 ln, .string pt], .int .i64 (b : Int)] w fun e w' => e = .returned (.string (str c)) ∧ Below w.heap.size w w')) (w : World) :
    Calls Tryd.prog 55 #[.agg #[.string nm, .int .i64 1, .int .i64 fo, .int .i64 lo, .int .i64 hi, .int .i64 ln, .string pt], .int .i64 (b : Int)] w (StrRow w [c]) := by
  have HX := Lib.hid (fun w => rother_any c hl w)
  clear hl
  go_enter Tryd.func55, Tryd.ntmps55
  go_wp2_with fail
  refine (HO.out _).mono ?_
  rintro e w1 ⟨rfl, hb1⟩
  have hB := (Blk.new w 52 #[.string nm, .int .i64 1, .int .i64 fo, .int .i64 lo, .int .i64 hi, .int .i64 ln, .string pt]).below hb1 (by simp)
  have HG := Lib.hid (bnx (bal (Below.refl _ _) _) hb1)
  have e1 := hB.cell 1
  clear hb1 hB
  go_wp2_with fail
  go_ret
  exact ⟨_, rfl, Tn.own_one w1 9 #[.string (str c)] HG.out.size, bal HG.out _⟩
set_option maxRecDepth 100000 in
set_option maxHeartbeats 8000000 in
theorem at_e2 (nm : ByteArray) (fo lo hi ln : Int) (pt : ByteArray) (b : Nat) (c : List UInt8) (h3 : (fo != 3) = true) (hl : c.length ≤ 32)
    (HO : Hid (∀ w, Calls Tryd.prog 87 #[.agg #[.string nm, .int .i64 2, .int .i64 fo, .int .i64 lo, .int .i64 hi, .int .i64 ln, .string pt], .int .i64 (b : Int)] w fun e w' => e = .returned (.string (str c)) ∧ Below w.heap.size w w')) (w : World) :
    Calls Tryd.prog 55 #[.agg #[.string nm, .int .i64 2, .int .i64 fo, .int .i64 lo, .int .i64 hi, .int .i64 ln, .string pt], .int .i64 (b : Int)] w (StrRow w (othT c)) := by
  have HX := Lib.hid (fun w => rother_any c hl w)
  clear hl
  go_enter Tryd.func55, Tryd.ntmps55
  go_wp2_with fail
  refine (HO.out _).mono ?_
  rintro e w1 ⟨rfl, hb1⟩
  have hB := (Blk.new w 52 #[.string nm, .int .i64 2, .int .i64 fo, .int .i64 lo, .int .i64 hi, .int .i64 ln, .string pt]).below hb1 (by simp)
  have HG := Lib.hid (bnx (bal (Below.refl _ _) _) hb1)
  have e1 := hB.cell 1
  clear hb1 hB
  go_wp2_with fail
  refine (HX.out _).mono ?_
  rintro e w2 ⟨v2, rfl, ho2, hb2⟩
  go_wp2_with fail
  go_ret
  exact str_row HG.out ho2 hb2
set_option maxRecDepth 100000 in
set_option maxHeartbeats 8000000 in
theorem at_rng (nm : ByteArray) (lo hi b : Nat) (hb : b ≤ 32) (hlo : lo ≤ hi) (hhi : hi ≤ topN b) (w : World) :
    Calls Tryd.prog 55 #[.agg #[.string nm, .int .i64 1, .int .i64 3, .int .i64 (lo : Int), .int .i64 (hi : Int), .int .i64 0, .string ⟨#[]⟩], .int .i64 (b : Int)] w (StrRow w ((gre b lo (hi + 1)).map (preT b))) := by
  have htb := top_lt b hb
  have HC := Lib.hid (fun w => rfrom_at b lo (hi + 1) (lo : Int) (hi : Int) hb (by omega) (by omega) rfl (by omega) w)
  clear htb
  go_enter Tryd.func55, Tryd.ntmps55
  go_wp2_with fail
  refine (HC.out _).mono ?_
  rintro e w1 ⟨v1, rfl, ho1, hb1⟩
  go_wp2_with fail
  go_ret
  exact str_row (bal (Below.refl _ _) _) ho1 hb1
set_option maxRecDepth 100000 in
set_option maxHeartbeats 8000000 in
theorem at_nrng (nm : ByteArray) (lo hi b : Nat) (hb : b ≤ 32) (hlo : lo ≤ hi) (hhi : hi ≤ topN b) (w : World) :
    Calls Tryd.prog 55 #[.agg #[.string nm, .int .i64 2, .int .i64 3, .int .i64 (lo : Int), .int .i64 (hi : Int), .int .i64 0, .string ⟨#[]⟩], .int .i64 (b : Int)] w (StrRow w ((gre b 0 lo).map (preT b) ++ (gre b (hi + 1) (2 ^ b)).map (preT b))) := by
  have htb := top_lt b hb
  have H1 := Lib.hid (fun w => rfrom_at b 0 lo (0 : Int) ((lo : Int) - 1) hb (by omega) (by omega) rfl (by omega) w)
  have H2 := Lib.hid (fun w => rfrom_at b (hi + 1) (2 ^ b) ((hi : Int) + 1) (topN b : Int) hb (by omega) (Nat.le_refl _) (by omega) (by omega) w)
  have HT := Lib.hid (fun w => (rtop_any b (by omega) w).mono (fun _ _ x => And.intro x.1 x.2.symm))
  have l1 := gre_len (b := b) (x := 0) (e := lo) hb (by omega)
  have l2 := gre_len (b := b) (x := hi + 1) (e := 2 ^ b) hb (Nat.le_refl _)
  have hw2 : IntKind.i64.wrap ((hi : Int) + 1) = (hi : Int) + 1 := IntWalk.i64_in _ (by omega)
  have hlo2 : lo ≤ 4294967296 := by omega
  generalize (gre b 0 lo).map (preT b) = L1 at *
  generalize (gre b (hi + 1) (2 ^ b)).map (preT b) = L2 at *
  clear htb
  go_enter Tryd.func55, Tryd.ntmps55
  go_wp2_with fail
  refine (H1.out _).mono ?_
  rintro e w1 ⟨v1, rfl, ho1, hb1⟩
  have hD : EiS w #[.string nm, .int .i64 2, .int .i64 3, .int .i64 (lo : Int), .int .i64 (hi : Int), .int .i64 0, .string ⟨#[]⟩] w1 := (EiS.new w _).go hb1
  have hO1 := own_base ho1 (show w.heap.size ≤ (w.alloc (.cells #[.string nm, .int .i64 2, .int .i64 3, .int .i64 (lo : Int), .int .i64 (hi : Int), .int .i64 0, .string ⟨#[]⟩] 52)).heap.size by simp)
  have HO1 := Lib.hid hO1
  clear hb1 ho1 hO1
  have e4 := hD.1.cell 4
  go_wp2_with fail
  have hDD : EiS w #[.string nm, .int .i64 2, .int .i64 3, .int .i64 (lo : Int), .int .i64 (hi : Int), .int .i64 0, .string ⟨#[]⟩] w1.drew := ⟨hD.1.drew, hD.2.drew⟩
  have hK0 : w1.drew.cell? ⟨w.heap.size, 4, none⟩ = some (.int .i64 (hi : Int)) ∧ Below w.heap.size w w1.drew := ⟨hDD.1.cell 4, hDD.2⟩
  clear e4
  go_region_held3 (fun w' => w'.cell? ⟨w.heap.size, 4, none⟩ = some (.int .i64 (hi : Int)) ∧ Below w.heap.size w w')
    (with_reducible (first | assumption | exact hK0 | exact hK1 | fail))
    (first | (go_at_call 85; refine (HT.out _).mono ?_; rintro e w2 ⟨rfl, rfl⟩) | (go_at_call 86; refine (H2.out _).mono ?_; rintro e w3 ⟨v3, rfl, ho3, hb3⟩; have hD3 := EiS.go hDD hb3; have hK1 : w3.cell? ⟨w.heap.size, 4, none⟩ = some (.int .i64 (hi : Int)) ∧ Below w.heap.size w w3 := ⟨hD3.1.cell 4, hD3.2⟩) | fail)
  have hb3' : Below w1.heap.size w1 w3 := ((Below.refl w1.heap.size w1).drew).trans (show Below w1.heap.size w1.drew w3 from hb3)
  have HO3 := Lib.hid (own_below HO1.out hb3' (Nat.le_refl _))
  have HG3 := Lib.hid hD3.2
  have HR3 := Lib.hid ho3
  have HSEP := Lib.hid (show ∀ g, v3.ownBlock = some g → v1.ownBlock ≠ some g from fun g hg hl => by
    have h1 := (HO1.out.lt g hl).2
    have h2 := (HR3.out.lt g hg).1
    have h3 : w1.drew.heap.size = w1.heap.size := rfl
    omega)
  have HRL := Lib.hid (show ∀ g, v3.ownBlock = some g → g < w3.heap.size from fun g hg => (HR3.out.lt g hg).2)
  obtain ⟨a3, cap3, rfl⟩ := own_len ho3
  clear hD hDD hK0 hK1 hb3 hb3' hD3 HO1 ho3
  go_wp2_with fail
  go_loopw [6, 8] (fun m i wr => ∃ k : Nat, k ≤ L2.length ∧ i = .int .i64 (k : Int) ∧ wr.ownsRow w.heap.size 9 1 m (L1.length + k) (sC (L1 ++ L2.take k)) ∧ wr.ownsRow w1.drew.heap.size 9 1 (.slice a3 L2.length cap3) L2.length (sC L2) ∧ (∀ g, (Value.slice a3 L2.length cap3).ownBlock = some g → m.ownBlock ≠ some g) ∧ Below w.heap.size w wr ∧ w3.heap.size ≤ wr.heap.size) (fun _ i _ => L2.length - (intOf i).toNat)
  case atStart => exact ⟨0, Nat.zero_le _, rfl, by rw [List.take_zero, List.append_nil]; exact HO3.out, HR3.out, HSEP.out, HG3.out, Nat.le_refl _⟩
  case round =>
    obtain ⟨k, hk, rfl, hol, hor, hsep, hbel, hsz⟩ := hrel
    have HOLk := Lib.hid hol
    have HORk := Lib.hid hor
    have HSEPk := Lib.hid hsep
    clear hol hor hsep
    by_cases hlt : k < L2.length
    · obtain ⟨gr, cap, hv, hcc, _, hcell⟩ := Tn.own_at HORk.out (by omega)
      simp only [Value.slice.injEq] at hv
      obtain ⟨rfl, _, rfl⟩ := hv
      have q := hcell k _ (sC_at L2 k L2[k] (by simp [hlt]))
      have HTK := Lib.hid (show L1 ++ L2.take (k + 1) = (L1 ++ L2.take k) ++ [L2[k]] from by rw [List.take_succ_eq_append_getElem hlt, List.append_assoc])
      generalize L2[k] = t at *
      clear hcell
      go_wp2_with (at_builtin; refine app_strs t HOLk.out rfl rfl rfl rfl (by omega) hbel.size ?_; intro v4 w4 hown4 hb4 hg4 hat4)
      have hor4 := (HORk.out.alloc (.cells #[.string (str t)] 9)).kept hg4 (.inr (fun h => HSEPk.out gr rfl (h.symm.trans rfl)))
      go_roundw
      case rel => exact ⟨k + 1, by omega, by go_num, by rw [HTK.out, ← Nat.add_assoc]; exact hown4, hor4, fun g hg h => by
          rcases hat4 with h3 | h3
          · exact HSEPk.out g hg (h3 ▸ h)
          · rw [h3] at h
            have := HRL.out g hg
            simp only [Option.some.injEq] at h
            omega, hbel.trans hb4, by have := hb4.size; omega⟩
      case measure => simp [intOf]; omega
    · have hkl : k = L2.length := by omega
      have HF := Lib.hid (show wr.ownsRow w.heap.size 9 1 u6 (L1 ++ L2).length (sC (L1 ++ L2)) from by have := HOLk.out; rw [hkl, List.take_length] at this; rw [List.length_append]; exact this)
      clear hkl
      go_wp2_with fail
      go_ret
      exact ⟨_, rfl, HF.out, hbel⟩
theorem rat_any (T : Tst) (b : Nat) (h1 : 1 ≤ b) (hb : b ≤ 32) (h : Good b T) (w : World) : Calls Tryd.prog 55 #[T.val, .int .i64 (b : Int)] w (StrRow w (valT T b)) := by
  have hone := fun (h3 : T.fo ≠ 3) w => rone_any T b hb h h3 w
  have hform := fun (h3 : T.fo ≠ 3) => one_form h h3
  have key : (T.op = 1 ∨ T.op = 2) → T.fo ≠ 3 → Calls Tryd.prog 55 #[T.val, .int .i64 (b : Int)] w (StrRow w (if T.op = 1 then [oneT T b] else othT (oneT T b))) := by
    intro hop h3
    have hq : (T.fo != 3) = true := by simpa using h3
    have HO := Lib.hid (hone h3)
    obtain ⟨f1, f2⟩ := hform h3
    generalize oneT T b = c at *
    clear hone hform h
    obtain ⟨nm, op, fo, lo, hi, ln, pt⟩ := T
    simp only at hop hq
    rcases hop with rfl | rfl
    · rw [if_pos rfl]
      exact at_e1 nm fo lo hi ln pt b c hq (by omega) HO w
    · rw [if_neg (by show ¬ (2 : Int) = 1; decide)]
      exact at_e2 nm fo lo hi ln pt b c hq (by omega) HO w
  have kv : (T.op = 1 ∨ T.op = 2) → T.fo ≠ 3 → valT T b = if T.op = 1 then [oneT T b] else othT (oneT T b) := by
    intro hop h3
    unfold valT
    rw [if_neg (by omega), if_neg (by omega), if_neg (by omega), if_neg (by omega), if_neg h3]
  cases h with
  | num nm op lo g1 g2 hlo =>
    have hop : (op = 1 ∨ op = 2) ∨ op = 3 ∨ op = 4 ∨ op = 5 ∨ op = 6 := by omega
    rcases hop with hop | rfl | rfl | rfl | rfl
    · rw [kv hop (by show (1 : Int) ≠ 3; decide)]; exact key hop (by show (1 : Int) ≠ 3; decide)
    · exact at_3 nm lo b hb hlo w
    · exact at_4 nm lo b hb hlo w
    · exact at_5 nm lo b hb hlo w
    · exact at_6 nm lo b hb hlo w
  | pre nm op lo ln g1 hlo hln hp => rw [kv g1 (by show (2 : Int) ≠ 3; decide)]; exact key g1 (by show (2 : Int) ≠ 3; decide)
  | rng nm op lo hi g1 hlo hhi =>
    rcases g1 with rfl | rfl
    · exact at_rng nm lo hi b hb hlo hhi w
    · exact at_nrng nm lo hi b hb hlo hhi w
  | pat nm op pt g1 hs hd => rw [kv g1 (by show (4 : Int) ≠ 3; decide)]; exact key g1 (by show (4 : Int) ≠ 3; decide)
end Go.Proofs.YtaleaicfllcpiaaDoor.Fl
