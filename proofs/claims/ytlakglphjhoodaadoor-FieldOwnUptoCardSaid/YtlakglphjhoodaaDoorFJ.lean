/- Merged for FieldOwn -/
import Derived.Test.YtlakglphjhoodaaDoorFI
import Derived.BigQuiet
import Derived.Deep.QuietTactic
namespace Go.Proofs.YtlakglphjhoodaaDoor.Fl
open Go.RowKit Mm Law
set_option linter.unusedSimpArgs false
set_option linter.unusedSectionVars false
set_option linter.unusedVariables false
set_option maxRecDepth 100000 in
set_option maxHeartbeats 8000000 in
theorem either_is (nm : ByteArray) (fo lo hi ln : Int) (pt : ByteArray) (b : Nat) (c : List UInt8) (h3 : (fo == 3) = false)
    (HO : Hid (∀ w, Calls Tryd.prog 58 #[.agg #[.string nm, .int .i64 1, .int .i64 fo, .int .i64 lo, .int .i64 hi, .int .i64 ln, .string pt], .int .i64 (b : Int)] w fun e w' => e = .returned (.string (str c)) ∧ Below w.heap.size w w')) (w : World) :
    Calls Tryd.prog 45 #[.agg #[.string nm, .int .i64 1, .int .i64 fo, .int .i64 lo, .int .i64 hi, .int .i64 ln, .string pt], .int .i64 (b : Int)] w (StrRow w [c]) := by
  go_enter Tryd.func45, Tryd.ntmps45
  go_wp2_with fail
  refine (HO.out _).mono ?_
  rintro e w1 ⟨rfl, hb1⟩
  have hB := (Blk.new w 51 #[.string nm, .int .i64 1, .int .i64 fo, .int .i64 lo, .int .i64 hi, .int .i64 ln, .string pt]).below hb1 (by simp)
  have HG := Lib.hid (bnx (bal (Below.refl _ _) _) hb1)
  have e1 := hB.cell 1
  clear hb1 hB
  go_wp2_with fail
  go_ret
  exact ⟨_, rfl, Tn.own_one w1 9 #[.string (str c)] HG.out.size, bal HG.out _⟩
attribute [local go_sem] Tn.cv Tn.cs Tn.wv
abbrev NinS (W : World) (g n : Nat) (c o : Nat → Bool) (w' : World) : Prop :=
  w'.cell? ⟨g, 0, none⟩ = some (.int .i64 (n : Int)) ∧ w'.cell? ⟨g, 1, none⟩ = some (.int .u64 (Tn.wd c 0 : Nat)) ∧ w'.cell? ⟨g, 2, none⟩ = some (.int .u64 (Tn.wd c 1 : Nat)) ∧ w'.cell? ⟨g, 3, none⟩ = some (.int .u64 (Tn.wd c 2 : Nat)) ∧ w'.cell? ⟨g, 4, none⟩ = some (.int .u64 (Tn.wd c 3 : Nat)) ∧
  w'.cell? ⟨g, 5, none⟩ = some (.int .u64 (Tn.wd o 0 : Nat)) ∧ w'.cell? ⟨g, 6, none⟩ = some (.int .u64 (Tn.wd o 1 : Nat)) ∧ w'.cell? ⟨g, 7, none⟩ = some (.int .u64 (Tn.wd o 2 : Nat)) ∧ w'.cell? ⟨g, 8, none⟩ = some (.int .u64 (Tn.wd o 3 : Nat)) ∧ Below W.heap.size W w'
theorem NinS.of {W w' : World} {g n : Nat} {c o : Nat → Bool} {t : TypeId} (h : Tn.Blk w' g t (Tn.cs n c o)) (hb : Below W.heap.size W w') : NinS W g n c o w' :=
  ⟨h.cell 0, h.cell 1, h.cell 2, h.cell 3, h.cell 4, h.cell 5, h.cell 6, h.cell 7, h.cell 8, hb⟩
theorem show_okB {x : UInt8} (h : x ∈ dShow) : Tn.okB x = true := by
  unfold dShow at h
  simp only [List.mem_cons, List.not_mem_nil, or_false] at h
  rcases h with rfl | rfl | rfl <;> rfl
theorem c_cub {c : List UInt8} (hl : c.length ≤ 256) (hc : ∀ x ∈ c, x ∈ dShow) : Tn.Cub c c.length (Tn.careF c) (Tn.onesF c) := ⟨rfl, rfl, rfl, hl, List.all_eq_true.2 fun x hx => show_okB (hc x hx)⟩
theorem oth_split {c : List UInt8} {b : Nat} (hl : c.length = b) (h1 : 1 ≤ b) (hb : b ≤ 32) : Tn.splitT (Tn.allT (b : Int)) c = othT c := by
  have ha : Tn.allT (b : Int) = List.replicate c.length 120 := by unfold Tn.allT; rw [if_pos (by omega), hl]; rfl
  have hx : ∀ i, i < c.length → Tn.byt (List.replicate c.length 120) i = 120 := fun i hi => by unfold Tn.byt; simp [hi]
  have hok : Tn.meetOk (List.replicate c.length 120) c := ⟨⟨by rw [hl]; intro h; have := congrArg List.length h; simp at this; omega, by simp⟩, fun i hi h => h.1 (hx i (by simpa using hi))⟩
  rw [ha]
  unfold Tn.splitT othT
  rw [if_pos hok, List.length_replicate]
set_option maxRecDepth 100000 in
set_option maxHeartbeats 16000000 in
theorem either_not (nm : ByteArray) (fo lo hi ln : Int) (pt : ByteArray) (b : Nat) (c : List UInt8) (h3 : (fo == 3) = false) (hl : c.length = b) (h1 : 1 ≤ b) (hb : b ≤ 32) (hc : ∀ x ∈ c, x ∈ dShow)
    (HO : Hid (∀ w, Calls Tryd.prog 58 #[.agg #[.string nm, .int .i64 2, .int .i64 fo, .int .i64 lo, .int .i64 hi, .int .i64 ln, .string pt], .int .i64 (b : Int)] w fun e w' => e = .returned (.string (str c)) ∧ Below w.heap.size w w')) (w : World) :
    Calls Tryd.prog 45 #[.agg #[.string nm, .int .i64 2, .int .i64 fo, .int .i64 lo, .int .i64 hi, .int .i64 ln, .string pt], .int .i64 (b : Int)] w (StrRow w (othT c)) := by
  have hC := c_cub (c := c) (by omega) hc
  have hPE : Tn.parseE c = 0 := by
    unfold Tn.parseE
    rw [if_neg (by omega), if_neg (fun h => by rw [h] at hl; simp at hl; omega), if_pos hC.ok]
  have HPA := Lib.hid (fun w => Tn.parse_of hC (str c) (str_list c) w)
  rw [hPE] at HPA
  have HAL := Lib.hid (fun w => Tn.all_any (b : Int) w)
  have HSP := Lib.hid (fun (n : Nat) (d p : Nat → Bool) (h : Tn.Cub (Tn.allT (b : Int)) n d p) w => Tn.split_any h hC w)
  have HSC := Lib.hid (fun (n : Nat) (d p : Nat → Bool) (h : Tn.Cub (Tn.allT (b : Int)) n d p) => Tn.split_cubs h hC)
  rw [oth_split hl h1 hb] at HSP HSC
  have HLN := Lib.hid (show (othT c).length ≤ 32 from by have := Tn.partsT_le (List.replicate c.length 120) c c.length; unfold othT; omega)
  generalize othT c = N at *
  generalize c.length = cn at *
  generalize Tn.careF c = cc at *
  generalize Tn.onesF c = co at *
  clear hC hPE hc hl
  go_enter Tryd.func45, Tryd.ntmps45
  go_wp2_with fail
  refine (HO.out _).mono ?_
  rintro e w1 ⟨rfl, hb1⟩
  have hB := (Blk.new w 51 #[.string nm, .int .i64 2, .int .i64 fo, .int .i64 lo, .int .i64 hi, .int .i64 ln, .string pt]).below hb1 (by simp)
  have HG1 := Lib.hid (bnx (bal (Below.refl _ _) _) hb1)
  have e1 := hB.cell 1
  clear hb1 hB
  go_wp2_with fail
  refine (HPA.out _).mono ?_
  rintro e w2 ⟨rfl, hb2⟩
  have HG2 := Lib.hid (bnx HG1.out hb2)
  clear hb2 e1
  go_wp2_with fail
  have hN : Tn.Blk (w2.alloc (.cells #[.int .i64 (cn : Int), .int .u64 (Tn.wd cc 0 : Nat), .int .u64 (Tn.wd cc 1 : Nat), .int .u64 (Tn.wd cc 2 : Nat), .int .u64 (Tn.wd cc 3 : Nat), .int .u64 (Tn.wd co 0 : Nat), .int .u64 (Tn.wd co 1 : Nat), .int .u64 (Tn.wd co 2 : Nat), .int .u64 (Tn.wd co 3 : Nat)] 114)) w2.heap.size 114 (Tn.cs cn cc co) := Tn.Blk.new _ _ _
  have hG3 := bal HG2.out (.cells #[.int .i64 (cn : Int), .int .u64 (Tn.wd cc 0 : Nat), .int .u64 (Tn.wd cc 1 : Nat), .int .u64 (Tn.wd cc 2 : Nat), .int .u64 (Tn.wd cc 3 : Nat), .int .u64 (Tn.wd co 0 : Nat), .int .u64 (Tn.wd co 1 : Nat), .int .u64 (Tn.wd co 2 : Nat), .int .u64 (Tn.wd co 3 : Nat)] 114)
  generalize hW : World.alloc w2 (.cells #[.int .i64 (cn : Int), .int .u64 (Tn.wd cc 0 : Nat), .int .u64 (Tn.wd cc 1 : Nat), .int .u64 (Tn.wd cc 2 : Nat), .int .u64 (Tn.wd cc 3 : Nat), .int .u64 (Tn.wd co 0 : Nat), .int .u64 (Tn.wd co 1 : Nat), .int .u64 (Tn.wd co 2 : Nat), .int .u64 (Tn.wd co 3 : Nat)] 114) = W at *
  have hND := hN.drew
  have hK0 := NinS.of hND hG3.drew
  clear hW
  go_region_held3 (NinS w w2.heap.size cn cc co)
    (with_reducible (first | assumption | exact hK0 | exact hK1 | exact hK3 | fail))
    (first | (go_at_call 60; refine (HAL.out _).mono ?_; rintro e w3 ⟨n3, c3, o3, hC3, rfl, hb3⟩; have hB3 := hND.below hb3 hND.lt; have hG4 := bnx hG3.drew hb3; have hK1 := NinS.of hB3 hG4) | (go_at_call 61; refine (HSP.out n3 c3 o3 hC3 _).mono ?_; rintro e w5 ⟨v5, rfl, ho5, hb5⟩; obtain ⟨a5, cap5, rfl⟩ := own_len ho5; have hB5 := hB3.below hb5 hB3.lt; have hG5 := bnx hG4 hb5; have hK3 := NinS.of hB5 hG5) | fail)
  have HS := Lib.hid (HSC.out n3 c3 o3 hC3)
  have HO5 := Lib.hid ho5
  have HG5 := Lib.hid hG5
  clear hK0 hK1 hK3 hND hN hB3 hB5 hG4 hG3 hC3 ho5 hb3 hb5 hG5 HSP HSC HAL HPA HO
  go_wp2_with fail
  go_loopw [8, 54] (fun m i wr => ∃ k : Nat, k ≤ N.length ∧ i = .int .i64 (k : Int) ∧ wr.ownsRow w5.heap.size 9 1 m k (sC (N.take k)) ∧ Below w5.heap.size w5 wr) (fun _ i _ => N.length - (intOf i).toNat)
  case atStart => exact ⟨0, Nat.zero_le _, rfl, World.ownsRow_nil _ _ _ _, Below.refl _ _⟩
  case round =>
    obtain ⟨k, hk, rfl, hown, hbel⟩ := hrel
    have HOW := Lib.hid hown
    clear hown
    by_cases hlt : k < N.length
    · have hrow := own_below HO5.out hbel (Nat.le_refl _)
      obtain ⟨g1, c1, e1, hcap1, _, hx1⟩ := Tn.own_at hrow (by omega)
      cases e1
      obtain ⟨nk, ck, ok, hCk⟩ := HS.out N[k] (List.getElem_mem hlt)
      have hg : ∀ j u, j < 9 → (Tn.cs nk ck ok)[j]? = some u → wr.cell? ⟨g1, k * 9 + j, none⟩ = some u := fun j u hj hu => hx1 _ _ (by rw [Tn.crow_at N k hlt j hj, ← hCk.cells, Array.getElem?_toList]; exact hu)
      have q0 := hg 0 _ (by omega) rfl
      have q1 := hg 1 _ (by omega) rfl
      have q2 := hg 2 _ (by omega) rfl
      have q3 := hg 3 _ (by omega) rfl
      have q4 := hg 4 _ (by omega) rfl
      have q5 := hg 5 _ (by omega) rfl
      have q6 := hg 6 _ (by omega) rfl
      have q7 := hg 7 _ (by omega) rfl
      have q8 := hg 8 _ (by omega) rfl
      rw [Nat.add_zero] at q0
      have HTX := Lib.hid (fun w => Tn.text_any N[k] nk ck ok w hCk)
      have HT := Lib.hid (show N.take (k + 1) = N.take k ++ [N[k]] from List.take_succ_eq_append_getElem hlt)
      have hn32 : N.length ≤ 32 := HLN.out
      generalize N[k] = tk at *
      clear hg hx1 hrow hCk
      go_wp2_with fail
      refine (HTX.out _).mono ?_
      rintro e w6 ⟨rfl, hb6⟩
      have HO6 := Lib.hid (own_below (HOW.out.alloc _) hb6 (Nat.le_refl _))
      have HB6 := Lib.hid ((hbel.alloc hbel.size _).trans (hb6.mono (Nat.le_trans hbel.size (by simp))))
      clear hb6
      go_wp2_with (at_builtin; refine app_str tk HO6.out rfl rfl rfl rfl (by omega) HB6.out.size ?_; intro v1 w7 hown7 hb7)
      go_roundw
      case rel => exact ⟨k + 1, by omega, by go_num, by rw [HT.out]; exact hown7, HB6.out.trans hb7⟩
      case measure => simp [intOf]; omega
    · have hkl : k = N.length := by omega
      have HF := Lib.hid (show wr.ownsRow w5.heap.size 9 1 u8 N.length (sC N) from by have := HOW.out; rw [hkl, List.take_length] at this; exact this)
      clear hkl
      go_wp2_with fail
      go_ret
      exact str_row HG5.out HF.out hbel
end Go.Proofs.YtlakglphjhoodaaDoor.Fl

namespace Go.Proofs.YtlakglphjhoodaaDoor.Fl
open Go.RowKit Mm Law
set_option linter.unusedVariables false
set_option maxRecDepth 100000 in
set_option maxHeartbeats 8000000 in
theorem values_3 (nm : ByteArray) (lo b : Nat) (hb : b ≤ 32) (hlo : lo ≤ topN b) (w : World) :
    Calls Tryd.prog 32 #[.agg #[.string nm, .int .i64 3, .int .i64 1, .int .i64 (lo : Int), .int .i64 0, .int .i64 0, .string ⟨#[]⟩], .int .i64 (b : Int)] w (StrRow w ((gre b 0 lo).map (preT b))) := by
  have htb := top_lt b hb
  have HC := Lib.hid (fun w => cov_at b 0 lo (0) ((lo : Int) - 1) hb (by omega) (by omega) (by omega) (by omega) w)
  have HT := Lib.hid (fun w => (top_any b (by omega) w).mono (fun _ _ x => And.intro x.1 x.2.symm))
  have hlo2 : lo ≤ 4294967296 := by omega
  clear htb hlo
  go_enter Tryd.func32, Tryd.ntmps32
  go_wp2_with fail
  go_quiet (fail)
  go_wp2_with fail
  refine (HC.out _).mono ?_
  rintro e w1 ⟨v1, rfl, ho1, hb1⟩
  go_wp2_with fail
  go_ret
  exact str_row (below_drewN (bal (Below.refl _ _) _) _) ho1 hb1
set_option maxRecDepth 100000 in
set_option maxHeartbeats 8000000 in
theorem values_4 (nm : ByteArray) (lo b : Nat) (hb : b ≤ 32) (hlo : lo ≤ topN b) (w : World) :
    Calls Tryd.prog 32 #[.agg #[.string nm, .int .i64 4, .int .i64 1, .int .i64 (lo : Int), .int .i64 0, .int .i64 0, .string ⟨#[]⟩], .int .i64 (b : Int)] w (StrRow w ((gre b 0 (lo + 1)).map (preT b))) := by
  have htb := top_lt b hb
  have HC := Lib.hid (fun w => cov_at b 0 (lo + 1) (0) ((lo : Int)) hb (by omega) (by omega) (by omega) (by omega) w)
  have HT := Lib.hid (fun w => (top_any b (by omega) w).mono (fun _ _ x => And.intro x.1 x.2.symm))
  have hlo2 : lo ≤ 4294967296 := by omega
  clear htb hlo
  go_enter Tryd.func32, Tryd.ntmps32
  go_wp2_with fail
  go_quiet (fail)
  go_wp2_with fail
  refine (HC.out _).mono ?_
  rintro e w1 ⟨v1, rfl, ho1, hb1⟩
  go_wp2_with fail
  go_ret
  exact str_row (below_drewN (bal (Below.refl _ _) _) _) ho1 hb1
set_option maxRecDepth 100000 in
set_option maxHeartbeats 8000000 in
theorem values_5 (nm : ByteArray) (lo b : Nat) (hb : b ≤ 32) (hlo : lo ≤ topN b) (w : World) :
    Calls Tryd.prog 32 #[.agg #[.string nm, .int .i64 5, .int .i64 1, .int .i64 (lo : Int), .int .i64 0, .int .i64 0, .string ⟨#[]⟩], .int .i64 (b : Int)] w (StrRow w ((gre b (lo + 1) (2 ^ b)).map (preT b))) := by
  have htb := top_lt b hb
  have HC := Lib.hid (fun w => cov_at b (lo + 1) (2 ^ b) ((lo : Int) + 1) ((topN b : Int)) hb (by omega) (by omega) (by omega) (by omega) w)
  have HT := Lib.hid (fun w => (top_any b (by omega) w).mono (fun _ _ x => And.intro x.1 x.2.symm))
  have hlo2 : lo ≤ 4294967296 := by omega
  clear htb hlo
  go_enter Tryd.func32, Tryd.ntmps32
  go_wp2_with fail
  go_quiet (fail)
  go_wp2_with fail
  refine (HT.out _).mono ?_
  rintro e w0 ⟨rfl, rfl⟩
  go_wp2_with fail
  refine (HC.out _).mono ?_
  rintro e w1 ⟨v1, rfl, ho1, hb1⟩
  go_wp2_with fail
  go_ret
  exact str_row (below_drewN (bal (Below.refl _ _) _) _) ho1 hb1
set_option maxRecDepth 100000 in
set_option maxHeartbeats 8000000 in
theorem values_6 (nm : ByteArray) (lo b : Nat) (hb : b ≤ 32) (hlo : lo ≤ topN b) (w : World) :
    Calls Tryd.prog 32 #[.agg #[.string nm, .int .i64 6, .int .i64 1, .int .i64 (lo : Int), .int .i64 0, .int .i64 0, .string ⟨#[]⟩], .int .i64 (b : Int)] w (StrRow w ((gre b lo (2 ^ b)).map (preT b))) := by
  have htb := top_lt b hb
  have HC := Lib.hid (fun w => cov_at b lo (2 ^ b) ((lo : Int)) ((topN b : Int)) hb (by omega) (by omega) (by omega) (by omega) w)
  have HT := Lib.hid (fun w => (top_any b (by omega) w).mono (fun _ _ x => And.intro x.1 x.2.symm))
  have hlo2 : lo ≤ 4294967296 := by omega
  clear htb hlo
  go_enter Tryd.func32, Tryd.ntmps32
  go_wp2_with fail
  go_quiet (fail)
  go_wp2_with fail
  refine (HT.out _).mono ?_
  rintro e w0 ⟨rfl, rfl⟩
  go_wp2_with fail
  refine (HC.out _).mono ?_
  rintro e w1 ⟨v1, rfl, ho1, hb1⟩
  go_wp2_with fail
  go_ret
  exact str_row (below_drewN (bal (Below.refl _ _) _) _) ho1 hb1
set_option maxRecDepth 100000 in
set_option maxHeartbeats 8000000 in
theorem values_e1 (nm : ByteArray) (fo lo hi ln : Int) (pt : ByteArray) (b : Nat) (L : List (List UInt8)) (HE : Hid (∀ w, Calls Tryd.prog 45 #[.agg #[.string nm, .int .i64 1, .int .i64 fo, .int .i64 lo, .int .i64 hi, .int .i64 ln, .string pt], .int .i64 (b : Int)] w (StrRow w L))) (w : World) :
    Calls Tryd.prog 32 #[.agg #[.string nm, .int .i64 1, .int .i64 fo, .int .i64 lo, .int .i64 hi, .int .i64 ln, .string pt], .int .i64 (b : Int)] w (StrRow w L) := by
  go_enter Tryd.func32, Tryd.ntmps32
  go_wp2_with fail
  go_quiet (fail)
  go_wp2_with fail
  refine (HE.out _).mono ?_
  rintro e w1 ⟨v1, rfl, ho1, hb1⟩
  go_wp2_with fail
  go_ret
  exact str_row (below_drewN (bal (Below.refl _ _) _) _) ho1 hb1
set_option maxRecDepth 100000 in
set_option maxHeartbeats 8000000 in
theorem values_e2 (nm : ByteArray) (fo lo hi ln : Int) (pt : ByteArray) (b : Nat) (L : List (List UInt8)) (HE : Hid (∀ w, Calls Tryd.prog 45 #[.agg #[.string nm, .int .i64 2, .int .i64 fo, .int .i64 lo, .int .i64 hi, .int .i64 ln, .string pt], .int .i64 (b : Int)] w (StrRow w L))) (w : World) :
    Calls Tryd.prog 32 #[.agg #[.string nm, .int .i64 2, .int .i64 fo, .int .i64 lo, .int .i64 hi, .int .i64 ln, .string pt], .int .i64 (b : Int)] w (StrRow w L) := by
  go_enter Tryd.func32, Tryd.ntmps32
  go_wp2_with fail
  go_quiet (fail)
  go_wp2_with fail
  refine (HE.out _).mono ?_
  rintro e w1 ⟨v1, rfl, ho1, hb1⟩
  go_wp2_with fail
  go_ret
  exact str_row (below_drewN (bal (Below.refl _ _) _) _) ho1 hb1
theorem preT_form (b v k : Nat) (hk : k ≤ b) : (preT b (v, k)).length = b ∧ ∀ x ∈ preT b (v, k), x ∈ dShow := by
  refine ⟨preT_len hk, fun x hx => ?_⟩
  unfold preT at hx
  rcases List.mem_append.1 hx with h | h
  · unfold hiB at h
    obtain ⟨i, _, rfl⟩ := List.mem_map.1 h
    unfold bitB dShow
    split <;> simp
  · have := List.eq_of_mem_replicate h
    subst this
    decide
theorem one_form {T : Tst} {b : Nat} (h : Good b T) (h3 : T.fo ≠ 3) : (oneT T b).length = b ∧ ∀ x ∈ oneT T b, x ∈ dShow := by
  cases h with
  | num nm op lo h1 h2 hlo => exact preT_form b lo 0 (Nat.zero_le _)
  | pre nm op lo ln h1 hlo hln hp => exact preT_form b lo (b - ln) (Nat.sub_le _ _)
  | rng nm op lo hi h1 hlo hhi => exact absurd rfl h3
  | pat nm op pt h1 hs hd => exact ⟨by show pt.data.toList.length = b; rw [len_s]; exact hs, hd⟩
theorem values_any (T : Tst) (b : Nat) (h1 : 1 ≤ b) (hb : b ≤ 32) (h : Good b T) (w : World) : Calls Tryd.prog 32 #[T.val, .int .i64 (b : Int)] w (StrRow w (valT T b)) := by
  have hone := fun (h3 : T.fo ≠ 3) w => one_any T b hb h h3 w
  have hform := fun (h3 : T.fo ≠ 3) => one_form h h3
  have key : (T.op = 1 ∨ T.op = 2) → T.fo ≠ 3 → Calls Tryd.prog 32 #[T.val, .int .i64 (b : Int)] w (StrRow w (if T.op = 1 then [oneT T b] else othT (oneT T b))) := by
    intro hop h3
    have hq : (T.fo == 3) = false := by simpa using h3
    have HO := Lib.hid (hone h3)
    obtain ⟨f1, f2⟩ := hform h3
    generalize oneT T b = c at *
    clear hone hform h
    obtain ⟨nm, op, fo, lo, hi, ln, pt⟩ := T
    simp only at hop hq
    rcases hop with rfl | rfl
    · rw [if_pos rfl]
      exact values_e1 nm fo lo hi ln pt b _ (Lib.hid (fun w => either_is nm fo lo hi ln pt b c hq HO w)) w
    · rw [if_neg (by show ¬ (2 : Int) = 1; decide)]
      exact values_e2 nm fo lo hi ln pt b _ (Lib.hid (fun w => either_not nm fo lo hi ln pt b c hq f1 h1 hb f2 HO w)) w
  have kv : (T.op = 1 ∨ T.op = 2) → T.fo ≠ 3 → valT T b = if T.op = 1 then [oneT T b] else othT (oneT T b) := by
    intro hop h3
    unfold valT
    rw [if_neg (by omega), if_neg (by omega), if_neg (by omega), if_neg (by omega), if_neg h3]
  cases h with
  | num nm op lo g1 g2 hlo =>
    have hop : (op = 1 ∨ op = 2) ∨ op = 3 ∨ op = 4 ∨ op = 5 ∨ op = 6 := by omega
    rcases hop with hop | rfl | rfl | rfl | rfl
    · rw [kv hop (by show (1 : Int) ≠ 3; decide)]; exact key hop (by show (1 : Int) ≠ 3; decide)
    · exact values_3 nm lo b hb hlo w
    · exact values_4 nm lo b hb hlo w
    · exact values_5 nm lo b hb hlo w
    · exact values_6 nm lo b hb hlo w
  | pre nm op lo ln g1 hlo hln hp => rw [kv g1 (by show (2 : Int) ≠ 3; decide)]; exact key g1 (by show (2 : Int) ≠ 3; decide)
  | rng nm op lo hi g1 hlo hhi =>
    rcases g1 with rfl | rfl
    · exact values_e1 nm 3 lo hi 0 ⟨#[]⟩ b _ (Lib.hid (fun w => either_rng nm lo hi b hb hlo hhi w)) w
    · exact values_e2 nm 3 lo hi 0 ⟨#[]⟩ b _ (Lib.hid (fun w => either_nrng nm lo hi b hb hlo hhi w)) w
  | pat nm op pt g1 hs hd => rw [kv g1 (by show (4 : Int) ≠ 3; decide)]; exact key g1 (by show (4 : Int) ≠ 3; decide)
end Go.Proofs.YtlakglphjhoodaaDoor.Fl

namespace Go.Proofs.YtlakglphjhoodaaDoor.Fl
open Go.RowKit Mm Law
set_option linter.unusedVariables false
noncomputable def cuE (T : Tst) (l : List Fld) : Int := if (chk l).1 ≠ 0 then (chk l).1 else tstE T l
def wrapC (p q : Nat) (c : List UInt8) : List UInt8 := List.replicate p 120 ++ c ++ List.replicate q 120
noncomputable def cuT (T : Tst) (l : List Fld) : List (List UInt8) :=
  if cuE T l = 0 then (valT T (bitsAt l (idxF l T.nm))).map (wrapC (posN l (idxF l T.nm)) (posN l l.length - posN l (idxF l T.nm + 1))) else []
def CuAns (w : World) (T : Tst) (l : List Fld) (e : Ending) (w' : World) : Prop := ∃ u, e = .returned (.tuple #[u, .int .i64 (cuE T l)]) ∧ w'.ownsRow w.heap.size 9 1 u (cuT T l).length (sC (cuT T l)) ∧ Below w.heap.size w w'
theorem cu_err {w : World} {T : Tst} {l : List Fld} {c : Int} (h : cuE T l = c) (h0 : c ≠ 0) {w' : World} (hb : Below w.heap.size w w') : CuAns w T l (.returned (.tuple #[.slice none 0 0, .int .i64 c])) w' := by
  have hT : cuT T l = [] := by unfold cuT; rw [h, if_neg h0]
  refine ⟨_, by rw [h], ?_, hb⟩
  rw [hT]
  exact World.ownsRow_nil _ _ _ _
theorem cu_ok {w : World} {T : Tst} {l : List Fld} {k b p q : Nat} {v : Value} (h : cuE T l = 0) (hk : idxF l T.nm = k) (hb : bitsAt l k = b) (hp : posN l k = p) (hq : posN l l.length - posN l (k + 1) = q) {w' : World} (ho : w'.ownsRow w.heap.size 9 1 v ((valT T b).map (wrapC p q)).length (sC ((valT T b).map (wrapC p q)))) (hbl : Below w.heap.size w w') :
    CuAns w T l (.returned (.tuple #[v, .int .i64 0])) w' := by
  have hT : cuT T l = (valT T b).map (wrapC p q) := by unfold cuT; rw [if_pos h, hk, hb, hp, hq]
  refine ⟨v, by rw [h], ?_, hbl⟩
  rw [hT]
  exact ho
theorem cu_chk {T : Tst} {l : List Fld} {c : Int} (h1 : (chk l).1 = c) (h0 : c ≠ 0) : cuE T l = c := by unfold cuE; rw [if_pos (by rw [h1]; exact h0), h1]
theorem cu_tst {T : Tst} {l : List Fld} {c : Int} (h1 : (chk l).1 = 0) (h : tstE T l = c) : cuE T l = c := by unfold cuE; rw [if_neg (by rw [h1]; simp), h]
theorem cu_bd (T : Tst) (l : List Fld) : -9223372036854775808 ≤ cuE T l ∧ cuE T l ≤ 9223372036854775807 := by
  unfold cuE
  split
  · have := chk_form l; omega
  · unfold tstE
    split
    · have := fit_bd T (l[idxF l T.nm].2).toNat; omega
    · decide
theorem pos_drop {l : List Fld} (hw : Wide l) {k : Nat} (hk : k ≤ l.length) : sumTo (l.drop k) (l.drop k).length = ((posN l l.length - posN l k : Nat) : Int) := by
  have h1 := pos_int hw (k := l.length) (Nat.le_refl _)
  have h2 := pos_int hw hk
  have h3 := pos_mono hw hk (Nat.le_refl _)
  have h4 : sumTo l l.length = sumTo l k + sumTo (l.drop k) (l.drop k).length := by
    unfold sumTo
    rw [List.take_length, List.take_length, ← List.sum_append, ← List.map_append, List.take_append_drop]
  omega
theorem drop_slice (l : List Fld) (a : Option Addr) (cap k : Nat) (w : World) (hv : SeesF w (.slice a l.length cap) l) (hk : k ≤ l.length) :
    ∃ a1, (∀ W, (Instr.slice 24 (.slice a l.length cap) (some (.int .i64 (k : Int))) none none).run Tryd.prog W = .ok (.slice a1 (l.length - k) (cap - k)) W) ∧ SeesF w (.slice a1 (l.length - k) (cap - k)) (l.drop k) := by
  obtain ⟨a', cap', hv', hc, hm, hx, hw⟩ := hv
  cases hv'
  obtain ⟨i0, hi, hz0, hz1, hz2⟩ := info_parts info_fld
  have he : Tryd.prog.elem 24 = 27 := by kernel_rfl
  have hs : ∀ W, (sizeOf (Tryd.prog.elem 24)).run Tryd.prog W = .ok 2 W := fun W => by rw [he]; simp [sizeOf, typeInfo, hi, hz1]
  refine ⟨if cap = k then a else a.map (·.add (k * 2)), fun W => ?_, ?_⟩
  · rw [run_slice_l (P := Tryd.prog) W 24 a l.length cap (by rw [he]; exact Tryd.underlying24) .i64 (k : Int) (by omega) (by omega), hs]
    rfl
  · refine ⟨_, _, by rw [List.length_drop], by rw [List.length_drop]; omega, by omega, ?_, fun f hf => hw f (List.mem_of_mem_drop hf)⟩
    rcases hx with hx | ⟨b, off, ha, hlt, hx⟩
    · left; rw [hx]; simp
    · by_cases hlen : k = l.length
      · left; rw [hlen]; simp
      · right
        subst ha
        have hadd : (⟨b, off, none⟩ : Addr).add (k * 2) = ⟨b, off + k * 2, none⟩ := by unfold Addr.add; split <;> simp_all
        refine ⟨b, off + k * 2, by rw [if_neg (by omega)]; exact congrArg some hadd, hlt, fun j f hj => ?_⟩
        rw [List.getElem?_drop] at hj
        have h := hx (k + j) f hj
        rw [show off + k * 2 + j * 2 = off + (k + j) * 2 from by omega, show off + k * 2 + (j * 2 + 1) = off + ((k + j) * 2 + 1) from by omega]
        exact h
theorem width_cut (l : List Fld) (a : Option Addr) (cap k : Nat) (w : World) (hv : SeesF w (.slice a l.length cap) l) (h12 : l.length ≤ 12) (hbd : ∀ j, (hj : j < l.length) → 1 ≤ l[j].2 ∧ l[j].2 ≤ 32) (hk : k ≤ l.length) :
    Calls Tryd.prog 31 #[.slice a k cap] w fun e w' => e = .returned (.int .i64 (sumTo l k)) ∧ Below w.heap.size w w' := by
  have h := width_any (l.take k) _ w (hv.take k hk) (by simp; omega) (fun j hj => by
    rw [List.length_take] at hj
    rw [List.getElem_take]
    exact hbd j (by omega))
  have e : sumTo (l.take k) (l.take k).length = sumTo l k := by
    unfold sumTo
    rw [List.take_length]
  rw [e] at h
  exact h
theorem width_drop (l : List Fld) (a1 : Option Addr) (n c k : Nat) (w : World) (hv : SeesF w (.slice a1 n c) (l.drop k)) (h12 : l.length ≤ 12) (hw : Wide l) (hk : k ≤ l.length) :
    Calls Tryd.prog 31 #[.slice a1 n c] w fun e w' => e = .returned (.int .i64 ((posN l l.length - posN l k : Nat) : Int)) ∧ Below w.heap.size w w' := by
  have h := width_any (l.drop k) _ w hv (by rw [List.length_drop]; omega) (fun j hj => by
    rw [List.length_drop] at hj
    rw [List.getElem_drop]
    exact hw (k + j) (by omega))
  rw [pos_drop hw hk] at h
  exact h
end Go.Proofs.YtlakglphjhoodaaDoor.Fl

namespace Go.Proofs.YtlakglphjhoodaaDoor.Fl
open Go.RowKit Mm Law
set_option linter.unusedVariables false
theorem gre_form {b e : Nat} : ∀ n x, e - x ≤ n → ∀ q ∈ gre b x e, q.2 ≤ b := by
  intro n
  induction n with
  | zero => intro x hx q hq; rw [gre_no (by omega)] at hq; exact absurd hq (by simp)
  | succ n ih =>
    intro x hx q hq
    by_cases h : x < e
    · rw [gre_yes h] at hq
      have hs := fr_spec (b := b) (x := x) (e := e) b 0 (by omega) (by omega) (okB_zero h)
      have hp : 0 < 2 ^ fr b x e 0 := Nat.pow_pos (by omega)
      rcases List.mem_cons.1 hq with h1 | h1
      · rw [h1]; exact hs.2.2.1
      · exact ih _ (by omega) q h1
    · rw [gre_no (by omega)] at hq; exact absurd hq (by simp)
theorem gre_size {b x e : Nat} : ∀ c ∈ (gre b x e).map (preT b), c.length = b := by
  intro c hc
  obtain ⟨q, hq, rfl⟩ := List.mem_map.1 hc
  exact preT_len (gre_form _ x (Nat.le_refl _) q hq)
theorem oth_size (c : List UInt8) : ∀ x ∈ othT c, x.length = c.length := by
  intro x hx
  unfold othT Tn.partsT at hx
  obtain ⟨i, _, rfl⟩ := List.mem_map.1 hx
  unfold Tn.partT
  simp
theorem val_size {T : Tst} {b : Nat} (h : Good b T) : ∀ c ∈ valT T b, c.length = b := by
  intro c hc
  unfold valT at hc
  split at hc
  · exact gre_size c hc
  split at hc
  · exact gre_size c hc
  split at hc
  · exact gre_size c hc
  split at hc
  · exact gre_size c hc
  split at hc
  · split at hc
    · exact gre_size c hc
    · rcases List.mem_append.1 hc with h1 | h1
      · exact gre_size c h1
      · exact gre_size c h1
  · rename_i h3
    have hf := (one_form h h3).1
    split at hc
    · have : c = oneT T b := by simpa using hc
      rw [this]; exact hf
    · rw [oth_size _ c hc, hf]
theorem val_len {T : Tst} {b : Nat} (hb : b ≤ 32) (h : Good b T) : (valT T b).length ≤ 8589934592 := by
  have ht := top_lt b hb
  have hlo : T.lo.toNat ≤ topN b ∧ T.hi.toNat ≤ topN b := by
    cases h with
    | num nm op lo h1 h2 hlo => exact ⟨hlo, Nat.zero_le _⟩
    | pre nm op lo ln h1 hlo hln hp => exact ⟨hlo, Nat.zero_le _⟩
    | rng nm op lo hi h1 hlo hhi => exact ⟨by show lo ≤ _; omega, hhi⟩
    | pat nm op pt h1 hs hd => exact ⟨Nat.zero_le _, Nat.zero_le _⟩
  have g := fun x e (he : e ≤ 2 ^ b) => gre_len (b := b) (x := x) (e := e) hb he
  have g1 := g 0 T.lo.toNat (by omega)
  have g2 := g 0 (T.lo.toNat + 1) (by omega)
  have g3 := g (T.lo.toNat + 1) (2 ^ b) (Nat.le_refl _)
  have g4 := g T.lo.toNat (2 ^ b) (Nat.le_refl _)
  have g5 := g T.lo.toNat (T.hi.toNat + 1) (by omega)
  have g6 := g (T.hi.toNat + 1) (2 ^ b) (Nat.le_refl _)
  unfold valT
  split
  · omega
  split
  · omega
  split
  · omega
  split
  · omega
  split
  · split
    · omega
    · rw [List.length_append]; omega
  · rename_i h3
    split
    · simp
    · have hf := (one_form h h3).1
      have := Tn.partsT_le (List.replicate (oneT T b).length 120) (oneT T b) (oneT T b).length
      unfold othT
      omega
def midL (f : List UInt8 → List UInt8) (L : List (List UInt8)) (k : Nat) : List (List UInt8) := (L.take k).map f ++ L.drop k
theorem mid_len (f : List UInt8 → List UInt8) (L : List (List UInt8)) {k : Nat} (hk : k ≤ L.length) : (midL f L k).length = L.length := by unfold midL; simp; omega
theorem mid_zero (f : List UInt8 → List UInt8) (L : List (List UInt8)) : midL f L 0 = L := by unfold midL; simp
theorem mid_all (f : List UInt8 → List UInt8) (L : List (List UInt8)) : midL f L L.length = L.map f := by unfold midL; simp
theorem mid_get (f : List UInt8 → List UInt8) (L : List (List UInt8)) {k : Nat} (hk : k < L.length) : (midL f L k)[k]? = some L[k] := by
  unfold midL
  rw [List.getElem?_append_right (by simp; omega)]
  simp [Nat.min_eq_left (Nat.le_of_lt hk), hk]
theorem mid_step (f : List UInt8 → List UInt8) (L : List (List UInt8)) {k : Nat} (hk : k < L.length) : (midL f L k).set k (f L[k]) = midL f L (k + 1) := by
  unfold midL
  rw [List.set_append_right _ _ (by simp; omega), List.take_succ_eq_append_getElem hk, List.map_append]
  have e : k - ((L.take k).map f).length = 0 := by simp; omega
  rw [e, List.drop_eq_getElem_cons hk, List.set_cons_zero, List.append_assoc]
  rfl
theorem sC_set (L : List (List UInt8)) (k : Nat) (c : List UInt8) : (sC L).set k (.string (str c)) = sC (L.set k c) := by unfold sC; rw [List.map_set]
theorem wrap_str (a b : Nat) (c : List UInt8) : str (List.replicate a 120) ++ str c ++ str (List.replicate b 120) = str (wrapC a b c) := by unfold wrapC; rw [str_app, str_app]
set_option maxRecDepth 100000 in
set_option maxHeartbeats 16000000 in
theorem cubes_any (l : List Fld) (v : Value) (T : Tst) (hpm : T.pt.size ≤ maxLen) (w : World) (hv : SeesF w v l) (hu : Used w) :
    Calls Tryd.prog 16 #[v, T.val] w (CuAns w T l) := by
  have HCK := Lib.hid (fun w' (h : Below w.heap.size w w') => check_any l v w' (hv.below h))
  have HV := Lib.hid hv
  obtain ⟨a0, cap0, rfl, hcap, hcm, hx, hw⟩ := hv
  have HX := Lib.hid hx
  unfold maxLen at hcm
  obtain ⟨c1, c2, hcc⟩ : ∃ c1 c2, chk l = (c1, c2) := ⟨_, _, rfl⟩
  rw [hcc] at HCK
  have h1 : (chk l).1 = c1 := by rw [hcc]
  clear hx hw hcc
  by_cases hc : c1 = 0
  · subst hc
    have HZ := Lib.hid (chk_zero h1)
    have HC0 := Lib.hid h1
    have hz : 0 < l.length ∧ l.length ≤ 12 := ⟨HZ.out.1, HZ.out.2.1⟩
    obtain ⟨hl0, hl12⟩ := hz
    have HWI := Lib.hid (show Wide l from HZ.out.2.2)
    have HFI := Lib.hid (fun w' (h : Below w.heap.size w w') => find_at l _ T.nm w' (HV.out.below h))
    clear h1
    by_cases hix : idxF l T.nm < l.length
    · have hi2 : idxI l T.nm = (idxF l T.nm : Int) := by unfold idxI; rw [if_pos hix]
      rw [hi2] at HFI
      obtain ⟨k, hk⟩ : ∃ k, idxF l T.nm = k := ⟨_, rfl⟩
      have HKK := Lib.hid hk
      rw [hk] at hix HFI
      have hbk := bitsAt_get HWI.out hix
      obtain ⟨b, hbb⟩ : ∃ b, bitsAt l k = b := ⟨_, rfl⟩
      have HBB := Lib.hid hbb
      rw [hbb] at hbk
      obtain ⟨hb1, hb2, hb32⟩ := hbk
      have HTS := Lib.hid (tst_yes hix hk hb1.symm)
      obtain ⟨g, off, rfl, hg, hq⟩ : ∃ g off, a0 = some ⟨g, off, none⟩ ∧ g < w.heap.size ∧ ∀ j f, l[j]? = some f → w.cell? ⟨g, off + j * 2, none⟩ = some (.string f.1) ∧ w.cell? ⟨g, off + (j * 2 + 1), none⟩ = some (.int .i64 f.2) := by
        rcases HX.out with h0 | h0
        · rw [h0] at hix; simp at hix
        · exact h0
      have q1 := (hq k l[k] (by simp [hix])).2
      rw [← hb1, ← Nat.add_assoc] at q1
      have HQ := Lib.hid (fun w' (h : Below w.heap.size w w') => (h.cell (p := ⟨g, off + k * 2 + 1, none⟩) hg).trans q1)
      have hft := fun w' (h : Below w.heap.size w w') => fit_any T b hb32 hpm w' (hu.below h)
      unfold FitAns at hft
      have HB2 := Lib.hid hb2
      clear hq q1 hb1 hi2 hk hbb
      by_cases hE : fitE T b = 0
      · have HGD := Lib.hid (good_of hE)
        rw [hE] at hft
        have HFT := Lib.hid hft
        have HVA := Lib.hid (fun w => values_any T b HB2.out hb32 HGD.out w)
        have HVS := Lib.hid (val_size HGD.out)
        have hvl := val_len hb32 HGD.out
        have HCE := Lib.hid (show cuE T l = 0 from cu_tst HC0.out (HTS.out.trans hE))
        have hpk := pos_mono HWI.out (j := k) (k := l.length) (by omega) (Nat.le_refl _)
        have hpl := sum_bd HZ.out.2.2 l.length (Nat.le_refl _)
        rw [pos_int HWI.out (Nat.le_refl _)] at hpl
        have hp384 : posN l l.length ≤ 384 := by omega
        have HW1 := Lib.hid (fun w' (h : Below w.heap.size w w') => width_cut l _ cap0 k w' (HV.out.below h) hl12 HZ.out.2.2 (by omega))
        rw [pos_int HWI.out (by omega)] at HW1
        obtain ⟨a1, hsl, hsee⟩ := drop_slice l _ cap0 (k + 1) w HV.out (by omega)
        have HW2 := Lib.hid (fun w' (h : Below w.heap.size w w') => width_drop l a1 _ _ (k + 1) w' (hsee.below h) hl12 HWI.out (by omega))
        rw [show ((k + 1 : Nat) : Int) = (k : Int) + 1 from by omega] at hsl
        have HR1 := Lib.hid (fun w => rep_any (posN l k) (by omega) w)
        have HR2 := Lib.hid (fun w => rep_any (posN l l.length - posN l (k + 1)) (by omega) w)
        have HOK := Lib.hid (fun v w' ho hbl => cu_ok (w := w) (v := v) (w' := w') HCE.out HKK.out HBB.out (p := posN l k) rfl (q := posN l l.length - posN l (k + 1)) rfl ho hbl)
        have x0 : (0 : Int) ≤ (k : Int) := by omega
        have x1 : (k : Int) < (l.length : Int) := by omega
        have hpk2 : posN l k ≤ 384 := by omega
        have hql : posN l l.length - posN l (k + 1) ≤ 384 := by omega
        generalize posN l l.length - posN l (k + 1) = qn at *
        generalize posN l k = pn at *
        generalize valT T b = L at *
        obtain ⟨nm, op, fo, lo, hi, ln, pt⟩ := T
        show Calls Tryd.prog 16 #[.slice (some ⟨g, off, none⟩) l.length cap0, .agg #[.string nm, .int .i64 op, .int .i64 fo, .int .i64 lo, .int .i64 hi, .int .i64 ln, .string pt]] w _
        unfold Tst.val Tst.cs at HFT HVA
        simp only at HFI HFT HVA
        clear hE hft hpm hu hpl hpk hix hp384 hsee hb2
        go_enter Tryd.func16, Tryd.ntmps16
        go_wp2_with fail
        refine (HCK.out _ (bal (Below.refl _ _) _)).mono ?_
        rintro e w1 ⟨rfl, hb1⟩
        have HD1 := Lib.hid ((EiS.new w #[.string nm, .int .i64 op, .int .i64 fo, .int .i64 lo, .int .i64 hi, .int .i64 ln, .string pt]).go hb1)
        have e0 := HD1.out.1.cell 0
        clear hb1
        go_wp2_with fail
        refine (HFI.out _ HD1.out.2).mono ?_
        rintro e w2 ⟨rfl, hb2⟩
        have HD2 := Lib.hid (HD1.out.go hb2)
        clear e0 hb2 HD1
        have e0 := HD2.out.1.cell 0
        have e1 := HD2.out.1.cell 1
        have e2 := HD2.out.1.cell 2
        have e3 := HD2.out.1.cell 3
        have e4 := HD2.out.1.cell 4
        have e5 := HD2.out.1.cell 5
        have e6 := HD2.out.1.cell 6
        have q1 := HQ.out _ HD2.out.2
        go_wp2_with fail
        refine (HFT.out _ HD2.out.2).mono ?_
        rintro e w3 ⟨rfl, hb3⟩
        have HD3 := Lib.hid (HD2.out.go hb3)
        clear e0 e1 e2 e3 e4 e5 e6 q1 hb3 HD2
        go_wp2_with fail
        refine (HW1.out _ HD3.out.2).mono ?_
        rintro e w4 ⟨rfl, hb4⟩
        have HD4 := Lib.hid (HD3.out.go hb4)
        clear hb4 HD3
        go_wp2_with fail
        refine (HR1.out _).mono ?_
        rintro e w5 ⟨rfl, hb5⟩
        have HD5 := Lib.hid (HD4.out.go hb5)
        clear hb5 HD4
        go_wp2_with fail
        refine (HW2.out _ HD5.out.2).mono ?_
        rintro e w6 ⟨rfl, hb6⟩
        have HD6 := Lib.hid (HD5.out.go hb6)
        clear hb6 HD5
        go_wp2_with fail
        refine (HR2.out _).mono ?_
        rintro e w7 ⟨rfl, hb7⟩
        have HD7 := Lib.hid (HD6.out.go hb7)
        clear hb7 HD6
        have e0 := HD7.out.1.cell 0
        have e1 := HD7.out.1.cell 1
        have e2 := HD7.out.1.cell 2
        have e3 := HD7.out.1.cell 3
        have e4 := HD7.out.1.cell 4
        have e5 := HD7.out.1.cell 5
        have e6 := HD7.out.1.cell 6
        go_wp2_with fail
        refine (HVA.out _).mono ?_
        rintro e w8 ⟨v8, rfl, ho8, hb8⟩
        have HG8 := Lib.hid (bnx HD7.out.2 hb8)
        have HO8 := Lib.hid (own_base ho8 HD7.out.2.size)
        obtain ⟨a8, cap8, rfl⟩ := own_len ho8
        clear ho8 hb8 e0 e1 e2 e3 e4 e5 e6 HD7 HFI HFT HVA HW1 HW2 HR1 HR2 HCK HQ
        have hsa : (str (List.replicate pn (120 : UInt8))).size = pn := by rw [str_size, List.length_replicate]
        have hsb : (str (List.replicate qn (120 : UInt8))).size = qn := by rw [str_size, List.length_replicate]
        have HWR := Lib.hid (fun c => wrap_str pn qn c)
        generalize str (List.replicate pn (120 : UInt8)) = sa at *
        generalize str (List.replicate qn (120 : UInt8)) = sb at *
        have hsa2 : sa.size ≤ 384 := by omega
        have hsb2 : sb.size ≤ 384 := by omega
        clear hsa hsb hsl
        go_wp2_with fail
        go_loopw [56] (fun i wr => ∃ j : Nat, j ≤ L.length ∧ i = .int .i64 (j : Int) ∧ wr.ownsRow w.heap.size 9 1 (.slice a8 L.length cap8) L.length (sC (midL (wrapC pn qn) L j)) ∧ Below w.heap.size w wr) (fun i _ => L.length - (intOf i).toNat)
        case atStart => exact ⟨0, Nat.zero_le _, rfl, by rw [mid_zero]; exact HO8.out, HG8.out⟩
        case round =>
          obtain ⟨j, hj, rfl, hown, hbel⟩ := hrel
          have HOW := Lib.hid hown
          clear hown
          by_cases hlt : j < L.length
          · obtain ⟨g8, c8, hv8, hcap8, hbg, hcell⟩ := Tn.own_at HOW.out (by omega)
            simp only [Value.slice.injEq] at hv8
            obtain ⟨rfl, _, rfl⟩ := hv8
            have q := hcell j _ (sC_at (midL (wrapC pn qn) L j) j L[j] (mid_get _ _ hlt))
            have hfr : wr.frozen? ⟨g8, j, none⟩ = false := HOW.out.frozenAt j
            have HST := Lib.hid (HOW.out.stored j (.string (sa ++ str L[j] ++ sb)))
            rw [HWR.out L[j], sC_set, mid_step _ _ hlt] at HST
            have hcs : (str L[j]).size ≤ 32 := by rw [str_size, HVS.out L[j] (List.getElem_mem hlt)]; exact hb32
            have hWj := HWR.out L[j]
            have HWJ := Lib.hid hWj
            generalize str L[j] = sc at *
            generalize str (wrapC pn qn L[j]) = sw at *
            have hs1 : ¬ 9223372036854775807 < sa.size + sc.size := by omega
            have hs2 : ¬ 9223372036854775807 < sa.size + sc.size + sb.size := by omega
            have y1 : (j : Int) < (L.length : Int) := by omega
            have y0 : (0 : Int) ≤ (j : Int) := by omega
            clear hcell hWj
            go_wp2_with fail
            go_roundw
            case rel => exact ⟨j + 1, by omega, by go_num, by rw [HWJ.out]; exact HST.out.1, hbel.setCell hbg _⟩
            case measure => simp [intOf]; omega
          · have hjl : j = L.length := by omega
            have HF := Lib.hid (show wr.ownsRow w.heap.size 9 1 (.slice a8 L.length cap8) (L.map (wrapC pn qn)).length (sC (L.map (wrapC pn qn))) from by have := HOW.out; rw [hjl, mid_all] at this; rw [List.length_map]; exact this)
            clear hjl
            go_wp2_with fail
            refine bodyPost_ret (v := .tuple #[.slice a8 L.length cap8, .int .i64 0]) (by simp [results, Tryd.results16, go_sem]) rfl (HOK.out _ _ HF.out hbel)
      · have HE := Lib.hid (show cuE T l = fitE T b from cu_tst HC0.out HTS.out)
        have HFT := Lib.hid hft
        generalize fitE T b = E at *
        have hne : (E != 0) = true := by simpa using hE
        have HEN := Lib.hid hE
        have x0 : (0 : Int) ≤ (k : Int) := by omega
        have x1 : (k : Int) < (l.length : Int) := by omega
        obtain ⟨nm, op, fo, lo, hi, ln, pt⟩ := T
        show Calls Tryd.prog 16 #[.slice (some ⟨g, off, none⟩) l.length cap0, .agg #[.string nm, .int .i64 op, .int .i64 fo, .int .i64 lo, .int .i64 hi, .int .i64 ln, .string pt]] w _
        unfold Tst.val Tst.cs at HFT
        simp only at HFI HFT
        clear hE hft hpm hu hix hb2
        go_enter Tryd.func16, Tryd.ntmps16
        go_wp2_with fail
        refine (HCK.out _ (bal (Below.refl _ _) _)).mono ?_
        rintro e w1 ⟨rfl, hb1⟩
        have HD1 := Lib.hid ((EiS.new w #[.string nm, .int .i64 op, .int .i64 fo, .int .i64 lo, .int .i64 hi, .int .i64 ln, .string pt]).go hb1)
        have e0 := HD1.out.1.cell 0
        clear hb1
        go_wp2_with fail
        refine (HFI.out _ HD1.out.2).mono ?_
        rintro e w2 ⟨rfl, hb2⟩
        have HD2 := Lib.hid (HD1.out.go hb2)
        clear e0 hb2 HD1
        have e0 := HD2.out.1.cell 0
        have e1 := HD2.out.1.cell 1
        have e2 := HD2.out.1.cell 2
        have e3 := HD2.out.1.cell 3
        have e4 := HD2.out.1.cell 4
        have e5 := HD2.out.1.cell 5
        have e6 := HD2.out.1.cell 6
        have q1 := HQ.out _ HD2.out.2
        go_wp2_with fail
        refine (HFT.out _ HD2.out.2).mono ?_
        rintro e w3 ⟨rfl, hb3⟩
        have HD3 := Lib.hid (HD2.out.go hb3)
        go_wp2_with fail
        refine bodyPost_ret (v := .tuple #[.slice none 0 0, .int .i64 E]) (by simp [results, Tryd.results16, go_sem]) rfl (cu_err HE.out HEN.out HD3.out.2)
    · have hi2 : idxI l T.nm = -1 := by unfold idxI; rw [if_neg hix]
      rw [hi2] at HFI
      have HE := Lib.hid (show cuE T l = 41 from cu_tst HC0.out (tst_no hix))
      obtain ⟨nm, op, fo, lo, hi, ln, pt⟩ := T
      show Calls Tryd.prog 16 #[.slice a0 l.length cap0, .agg #[.string nm, .int .i64 op, .int .i64 fo, .int .i64 lo, .int .i64 hi, .int .i64 ln, .string pt]] w _
      simp only at HFI
      clear hi2 hix hpm hu
      go_enter Tryd.func16, Tryd.ntmps16
      go_wp2_with fail
      refine (HCK.out _ (bal (Below.refl _ _) _)).mono ?_
      rintro e w1 ⟨rfl, hb1⟩
      have HD1 := Lib.hid ((EiS.new w #[.string nm, .int .i64 op, .int .i64 fo, .int .i64 lo, .int .i64 hi, .int .i64 ln, .string pt]).go hb1)
      have e0 := HD1.out.1.cell 0
      clear hb1
      go_wp2_with fail
      refine (HFI.out _ HD1.out.2).mono ?_
      rintro e w2 ⟨rfl, hb2⟩
      have HD2 := Lib.hid (HD1.out.go hb2)
      clear e0 hb2 HD1
      go_wp2_with fail
      refine bodyPost_ret (v := .tuple #[.slice none 0 0, .int .i64 41]) (by simp [results, Tryd.results16, go_sem]) rfl (cu_err HE.out (by decide) HD2.out.2)
  · have hne : (c1 != 0) = true := by simpa using hc
    have HA := Lib.hid (cu_chk (T := T) h1 hc)
    have HCN := Lib.hid hc
    obtain ⟨nm, op, fo, lo, hi, ln, pt⟩ := T
    show Calls Tryd.prog 16 #[.slice a0 l.length cap0, .agg #[.string nm, .int .i64 op, .int .i64 fo, .int .i64 lo, .int .i64 hi, .int .i64 ln, .string pt]] w _
    clear hc h1 hpm hu
    go_enter Tryd.func16, Tryd.ntmps16
    go_wp2_with fail
    refine (HCK.out _ (bal (Below.refl _ _) _)).mono ?_
    rintro e w1 ⟨rfl, hb1⟩
    have HG1 := Lib.hid (bnx (bal (Below.refl _ _) _) hb1)
    clear hb1
    go_wp2_with fail
    refine bodyPost_ret (v := .tuple #[.slice none 0 0, .int .i64 c1]) (by simp [results, Tryd.results16, go_sem]) rfl (cu_err HA.out HCN.out HG1.out)
end Go.Proofs.YtlakglphjhoodaaDoor.Fl
