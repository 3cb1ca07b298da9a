/- The program's either: what one cube tells, and all but one cube. -/
import Derived.Test.YtaleaicfllcpiaaDoorVp
namespace Go.Proofs.YtaleaicfllcpiaaDoor.Fl
open Go.RowKit Mm Law
set_option linter.unusedSimpArgs false
set_option linter.unusedSectionVars false
set_option linter.unusedVariables false
set_option maxRecDepth 100000 in
set_option maxHeartbeats 8000000 in
theorem either_is (nm : ByteArray) (fo lo hi ln : Int) (pt : ByteArray) (b : Nat) (c : List UInt8) (h3 : (fo == 3) = false)
    (HO : Hid (∀ w, Calls Tryd.prog 106 #[.agg #[.string nm, .int .i64 1, .int .i64 fo, .int .i64 lo, .int .i64 hi, .int .i64 ln, .string pt], .int .i64 (b : Int)] w fun e w' => e = .returned (.string (str c)) ∧ Below w.heap.size w w')) (w : World) :
    Calls Tryd.prog 89 #[.agg #[.string nm, .int .i64 1, .int .i64 fo, .int .i64 lo, .int .i64 hi, .int .i64 ln, .string pt], .int .i64 (b : Int)] w (StrRow w [c]) := by
  go_enter Tryd.func89, Tryd.ntmps89
  go_wp2_with fail
  refine (HO.out _).mono ?_
  rintro e w1 ⟨rfl, hb1⟩
  have hB := (Blk.new w 52 #[.string nm, .int .i64 1, .int .i64 fo, .int .i64 lo, .int .i64 hi, .int .i64 ln, .string pt]).below hb1 (by simp)
  have HG := Lib.hid (bnx (bal (Below.refl _ _) _) hb1)
  have e1 := hB.cell 1
  clear hb1 hB
  go_wp2_with fail
  go_ret
  exact ⟨_, rfl, Tn.own_one w1 9 #[.string (str c)] HG.out.size, bal HG.out _⟩
attribute [local go_sem] Tn.cv Tn.cs Tn.wv
abbrev NinS (W : World) (g n : Nat) (c o : Nat → Bool) (w' : World) : Prop :=
  w'.cell? ⟨g, 0, none⟩ = some (.int .i64 (n : Int)) ∧ w'.cell? ⟨g, 1, none⟩ = some (.int .u64 (Tn.wd c 0 : Nat)) ∧ w'.cell? ⟨g, 2, none⟩ = some (.int .u64 (Tn.wd c 1 : Nat)) ∧ w'.cell? ⟨g, 3, none⟩ = some (.int .u64 (Tn.wd c 2 : Nat)) ∧ w'.cell? ⟨g, 4, none⟩ = some (.int .u64 (Tn.wd c 3 : Nat)) ∧
  w'.cell? ⟨g, 5, none⟩ = some (.int .u64 (Tn.wd o 0 : Nat)) ∧ w'.cell? ⟨g, 6, none⟩ = some (.int .u64 (Tn.wd o 1 : Nat)) ∧ w'.cell? ⟨g, 7, none⟩ = some (.int .u64 (Tn.wd o 2 : Nat)) ∧ w'.cell? ⟨g, 8, none⟩ = some (.int .u64 (Tn.wd o 3 : Nat)) ∧ Below W.heap.size W w'
theorem NinS.of {W w' : World} {g n : Nat} {c o : Nat → Bool} {t : TypeId} (h : Tn.Blk w' g t (Tn.cs n c o)) (hb : Below W.heap.size W w') : NinS W g n c o w' :=
  ⟨h.cell 0, h.cell 1, h.cell 2, h.cell 3, h.cell 4, h.cell 5, h.cell 6, h.cell 7, h.cell 8, hb⟩
theorem show_okB {x : UInt8} (h : x ∈ dShow) : Tn.okB x = true := by
  unfold dShow at h
  simp only [List.mem_cons, List.not_mem_nil, or_false] at h
  rcases h with rfl | rfl | rfl <;> rfl
theorem c_cub {c : List UInt8} (hl : c.length ≤ 256) (hc : ∀ x ∈ c, x ∈ dShow) : Tn.Cub c c.length (Tn.careF c) (Tn.onesF c) := ⟨rfl, rfl, rfl, hl, List.all_eq_true.2 fun x hx => show_okB (hc x hx)⟩
theorem oth_split {c : List UInt8} {b : Nat} (hl : c.length = b) (h1 : 1 ≤ b) (hb : b ≤ 32) : Tn.splitT (Tn.allT (b : Int)) c = othT c := by
  have ha : Tn.allT (b : Int) = List.replicate c.length 120 := by unfold Tn.allT; rw [if_pos (by omega), hl]; rfl
  have hx : ∀ i, i < c.length → Tn.byt (List.replicate c.length 120) i = 120 := fun i hi => by unfold Tn.byt; simp [hi]
  have hok : Tn.meetOk (List.replicate c.length 120) c := ⟨⟨by rw [hl]; intro h; have := congrArg List.length h; simp at this; omega, by simp⟩, fun i hi h => h.1 (hx i (by simpa using hi))⟩
  rw [ha]
  unfold Tn.splitT othT
  rw [if_pos hok, List.length_replicate]
set_option maxRecDepth 100000 in
set_option maxHeartbeats 16000000 in
theorem either_not (nm : ByteArray) (fo lo hi ln : Int) (pt : ByteArray) (b : Nat) (c : List UInt8) (h3 : (fo == 3) = false) (hl : c.length = b) (h1 : 1 ≤ b) (hb : b ≤ 32) (hc : ∀ x ∈ c, x ∈ dShow)
    (HO : Hid (∀ w, Calls Tryd.prog 106 #[.agg #[.string nm, .int .i64 2, .int .i64 fo, .int .i64 lo, .int .i64 hi, .int .i64 ln, .string pt], .int .i64 (b : Int)] w fun e w' => e = .returned (.string (str c)) ∧ Below w.heap.size w w')) (w : World) :
    Calls Tryd.prog 89 #[.agg #[.string nm, .int .i64 2, .int .i64 fo, .int .i64 lo, .int .i64 hi, .int .i64 ln, .string pt], .int .i64 (b : Int)] w (StrRow w (othT c)) := by
  have hC := c_cub (c := c) (by omega) hc
  have hPE : Tn.parseE c = 0 := by
    unfold Tn.parseE
    rw [if_neg (by omega), if_neg (fun h => by rw [h] at hl; simp at hl; omega), if_pos hC.ok]
  have HPA := Lib.hid (fun w => Tn.parse_of hC (str c) (str_list c) w)
  rw [hPE] at HPA
  have HAL := Lib.hid (fun w => Tn.all_any (b : Int) w)
  have HSP := Lib.hid (fun (n : Nat) (d p : Nat → Bool) (h : Tn.Cub (Tn.allT (b : Int)) n d p) w => Tn.split_any h hC w)
  have HSC := Lib.hid (fun (n : Nat) (d p : Nat → Bool) (h : Tn.Cub (Tn.allT (b : Int)) n d p) => Tn.split_cubs h hC)
  rw [oth_split hl h1 hb] at HSP HSC
  have HLN := Lib.hid (show (othT c).length ≤ 32 from by have := Tn.partsT_le (List.replicate c.length 120) c c.length; unfold othT; omega)
  generalize othT c = N at *
  generalize c.length = cn at *
  generalize Tn.careF c = cc at *
  generalize Tn.onesF c = co at *
  clear hC hPE hc hl
  go_enter Tryd.func89, Tryd.ntmps89
  go_wp2_with fail
  refine (HO.out _).mono ?_
  rintro e w1 ⟨rfl, hb1⟩
  have hB := (Blk.new w 52 #[.string nm, .int .i64 2, .int .i64 fo, .int .i64 lo, .int .i64 hi, .int .i64 ln, .string pt]).below hb1 (by simp)
  have HG1 := Lib.hid (bnx (bal (Below.refl _ _) _) hb1)
  have e1 := hB.cell 1
  clear hb1 hB
  go_wp2_with fail
  refine (HPA.out _).mono ?_
  rintro e w2 ⟨rfl, hb2⟩
  have HG2 := Lib.hid (bnx HG1.out hb2)
  clear hb2 e1
  go_wp2_with fail
  have hN : Tn.Blk (w2.alloc (.cells #[.int .i64 (cn : Int), .int .u64 (Tn.wd cc 0 : Nat), .int .u64 (Tn.wd cc 1 : Nat), .int .u64 (Tn.wd cc 2 : Nat), .int .u64 (Tn.wd cc 3 : Nat), .int .u64 (Tn.wd co 0 : Nat), .int .u64 (Tn.wd co 1 : Nat), .int .u64 (Tn.wd co 2 : Nat), .int .u64 (Tn.wd co 3 : Nat)] 151)) w2.heap.size 151 (Tn.cs cn cc co) := Tn.Blk.new _ _ _
  have hG3 := bal HG2.out (.cells #[.int .i64 (cn : Int), .int .u64 (Tn.wd cc 0 : Nat), .int .u64 (Tn.wd cc 1 : Nat), .int .u64 (Tn.wd cc 2 : Nat), .int .u64 (Tn.wd cc 3 : Nat), .int .u64 (Tn.wd co 0 : Nat), .int .u64 (Tn.wd co 1 : Nat), .int .u64 (Tn.wd co 2 : Nat), .int .u64 (Tn.wd co 3 : Nat)] 151)
  generalize hW : World.alloc w2 (.cells #[.int .i64 (cn : Int), .int .u64 (Tn.wd cc 0 : Nat), .int .u64 (Tn.wd cc 1 : Nat), .int .u64 (Tn.wd cc 2 : Nat), .int .u64 (Tn.wd cc 3 : Nat), .int .u64 (Tn.wd co 0 : Nat), .int .u64 (Tn.wd co 1 : Nat), .int .u64 (Tn.wd co 2 : Nat), .int .u64 (Tn.wd co 3 : Nat)] 151) = W at *
  have hND := hN.drew
  have hK0 := NinS.of hND hG3.drew
  clear hW
  go_region_held3 (NinS w w2.heap.size cn cc co)
    (with_reducible (first | assumption | exact hK0 | exact hK1 | exact hK3 | fail))
    (first | (go_at_call 108; refine (HAL.out _).mono ?_; rintro e w3 ⟨n3, c3, o3, hC3, rfl, hb3⟩; have hB3 := hND.below hb3 hND.lt; have hG4 := bnx hG3.drew hb3; have hK1 := NinS.of hB3 hG4) | (go_at_call 109; refine (HSP.out n3 c3 o3 hC3 _).mono ?_; rintro e w5 ⟨v5, rfl, ho5, hb5⟩; obtain ⟨a5, cap5, rfl⟩ := own_len ho5; have hB5 := hB3.below hb5 hB3.lt; have hG5 := bnx hG4 hb5; have hK3 := NinS.of hB5 hG5) | fail)
  have HS := Lib.hid (HSC.out n3 c3 o3 hC3)
  have HO5 := Lib.hid ho5
  have HG5 := Lib.hid hG5
  clear hK0 hK1 hK3 hND hN hB3 hB5 hG4 hG3 hC3 ho5 hb3 hb5 hG5 HSP HSC HAL HPA HO
  go_wp2_with fail
  go_loopw [8, 54] (fun m i wr => ∃ k : Nat, k ≤ N.length ∧ i = .int .i64 (k : Int) ∧ wr.ownsRow w5.heap.size 9 1 m k (sC (N.take k)) ∧ Below w5.heap.size w5 wr) (fun _ i _ => N.length - (intOf i).toNat)
  case atStart => exact ⟨0, Nat.zero_le _, rfl, World.ownsRow_nil _ _ _ _, Below.refl _ _⟩
  case round =>
    obtain ⟨k, hk, rfl, hown, hbel⟩ := hrel
    have HOW := Lib.hid hown
    clear hown
    by_cases hlt : k < N.length
    · have hrow := own_below HO5.out hbel (Nat.le_refl _)
      obtain ⟨g1, c1, e1, hcap1, _, hx1⟩ := Tn.own_at hrow (by omega)
      cases e1
      obtain ⟨nk, ck, ok, hCk⟩ := HS.out N[k] (List.getElem_mem hlt)
      have hg : ∀ j u, j < 9 → (Tn.cs nk ck ok)[j]? = some u → wr.cell? ⟨g1, k * 9 + j, none⟩ = some u := fun j u hj hu => hx1 _ _ (by rw [Tn.crow_at N k hlt j hj, ← hCk.cells, Array.getElem?_toList]; exact hu)
      have q0 := hg 0 _ (by omega) rfl
      have q1 := hg 1 _ (by omega) rfl
      have q2 := hg 2 _ (by omega) rfl
      have q3 := hg 3 _ (by omega) rfl
      have q4 := hg 4 _ (by omega) rfl
      have q5 := hg 5 _ (by omega) rfl
      have q6 := hg 6 _ (by omega) rfl
      have q7 := hg 7 _ (by omega) rfl
      have q8 := hg 8 _ (by omega) rfl
      rw [Nat.add_zero] at q0
      have HTX := Lib.hid (fun w => Tn.text_any N[k] nk ck ok w hCk)
      have HT := Lib.hid (show N.take (k + 1) = N.take k ++ [N[k]] from List.take_succ_eq_append_getElem hlt)
      have hn32 : N.length ≤ 32 := HLN.out
      generalize N[k] = tk at *
      clear hg hx1 hrow hCk
      go_wp2_with fail
      refine (HTX.out _).mono ?_
      rintro e w6 ⟨rfl, hb6⟩
      have HO6 := Lib.hid (own_below (HOW.out.alloc _) hb6 (Nat.le_refl _))
      have HB6 := Lib.hid ((hbel.alloc hbel.size _).trans (hb6.mono (Nat.le_trans hbel.size (by simp))))
      clear hb6
      go_wp2_with (at_builtin; refine app_str tk HO6.out rfl rfl rfl rfl (by omega) HB6.out.size ?_; intro v1 w7 hown7 hb7)
      go_roundw
      case rel => exact ⟨k + 1, by omega, by go_num, by rw [HT.out]; exact hown7, HB6.out.trans hb7⟩
      case measure => simp [intOf]; omega
    · have hkl : k = N.length := by omega
      have HF := Lib.hid (show wr.ownsRow w5.heap.size 9 1 u8 N.length (sC N) from by have := HOW.out; rw [hkl, List.take_length] at this; exact this)
      clear hkl
      go_wp2_with fail
      go_ret
      exact str_row HG5.out HF.out hbel
end Go.Proofs.YtaleaicfllcpiaaDoor.Fl
