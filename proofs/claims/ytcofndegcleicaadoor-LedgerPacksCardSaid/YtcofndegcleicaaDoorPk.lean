/- LedgerPacks. -/
import Derived.Test.YtcofndegcleicaaDoorPg
import Derived.Test.YtcofndegcleicaaDoorPr
import Derived.Test.YtcofndegcleicaaDoorRows
import Derived.MakeChecks
import Derived.Stop.LaidErr
import Derived.Lib.LaidTab
namespace Go.Proofs.YtcofndegcleicaaDoor.Lg
open Go.RowKit Mm Law
def litA : ByteArray := ⟨#[97, 116, 32, 65, 32, 105, 110, 32, 120]⟩
theorem lit_pk : pkE [litA, .empty] = 0 ∧ str (pkS [litA, .empty]) = ⟨#[57, 58, 97, 116, 32, 65, 32, 105, 110, 32, 120, 48, 58]⟩ := by
  have h : pkL [litA, .empty] = [57, 58, 97, 116, 32, 65, 32, 105, 110, 32, 120, 48, 58] := by
    unfold pkL lnT
    simp only [List.map_cons, List.map_nil, List.flatten_cons, List.flatten_nil]
    rw [show (litA.size : Int) = ((9 : Nat) : Int) from rfl, show (ByteArray.empty.size : Int) = ((0 : Nat) : Int) from rfl, Lib.itoa_nonneg, Lib.itoa_nonneg, Lib.decDigits_one (by decide), Lib.decDigits_one (by decide)]
    rfl
  have := pk_ok (l := [litA, .empty]) (by rw [h]; decide)
  rw [this.1, this.2, h]
  exact ⟨rfl, rfl⟩
set_option maxRecDepth 100000 in
set_option maxHeartbeats 4000000 in
theorem packs_walk (v : Value) (l : List ByteArray) (hsz : ∀ s ∈ l, s.size ≤ 140737488355328) (w : World) (hS : Sees w v (sC l)) (ht : Tab w) :
    Calls Tryd.prog 4 #[v] w fun e w' => e = .returned (.bool true) ∧ Below w.heap.size w w' := by
  have HV := Lib.hid hS
  have HC := Lib.hid (fun (w' : World) (u : Value) (h : Below w.heap.size w w') (hu : Sees w' u (sC l)) => rpack_any l u w' hu hsz (tab_below ht h))
  have HD := Lib.hid (fun (w' : World) (u : Value) (h : Below w.heap.size w w') (hu : Sees w' u (sC l)) => pack_any l u w' hu hsz (tab_below ht h))
  have HL := Lib.hid (fun (w' : World) (h : Below w.heap.size w w') (u : Value) (hu : Sees w' u (sC [litA, .empty])) => pack_any [litA, .empty] u w' hu (by simp; decide) (tab_below ht h))
  have HSN := Lib.hid (fun w : World => (sees_new w 9 #[.string litA, .string .empty] (by decide) : Sees (w.alloc (.cells #[.string litA, .string .empty] 9)) (.slice (some ⟨w.heap.size, 0, none⟩) 2 2) (sC [litA, .empty])))
  have HEF := Lib.hid (pk_form l)
  have HU := Lib.hid (fun g cap u w h1 h2 h3 h4 h5 => unturned_yes l g cap u w h1 h2 h3 h4 h5)
  have HT := Lib.hid ht
  obtain ⟨a0, cap0, rfl, hN, hcap, hcm, hx⟩ := hS
  rw [sC_len] at hcap HV ⊢
  unfold maxLen at hcm
  unfold PkAns at HC HD HL
  rw [lit_pk.1, lit_pk.2] at HL
  generalize pkE l = E at *
  generalize str (pkS l) = T at *
  have t1 : (E == E) = true := by simp
  have t2 : (T.toList == T.toList) = true := by simp
  clear hx hN hsz ht
  by_cases hl : l.length ≤ 200000
  · have HR := Lib.hid (fun v w hv => roomy_any l v w hv hl)
    go_enter Tryd.func4, Tryd.ntmps4
    go_wp2_with (at_builtin; refine app_strs (l := l) (own_empty w 9 (Nat.le_refl _)) (HV.out.alloc _) rfl rfl rfl rfl (by omega) (by simp) ?_; intro v1 w1 hown1 hgr1; have hb1 := (bal (Below.refl _ w) (.cells #[] 9)).trans (below_grown (own_empty w 9 (Nat.le_refl _)) hgr1 (by simp)); have HS1 := Lib.hid (show Sees w1 v1 (sC l) from Sees.of_own hown1); clear hown1 hgr1)
    refine (HR.out _ _ (HV.out.below hb1)).mono ?_
    rintro e w2 ⟨g, cap, rfl, hc2, hown2, hb2⟩
    obtain ⟨g', cap', hv', _, hm2⟩ := own_cap hown2 (by omega)
    cases hv'
    have HB2 := Lib.hid (bnx hb1 hb2)
    have HO2 := Lib.hid (Sees.of_own hown2)
    have HS2 := Lib.hid (show Sees w2 (.slice (some ⟨g, 0, none⟩) l.length cap) (sC l) from by have h := HO2.out.take l.length (by rw [List.length_append, sC_len]; omega); rw [List.take_left' (sC_len l)] at h; exact h)
    have HQ2 := Lib.hid (show g < w2.heap.size ∧ ∀ j x, (sC l ++ sC [behind, farB])[j]? = some x → w2.cell? ⟨g, j, none⟩ = some x from by
      obtain ⟨g', cap', hv', _, _, hg', hq'⟩ := own_at hown2 (by omega)
      cases hv'
      exact ⟨hg', hq'⟩)
    have HW2 := Lib.hid (HS1.out.below hb2)
    clear hown2 hb1 hb2 HS1
    go_wp2_with fail
    refine (HD.out _ _ HB2.out HS2.out).mono ?_
    rintro e w3 ⟨rfl, hb3⟩
    have HB3 := Lib.hid (bnx HB2.out hb3)
    have HW3 := Lib.hid (HW2.out.below hb3)
    go_wp2_with fail
    refine (HU.out g cap _ _ hc2 hm2 (Nat.lt_of_lt_of_le HQ2.out.1 hb3.size) (fun j x hx => by rw [hb3.cell (p := ⟨g, j, none⟩) HQ2.out.1]; exact HQ2.out.2 j x hx) HW3.out).mono ?_
    rintro e w4 ⟨rfl, hb4⟩
    have HB4 := Lib.hid (bnx HB3.out hb4)
    have HW4 := Lib.hid (HW3.out.below hb4)
    go_wp2_with fail
    refine (HC.out _ _ HB4.out HW4.out).mono ?_
    rintro e w5 ⟨rfl, hb5⟩
    have HB5 := Lib.hid (bnx HB4.out hb5)
    go_wp2_with fail
    refine (HL.out _ (bal HB5.out _) _ (HSN.out _)).mono ?_
    rintro e w6 ⟨rfl, hb6⟩
    have HB6 := Lib.hid (bnx (bal HB5.out _) hb6)
    go_wp2_with fail
    go_ret
    exact ⟨rfl, HB6.out⟩
  · go_enter Tryd.func4, Tryd.ntmps4
    go_wp2_with fail
    go_ret
    exact ⟨rfl, Below.refl _ _⟩
set_option maxRecDepth 100000 in
theorem ledgerPacks_laid {w : World} (h : laidMetH Tryd.prog Rows.ledgerPacksRow.laid w) : Tab w := by
  rw [MakeChecks.laidMetH_plain _ _ _ (by kernel_rfl)] at h
  have hg0 : Tryd.prog.globalNamed "internal/strconv.uint64pow10" = some 0 := by kernel_rfl
  exact Lib.tabIs_of_head (n := 20) (t := 117) (e := 99) hg0 (by kernel_rfl) (by kernel_rfl) (by kernel_rfl) (by kernel_rfl) (by kernel_rfl) h.tail.tail
end Go.Proofs.YtcofndegcleicaaDoor.Lg
