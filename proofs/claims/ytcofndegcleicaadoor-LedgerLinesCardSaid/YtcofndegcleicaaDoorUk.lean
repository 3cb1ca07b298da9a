/- LedgerUnpacks. -/
import Derived.Test.YtcofndegcleicaaDoorUm
import Derived.Test.YtcofndegcleicaaDoorRows
import Derived.MakeChecks
import Derived.Stop.LaidErr
import Derived.Lib.LaidTab
namespace Go.Proofs.YtcofndegcleicaaDoor.Lg
open Go.RowKit Mm Law
def litU : ByteArray := ⟨#[49, 58, 97, 48, 58]⟩
def litA1 : ByteArray := ⟨#[97]⟩
theorem lit_up : upE litU.data.toList = 0 ∧ upL litU.data.toList = [litA1, .empty] := by
  have h : pkL [litA1, .empty] = litU.data.toList := by
    unfold pkL lnT
    simp only [List.map_cons, List.map_nil, List.flatten_cons, List.flatten_nil]
    rw [show (litA1.size : Int) = ((1 : Nat) : Int) from rfl, show (ByteArray.empty.size : Int) = ((0 : Nat) : Int) from rfl, Lib.itoa_nonneg, Lib.itoa_nonneg, Lib.decDigits_one (by decide), Lib.decDigits_one (by decide)]
    rfl
  have := up_ok (l := [litA1, .empty]) (by rw [h]; decide)
  rw [h] at this
  exact this
theorem sx_at {w W : World} {a : Option Addr} {L : List ByteArray} (h : sC L = [] ∨ ∃ g off, a = some ⟨g, off, none⟩ ∧ g < w.heap.size ∧ ∀ j u, (sC L)[j]? = some u → w.cell? ⟨g, off + j, none⟩ = some u) (hb : Below w.heap.size w W) {k : Nat} (hk : k < L.length) :
    ∃ g off, a = some ⟨g, off, none⟩ ∧ g < W.heap.size ∧ W.cell? ⟨g, off + k, none⟩ = some (.string L[k]) := by
  rcases h with h | ⟨g, off, ha, hg, hq⟩
  · have := congrArg List.length h
    rw [sC_len, List.length_nil] at this
    omega
  · exact ⟨g, off, ha, Nat.lt_of_lt_of_le hg hb.size, by rw [hb.cell (p := ⟨g, off + k, none⟩) hg]; exact hq k _ (sC_at (by simp [hk]))⟩
theorem up_form (t : List UInt8) : -9223372036854775808 ≤ upE t ∧ upE t ≤ 9223372036854775807 := by
  unfold upE
  split
  · decide
  · split <;> decide
set_option maxRecDepth 100000 in
set_option maxHeartbeats 4000000 in
theorem unpacks_walk (t : ByteArray) (_ : t.size ≤ maxLen) (w : World) (ht : Tab w) :
    Calls Tryd.prog 6 #[.string t] w fun e w' => e = .returned (.bool true) ∧ Below w.heap.size w w' := by
  have HC := Lib.hid (fun w' (h : Below w.heap.size w w') => runpack_any t w' (tab_below ht h))
  have HD := Lib.hid (fun w => unpack_any t w)
  have HL := Lib.hid (fun w => unpack_any litU w)
  have HEF := Lib.hid (up_form t.data.toList)
  unfold UpAns at HC HD HL
  rw [lit_up.1, lit_up.2] at HL
  generalize upE t.data.toList = E at *
  generalize upL t.data.toList = L at *
  clear ht
  go_enter Tryd.func6, Tryd.ntmps6
  go_wp2_with fail
  refine (HD.out _).mono ?_
  rintro e w1 ⟨v1, rfl, hown1, hb1⟩
  go_wp2_with fail
  refine (HC.out _ hb1).mono ?_
  rintro e w2 ⟨v2, rfl, hown2, hb2⟩
  have HB2 := Lib.hid (bnx hb1 hb2)
  have hs1 := (Sees.of_own hown1).below hb2
  have hs2 := Sees.of_own hown2
  clear hown1 hown2 hb1 hb2
  obtain ⟨a1, cap1, rfl, _, hcap1, hcm1, hx1⟩ := hs1
  obtain ⟨a2, cap2, rfl, _, hcap2, hcm2, hx2⟩ := hs2
  rw [sC_len] at hcap1 hcap2 ⊢
  unfold maxLen at hcm1 hcm2
  have HX1 := Lib.hid hx1
  have HX2 := Lib.hid hx2
  have hee : (E == E) = true := by simp
  clear hx1 hx2
  go_wp2_with fail
  go_loopw [7] (fun i wr => ∃ k : Nat, k ≤ L.length ∧ i = .int .i64 (k : Int) ∧ Below w2.heap.size w2 wr) (fun i _ => L.length - (intOf i).toNat)
  case atStart => exact ⟨0, Nat.zero_le _, rfl, Below.refl _ _⟩
  case round =>
    obtain ⟨k, hk, rfl, hbel⟩ := hrel
    by_cases hlt : k < L.length
    · obtain ⟨g1, o1, rfl, hg1, q1⟩ := sx_at HX1.out hbel hlt
      obtain ⟨g2, o2, rfl, hg2, q2⟩ := sx_at HX2.out hbel hlt
      have hne : (L[k].toList == L[k].toList) = true := by simp
      generalize L[k] = s at *
      have x0 : (0 : Int) ≤ (k : Int) := by omega
      have x1 : (k : Int) < (L.length : Int) := by omega
      go_upto_region 8 with fail
      go_quiet (fail)
      go_wp2_with fail
      go_roundw
      case rel => exact ⟨k + 1, by omega, by go_num, below_drewN hbel _⟩
      case measure => simp [intOf]; omega
    · have x1 : ¬ (k : Int) < (L.length : Int) := by omega
      have HB3 := Lib.hid (bnx HB2.out hbel)
      go_wp2_with fail
      refine (HL.out _).mono ?_
      rintro e w3 ⟨v3, rfl, hown3, hb3⟩
      obtain ⟨g, cap, rfl, hcap, _, hg, hq⟩ := own_at hown3 (by decide)
      have p0 := hq 0 (.string litA1) rfl
      have p1 := hq 1 (.string .empty) rfl
      have eA : litA1.toList = [97] := by rw [ByteArray.toList_eq]; rfl
      have HB4 := Lib.hid (bnx HB3.out hb3)
      clear hq hown3 hb3
      go_wp2_with fail
      go_ret
      exact ⟨rfl, HB4.out⟩
set_option maxRecDepth 100000 in
theorem ledgerUnpacks_laid {w : World} (h : laidMetH Tryd.prog Rows.ledgerUnpacksRow.laid w) : Tab w := by
  rw [MakeChecks.laidMetH_plain _ _ _ (by kernel_rfl)] at h
  have hg0 : Tryd.prog.globalNamed "internal/strconv.uint64pow10" = some 0 := by kernel_rfl
  exact Lib.tabIs_of_head (n := 20) (t := 117) (e := 99) hg0 (by kernel_rfl) (by kernel_rfl) (by kernel_rfl) (by kernel_rfl) (by kernel_rfl) h.tail.tail
end Go.Proofs.YtcofndegcleicaaDoor.Lg
