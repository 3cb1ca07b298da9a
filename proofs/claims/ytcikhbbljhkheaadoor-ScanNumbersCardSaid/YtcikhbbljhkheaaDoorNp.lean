/- Number, the program's. -/
import Derived.Test.YtcikhbbljhkheaaDoorNm
namespace Go.Proofs.YtcikhbbljhkheaaDoor.Sn
open Go.RowKit Mm
abbrev Tab (w : World) : Prop := Lib.TabIs Tryd.prog w "internal/strconv.uint64pow10" .u64 Lib.pow10Tab
theorem tab_named : ∃ g, Tryd.prog.globalNamed "internal/strconv.uint64pow10" = some g := Option.isSome_iff_exists.1 (by kernel_rfl)
theorem itoa_any (n : Nat) (hn : n ≤ 9223372036854775807) (w : World) (h : Tab w) :
    Calls Tryd.prog 15 #[.int .i64 (n : Int)] w fun e w' => e = .returned (.string (str (dd n))) ∧ Below w.heap.size w w' := by
  refine (Tryd.strconv_Itoa (n : Int) (by omega) (by omega) w h).mono ?_
  rintro e w' ⟨he, k, os, rfl⟩
  rw [Lib.itoa_nonneg] at he
  exact ⟨he, Lib.below_grow _ _ (Nat.le_refl _) _ _⟩
theorem appi (B m n : Nat) (hn : n < 256) (hm : m ≤ 1000) (i : Int) (hi : i = (n : Int)) (sv : Value) (l : List UInt8) (w : World) (ho : w.ownsRow B 5 1 sv m (l.map bv)) (hB : B ≤ w.heap.size) (ht : Lib.TabBelow Tryd.prog B w "internal/strconv.uint64pow10" .u64 Lib.pow10Tab) :
    Calls Tryd.prog 16 #[sv, .int .i64 i, .int .i64 10] w fun e w' => ∃ v', e = .returned v' ∧ w'.ownsRow B 5 1 v' (m + (dd n).length) ((l ++ dd n).map bv) ∧ Below B w w' := by
  subst hi
  refine (Tryd.strconv_AppendInt_10 B m (n : Int) (by omega) (by omega) sv _ w ho hB (by omega) ht).mono ?_
  rintro e w' ⟨v', he, h1, h2, _⟩
  rw [Lib.itoa_nonneg] at h1
  exact ⟨v', he, by rw [List.map_append]; exact h1, h2⟩
theorem and_255 (x : Nat) (h : x < 4294967296) : bits .and .i64 (x : Int) 255 = ((x % 256 : Nat) : Int) := by
  have hx : x &&& 255 < 2 ^ 33 := Nat.and_lt_two_pow _ (by omega)
  show IntKind.i64.wrap ((BitVec.ofInt 64 (x : Int) &&& BitVec.ofInt 64 (255 : Int)).toNat : Int) = _
  have e1 : (BitVec.ofInt 64 (x : Int)).toNat = x := by rw [BitVec.toNat_ofInt]; omega
  have e2 : (BitVec.ofInt 64 (255 : Int)).toNat = 255 := by decide
  rw [BitVec.toNat_and, e1, e2, show x &&& 255 = x % 256 from Nat.and_two_pow_sub_one_eq_mod x 8]
  exact IntWalk.i64_in _ (by omega)
set_option maxRecDepth 100000 in
set_option maxHeartbeats 4000000 in
theorem number_any (v : Int) (d : Bool) (w : World) (ht : Tab w) : Calls Tryd.prog 7 #[.int .i64 v, .bool d] w (NumAns w v d) := by
  by_cases hv : v < 0
  · have HB := Lib.hid (num_bad (w := w) (w' := w) (d := d) (show ¬ numB v from fun h => by have := h.1; omega) (Below.refl _ _))
    clear ht
    go_enter Tryd.func7, Tryd.ntmps7
    go_wp2
    go_ret2
    exact HB.out
  by_cases hm : 4294967295 < v
  · have HB := Lib.hid (num_bad (w := w) (w' := w) (d := d) (show ¬ numB v from fun h => by have := h.2; omega) (Below.refl _ _))
    clear ht
    go_enter Tryd.func7, Tryd.ntmps7
    go_wp2
    go_ret2
    exact HB.out
  obtain ⟨n, rfl⟩ : ∃ n : Nat, v = (n : Int) := ⟨v.toNat, by omega⟩
  have hn : n ≤ 4294967295 := by omega
  cases d
  · have HP := Lib.hid (itoa_any n (by omega) w ht)
    have HO := Lib.hid (fun w' => num_ok (w := w) (w' := w') (d := false) hn (s := str (dd n)) (by simp))
    generalize str (dd n) = s at *
    clear ht
    go_enter Tryd.func7, Tryd.ntmps7
    go_wp2_with fail
    refine HP.out.mono ?_
    rintro e w' ⟨rfl, hb⟩
    go_wp2_with fail
    go_ret2
    exact HO.out _ hb
  · have HT := Lib.hid (Lib.tabBelow_of_tabIs ht)
    have HO := Lib.hid (fun w' => num_ok (w := w) (w' := w') (d := true) hn (s := str (quadL n)) (by rw [if_pos rfl]))
    have HL := Lib.hid (pre_len n hn)
    clear ht
    go_enter Tryd.func7, Tryd.ntmps7
    go_wp2
    go_loopw [6, 7] (fun m i wr => ∃ k : Nat, k ≤ 4 ∧ i = .int .i64 (24 - 8 * (k : Int)) ∧ Below w.heap.size w wr ∧ wr.ownsRow w.heap.size 5 1 m (pre n k).length ((pre n k).map bv)) (fun _ i _ => (intOf i + 8).toNat)
    case atStart => exact ⟨0, by omega, rfl, Below.refl _ _, World.ownsRow_nil _ _ _ _⟩
    case round =>
      obtain ⟨k, hk, rfl, hbel, hown⟩ := hrel
      have HW := Lib.hid hown
      clear hown
      have hkk : k = 0 ∨ k = 1 ∨ k = 2 ∨ k = 3 ∨ k = 4 := by omega
      rcases hkk with h | h | h | h | h <;> subst h
      · have hi : bits .and .i64 ((n : Int) / 16777216) 255 = (((n / 16777216) : Nat) : Int) := by rw [show ((n : Int) / 16777216) = (((n / 16777216) : Nat) : Int) from by omega, and_255 _ (by omega)] ; rw [Nat.mod_eq_of_lt (by omega)]
        have HI := Lib.hid hi
        clear hi
        go_wp2_with fail
        refine (appi w.heap.size _ (n / 16777216) (by omega) (by have := HL.out 0; omega) _ HI.out _ _ _ HW.out hbel.size (HT.out.on hbel)).mono ?_
        rintro e w1 ⟨v1, rfl, ho1, hb1⟩
        have hl : (pre n 0).length + (dd (n / 16777216)).length ≤ 1000000 := by have := HL.out 0; have := dl (n / 16777216) (by omega); unfold dd at *; omega
        have HO1 := Lib.hid ho1
        have HLL := Lib.hid hl
        clear ho1 hl
        go_wp2_with (at_builtin; refine app_byte 46 HO1.out rfl rfl rfl rfl HLL.out (hbel.trans hb1).size ?_; intro v2 w2 hown2 hb2)
        go_roundw
        case rel =>
          refine ⟨1, by omega, by go_num, (hbel.trans hb1).trans hb2, ?_⟩
          have hp : pre n 1 = pre n 0 ++ dd (n / 16777216) ++ [46] := by simp [pre, prt]
          rw [hp, List.length_append, List.length_append]
          exact hown2
        case measure => simp [intOf]
      · have hi : bits .and .i64 ((n : Int) / 65536) 255 = (((n / 65536 % 256) : Nat) : Int) := by rw [show ((n : Int) / 65536) = (((n / 65536) : Nat) : Int) from by omega, and_255 _ (by omega)]
        have HI := Lib.hid hi
        clear hi
        go_wp2_with fail
        refine (appi w.heap.size _ (n / 65536 % 256) (by omega) (by have := HL.out 1; omega) _ HI.out _ _ _ HW.out hbel.size (HT.out.on hbel)).mono ?_
        rintro e w1 ⟨v1, rfl, ho1, hb1⟩
        have hl : (pre n 1).length + (dd (n / 65536 % 256)).length ≤ 1000000 := by have := HL.out 1; have := dl (n / 65536 % 256) (by omega); unfold dd at *; omega
        have HO1 := Lib.hid ho1
        have HLL := Lib.hid hl
        clear ho1 hl
        go_wp2_with (at_builtin; refine app_byte 46 HO1.out rfl rfl rfl rfl HLL.out (hbel.trans hb1).size ?_; intro v2 w2 hown2 hb2)
        go_roundw
        case rel =>
          refine ⟨2, by omega, by go_num, (hbel.trans hb1).trans hb2, ?_⟩
          have hp : pre n 2 = pre n 1 ++ dd (n / 65536 % 256) ++ [46] := by simp [pre, prt]
          rw [hp, List.length_append, List.length_append]
          exact hown2
        case measure => simp [intOf]
      · have hi : bits .and .i64 ((n : Int) / 256) 255 = (((n / 256 % 256) : Nat) : Int) := by rw [show ((n : Int) / 256) = (((n / 256) : Nat) : Int) from by omega, and_255 _ (by omega)]
        have HI := Lib.hid hi
        clear hi
        go_wp2_with fail
        refine (appi w.heap.size _ (n / 256 % 256) (by omega) (by have := HL.out 2; omega) _ HI.out _ _ _ HW.out hbel.size (HT.out.on hbel)).mono ?_
        rintro e w1 ⟨v1, rfl, ho1, hb1⟩
        have hl : (pre n 2).length + (dd (n / 256 % 256)).length ≤ 1000000 := by have := HL.out 2; have := dl (n / 256 % 256) (by omega); unfold dd at *; omega
        have HO1 := Lib.hid ho1
        have HLL := Lib.hid hl
        clear ho1 hl
        go_wp2_with (at_builtin; refine app_byte 46 HO1.out rfl rfl rfl rfl HLL.out (hbel.trans hb1).size ?_; intro v2 w2 hown2 hb2)
        go_roundw
        case rel =>
          refine ⟨3, by omega, by go_num, (hbel.trans hb1).trans hb2, ?_⟩
          have hp : pre n 3 = pre n 2 ++ dd (n / 256 % 256) ++ [46] := by simp [pre, prt]
          rw [hp, List.length_append, List.length_append]
          exact hown2
        case measure => simp [intOf]
      · have hi : bits .and .i64 (n : Int) 255 = (((n % 256) : Nat) : Int) := and_255 n (by omega)
        have HI := Lib.hid hi
        clear hi
        go_wp2_with fail
        refine (appi w.heap.size _ (n % 256) (by omega) (by have := HL.out 3; omega) _ HI.out _ _ _ HW.out hbel.size (HT.out.on hbel)).mono ?_
        rintro e w1 ⟨v1, rfl, ho1, hb1⟩
        have HO1 := Lib.hid ho1
        clear ho1
        go_wp2
        go_roundw
        case rel =>
          refine ⟨4, by omega, by go_num, hbel.trans hb1, ?_⟩
          have hp : pre n 4 = pre n 3 ++ dd (n % 256) := by simp [pre, prt]
          rw [hp, List.length_append]
          exact HO1.out
        case measure => simp [intOf]
      · rw [pre_4] at HW
        have hs := str_own HW.out
        go_wp2
        go_ret2
        exact HO.out _ hbel
end Go.Proofs.YtcikhbbljhkheaaDoor.Sn
