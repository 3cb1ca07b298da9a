/- Split's answer in the document's words. -/
import Derived.Test.YtdiijannpfogdaaRow
import Derived.Test.YtdiijannpfogdaaTz
import Derived.Test.YtdiijannpfogdaaTr
import Derived.Test.YtdiijannpfogdaaTt
namespace Go.Proofs.Ytdiijannpfogdaa.Tn
open Go.RowKit
theorem rother (b : UInt8) (w : World) : Calls Try.prog 76 #[.int .u8 (b.toNat : Int)] w fun e w' => e = .returned (.int .u8 ((otherB b).toNat : Int)) ∧ w = w' := by
  by_cases hx : b = 48
  · have t1 := is48 hx
    have e1 : otherB b = 49 := by unfold otherB; rw [if_pos hx]
    rw [e1]
    clear hx e1
    go_enter Try.func76, Try.ntmps76
    go_wp2
    go_ret
    exact ⟨rfl, rfl⟩
  · have t1 := not48 hx
    have e1 : otherB b = 48 := by unfold otherB; rw [if_neg hx]
    rw [e1]
    clear hx e1
    go_enter Try.func76, Try.ntmps76
    go_wp2
    go_ret
    exact ⟨rfl, rfl⟩
set_option maxHeartbeats 1000000 in
theorem rpart (a b : ByteArray) (hl : a.size ≤ 256) (hab : b.size = a.size) (i : Nat) (hi : i < a.size) (w : World) :
    Calls Try.prog 70 #[.string a, .string b, .int .i64 (i : Int)] w fun e w' => e = .returned (.string (str (partT a.data.toList b.data.toList i))) ∧ Below w.heap.size w w' := by
  have e1 : partT a.data.toList b.data.toList i = up (partF a.data.toList b.data.toList i) a.size := by unfold partT; rw [len_s a]
  rw [e1]
  clear e1
  have HS := Lib.hid hab
  clear hab
  go_enter Try.func70, Try.ntmps70
  go_wp2_with fail
  go_loopw [7, 8] (fun v j wr => ∃ k : Nat, k ≤ a.size ∧ j = .int .i64 k ∧ wr.ownsRow w.heap.size 5 1 v k ((up (partF a.data.toList b.data.toList i) k).map bv) ∧ Below w.heap.size w wr) (fun _ j _ => a.size - (intOf j).toNat)
  case atStart => exact ⟨0, Nat.zero_le _, rfl, own_nil _ _, Below.refl _ _⟩
  case round =>
    obtain ⟨k, hk, rfl, hown, hbel⟩ := hrel
    by_cases hlt : k < a.size
    · have hlb : k < b.size := by rw [HS.out]; exact hlt
      have hba := byt_str a k hlt
      have hbb := byt_str b k hlb
      by_cases hki : k = i
      · subst hki
        have HV := Lib.hid (show partF a.data.toList b.data.toList k k = otherB b[k] by unfold partF; rw [if_pos rfl, hbb])
        clear hba hbb
        go_wp2_with (first | (go_at_call 76; refine (rother b[k] _).mono ?_; rintro e w' ⟨rfl, rfl⟩) | (at_builtin; refine app_byte (otherB b[k]) hown rfl rfl rfl rfl (by omega) hbel.size ?_; intro v' w2 hown2 hb2))
        go_roundw
        case rel => exact ⟨k + 1, by omega, by go_num, by rw [up_succ, HV.out]; exact hown2, hbel.trans hb2⟩
        case measure => simp [intOf]; omega
      · have t3 : ((k : Int) == (i : Int)) = false := by rw [beq_eq_false_iff_ne]; omega
        by_cases hkl : k < i
        · have t4 : decide ((k : Int) < (i : Int)) = true := decide_eq_true (by omega)
          by_cases hx : a[k] = 120
          · have t1 := is120 hx
            have HV := Lib.hid (show partF a.data.toList b.data.toList i k = b[k] by unfold partF; rw [if_neg hki, hba, hbb, if_pos ⟨hkl, hx⟩])
            clear hba hbb hx hki
            go_wp2_with (at_builtin; refine app_byte b[k] hown rfl rfl rfl rfl (by omega) hbel.size ?_; intro v' w2 hown2 hb2)
            go_roundw
            case rel => exact ⟨k + 1, by omega, by go_num, by rw [up_succ, HV.out]; exact hown2, hbel.trans hb2⟩
            case measure => simp [intOf]; omega
          · have t1 := not120 hx
            have HV := Lib.hid (show partF a.data.toList b.data.toList i k = a[k] by unfold partF; rw [if_neg hki, hba, hbb, if_neg (fun e => hx e.2)])
            clear hba hbb hx hki
            go_wp2_with (at_builtin; refine app_byte a[k] hown rfl rfl rfl rfl (by omega) hbel.size ?_; intro v' w2 hown2 hb2)
            go_roundw
            case rel => exact ⟨k + 1, by omega, by go_num, by rw [up_succ, HV.out]; exact hown2, hbel.trans hb2⟩
            case measure => simp [intOf]; omega
        · have t4 : decide ((k : Int) < (i : Int)) = false := decide_eq_false (by omega)
          have HV := Lib.hid (show partF a.data.toList b.data.toList i k = a[k] by unfold partF; rw [if_neg hki, hba, hbb, if_neg (fun e => hkl e.1)])
          clear hba hbb hki
          go_wp2_with (at_builtin; refine app_byte a[k] hown rfl rfl rfl rfl (by omega) hbel.size ?_; intro v' w2 hown2 hb2)
          go_roundw
          case rel => exact ⟨k + 1, by omega, by go_num, by rw [up_succ, HV.out]; exact hown2, hbel.trans hb2⟩
          case measure => simp [intOf]; omega
    · obtain rfl : k = a.size := by omega
      have hst := str_own hown
      go_wp2
      go_ret
      exact ⟨rfl, hbel⟩
theorem srow_nil (w : World) (B : Nat) : w.ownsRow B 9 1 (.slice none 0 0) 0 (srow []) := World.ownsRow_nil w B 9 1
set_option maxHeartbeats 1000000 in
theorem rsplit (a b : ByteArray) (hl : a.size ≤ 256) (w : World) :
    Calls Try.prog 49 #[.string a, .string b] w fun e w' => ∃ v, e = .returned v ∧ w'.ownsRow w.heap.size 9 1 v (splitT a.data.toList b.data.toList).length (srow (splitT a.data.toList b.data.toList)) ∧ Below w.heap.size w w' := by
  have hm := rmeet_any a b w hl
  by_cases hok : meetOk a.data.toList b.data.toList
  · have hsz : b.size = a.size := by have := hok.1.2; have ha := len_s a; have hb := len_s b; omega
    have HP := Lib.hid fun i hi w => rpart a b hl hsz i hi w
    have HS := Lib.hid hsz
    have e1 : splitT a.data.toList b.data.toList = partsT a.data.toList b.data.toList a.size := by unfold splitT; rw [if_pos hok, len_s a]
    rw [e1]
    rw [decide_eq_true hok] at hm
    have HM := Lib.hid hm
    clear hm hok hsz e1
    go_enter Try.func49, Try.ntmps49
    go_wp2_with fail
    refine HM.out.mono ?_
    rintro e w1 ⟨rfl, hb1⟩
    go_wp2_with fail
    have hz1 := hb1.size
    go_loopw [7, 8] (fun v j wr => ∃ k : Nat, k ≤ a.size ∧ j = .int .i64 k ∧ wr.ownsRow w.heap.size 9 1 v (partsT a.data.toList b.data.toList k).length (srow (partsT a.data.toList b.data.toList k)) ∧ Below w.heap.size w wr) (fun _ j _ => a.size - (intOf j).toNat)
    case atStart => exact ⟨0, Nat.zero_le _, rfl, srow_nil _ _, hb1⟩
    case round =>
      obtain ⟨k, hk, rfl, hown, hbel⟩ := hrel
      by_cases hlt : k < a.size
      · have hlb : k < b.size := by rw [HS.out]; exact hlt
        have hba := byt_str a k hlt
        have hbb := byt_str b k hlb
        have hpl := partsT_le a.data.toList b.data.toList k
        by_cases hx : a[k] = 120
        · have t1 := is120 hx
          by_cases hy : b[k] = 120
          · have t2 := is120 hy
            have HSP := Lib.hid (show splits a.data.toList b.data.toList k = false by unfold splits; rw [hba, hbb, hx, hy]; rfl)
            clear hpl
            have t4 := ne_no120 hy
            clear hba hbb hx hy
            go_wp2_with fail
            go_roundw
            case rel => exact ⟨k + 1, by omega, by go_num, by rw [partsT_no HSP.out]; exact hown, hbel⟩
            case measure => simp [intOf]; omega
          · have t2 := not120 hy
            have t4 := ne_yes120 hy
            have HSP := Lib.hid (show splits a.data.toList b.data.toList k = true by unfold splits; rw [hba, hbb, hx]; simpa using hy)
            clear hba hbb hx hy
            have kp := HP.out k hlt wr
            go_wp2_with (first | (go_at_call 70; refine kp.mono ?_; rintro e w2 ⟨rfl, hb2⟩; have hown2 := own_below hown hb2 (Nat.le_refl _); have hbel2 := hbel.trans (hb2.mono hbel.size)) | (at_builtin; refine app_str (partT a.data.toList b.data.toList k) hown2 rfl rfl rfl rfl (by omega) hbel2.size ?_; intro v' w3 hown3 hb3 hk3))
            go_roundw
            case rel =>
              rw [← partsT_yes HSP.out] at hown3
              refine ⟨k + 1, by omega, by go_num, ?_, hbel2.trans hb3⟩
              rw [partsT_yes HSP.out, List.length_append, List.length_singleton, ← partsT_yes HSP.out]
              exact hown3
            case measure => simp [intOf]; omega
        · have t1 := not120 hx
          have HSP := Lib.hid (show splits a.data.toList b.data.toList k = false by unfold splits; rw [hba, hbb]; simp [hx])
          clear hba hbb hx
          go_wp2_with fail
          go_roundw
          case rel => exact ⟨k + 1, by omega, by go_num, by rw [partsT_no HSP.out]; exact hown, hbel⟩
          case measure => simp [intOf]; omega
      · obtain rfl : k = a.size := by omega
        go_wp2
        go_ret
        exact ⟨_, rfl, hown, hbel⟩
  · have e1 : splitT a.data.toList b.data.toList = [a.data.toList] := by unfold splitT; rw [if_neg hok]
    rw [e1]
    rw [decide_eq_false hok] at hm
    have HM := Lib.hid hm
    clear hm hok e1
    go_enter Try.func49, Try.ntmps49
    go_wp2_with fail
    refine HM.out.mono ?_
    rintro e w1 ⟨rfl, hb1⟩
    go_wp2_with fail
    go_ret
    have hx := own_one w1 9 #[.string a] (B := w.heap.size) hb1.size
    exact ⟨_, rfl, hx, hb1.alloc hb1.size _⟩
end Go.Proofs.Ytdiijannpfogdaa.Tn
