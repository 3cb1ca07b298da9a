/- The document's Least, After and Members. -/
import Derived.Test.YtdiijannpfogdaaMb
import Derived.Test.YtdiijannpfogdaaRs
namespace Go.Proofs.Ytdiijannpfogdaa.Tn
open Go.RowKit
theorem dig_x {c o : Bool} (h : c = false) : dig c o = 120 := by subst h; rfl
theorem dig_nx {c o : Bool} (h : c = true) : dig c o ≠ 120 := by subst h; cases o <;> decide
theorem dig_c {c o : Bool} (h : c = true) : dig c o = bitD o := by subst h; rfl
theorem bit_0 {b : Bool} (h : b = false) : bitD b = 48 := by subst h; rfl
theorem bit_1 {b : Bool} (h : b = true) : bitD b = 49 := by subst h; rfl
theorem bit_n48 {b : Bool} (h : b = true) : ¬ bitD b = 48 := by subst h; decide
set_option maxHeartbeats 1000000 in
theorem rleast (a : ByteArray) {n : Nat} {c o : Nat → Bool} (hC : Cub a.data.toList n c o) (w : World) :
    Calls Try.prog 72 #[.string a] w fun e w' => e = .returned (.string (str (hdr n o))) ∧ Below w.heap.size w w' := by
  have hn : n = a.size := by rw [hC.hn, len_s]
  have hl : a.size ≤ 256 := by have := hC.le; rw [len_s] at this; exact this
  have hsub := hC.nrm.sub
  have HA := Lib.hid (show ∀ k (hk : k < a.size), a[k] = dig (c k) (o k) from fun k hk => by rw [← byt_str a k hk]; exact hC.at_ k (by omega))
  have HS := Lib.hid hsub
  subst hn
  clear hC hsub
  go_enter Try.func72, Try.ntmps72
  go_wp2_with fail
  go_loopw [3, 4] (fun v j wr => ∃ k : Nat, k ≤ a.size ∧ j = .int .i64 k ∧ wr.ownsRow w.heap.size 5 1 v k ((hdr k o).map bv) ∧ Below w.heap.size w wr) (fun _ j _ => a.size - (intOf j).toNat)
  case atStart => exact ⟨0, Nat.zero_le _, rfl, own_nil _ _, Below.refl _ _⟩
  case round =>
    obtain ⟨k, hk, rfl, hown, hbel⟩ := hrel
    by_cases hlt : k < a.size
    · have hba := HA.out k hlt
      by_cases hx : c k = true
      · have t1 := not120 (show ¬ a[k] = 120 from by rw [hba]; exact dig_nx hx)
        have HV := Lib.hid (show bitD (o k) = a[k] from by rw [hba, dig_c hx])
        clear hba hx
        go_wp2_with (at_builtin; refine app_byte a[k] hown rfl rfl rfl rfl (by omega) hbel.size ?_; intro v' w2 hown2 hb2)
        go_roundw
        case rel => exact ⟨k + 1, by omega, by go_num, by unfold hdr; rw [up_succ, HV.out]; exact hown2, hbel.trans hb2⟩
        case measure => simp [intOf]; omega
      · have hx0 : c k = false := by simpa using hx
        have t1 := is120 (show a[k] = 120 from by rw [hba]; exact dig_x hx0)
        have HV := Lib.hid (show bitD (o k) = 48 from bit_0 (by cases ho : o k with | false => rfl | true => exact absurd (HS.out k ho) hx))
        clear hba hx hx0
        go_wp2_with (at_builtin; refine app_byte 48 hown rfl rfl rfl rfl (by omega) hbel.size ?_; intro v' w2 hown2 hb2)
        go_roundw
        case rel => exact ⟨k + 1, by omega, by go_num, by unfold hdr; rw [up_succ, HV.out]; exact hown2, hbel.trans hb2⟩
        case measure => simp [intOf]; omega
    · obtain rfl : k = a.size := by omega
      have hst := str_own hown
      go_wp2
      go_ret
      exact ⟨rfl, hbel⟩
theorem lst_yes {c h : Nat → Bool} {k : Nat} (h1 : c k = false) (h2 : h k = false) : lst c h (k + 1) = k := by simp [lst, h1, h2]
theorem lst_no {c h : Nat → Bool} {k : Nat} (h1 : c k = true ∨ h k = true) : lst c h (k + 1) = lst c h k := by
  show (if !c k && !h k then (k : Int) else lst c h k) = lst c h k
  rw [if_neg]
  rcases h1 with h1 | h1 <;> simp [h1]
/-- what After answers -/
def aftV (c : Nat → Bool) (n : Nat) (h : Nat → Bool) : Value := match nextF c n h with | some h' => .tuple #[.string (str (hdr n h')), .bool true] | none => .tuple #[.string .empty, .bool false]
theorem aft_none {c : Nat → Bool} {n : Nat} {h : Nat → Bool} (hn : nextF c n h = none) : aftV c n h = .tuple #[.string .empty, .bool false] := by unfold aftV; rw [hn]
theorem aft_some {c : Nat → Bool} {n : Nat} {h h' : Nat → Bool} (hn : nextF c n h = some h') : aftV c n h = .tuple #[.string (str (hdr n h')), .bool true] := by unfold aftV; rw [hn]
set_option maxRecDepth 100000 in
set_option maxHeartbeats 2000000 in
theorem rafter (a b : ByteArray) {n : Nat} {c o h : Nat → Bool} (hC : Cub a.data.toList n c o) (hb : b.data.toList = hdr n h) (w : World) :
    Calls Try.prog 73 #[.string a, .string b] w fun e w' => e = .returned (aftV c n h) ∧ Below w.heap.size w w' := by
  have hn : n = a.size := by rw [hC.hn, len_s]
  have hl : a.size ≤ 256 := by have := hC.le; rw [len_s] at this; exact this
  have hsz : b.size = a.size := by rw [← len_s, hb, hdr_len]; exact hn
  have HA := Lib.hid (show ∀ k (hk : k < a.size), a[k] = dig (c k) (o k) from fun k hk => by rw [← byt_str a k hk]; exact hC.at_ k (by omega))
  have HB := Lib.hid (show ∀ k (hk : k < b.size), b[k] = bitD (h k) from fun k hk => by rw [← byt_str b k hk, hb]; exact hdr_at _ _ _ (by omega))
  have HZ := Lib.hid hsz
  subst hn
  clear hC hb hsz
  go_enter Try.func73, Try.ntmps73
  go_wp2_with fail
  go_loop [6, 7] (fun m j => ∃ k : Nat, k ≤ a.size ∧ j = .int .i64 k ∧ m = .int .i64 (lst c h k)) (fun _ j => a.size - (intOf j).toNat)
  case atStart => exact ⟨0, Nat.zero_le _, rfl, rfl⟩
  case round =>
    obtain ⟨k, hk, rfl, rfl⟩ := hrel
    have hlo := lst_lo c h k
    by_cases hlt : k < a.size
    · have hlb : k < b.size := by rw [HZ.out]; exact hlt
      have hba := HA.out k hlt
      have hbb := HB.out k hlb
      by_cases hx : c k = true
      · have t1 := not120 (show ¬ a[k] = 120 from by rw [hba]; exact dig_nx hx)
        have HV := Lib.hid (lst_no (c := c) (h := h) (k := k) (.inl hx))
        clear hba hbb hx
        go_wp2
        go_round
        case rel => exact ⟨k + 1, by omega, by go_num, by rw [HV.out]⟩
        case measure => simp [intOf]; omega
      · have hx0 : c k = false := by simpa using hx
        have t1 := is120 (show a[k] = 120 from by rw [hba]; exact dig_x hx0)
        by_cases hy : h k = true
        · have t2 := not48 (show ¬ b[k] = 48 from by rw [hbb]; exact bit_n48 hy)
          have HV := Lib.hid (lst_no (c := c) (h := h) (k := k) (.inr hy))
          clear hba hbb hx hx0 hy
          go_wp2
          go_round
          case rel => exact ⟨k + 1, by omega, by go_num, by rw [HV.out]⟩
          case measure => simp [intOf]; omega
        · have hy0 : h k = false := by simpa using hy
          have t2 := is48 (show b[k] = 48 from by rw [hbb]; exact bit_0 hy0)
          have HV := Lib.hid (lst_yes (c := c) (h := h) (k := k) hx0 hy0)
          clear hba hbb hx hx0 hy hy0
          go_wp2
          go_round
          case rel => exact ⟨k + 1, by omega, by go_num, by rw [HV.out]⟩
          case measure => simp [intOf]; omega
    · obtain rfl : k = a.size := by omega
      cases hnx : nextF c a.size h with
      | none =>
        have HV := Lib.hid (lst_none (c := c) (h := h) (k := a.size) (next_none hnx))
        have HA0 := Lib.hid (aft_none hnx)
        rw [HV.out]
        clear hnx hlo
        go_wp2
        go_ret2
        exact ⟨by rw [HA0.out]; rfl, Below.refl _ _⟩
      | some h' =>
        obtain ⟨i, hi, hin, hall⟩ := next_last hnx
        rw [hi]
        have HA1 := Lib.hid (aft_some hnx)
        have HALL := Lib.hid hall
        clear hnx hall hi hlo
        go_wp2_with fail
        go_loopw [8, 9] (fun v j wr => ∃ k : Nat, k ≤ a.size ∧ j = .int .i64 k ∧ wr.ownsRow w.heap.size 5 1 v k ((hdr k h').map bv) ∧ Below w.heap.size w wr) (fun _ j _ => a.size - (intOf j).toNat)
        case atStart => exact ⟨0, Nat.zero_le _, rfl, own_nil _ _, Below.refl _ _⟩
        case round =>
          obtain ⟨k, hk, rfl, hown, hbel⟩ := hrel
          by_cases hlt : k < a.size
          · have hlb : k < b.size := by rw [HZ.out]; exact hlt
            have hba := HA.out k hlt
            have hbb := HB.out k hlb
            have hnk := HALL.out k hlt
            by_cases hki : k = i
            · subst hki
              have HV := Lib.hid (show bitD (h' k) = 49 from bit_1 (by rw [hnk, if_pos rfl]))
              clear hba hbb hnk
              go_wp2_with (at_builtin; refine app_byte 49 hown rfl rfl rfl rfl (by omega) hbel.size ?_; intro v' w2 hown2 hb2)
              go_roundw
              case rel => exact ⟨k + 1, by omega, by go_num, by unfold hdr; rw [up_succ, HV.out]; exact hown2, hbel.trans hb2⟩
              case measure => simp [intOf]; omega
            · have t3 : ((k : Int) == (i : Int)) = false := by rw [beq_eq_false_iff_ne]; omega
              rw [if_neg hki] at hnk
              by_cases hkl : i < k
              · have t4 : decide ((i : Int) < (k : Int)) = true := decide_eq_true (by omega)
                by_cases hx : c k = true
                · have t1 := not120 (show ¬ a[k] = 120 from by rw [hba]; exact dig_nx hx)
                  have HV := Lib.hid (show bitD (h' k) = b[k] from by rw [hnk, if_neg (by simp [hx]), hbb])
                  clear hba hbb hnk hx hki
                  go_wp2_with (at_builtin; refine app_byte b[k] hown rfl rfl rfl rfl (by omega) hbel.size ?_; intro v' w2 hown2 hb2)
                  go_roundw
                  case rel => exact ⟨k + 1, by omega, by go_num, by unfold hdr; rw [up_succ, HV.out]; exact hown2, hbel.trans hb2⟩
                  case measure => simp [intOf]; omega
                · have hx0 : c k = false := by simpa using hx
                  have t1 := is120 (show a[k] = 120 from by rw [hba]; exact dig_x hx0)
                  have HV := Lib.hid (show bitD (h' k) = 48 from bit_0 (by rw [hnk, if_pos ⟨hkl, hx0⟩]))
                  clear hba hbb hnk hx hx0 hki
                  go_wp2_with (at_builtin; refine app_byte 48 hown rfl rfl rfl rfl (by omega) hbel.size ?_; intro v' w2 hown2 hb2)
                  go_roundw
                  case rel => exact ⟨k + 1, by omega, by go_num, by unfold hdr; rw [up_succ, HV.out]; exact hown2, hbel.trans hb2⟩
                  case measure => simp [intOf]; omega
              · have t4 : decide ((i : Int) < (k : Int)) = false := decide_eq_false (by omega)
                have HV := Lib.hid (show bitD (h' k) = b[k] from by rw [hnk, if_neg (fun e => hkl e.1), hbb])
                clear hba hbb hnk hki
                go_wp2_with (at_builtin; refine app_byte b[k] hown rfl rfl rfl rfl (by omega) hbel.size ?_; intro v' w2 hown2 hb2)
                go_roundw
                case rel => exact ⟨k + 1, by omega, by go_num, by unfold hdr; rw [up_succ, HV.out]; exact hown2, hbel.trans hb2⟩
                case measure => simp [intOf]; omega
          · obtain rfl : k = a.size := by omega
            have hst := str_own hown
            go_wp2
            go_ret2
            exact ⟨by rw [HA1.out]; rfl, hbel⟩
end Go.Proofs.Ytdiijannpfogdaa.Tn
