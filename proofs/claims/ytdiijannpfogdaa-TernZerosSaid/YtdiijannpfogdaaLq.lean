import Derived.Test.YtdiijannpfogdaaTt
namespace Go.Proofs.Ytdiijannpfogdaa.Tn
open Go.RowKit
def digB (b : UInt8) : Bool := b == 48 || b == 49
theorem digit_any (b : UInt8) (w : World) : Calls Try.prog 69 #[.int .u8 (b.toNat : Int)] w fun e w' => e = .returned (.bool (digB b)) ∧ w = w' := by
  by_cases h1 : b = 48
  · have t1 : ((b.toNat : Int) == 48) = true := by rw [h1]; rfl
    have hd : digB b = true := by rw [h1]; rfl
    rw [hd]
    clear h1 hd
    go_enter Try.func69, Try.ntmps69
    go_wp2
    go_ret
    exact ⟨rfl, rfl⟩
  · have t1 := not48 h1
    by_cases h2 : b = 49
    · have t2 : ((b.toNat : Int) == 49) = true := by rw [h2]; rfl
      have hd : digB b = true := by rw [h2]; rfl
      rw [hd]
      clear h1 h2 hd
      go_enter Try.func69, Try.ntmps69
      go_wp2
      go_ret
      exact ⟨rfl, rfl⟩
    · have t2 := not49 h2
      have hd : digB b = false := by simp [digB, h1, h2]
      rw [hd]
      clear h1 h2 hd
      go_enter Try.func69, Try.ntmps69
      go_wp2
      go_ret
      exact ⟨rfl, rfl⟩
theorem digit_yes {b : UInt8} (h : digB b = true) (w : World) : Calls Try.prog 69 #[.int .u8 (b.toNat : Int)] w fun e w' => e = .returned (.bool true) ∧ w = w' := by
  have := digit_any b w; rw [h] at this; exact this
theorem digit_no {b : UInt8} (h : digB b = false) (w : World) : Calls Try.prog 69 #[.int .u8 (b.toNat : Int)] w fun e w' => e = .returned (.bool false) ∧ w = w' := by
  have := digit_any b w; rw [h] at this; exact this
/-- the text is one of a cube -/
def isCube (t : List UInt8) : Prop := (0 < t.length ∧ t.length ≤ 256) ∧ t.all okB = true
instance (t : List UInt8) : Decidable (isCube t) := by unfold isCube; infer_instance
theorem okB_dig (b : UInt8) : okB b = (digB b || b == 120) := by simp [okB, digB]
theorem all_snoc (s : ByteArray) (k : Nat) (f : UInt8 → Bool) (hlt : k < s.size) (hall : (s.data.toList.take k).all f = true) : (s.data.toList.take (k + 1)).all f = f s[k] := by
  have hb : s.data.toList[k]? = some s[k] := by rw [Array.getElem?_toList]; exact Array.getElem?_eq_getElem hlt
  rw [List.take_add_one, List.all_append, hall, hb]; simp
theorem not_all (s : ByteArray) (k : Nat) (f : UInt8 → Bool) (hlt : k < s.size) (hf : f s[k] = false) : s.data.toList.all f = false := by
  rw [List.all_eq_false]
  exact ⟨s[k], by rw [Array.mem_toList_iff]; exact Array.getElem_mem hlt, by simp [hf]⟩
set_option maxHeartbeats 1000000 in
theorem lcube_any (s : ByteArray) (hs : s.size ≤ maxLen) (w : World) : Calls Try.prog 43 #[.string s] w fun e w' => e = .returned (.bool (decide (isCube s.data.toList))) ∧ w = w' := by
  have hl := len_s s
  have HL := Lib.hid hl
  clear hl
  unfold maxLen at hs
  go_enter Try.func43, Try.ntmps43
  go_wp2
  go_loop [3] (fun i => ∃ k : Nat, k ≤ s.size ∧ i = .int .i64 k ∧ (s.data.toList.take k).all okB = true) (fun i => s.size - (intOf i).toNat)
  case atStart => exact ⟨0, Nat.zero_le _, rfl, rfl⟩
  case round =>
    obtain ⟨k, hk, rfl, hall⟩ := hrel
    by_cases hlt : k < s.size
    · have HA := Lib.hid (all_snoc s k okB hlt hall)
      by_cases hd : digB s[k] = true
      · have HD := Lib.hid hd
        clear hd
        go_wp2_with (go_at_call 69; refine (digit_yes HD.out _).mono ?_; rintro e w' ⟨rfl, rfl⟩)
        go_round
        case rel => exact ⟨k + 1, by omega, by go_num, by rw [HA.out, okB_dig, HD.out]; rfl⟩
        case measure => simp [intOf]; omega
      · have HD : Hid (digB s[k] = false) := by unfold Hid; simpa using hd
        clear hd
        by_cases hx : s[k] = 120
        · have t1 := ne_no120 hx
          have HX := Lib.hid hx
          clear hx
          go_wp2_with (go_at_call 69; refine (digit_no HD.out _).mono ?_; rintro e w' ⟨rfl, rfl⟩)
          go_round
          case rel => exact ⟨k + 1, by omega, by go_num, by rw [HA.out, okB_dig, HX.out]; rfl⟩
          case measure => simp [intOf]; omega
        · have t1 := ne_yes120 hx
          have HO : Hid (decide (isCube s.data.toList) = false) := decide_eq_false fun H => by
            have h2 := not_all s k okB hlt (by rw [okB_dig, HD.out]; simpa using hx)
            rw [H.2] at h2; cases h2
          clear hx
          go_wp2_with (go_at_call 69; refine (digit_no HD.out _).mono ?_; rintro e w' ⟨rfl, rfl⟩)
          go_ret
          exact ⟨by rw [HO.out]; rfl, rfl⟩
    · obtain rfl : k = s.size := by omega
      have HA : Hid (s.data.toList.all okB = true) := by rw [List.take_of_length_le (by rw [HL.out]; omega)] at hall; exact hall
      clear hall
      by_cases h1 : 0 < s.size ∧ s.size ≤ 256
      · have HO : Hid (decide (isCube s.data.toList) = true) := decide_eq_true ⟨by rw [HL.out]; exact h1, HA.out⟩
        obtain ⟨h1, h2⟩ := h1
        have h4 : decide ((s.size : Int) ≤ 256) = true := by simp; omega
        go_wp2
        go_ret
        exact ⟨by rw [HO.out]; rfl, rfl⟩
      · have HO : Hid (decide (isCube s.data.toList) = false) := decide_eq_false fun H => h1 (by have := H.1; rw [HL.out] at this; exact this)
        by_cases h2 : 0 < s.size
        · have h3 : decide ((s.size : Int) ≤ 256) = false := by simp; omega
          clear h1
          go_wp2
          go_ret
          exact ⟨by rw [HO.out]; rfl, rfl⟩
        · have h3 : s.size = 0 := by omega
          clear h1 h2
          go_wp2
          go_ret
          exact ⟨by rw [HO.out]; rfl, rfl⟩
/-- the text is a header of that width -/
def isHead (t : List UInt8) (n : Nat) : Prop := t.length = n ∧ t.all digB = true
instance (t : List UInt8) (n : Nat) : Decidable (isHead t n) := by unfold isHead; infer_instance
set_option maxHeartbeats 1000000 in
theorem lheader_any (s : ByteArray) (hs : s.size ≤ maxLen) (n : Nat) (w : World) : Calls Try.prog 61 #[.string s, .int .i64 (n : Int)] w fun e w' => e = .returned (.bool (decide (isHead s.data.toList n))) ∧ w = w' := by
  have hl := len_s s
  have HL := Lib.hid hl
  clear hl
  unfold maxLen at hs
  go_enter Try.func61, Try.ntmps61
  go_wp2
  go_loop [5] (fun i => ∃ k : Nat, k ≤ s.size ∧ i = .int .i64 k ∧ (s.data.toList.take k).all digB = true) (fun i => s.size - (intOf i).toNat)
  case atStart => exact ⟨0, Nat.zero_le _, rfl, rfl⟩
  case round =>
    obtain ⟨k, hk, rfl, hall⟩ := hrel
    by_cases hlt : k < s.size
    · have HA := Lib.hid (all_snoc s k digB hlt hall)
      by_cases hd : digB s[k] = true
      · have HD := Lib.hid hd
        clear hd
        go_wp2_with (go_at_call 69; refine (digit_yes HD.out _).mono ?_; rintro e w' ⟨rfl, rfl⟩)
        go_round
        case rel => exact ⟨k + 1, by omega, by go_num, by rw [HA.out, HD.out]⟩
        case measure => simp [intOf]; omega
      · have HD : Hid (digB s[k] = false) := by unfold Hid; simpa using hd
        clear hd
        have HO : Hid (decide (isHead s.data.toList n) = false) := decide_eq_false fun H => by
          have h2 := not_all s k digB hlt HD.out
          rw [H.2] at h2; cases h2
        go_wp2_with (go_at_call 69; refine (digit_no HD.out _).mono ?_; rintro e w' ⟨rfl, rfl⟩)
        go_ret
        exact ⟨by rw [HO.out]; rfl, rfl⟩
    · obtain rfl : k = s.size := by omega
      have HA : Hid (s.data.toList.all digB = true) := by rw [List.take_of_length_le (by rw [HL.out]; omega)] at hall; exact hall
      clear hall
      have HO : Hid (((s.size : Int) == (n : Int)) = decide (isHead s.data.toList n)) := by
        unfold Hid
        rw [Bool.eq_iff_iff, beq_iff_eq, decide_eq_true_eq]
        unfold isHead
        rw [HL.out]
        exact ⟨fun h => ⟨by omega, HA.out⟩, fun h => by omega⟩
      go_wp2
      go_ret
      exact ⟨by rw [← HO.out]; rfl, rfl⟩
/-- the header agrees with the cube's text wherever that has a digit -/
def holdsT (t h : List UInt8) : Prop := ∀ i, i < t.length → byt t i = 120 ∨ byt t i = byt h i
instance (t h : List UInt8) : Decidable (holdsT t h) := by unfold holdsT; infer_instance
set_option maxHeartbeats 1000000 in
theorem lholds_any (a b : ByteArray) (hs : a.size ≤ 256) (hab : b.size = a.size) (w : World) : Calls Try.prog 62 #[.string a, .string b] w fun e w' => e = .returned (.bool (decide (holdsT a.data.toList b.data.toList))) ∧ ∃ m, w' = w.drewN m := by
  have ha := len_s a
  have HA := Lib.hid ha
  have HS := Lib.hid hab
  clear ha hab
  go_enter Try.func62, Try.ntmps62
  go_wp2
  go_loopw [5] (fun i wr => ∃ k m : Nat, k ≤ a.size ∧ i = .int .i64 k ∧ (∀ j, j < k → byt a.data.toList j = 120 ∨ byt a.data.toList j = byt b.data.toList j) ∧ wr = w.drewN m) (fun i _ => a.size - (intOf i).toNat)
  case atStart => exact ⟨0, 0, Nat.zero_le _, rfl, fun j hj => by omega, rfl⟩
  case round =>
    obtain ⟨k, mm, hk, rfl, hall, rfl⟩ := hrel
    have HL := Lib.hid hall
    clear hall
    by_cases hlt : k < a.size
    · have hlb : k < b.size := by rw [HS.out]; exact hlt
      have hba := byt_str a k hlt
      have hbb := byt_str b k hlb
      by_cases hx : a[k] = 120 ∨ a[k] = b[k]
      · have tt : ((a[k].toNat : Int) != 120) = false ∨ (((a[k].toNat : Int) != 120) = true ∧ ((a[k].toNat : Int) != (b[k].toNat : Int)) = false) := by
          by_cases h1 : a[k] = 120
          · exact .inl (ne_no120 h1)
          · exact .inr ⟨ne_yes120 h1, be_no (hx.resolve_left h1)⟩
        have HV : Hid (byt a.data.toList k = 120 ∨ byt a.data.toList k = byt b.data.toList k) := by unfold Hid; rw [hba, hbb]; exact hx
        clear hba hbb hx
        rcases tt with t1 | ⟨t1, t2⟩
        all_goals
          go_wp2
          go_quiet (fail)
          go_wp2
          go_roundw
          case rel =>
            refine ⟨k + 1, _, by omega, by go_num, fun j hj => ?_, rfl⟩
            rcases Nat.lt_or_ge j k with hjk | hjk
            · exact HL.out j hjk
            · obtain rfl : j = k := by omega
              exact HV.out
          case measure => simp [intOf]; omega
      · have t1 := ne_yes120 (b := a[k]) (fun h => hx (.inl h))
        have t2 := ne_yes (b := a[k]) (c := b[k]) (fun h => hx (.inr h))
        have HO : Hid (decide (holdsT a.data.toList b.data.toList) = false) := decide_eq_false fun H => hx (by
          have := H k (by have := HA.out; omega)
          rw [hba, hbb] at this; exact this)
        clear hba hbb hx
        go_wp2
        go_quiet (fail)
        go_wp2
        go_ret
        exact ⟨by rw [HO.out]; rfl, _, World.drewN_drewN ..⟩
    · obtain rfl : k = a.size := by omega
      have HO : Hid (decide (holdsT a.data.toList b.data.toList) = true) := decide_eq_true fun j hj => HL.out j (by have := HA.out; omega)
      go_wp2
      go_ret
      exact ⟨by rw [HO.out]; rfl, _, rfl⟩
set_option maxHeartbeats 1000000 in
theorem lwritten_any (a b : ByteArray) (hs : a.size ≤ 256) (hab : b.size = a.size) (w : World) : Calls Try.prog 63 #[.string a, .string b] w fun e w' => e = .returned (.string (str (up (writeF a.data.toList b.data.toList) a.size))) ∧ Below w.heap.size w w' := by
  have HS := Lib.hid hab
  clear hab
  go_enter Try.func63, Try.ntmps63
  go_wp2
  go_loopw [5, 6] (fun v i wr => ∃ k : Nat, k ≤ a.size ∧ i = .int .i64 k ∧ wr.ownsRow w.heap.size 5 1 v k ((up (writeF a.data.toList b.data.toList) k).map bv) ∧ Below w.heap.size w wr) (fun _ i _ => a.size - (intOf i).toNat)
  case atStart => exact ⟨0, Nat.zero_le _, rfl, own_nil _ _, Below.refl _ _⟩
  case round =>
    obtain ⟨k, hk, rfl, hown, hbel⟩ := hrel
    by_cases hlt : k < a.size
    · have hlb : k < b.size := by rw [HS.out]; exact hlt
      have hba := byt_str a k hlt
      have hbb := byt_str b k hlb
      by_cases hx : b[k] = 120
      · have t1 := is120 hx
        have HV : Hid (writeF a.data.toList b.data.toList k = a[k]) := by unfold writeF; rw [hbb, if_pos hx, hba]; exact rfl
        clear hba hbb hx
        go_wp2_with (at_builtin; refine app_byte a[k] hown rfl rfl rfl rfl (by omega) hbel.size ?_; intro v' w2 hown2 hb2)
        go_roundw
        case rel => exact ⟨k + 1, by omega, by go_num, by rw [up_succ, HV.out]; exact hown2, hbel.trans hb2⟩
        case measure => simp [intOf]; omega
      · have t1 := not120 hx
        have HV : Hid (writeF a.data.toList b.data.toList k = b[k]) := by unfold writeF; rw [hbb, if_neg hx]; exact rfl
        clear hba hbb hx
        go_wp2_with (at_builtin; refine app_byte b[k] hown rfl rfl rfl rfl (by omega) hbel.size ?_; intro v' w2 hown2 hb2)
        go_roundw
        case rel => exact ⟨k + 1, by omega, by go_num, by rw [up_succ, HV.out]; exact hown2, hbel.trans hb2⟩
        case measure => simp [intOf]; omega
    · obtain rfl : k = a.size := by omega
      have hst := str_own hown
      go_wp2
      go_ret
      exact ⟨rfl, hbel⟩
end Go.Proofs.Ytdiijannpfogdaa.Tn
