import Derived.Test.YtdiijannpfogdaaTs
namespace Go.Proofs.Ytdiijannpfogdaa.Tn
open Go.RowKit
theorem be_yes {b c : UInt8} (h : b = c) : ((b.toNat : Int) == (c.toNat : Int)) = true := by subst h; simp
theorem be_not {b c : UInt8} (h : ¬ b = c) : ((b.toNat : Int) == (c.toNat : Int)) = false := not_byte h
set_option maxHeartbeats 1000000 in
theorem rbefore_any (a b : ByteArray) (w : World) (hl : a.size ≤ 256) :
    Calls Try.prog 46 #[.string a, .string b] w fun e w' => e = .returned (.tuple #[.string (str (beforeT a.data.toList b.data.toList)), .bool (decide (meetOk a.data.toList b.data.toList))]) ∧ Below w.heap.size w w' := by
  have hf := rfit_any a b
  by_cases hF : fitT a.data.toList b.data.toList
  · have ha := len_s a
    have hb := len_s b
    have hsz : b.size = a.size := by have := hF.2; omega
    have HFit := Lib.hid hF
    rw [decide_eq_true hF] at hf
    have HF := Lib.hid hf
    have HS := Lib.hid hsz
    have HA := Lib.hid ha
    clear hf hF ha hb hsz
    go_enter Try.func46, Try.ntmps46
    go_wp2_with fail
    refine (HF.out _).mono ?_
    rintro e w1 ⟨rfl, rfl⟩
    go_wp2_with fail
    go_loopw [7, 8] (fun v i wr => ∃ k : Nat, k ≤ a.size ∧ i = .int .i64 k ∧ (∀ j, j < k → ¬ clash (byt a.data.toList j) (byt b.data.toList j)) ∧ wr.ownsRow w.heap.size 5 1 v k ((up (beforeF a.data.toList b.data.toList) k).map bv) ∧ Below w.heap.size w wr) (fun _ i _ => a.size - (intOf i).toNat)
    case atStart => exact ⟨0, Nat.zero_le _, rfl, fun j hj => by omega, own_nil _ _, Below.refl _ _⟩
    case round =>
      obtain ⟨k, hk, rfl, hall, hown, hbel⟩ := hrel
      have HL := Lib.hid hall
      clear hall
      by_cases hlt : k < a.size
      · have hlb : k < b.size := by rw [HS.out]; exact hlt
        have hba := byt_str a k hlt
        have hbb := byt_str b k hlb
        by_cases hy : b[k] = 120
        · have t1 := is120 hy
          have HV : Hid (beforeF a.data.toList b.data.toList k = a[k] ∧ ¬ clash (byt a.data.toList k) (byt b.data.toList k)) := by
            refine ⟨by unfold beforeF; rw [hbb, if_pos hy, hba], fun H => H.2.1 (by rw [hbb]; exact hy)⟩
          clear hba hbb hy
          go_wp2_with (at_builtin; refine app_byte a[k] hown rfl rfl rfl rfl (by omega) hbel.size ?_; intro v' w2 hown2 hb2)
          go_roundw
          case rel =>
            refine ⟨k + 1, by omega, by go_num, fun j hj => ?_, by rw [up_succ, HV.out.1]; exact hown2, hbel.trans hb2⟩
            rcases Nat.lt_or_ge j k with hjk | hjk
            · exact HL.out j hjk
            · obtain rfl : j = k := by omega
              exact HV.out.2
          case measure => simp [intOf]; omega
        · have t1 := not120 hy
          by_cases hx : a[k] = 120 ∨ a[k] = b[k]
          · have tt : ((a[k].toNat : Int) == 120) = true ∨ (((a[k].toNat : Int) == 120) = false ∧ ((a[k].toNat : Int) == (b[k].toNat : Int)) = true) := by
              by_cases h1 : a[k] = 120
              · exact .inl (is120 h1)
              · exact .inr ⟨not120 h1, be_yes (hx.resolve_left h1)⟩
            have HV : Hid (beforeF a.data.toList b.data.toList k = 120 ∧ ¬ clash (byt a.data.toList k) (byt b.data.toList k)) := by
              refine ⟨by unfold beforeF; rw [hbb, if_neg hy], fun H => ?_⟩
              rw [hba, hbb] at H
              rcases hx with h1 | h1
              · exact H.1 h1
              · exact H.2.2 h1
            clear hba hbb hy hx
            rcases tt with t2 | ⟨t2, t3⟩
            all_goals
              go_wp2
              go_quiet (fail)
              have hown' := own_drewN hown nq
              have hbel' := below_drewN hbel nq
              clear hown hbel
              go_wp2_with (at_builtin; refine app_byte 120 hown' rfl rfl rfl rfl (by omega) hbel'.size ?_; intro v' w2 hown2 hb2)
              go_roundw
              case rel =>
                refine ⟨k + 1, by omega, by go_num, fun j hj => ?_, by rw [up_succ, HV.out.1]; exact hown2, hbel'.trans hb2⟩
                rcases Nat.lt_or_ge j k with hjk | hjk
                · exact HL.out j hjk
                · obtain rfl : j = k := by omega
                  exact HV.out.2
              case measure => simp [intOf]; omega
          · have t2 := not120 (b := a[k]) (fun h => hx (.inl h))
            have t3 := be_not (b := a[k]) (c := b[k]) (fun h => hx (.inr h))
            have hok : ¬ meetOk a.data.toList b.data.toList := fun H => H.2 k (by have := HA.out; omega) ⟨by rw [hba]; exact fun h => hx (.inl h), by rw [hbb]; exact hy, by rw [hba, hbb]; exact fun h => hx (.inr h)⟩
            have HO : Hid (beforeT a.data.toList b.data.toList = [] ∧ decide (meetOk a.data.toList b.data.toList) = false) := ⟨by unfold beforeT; rw [if_neg hok], decide_eq_false hok⟩
            clear hba hbb hx hy hok
            go_wp2
            go_quiet (fail)
            go_wp2
            go_ret2
            refine ⟨?_, below_drewN hbel _⟩
            rw [HO.out.1, HO.out.2]
            rfl
      · obtain rfl : k = a.size := by omega
        have hst := str_own hown
        have hok : meetOk a.data.toList b.data.toList := ⟨HFit.out, fun j hj => HL.out j (by have := HA.out; omega)⟩
        have HO : Hid (beforeT a.data.toList b.data.toList = up (beforeF a.data.toList b.data.toList) a.size ∧ decide (meetOk a.data.toList b.data.toList) = true) := ⟨by unfold beforeT; rw [if_pos hok, HA.out], decide_eq_true hok⟩
        clear hok
        go_wp2
        go_ret2
        refine ⟨?_, hbel⟩
        rw [HO.out.1, HO.out.2]
        rfl
  · have hok : ¬ meetOk a.data.toList b.data.toList := fun H => hF H.1
    have HO : Hid (beforeT a.data.toList b.data.toList = [] ∧ decide (meetOk a.data.toList b.data.toList) = false) := ⟨by unfold beforeT; rw [if_neg hok], decide_eq_false hok⟩
    rw [decide_eq_false hF] at hf
    have HF := Lib.hid hf
    clear hf hF hok
    go_enter Try.func46, Try.ntmps46
    go_wp2_with fail
    refine (HF.out _).mono ?_
    rintro e w1 ⟨rfl, rfl⟩
    go_wp2_with fail
    go_ret2
    refine ⟨?_, Below.refl _ _⟩
    rw [HO.out.1, HO.out.2]
    rfl
set_option maxHeartbeats 1000000 in
theorem rwithin_any (a b : ByteArray) (w : World) (hl : a.size ≤ 256) :
    Calls Try.prog 42 #[.string a, .string b] w fun e w' => e = .returned (.bool (decide (withinOk a.data.toList b.data.toList))) ∧ Below w.heap.size w w' := by
  have hf := rfit_any a b
  by_cases hF : fitT a.data.toList b.data.toList
  · have ha := len_s a
    have hb := len_s b
    have hsz : b.size = a.size := by have := hF.2; omega
    have HFit := Lib.hid hF
    rw [decide_eq_true hF] at hf
    have HF := Lib.hid hf
    have HS := Lib.hid hsz
    have HA := Lib.hid ha
    clear hf hF ha hb hsz
    go_enter Try.func42, Try.ntmps42
    go_wp2_with fail
    refine (HF.out _).mono ?_
    rintro e w1 ⟨rfl, rfl⟩
    go_wp2_with fail
    go_loopw [6] (fun i wr => ∃ k : Nat, k ≤ a.size ∧ i = .int .i64 k ∧ (∀ j, j < k → byt b.data.toList j = 120 ∨ byt a.data.toList j = byt b.data.toList j) ∧ Below w.heap.size w wr) (fun i _ => a.size - (intOf i).toNat)
    case atStart => exact ⟨0, Nat.zero_le _, rfl, fun j hj => by omega, Below.refl _ _⟩
    case round =>
      obtain ⟨k, hk, rfl, hall, hbel⟩ := hrel
      have HL := Lib.hid hall
      clear hall
      by_cases hlt : k < a.size
      · have hlb : k < b.size := by rw [HS.out]; exact hlt
        have hba := byt_str a k hlt
        have hbb := byt_str b k hlb
        by_cases hx : b[k] = 120 ∨ a[k] = b[k]
        · have tt : ((b[k].toNat : Int) != 120) = false ∨ (((b[k].toNat : Int) != 120) = true ∧ ((a[k].toNat : Int) != (b[k].toNat : Int)) = false) := by
            by_cases h1 : b[k] = 120
            · exact .inl (ne_no120 h1)
            · exact .inr ⟨ne_yes120 h1, be_no (hx.resolve_left h1)⟩
          have HV : Hid (byt b.data.toList k = 120 ∨ byt a.data.toList k = byt b.data.toList k) := by unfold Hid; rw [hba, hbb]; exact hx
          clear hba hbb hx
          rcases tt with t1 | ⟨t1, t2⟩
          all_goals
            go_wp2
            go_quiet (fail)
            go_wp2
            go_roundw
            case rel =>
              refine ⟨k + 1, by omega, by go_num, fun j hj => ?_, below_drewN hbel _⟩
              rcases Nat.lt_or_ge j k with hjk | hjk
              · exact HL.out j hjk
              · obtain rfl : j = k := by omega
                exact HV.out
            case measure => simp [intOf]; omega
        · have t1 := ne_yes120 (b := b[k]) (fun h => hx (.inl h))
          have t2 := ne_yes (b := a[k]) (c := b[k]) (fun h => hx (.inr h))
          have HO : Hid (decide (withinOk a.data.toList b.data.toList) = false) := decide_eq_false fun H => hx (by
            have := H.2 k (by have := HA.out; omega)
            rw [hba, hbb] at this; exact this)
          clear hba hbb hx
          go_wp2
          go_quiet (fail)
          go_wp2
          go_ret
          refine ⟨?_, below_drewN hbel _⟩
          rw [HO.out]
          rfl
      · obtain rfl : k = a.size := by omega
        have HO : Hid (decide (withinOk a.data.toList b.data.toList) = true) := decide_eq_true ⟨HFit.out, fun j hj => HL.out j (by have := HA.out; omega)⟩
        go_wp2
        go_ret
        refine ⟨?_, hbel⟩
        rw [HO.out]
        rfl
  · have HO : Hid (decide (withinOk a.data.toList b.data.toList) = false) := decide_eq_false fun H => hF H.1
    rw [decide_eq_false hF] at hf
    have HF := Lib.hid hf
    clear hf hF
    go_enter Try.func42, Try.ntmps42
    go_wp2_with fail
    refine (HF.out _).mono ?_
    rintro e w1 ⟨rfl, rfl⟩
    go_wp2_with fail
    go_ret
    refine ⟨?_, Below.refl _ _⟩
    rw [HO.out]
    rfl
set_option maxHeartbeats 1000000 in
theorem rhas_loop (a b : ByteArray) (w : World) (hl : a.size ≤ 256) (h0 : 0 < a.size) (hsz : b.size = a.size) :
    Calls Try.prog 35 #[.string a, .string b] w fun e w' => e = .returned (.bool (decide (hasOk a.data.toList b.data.toList))) ∧ Below w.heap.size w w' := by
  have ha := len_s a
  have hb := len_s b
  have he := isEmpty_no a h0
  have hne : ((a.size : Int) != (b.size : Int)) = false := by simp [hsz]
  have HS := Lib.hid hsz
  have HA := Lib.hid ha
  have HB := Lib.hid hb
  clear ha hb hsz
  go_enter Try.func35, Try.ntmps35
  go_wp2
  go_loopw [5] (fun i wr => ∃ k : Nat, k ≤ a.size ∧ i = .int .i64 k ∧ (∀ j, j < k → good a.data.toList b.data.toList j) ∧ Below w.heap.size w wr) (fun i _ => a.size - (intOf i).toNat)
  case atStart => exact ⟨0, Nat.zero_le _, rfl, fun j hj => by omega, Below.refl _ _⟩
  case round =>
    obtain ⟨k, hk, rfl, hall, hbel⟩ := hrel
    have HL := Lib.hid hall
    clear hall
    by_cases hlt : k < a.size
    · have hlb : k < b.size := by rw [HS.out]; exact hlt
      have hba := byt_str a k hlt
      have hbb := byt_str b k hlb
      by_cases hd : b[k] = 48 ∨ b[k] = 49
      · have td : ((b[k].toNat : Int) != 48) = false ∨ (((b[k].toNat : Int) != 48) = true ∧ ((b[k].toNat : Int) != 49) = false) := by
          by_cases h1 : b[k] = 48
          · exact .inl (ne_no48 h1)
          · exact .inr ⟨ne_yes48 h1, ne_no49 (hd.resolve_left h1)⟩
        by_cases hx : a[k] = 120 ∨ a[k] = b[k]
        · have tt : ((a[k].toNat : Int) != 120) = false ∨ (((a[k].toNat : Int) != 120) = true ∧ ((a[k].toNat : Int) != (b[k].toNat : Int)) = false) := by
            by_cases h1 : a[k] = 120
            · exact .inl (ne_no120 h1)
            · exact .inr ⟨ne_yes120 h1, be_no (hx.resolve_left h1)⟩
          have HV : Hid (good a.data.toList b.data.toList k) := by unfold Hid good; rw [hba, hbb]; exact ⟨hd, hx⟩
          clear hba hbb hx hd
          rcases td with t1 | ⟨t1, t2⟩ <;> rcases tt with t3 | ⟨t3, t4⟩
          all_goals
            go_wp2
            go_quiet (fail)
            go_wp2
            go_roundw
            case rel =>
              refine ⟨k + 1, by omega, by go_num, fun j hj => ?_, below_drewN hbel _⟩
              rcases Nat.lt_or_ge j k with hjk | hjk
              · exact HL.out j hjk
              · obtain rfl : j = k := by omega
                exact HV.out
            case measure => simp [intOf]; omega
        · have t3 := ne_yes120 (b := a[k]) (fun h => hx (.inl h))
          have t4 := ne_yes (b := a[k]) (c := b[k]) (fun h => hx (.inr h))
          have HO : Hid (decide (hasOk a.data.toList b.data.toList) = false) := decide_eq_false fun H => hx (by
            have := (H.2 k (by have := HA.out; omega)).2
            rw [hba, hbb] at this; exact this)
          clear hba hbb hx hd
          rcases td with t1 | ⟨t1, t2⟩
          all_goals
            go_wp2
            go_quiet (fail)
            go_wp2
            go_ret
            refine ⟨?_, below_drewN hbel _⟩
            rw [HO.out]
            rfl
      · have t1 := ne_yes48 (b := b[k]) (fun h => hd (.inl h))
        have t2 := ne_yes49 (b := b[k]) (fun h => hd (.inr h))
        have HO : Hid (decide (hasOk a.data.toList b.data.toList) = false) := decide_eq_false fun H => hd (by
          have := (H.2 k (by have := HA.out; omega)).1
          rw [hbb] at this; exact this)
        clear hba hbb hd
        go_wp2
        go_ret
        refine ⟨?_, hbel⟩
        rw [HO.out]
        rfl
    · obtain rfl : k = a.size := by omega
      have HO : Hid (decide (hasOk a.data.toList b.data.toList) = true) := decide_eq_true ⟨⟨fun e => by have := HA.out; rw [e, List.length_nil] at this; omega, by rw [HA.out, HB.out, HS.out]⟩, fun j hj => HL.out j (by have := HA.out; omega)⟩
      go_wp2
      go_ret
      refine ⟨?_, hbel⟩
      rw [HO.out]
      rfl
theorem rhas_any (a b : ByteArray) (w : World) (hl : a.size ≤ 256) :
    Calls Try.prog 35 #[.string a, .string b] w fun e w' => e = .returned (.bool (decide (hasOk a.data.toList b.data.toList))) ∧ Below w.heap.size w w' := by
  by_cases h : 0 < a.size ∧ b.size = a.size
  · exact rhas_loop a b w hl h.1 h.2
  · have ha := len_s a
    have hb := len_s b
    have hd : decide (hasOk a.data.toList b.data.toList) = false := decide_eq_false fun H => h (by
      refine ⟨?_, by have := H.1.2; omega⟩
      rcases Nat.eq_zero_or_pos a.size with h0 | h0
      · exact absurd (List.eq_nil_of_length_eq_zero (by omega)) H.1.1
      · exact h0)
    rw [hd]
    clear hd ha hb
    by_cases h0 : a.size = 0
    · have he := isEmpty_yes a h0
      clear h h0
      go_enter Try.func35, Try.ntmps35
      go_wp2
      go_ret
      exact ⟨rfl, Below.refl _ _⟩
    · have he := isEmpty_no a (by omega)
      have hne : ((a.size : Int) != (b.size : Int)) = true := by simp; omega
      clear h h0
      go_enter Try.func35, Try.ntmps35
      go_wp2
      go_ret
      exact ⟨rfl, Below.refl _ _⟩
end Go.Proofs.Ytdiijannpfogdaa.Tn
