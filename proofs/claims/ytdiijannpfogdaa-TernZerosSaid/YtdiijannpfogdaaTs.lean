import Derived.Test.YtdiijannpfogdaaTr
import Derived.Test.YtdiijannpfogdaaTh
namespace Go.Proofs.Ytdiijannpfogdaa.Tn
open Go.RowKit
theorem own_drewN {w : World} {base : Nat} {e : TypeId} {size : Nat} {v : Value} {n : Nat} {xs : List Value} (h : w.ownsRow base e size v n xs) (k : Nat) : (w.drewN k).ownsRow base e size v n xs := h
theorem be_no {b c : UInt8} (h : b = c) : ((b.toNat : Int) != (c.toNat : Int)) = false := by subst h; simp
set_option maxHeartbeats 1000000 in
theorem rall_any (b : Int) (w : World) (hb : (Lit.int .i64 b).wf = true) :
    Calls Try.prog 30 #[.int .i64 b] w fun e w' => e = .returned (.string (str (allT b))) ∧ Below w.heap.size w w' := by
  by_cases h : 1 ≤ b ∧ b ≤ 256
  · obtain ⟨h1, h2⟩ := h
    obtain ⟨n, rfl⟩ := Int.eq_ofNat_of_zero_le (show 0 ≤ b by omega)
    have e1 : allT (n : Int) = List.replicate n 120 := by unfold allT; rw [if_pos ⟨h1, h2⟩]; simp
    rw [e1]
    clear e1 hb
    go_enter Try.func30, Try.ntmps30
    go_wp2
    go_loopw [3, 4] (fun v i wr => ∃ k : Nat, k ≤ n ∧ i = .int .i64 k ∧ wr.ownsRow w.heap.size 5 1 v k ((List.replicate k 120).map bv) ∧ Below w.heap.size w wr) (fun _ i _ => n - (intOf i).toNat)
    case atStart => exact ⟨0, Nat.zero_le _, rfl, own_nil _ _, Below.refl _ _⟩
    case round =>
      obtain ⟨k, hk, rfl, hown, hbel⟩ := hrel
      by_cases hlt : k < n
      · go_wp2_with (at_builtin; refine app_byte 120 hown rfl rfl rfl rfl (by omega) hbel.size ?_; intro v' w2 hown2 hb2)
        go_roundw
        case rel => exact ⟨k + 1, by omega, by go_num, by rw [List.replicate_succ']; exact hown2, hbel.trans hb2⟩
        case measure => simp [intOf]; omega
      · obtain rfl : k = n := by omega
        have hst := str_own hown
        go_wp2
        go_ret
        exact ⟨rfl, hbel⟩
  · have e1 : allT b = [] := by unfold allT; rw [if_neg h]
    rw [e1]
    by_cases h1 : 1 ≤ b
    · have h2 : 256 < b := by omega
      clear h e1
      go_enter Try.func30, Try.ntmps30
      go_wp2
      go_ret
      exact ⟨rfl, Below.refl _ _⟩
    · have h2 : b < 1 := by omega
      clear h e1 h1
      go_enter Try.func30, Try.ntmps30
      go_wp2
      go_ret
      exact ⟨rfl, Below.refl _ _⟩
set_option maxHeartbeats 1000000 in
theorem rmeet_any (a b : ByteArray) (w : World) (hl : a.size ≤ 256) :
    Calls Try.prog 37 #[.string a, .string b] w fun e w' => e = .returned (.tuple #[.string (str (meetT a.data.toList b.data.toList)), .bool (decide (meetOk a.data.toList b.data.toList))]) ∧ Below w.heap.size w w' := by
  have hf := rfit_any a b
  by_cases hF : fitT a.data.toList b.data.toList
  · have ha := len_s a
    have hb := len_s b
    have hsz : b.size = a.size := by have := hF.2; omega
    have HFit := Lib.hid hF
    rw [decide_eq_true hF] at hf
    have HF := Lib.hid hf
    have HS := Lib.hid hsz
    have HA := Lib.hid ha
    clear hf hF ha hb hsz
    go_enter Try.func37, Try.ntmps37
    go_wp2_with fail
    refine (HF.out _).mono ?_
    rintro e w1 ⟨rfl, rfl⟩
    go_wp2_with fail
    go_loopw [7, 8] (fun v i wr => ∃ k : Nat, k ≤ a.size ∧ i = .int .i64 k ∧ (∀ j, j < k → ¬ clash (byt a.data.toList j) (byt b.data.toList j)) ∧ wr.ownsRow w.heap.size 5 1 v k ((up (meetF a.data.toList b.data.toList) k).map bv) ∧ Below w.heap.size w wr) (fun _ i _ => a.size - (intOf i).toNat)
    case atStart => exact ⟨0, Nat.zero_le _, rfl, fun j hj => by omega, own_nil _ _, Below.refl _ _⟩
    case round =>
      obtain ⟨k, hk, rfl, hall, hown, hbel⟩ := hrel
      have HL := Lib.hid hall
      clear hall
      by_cases hlt : k < a.size
      · have hlb : k < b.size := by rw [HS.out]; exact hlt
        have hba := byt_str a k hlt
        have hbb := byt_str b k hlb
        by_cases hx : a[k] = 120
        · have t1 := ne_no120 hx
          have t2 := is120 hx
          have HV : Hid (meetF a.data.toList b.data.toList k = b[k] ∧ ¬ clash (byt a.data.toList k) (byt b.data.toList k)) := by
            refine ⟨by unfold meetF; rw [hba, if_pos hx, hbb], fun H => H.1 (by rw [hba]; exact hx)⟩
          clear hba hbb hx
          go_wp2
          go_quiet (fail)
          have hown' := own_drewN hown nq
          have hbel' := below_drewN hbel nq
          clear hown hbel
          go_wp2_with (at_builtin; refine app_byte b[k] hown' rfl rfl rfl rfl (by omega) hbel'.size ?_; intro v' w2 hown2 hb2)
          go_roundw
          case rel =>
            refine ⟨k + 1, by omega, by go_num, fun j hj => ?_, by rw [up_succ, HV.out.1]; exact hown2, hbel'.trans hb2⟩
            rcases Nat.lt_or_ge j k with hjk | hjk
            · exact HL.out j hjk
            · obtain rfl : j = k := by omega
              exact HV.out.2
          case measure => simp [intOf]; omega
        · by_cases hy : b[k] = 120
          · have t1 := ne_yes120 hx
            have t2 := ne_no120 hy
            have t3 := not120 hx
            have HV : Hid (meetF a.data.toList b.data.toList k = a[k] ∧ ¬ clash (byt a.data.toList k) (byt b.data.toList k)) := by
              refine ⟨by unfold meetF; rw [hba, if_neg hx], fun H => H.2.1 (by rw [hbb]; exact hy)⟩
            clear hba hbb hx hy
            go_wp2
            go_quiet (fail)
            have hown' := own_drewN hown nq
            have hbel' := below_drewN hbel nq
            clear hown hbel
            go_wp2_with (at_builtin; refine app_byte a[k] hown' rfl rfl rfl rfl (by omega) hbel'.size ?_; intro v' w2 hown2 hb2)
            go_roundw
            case rel =>
              refine ⟨k + 1, by omega, by go_num, fun j hj => ?_, by rw [up_succ, HV.out.1]; exact hown2, hbel'.trans hb2⟩
              rcases Nat.lt_or_ge j k with hjk | hjk
              · exact HL.out j hjk
              · obtain rfl : j = k := by omega
                exact HV.out.2
            case measure => simp [intOf]; omega
          · by_cases he : a[k] = b[k]
            · have t1 := ne_yes120 hx
              have t2 := ne_yes120 hy
              have t3 := not120 hx
              have t4 := be_no he
              have HV : Hid (meetF a.data.toList b.data.toList k = a[k] ∧ ¬ clash (byt a.data.toList k) (byt b.data.toList k)) := by
                refine ⟨by unfold meetF; rw [hba, if_neg hx], fun H => H.2.2 (by rw [hba, hbb]; exact he)⟩
              clear hba hbb hx hy he
              go_wp2
              go_quiet (fail)
              have hown' := own_drewN hown nq
              have hbel' := below_drewN hbel nq
              clear hown hbel
              go_wp2_with (at_builtin; refine app_byte a[k] hown' rfl rfl rfl rfl (by omega) hbel'.size ?_; intro v' w2 hown2 hb2)
              go_roundw
              case rel =>
                refine ⟨k + 1, by omega, by go_num, fun j hj => ?_, by rw [up_succ, HV.out.1]; exact hown2, hbel'.trans hb2⟩
                rcases Nat.lt_or_ge j k with hjk | hjk
                · exact HL.out j hjk
                · obtain rfl : j = k := by omega
                  exact HV.out.2
              case measure => simp [intOf]; omega
            · have t1 := ne_yes120 hx
              have t2 := ne_yes120 hy
              have t4 := ne_yes he
              have hok : ¬ meetOk a.data.toList b.data.toList := fun H => H.2 k (by have := HA.out; omega) ⟨by rw [hba]; exact hx, by rw [hbb]; exact hy, by rw [hba, hbb]; exact he⟩
              have HO : Hid (meetT a.data.toList b.data.toList = [] ∧ decide (meetOk a.data.toList b.data.toList) = false) := ⟨by unfold meetT; rw [if_neg hok], decide_eq_false hok⟩
              clear hba hbb hx hy he hok
              go_wp2
              go_quiet (fail)
              go_wp2
              go_ret2
              refine ⟨?_, below_drewN hbel _⟩
              rw [HO.out.1, HO.out.2]
              rfl
      · obtain rfl : k = a.size := by omega
        have hst := str_own hown
        have hok : meetOk a.data.toList b.data.toList := ⟨HFit.out, fun j hj => HL.out j (by have := HA.out; omega)⟩
        have HO : Hid (meetT a.data.toList b.data.toList = up (meetF a.data.toList b.data.toList) a.size ∧ decide (meetOk a.data.toList b.data.toList) = true) := ⟨by unfold meetT; rw [if_pos hok, HA.out], decide_eq_true hok⟩
        clear hok
        go_wp2
        go_ret2
        refine ⟨?_, hbel⟩
        rw [HO.out.1, HO.out.2]
        rfl
  · have hok : ¬ meetOk a.data.toList b.data.toList := fun H => hF H.1
    have HO : Hid (meetT a.data.toList b.data.toList = [] ∧ decide (meetOk a.data.toList b.data.toList) = false) := ⟨by unfold meetT; rw [if_neg hok], decide_eq_false hok⟩
    rw [decide_eq_false hF] at hf
    have HF := Lib.hid hf
    clear hf hF hok
    go_enter Try.func37, Try.ntmps37
    go_wp2_with fail
    refine (HF.out _).mono ?_
    rintro e w1 ⟨rfl, rfl⟩
    go_wp2_with fail
    go_ret2
    refine ⟨?_, Below.refl _ _⟩
    rw [HO.out.1, HO.out.2]
    rfl
end Go.Proofs.Ytdiijannpfogdaa.Tn
