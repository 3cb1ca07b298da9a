/- The document's text of a character. -/
import Derived.Test.YtcikhbbljhkheaaDoorQu
namespace Go.Proofs.YtcikhbbljhkheaaDoor.Sn
open Go.RowKit Mm
set_option linter.unusedVariables false
theorem enc_one {r : Nat} (h : r < 128) : Lib.encodeRune (r : Int) = [UInt8.ofNat r] := by
  unfold Lib.encodeRune
  rw [Lib.encodeRuneZ_one (by omega) (by omega)]
  simp [Nat.toUInt8]
theorem enc_big {r : Nat} (h : 128 ≤ r) : 2 ≤ (Lib.encodeRune (r : Int)).length := by
  unfold Lib.encodeRune
  rw [List.length_map]
  unfold Lib.encodeRuneZ
  rw [if_neg (by omega)]
  repeat' split
  all_goals simp
theorem enc_ne {r c : Nat} (hc : c < 128) (h : r ≠ c) : ((str (Lib.encodeRune (r : Int))).toList == [UInt8.ofNat c]) = false := by
  rw [beq_eq_false_iff_ne]
  intro e
  rw [ByteArray.toList_eq] at e
  have e' : Lib.encodeRune (r : Int) = [UInt8.ofNat c] := e
  by_cases hr : r < 128
  · rw [enc_one hr] at e'
    have e2 := congrArg UInt8.toNat (List.cons.inj e').1
    rw [UInt8.toNat_ofNat', UInt8.toNat_ofNat', Nat.mod_eq_of_lt (by omega), Nat.mod_eq_of_lt (by omega)] at e2
    exact h e2
  · have := enc_big (r := r) (by omega)
    rw [e'] at this
    simp at this
set_option maxRecDepth 100000 in
set_option maxHeartbeats 4000000 in
theorem said_esc (r : Nat) (hr : r = 34 ∨ r = 92 ∨ r = 10 ∨ r = 13 ∨ r = 9) (w : World) : Calls Tryd.prog 14 #[.string (str (Lib.encodeRune (r : Int)))] w fun e w' => e = .returned (.string (str (runeP r))) ∧ ∃ m, w' = w.drewN m := by
  rw [enc_one (by omega)]
  rcases hr with h | h | h | h | h <;> subst h
  · have e1 : ((str [UInt8.ofNat 34]).toList == [34]) = true := by rw [ByteArray.toList_eq]; decide
    have HP := Lib.hid (show str (runeP 34) = ⟨#[92, 34]⟩ from by decide)
    generalize str [UInt8.ofNat 34] = z at *
    go_enter Tryd.func14, Tryd.ntmps14
    go_wp2
    go_ret
    rw [HP.out]
    exact ⟨rfl, 0, rfl⟩
  · have e0 : ((str [UInt8.ofNat 92]).toList == [34]) = false := by rw [ByteArray.toList_eq]; decide
    have e1 : ((str [UInt8.ofNat 92]).toList == [92]) = true := by rw [ByteArray.toList_eq]; decide
    have HP := Lib.hid (show str (runeP 92) = ⟨#[92, 92]⟩ from by decide)
    generalize str [UInt8.ofNat 92] = z at *
    go_enter Tryd.func14, Tryd.ntmps14
    go_wp2
    go_ret
    rw [HP.out]
    exact ⟨rfl, 0, rfl⟩
  · have e0 : ((str [UInt8.ofNat 10]).toList == [34]) = false := by rw [ByteArray.toList_eq]; decide
    have e1 : ((str [UInt8.ofNat 10]).toList == [92]) = false := by rw [ByteArray.toList_eq]; decide
    have e2 : ((str [UInt8.ofNat 10]).toList == [10]) = true := by rw [ByteArray.toList_eq]; decide
    have HP := Lib.hid (show str (runeP 10) = ⟨#[92, 110]⟩ from by decide)
    generalize str [UInt8.ofNat 10] = z at *
    go_enter Tryd.func14, Tryd.ntmps14
    go_wp2
    go_ret
    rw [HP.out]
    exact ⟨rfl, 0, rfl⟩
  · have e0 : ((str [UInt8.ofNat 13]).toList == [34]) = false := by rw [ByteArray.toList_eq]; decide
    have e1 : ((str [UInt8.ofNat 13]).toList == [92]) = false := by rw [ByteArray.toList_eq]; decide
    have e2 : ((str [UInt8.ofNat 13]).toList == [10]) = false := by rw [ByteArray.toList_eq]; decide
    have e3 : ((str [UInt8.ofNat 13]).toList == [13]) = true := by rw [ByteArray.toList_eq]; decide
    have HP := Lib.hid (show str (runeP 13) = ⟨#[92, 114]⟩ from by decide)
    generalize str [UInt8.ofNat 13] = z at *
    go_enter Tryd.func14, Tryd.ntmps14
    go_wp2
    go_ret
    rw [HP.out]
    exact ⟨rfl, 0, rfl⟩
  · have e0 : ((str [UInt8.ofNat 9]).toList == [34]) = false := by rw [ByteArray.toList_eq]; decide
    have e1 : ((str [UInt8.ofNat 9]).toList == [92]) = false := by rw [ByteArray.toList_eq]; decide
    have e2 : ((str [UInt8.ofNat 9]).toList == [10]) = false := by rw [ByteArray.toList_eq]; decide
    have e3 : ((str [UInt8.ofNat 9]).toList == [13]) = false := by rw [ByteArray.toList_eq]; decide
    have e4 : ((str [UInt8.ofNat 9]).toList == [9]) = true := by rw [ByteArray.toList_eq]; decide
    have HP := Lib.hid (show str (runeP 9) = ⟨#[92, 116]⟩ from by decide)
    generalize str [UInt8.ofNat 9] = z at *
    go_enter Tryd.func14, Tryd.ntmps14
    go_wp2
    go_ret
    rw [HP.out]
    exact ⟨rfl, 0, rfl⟩
set_option maxRecDepth 100000 in
set_option maxHeartbeats 4000000 in
theorem said_any (r : Nat) (hr : okR r) (w : World) : Calls Tryd.prog 14 #[.string (str (Lib.encodeRune (r : Int)))] w fun e w' => e = .returned (.string (str (runeP r))) ∧ ∃ m, w' = w.drewN m := by
  by_cases hx : r = 34 ∨ r = 92 ∨ r = 10 ∨ r = 13 ∨ r = 9
  · exact said_esc r hx w
  have e0 : ((str (Lib.encodeRune (r : Int))).toList == [34]) = false := enc_ne (c := 34) (by decide) (by omega)
  have e1 : ((str (Lib.encodeRune (r : Int))).toList == [92]) = false := enc_ne (c := 92) (by decide) (by omega)
  have e2 : ((str (Lib.encodeRune (r : Int))).toList == [10]) = false := enc_ne (c := 10) (by decide) (by omega)
  have e3 : ((str (Lib.encodeRune (r : Int))).toList == [13]) = false := enc_ne (c := 13) (by decide) (by omega)
  have e4 : ((str (Lib.encodeRune (r : Int))).toList == [9]) = false := enc_ne (c := 9) (by decide) (by omega)
  have HC := Lib.hid (code_any r hr)
  have HU := Lib.hid (runseen_any r)
  have hP : runeP r = if r < 32 ∨ r = 127 then looseP r else if unsB r = true then [92, 117, 123] ++ basedL r ++ [125] else Lib.encodeRune r := by
    unfold runeP
    rw [if_neg (by omega), if_neg (by omega), if_neg (by omega), if_neg (by omega), if_neg (by omega)]
  have hlt : r ≤ 1114111 := by unfold okR at hr; omega
  by_cases hl : r < 32 ∨ r = 127
  · rw [if_pos hl] at hP
    have HP := Lib.hid (congrArg str hP)
    have HL := Lib.hid (rloose_any r (by omega))
    have hw : IntKind.u8.wrap (r : Int) = (r : Int) := IntWalk.u8_in _ (by omega)
    generalize str (Lib.encodeRune (r : Int)) = z at *
    generalize str (looseP r) = y at *
    by_cases h32 : r < 32
    · have f0 : (r : Int) < 32 := by omega
      clear hP hl hlt hx
      go_enter Tryd.func14, Tryd.ntmps14
      go_wp2_with fail
      refine (HC.out _).mono ?_
      rintro e w' ⟨rfl, rfl⟩
      go_wp2_with fail
      refine (HL.out _).mono ?_
      rintro e w' ⟨rfl, m, rfl⟩
      go_wp2_with fail
      go_ret
      rw [HP.out]
      exact ⟨rfl, m, rfl⟩
    · obtain rfl : r = 127 := by omega
      clear hP hl hlt hx
      go_enter Tryd.func14, Tryd.ntmps14
      go_wp2_with fail
      refine (HC.out _).mono ?_
      rintro e w' ⟨rfl, rfl⟩
      go_wp2_with fail
      refine (HL.out _).mono ?_
      rintro e w' ⟨rfl, m, rfl⟩
      go_wp2_with fail
      go_ret
      rw [HP.out]
      exact ⟨rfl, m, rfl⟩
  · rw [if_neg hl] at hP
    have f0 : ¬ (r : Int) < 32 := by omega
    have f1 : ((r : Int) == 127) = false := by simp; omega
    cases hu : unsB r with
    | true =>
      rw [if_pos hu] at hP
      rw [hu] at HU
      have HP := Lib.hid (show str (runeP r) = ⟨#[92, 117, 123]⟩ ++ str (basedL r) ++ ⟨#[125]⟩ from by
        rw [hP, show (⟨#[92, 117, 123]⟩ : ByteArray) = str [92, 117, 123] from rfl, show (⟨#[125]⟩ : ByteArray) = str [125] from rfl, str_app, str_app])
      have HB := Lib.hid (based_any r (by omega))
      have hz : (str (basedL r)).size ≤ 6 := by
        rw [str_size]
        exact based_len 5 r (by have : (16 : Nat) ^ 6 = 16777216 := by decide
                                omega)
      generalize str (Lib.encodeRune (r : Int)) = z at *
      generalize str (basedL r) = y at *
      have s1 : ¬ 9223372036854775807 < 3 + y.size := by omega
      have s2 : ¬ 9223372036854775807 < 3 + y.size + 1 := by omega
      clear hP hl hlt hx hz hu
      go_enter Tryd.func14, Tryd.ntmps14
      go_wp2_with fail
      refine (HC.out _).mono ?_
      rintro e w' ⟨rfl, rfl⟩
      go_wp2_with fail
      refine (HU.out _).mono ?_
      rintro e w' ⟨rfl, rfl⟩
      go_wp2_with fail
      refine (HB.out _).mono ?_
      rintro e w' ⟨rfl, m, rfl⟩
      go_wp2_with fail
      go_ret
      rw [HP.out]
      exact ⟨rfl, m, rfl⟩
    | false =>
      rw [if_neg (by rw [hu]; simp)] at hP
      rw [hu] at HU
      have HP := Lib.hid (congrArg str hP)
      generalize str (Lib.encodeRune (r : Int)) = z at *
      clear hP hl hlt hx hu
      go_enter Tryd.func14, Tryd.ntmps14
      go_wp2_with fail
      refine (HC.out _).mono ?_
      rintro e w' ⟨rfl, rfl⟩
      go_wp2_with fail
      refine (HU.out _).mono ?_
      rintro e w' ⟨rfl, rfl⟩
      go_wp2_with fail
      go_ret
      rw [HP.out]
      exact ⟨rfl, 0, rfl⟩
end Go.Proofs.YtcikhbbljhkheaaDoor.Sn
