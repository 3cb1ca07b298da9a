/- The document's number of a character, what is written by its number, a number in hexadecimal; the text of a character. -/
import Derived.Test.YtcikhbbljhkheaaDoorQt
namespace Go.Proofs.YtcikhbbljhkheaaDoor.Sn
open Go.RowKit Mm
set_option linter.unusedVariables false
theorem enc_get {r : Int} {L : List Int} (h : Lib.encodeRuneZ r = L) (k : Nat) (b : Int) (hb : L[k]? = some b) (h0 : 0 ≤ b ∧ b ≤ 255) : ∀ hk, (((str (Lib.encodeRune r))[k]'hk).toNat : Int) = b := by
  intro hk
  have e : (str (Lib.encodeRune r))[k] = b.toNat.toUInt8 := by
    have h1 : (Lib.encodeRune r)[k]? = some b.toNat.toUInt8 := by unfold Lib.encodeRune; rw [h, List.getElem?_map, hb]; rfl
    have hk' : k < (Lib.encodeRune r).length := by rw [← str_size]; exact hk
    have h2 : (str (Lib.encodeRune r))[k] = (Lib.encodeRune r)[k] := by simp [str, ByteArray.getElem_eq_getElem_data]
    rw [List.getElem?_eq_getElem hk'] at h1
    exact h2.trans (Option.some.inj h1)
  rw [e]
  have : b.toNat.toUInt8.toNat = b.toNat := by simp; omega
  rw [this]
  omega
theorem enc_size {r : Int} {L : List Int} (h : Lib.encodeRuneZ r = L) : (str (Lib.encodeRune r)).size = L.length := by rw [str_size]; unfold Lib.encodeRune; rw [h, List.length_map]

set_option maxRecDepth 100000 in
set_option maxHeartbeats 8000000 in
theorem code_1 (r : Nat) (hr : r < 128) (w : World) : Calls Tryd.prog 23 #[.string (str (Lib.encodeRune (r : Int)))] w fun e w' => e = .returned (.int .i64 (r : Int)) ∧ w = w' := by
  have hL := Lib.encodeRuneZ_one (r := (r : Int)) (by omega) (by omega)
  have hz := enc_size hL
  have b0 := enc_get hL 0 ((r : Int)) rfl (by omega)
  simp only [List.length_cons, List.length_nil] at hz
  generalize str (Lib.encodeRune (r : Int)) = z at *
  have p0 : 0 < z.size := by omega
  have hzi : (z.size : Int) = 1 := by omega
  have HR := Lib.hid hr
  clear hL hr
  go_enter Tryd.func23, Tryd.ntmps23
  go_wp2
  go_loopw [3, 4] (fun n i wr => ∃ k : Nat, 1 ≤ k ∧ k ≤ 1 ∧ i = .int .i64 (k : Int) ∧ ((k = 1 ∧ n = .int .i64 ((r : Int)))) ∧ wr = w) (fun _ i _ => 1 - (intOf i).toNat)
  case atStart => exact ⟨1, by omega, by omega, rfl, ⟨rfl, by first | rfl | (have := HR.out; congr 1; unfold wrap64; omega)⟩, rfl⟩
  case round =>
    obtain ⟨k, hk1, hkL, rfl, hn, rfl⟩ := hrel
    obtain ⟨rfl, rfl⟩ := hn
    go_wp2
    go_ret
    exact ⟨rfl, rfl⟩
set_option maxRecDepth 100000 in
set_option maxHeartbeats 8000000 in
theorem code_2 (r : Nat) (hr : 128 ≤ r ∧ r < 2048) (w : World) : Calls Tryd.prog 23 #[.string (str (Lib.encodeRune (r : Int)))] w fun e w' => e = .returned (.int .i64 (r : Int)) ∧ w = w' := by
  have hL := Lib.encodeRuneZ_two (r := (r : Int)) (by omega) (by omega)
  have hz := enc_size hL
  have b0 := enc_get hL 0 (192 + (r : Int) / 64) rfl (by omega)
  have b1 := enc_get hL 1 (128 + (r : Int) % 64) rfl (by omega)
  simp only [List.length_cons, List.length_nil] at hz
  generalize str (Lib.encodeRune (r : Int)) = z at *
  have p0 : 0 < z.size := by omega
  have p1 : 1 < z.size := by omega
  have hzi : (z.size : Int) = 2 := by omega
  have HR := Lib.hid hr
  clear hL hr
  go_enter Tryd.func23, Tryd.ntmps23
  go_wp2
  go_loopw [3, 4] (fun n i wr => ∃ k : Nat, 1 ≤ k ∧ k ≤ 2 ∧ i = .int .i64 (k : Int) ∧ ((k = 1 ∧ n = .int .i64 ((r : Int) / 64)) ∨ (k = 2 ∧ n = .int .i64 ((r : Int)))) ∧ wr = w) (fun _ i _ => 2 - (intOf i).toNat)
  case atStart => exact ⟨1, by omega, by omega, rfl, .inl ⟨rfl, by first | rfl | (have := HR.out; congr 1; unfold wrap64; omega)⟩, rfl⟩
  case round =>
    obtain ⟨k, hk1, hkL, rfl, hn, rfl⟩ := hrel
    rcases hn with ⟨rfl, rfl⟩ | ⟨rfl, rfl⟩
    · go_wp2
      exact ⟨⟨2, by omega, by omega, by go_num, .inr (⟨rfl, by have := HR.out; congr 1; unfold wrap64; omega⟩), trivial⟩, by simp [intOf]⟩
    · go_wp2
      go_ret
      exact ⟨rfl, rfl⟩
set_option maxRecDepth 100000 in
set_option maxHeartbeats 8000000 in
theorem code_3 (r : Nat) (hr : (2048 ≤ r ∧ r < 55296) ∨ (57344 ≤ r ∧ r < 65536)) (w : World) : Calls Tryd.prog 23 #[.string (str (Lib.encodeRune (r : Int)))] w fun e w' => e = .returned (.int .i64 (r : Int)) ∧ w = w' := by
  have hL := Lib.encodeRuneZ_three (r := (r : Int)) (by omega)
  have hz := enc_size hL
  have b0 := enc_get hL 0 (224 + (r : Int) / 4096) rfl (by omega)
  have b1 := enc_get hL 1 (128 + (r : Int) / 64 % 64) rfl (by omega)
  have b2 := enc_get hL 2 (128 + (r : Int) % 64) rfl (by omega)
  simp only [List.length_cons, List.length_nil] at hz
  generalize str (Lib.encodeRune (r : Int)) = z at *
  have p0 : 0 < z.size := by omega
  have p1 : 1 < z.size := by omega
  have p2 : 2 < z.size := by omega
  have hzi : (z.size : Int) = 3 := by omega
  have HR := Lib.hid hr
  clear hL hr
  go_enter Tryd.func23, Tryd.ntmps23
  go_wp2
  go_loopw [3, 4] (fun n i wr => ∃ k : Nat, 1 ≤ k ∧ k ≤ 3 ∧ i = .int .i64 (k : Int) ∧ ((k = 1 ∧ n = .int .i64 ((r : Int) / 4096)) ∨ (k = 2 ∧ n = .int .i64 ((r : Int) / 64)) ∨ (k = 3 ∧ n = .int .i64 ((r : Int)))) ∧ wr = w) (fun _ i _ => 3 - (intOf i).toNat)
  case atStart => exact ⟨1, by omega, by omega, rfl, .inl ⟨rfl, by first | rfl | (have := HR.out; congr 1; unfold wrap64; omega)⟩, rfl⟩
  case round =>
    obtain ⟨k, hk1, hkL, rfl, hn, rfl⟩ := hrel
    rcases hn with ⟨rfl, rfl⟩ | ⟨rfl, rfl⟩ | ⟨rfl, rfl⟩
    · go_wp2
      exact ⟨⟨2, by omega, by omega, by go_num, .inr (.inl ⟨rfl, by have := HR.out; congr 1; unfold wrap64; omega⟩), trivial⟩, by simp [intOf]⟩
    · go_wp2
      exact ⟨⟨3, by omega, by omega, by go_num, .inr (.inr (⟨rfl, by have := HR.out; congr 1; unfold wrap64; omega⟩)), trivial⟩, by simp [intOf]⟩
    · go_wp2
      go_ret
      exact ⟨rfl, rfl⟩
set_option maxRecDepth 100000 in
set_option maxHeartbeats 8000000 in
theorem code_4 (r : Nat) (hr : 65536 ≤ r ∧ r ≤ 1114111) (w : World) : Calls Tryd.prog 23 #[.string (str (Lib.encodeRune (r : Int)))] w fun e w' => e = .returned (.int .i64 (r : Int)) ∧ w = w' := by
  have hL := Lib.encodeRuneZ_four (r := (r : Int)) (by omega) (by omega)
  have hz := enc_size hL
  have b0 := enc_get hL 0 (240 + (r : Int) / 262144) rfl (by omega)
  have b1 := enc_get hL 1 (128 + (r : Int) / 4096 % 64) rfl (by omega)
  have b2 := enc_get hL 2 (128 + (r : Int) / 64 % 64) rfl (by omega)
  have b3 := enc_get hL 3 (128 + (r : Int) % 64) rfl (by omega)
  simp only [List.length_cons, List.length_nil] at hz
  generalize str (Lib.encodeRune (r : Int)) = z at *
  have p0 : 0 < z.size := by omega
  have p1 : 1 < z.size := by omega
  have p2 : 2 < z.size := by omega
  have p3 : 3 < z.size := by omega
  have hzi : (z.size : Int) = 4 := by omega
  have HR := Lib.hid hr
  clear hL hr
  go_enter Tryd.func23, Tryd.ntmps23
  go_wp2
  go_loopw [3, 4] (fun n i wr => ∃ k : Nat, 1 ≤ k ∧ k ≤ 4 ∧ i = .int .i64 (k : Int) ∧ ((k = 1 ∧ n = .int .i64 ((r : Int) / 262144)) ∨ (k = 2 ∧ n = .int .i64 ((r : Int) / 4096)) ∨ (k = 3 ∧ n = .int .i64 ((r : Int) / 64)) ∨ (k = 4 ∧ n = .int .i64 ((r : Int)))) ∧ wr = w) (fun _ i _ => 4 - (intOf i).toNat)
  case atStart => exact ⟨1, by omega, by omega, rfl, .inl ⟨rfl, by first | rfl | (have := HR.out; congr 1; unfold wrap64; omega)⟩, rfl⟩
  case round =>
    obtain ⟨k, hk1, hkL, rfl, hn, rfl⟩ := hrel
    rcases hn with ⟨rfl, rfl⟩ | ⟨rfl, rfl⟩ | ⟨rfl, rfl⟩ | ⟨rfl, rfl⟩
    · go_wp2
      exact ⟨⟨2, by omega, by omega, by go_num, .inr (.inl ⟨rfl, by have := HR.out; congr 1; unfold wrap64; omega⟩), trivial⟩, by simp [intOf]⟩
    · go_wp2
      exact ⟨⟨3, by omega, by omega, by go_num, .inr (.inr (.inl ⟨rfl, by have := HR.out; congr 1; unfold wrap64; omega⟩)), trivial⟩, by simp [intOf]⟩
    · go_wp2
      exact ⟨⟨4, by omega, by omega, by go_num, .inr (.inr (.inr (⟨rfl, by have := HR.out; congr 1; unfold wrap64; omega⟩))), trivial⟩, by simp [intOf]⟩
    · go_wp2
      go_ret
      exact ⟨rfl, rfl⟩
def okC (r : Nat) : Prop := r < 55296 ∨ (57344 ≤ r ∧ r ≤ 1114111)
theorem code_any (r : Nat) (hr : okR r) (w : World) : Calls Tryd.prog 23 #[.string (str (Lib.encodeRune (r : Int)))] w fun e w' => e = .returned (.int .i64 (r : Int)) ∧ w = w' := by
  unfold okR at hr
  by_cases h1 : r < 128
  · exact code_1 r h1 w
  by_cases h2 : r < 2048
  · exact code_2 r (by omega) w
  by_cases h3 : r < 65536
  · exact code_3 r (by omega) w
  · exact code_4 r (by omega) w
set_option maxRecDepth 100000 in
set_option maxHeartbeats 4000000 in
theorem runseen_any (n : Nat) (w : World) : Calls Tryd.prog 24 #[.int .i64 (n : Int)] w fun e w' => e = .returned (.bool (unsB n)) ∧ w = w' := by
  go_enter Tryd.func24, Tryd.ntmps24
  go_wp2
  all_goals go_ret
  all_goals refine ⟨?_, rfl⟩
  all_goals refine congrArg Ending.returned ?_
  all_goals unfold unsB
  all_goals refine congrArg Value.bool ?_
  all_goals rw [Bool.eq_iff_iff]
  all_goals simp only [Bool.or_eq_true, decide_eq_true_eq, beq_iff_eq, true_iff]
  all_goals omega
set_option maxRecDepth 100000 in
set_option maxHeartbeats 4000000 in
theorem based_any (n : Nat) : ∀ (_ : n < 16777216) (w : World), Calls Tryd.prog 25 #[.int .i64 (n : Int)] w fun e w' => e = .returned (.string (str (basedL n))) ∧ ∃ m, w' = w.drewN m := by
  induction n using Nat.strongRecOn with
  | _ n ih =>
    intro hn w
    have HIH := Lib.hid ih
    clear ih
    by_cases h10 : n < 16
    · have hx : (n : Int) < 16 := by omega
      have hs := slice_hex .i64 .i64 n h10 (n : Int) ((n : Int) + 1) rfl rfl
      have HD := Lib.hid (show str (basedL n) = str [Sn.hx n] from by rw [based_lt h10])
      generalize str [Sn.hx n] = d at *
      go_enter Tryd.func25, Tryd.ntmps25
      go_wp2
      go_ret
      rw [HD.out]
      exact ⟨rfl, 0, rfl⟩
    · have hx : ¬ (n : Int) < 16 := by omega
      have HI := Lib.hid (fun w => HIH.out (n / 16) (by omega) (by omega) w)
      rw [show ((n / 16 : Nat) : Int) = (n : Int) / 16 from by omega] at HI
      have HLN := Lib.hid (show (str (basedL (n / 16))).size ≤ 20 from by
        rw [str_size]
        have := based_len 5 (n / 16) (by have : (16 : Nat) ^ 6 = 16777216 := by decide
                                         omega)
        omega)
      have HD := Lib.hid (show str (basedL n) = str (basedL (n / 16)) ++ str [Sn.hx (n % 16)] from by rw [based_ge h10, str_app])
      have hs := slice_hex .i64 .i64 (n % 16) (by omega) ((n : Int) % 16) ((n : Int) % 16 + 1) (by omega) (by omega)
      have w1 : IntKind.i64.wrap ((n : Int) / 16) = (n : Int) / 16 := IntWalk.i64_in _ (by omega)
      have w2 : IntKind.i64.wrap ((n : Int) % 16) = (n : Int) % 16 := IntWalk.i64_in _ (by omega)
      have w3 : IntKind.i64.wrap ((n : Int) % 16 + 1) = (n : Int) % 16 + 1 := IntWalk.i64_in _ (by omega)
      have HL1 := one_size (Sn.hx (n % 16))
      generalize str [Sn.hx (n % 16)] = d at *
      generalize str (basedL (n / 16)) = z1 at *
      have hs1 : ¬ 9223372036854775807 < z1.size + d.size := by have := HLN.out; omega
      have HL1' := Lib.hid HL1
      clear HL1
      go_enter Tryd.func25, Tryd.ntmps25
      go_wp2
      go_quiet ((go_at_call 25; with_reducible exact quiet_on (HI.out _)))
      go_wp2
      go_ret
      rw [HD.out]
      exact ⟨rfl, _, rfl⟩
end Go.Proofs.YtcikhbbljhkheaaDoor.Sn
