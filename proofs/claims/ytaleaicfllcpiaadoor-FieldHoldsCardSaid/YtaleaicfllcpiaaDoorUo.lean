/- Unpack: the document's test of a header's bytes, and the program's reading of bits. -/
import Derived.Test.YtaleaicfllcpiaaDoorUv
namespace Go.Proofs.YtaleaicfllcpiaaDoor.Fl
open Go.RowKit Mm Law
set_option linter.unusedVariables false
set_option linter.unusedSimpArgs false
set_option linter.unusedSectionVars false
theorem any_step {D : List UInt8} {c : UInt8} {q : Nat} {f : Bool} (hq : q < D.length) (h : f = true ↔ ∃ j, j < q ∧ D[j]? = some c) : (f || decide (c = D[q])) = true ↔ ∃ j, j < q + 1 ∧ D[j]? = some c := by
  rw [Bool.or_eq_true, decide_eq_true_iff, h]
  constructor
  · rintro (⟨j, h1, h2⟩ | h1)
    · exact ⟨j, by omega, h2⟩
    · exact ⟨q, by omega, by rw [h1]; exact List.getElem?_eq_getElem hq⟩
  · rintro ⟨j, h1, h2⟩
    rcases Nat.lt_succ_iff_lt_or_eq.1 h1 with h | rfl
    · exact .inl ⟨j, h, h2⟩
    · right
      rw [List.getElem?_eq_getElem hq] at h2
      exact (Option.some.inj h2).symm
theorem byte_dec (b c : UInt8) : decide ((b.toNat : Int) = (c.toNat : Int)) = decide (b = c) := by
  by_cases h : b = c
  · subst h; simp
  · rw [decide_eq_false h, decide_eq_false]
    intro hc
    exact h (UInt8.toNat_inj.1 (by omega))
theorem beq_dec (b c : UInt8) : ((b.toNat : Int) == (c.toNat : Int)) = decide (b = c) := by
  by_cases h : b = c
  · subst h; simp
  · rw [decide_eq_false h, beq_eq_false_iff_ne]
    intro hc
    exact h (UInt8.toNat_inj.1 (by omega))
set_option maxRecDepth 100000 in
set_option maxHeartbeats 4000000 in
theorem of_any (s D : ByteArray) (hD : D.size ≤ 3) (n : Int) (hs : s.size ≤ maxLen) (w : World) :
    Calls Tryd.prog 47 #[.string s, .string D, .int .i64 n] w fun e w' => (∃ b, e = .returned (.bool b) ∧ (b = true ↔ ofB D.data.toList s.data.toList n)) ∧ Below w.heap.size w w' := by
  have hl : s.data.toList.length = s.size := len_s s
  have hdl : D.data.toList.length = D.size := len_s D
  have HB := Lib.hid (bget s)
  have HBD := Lib.hid (bget D)
  unfold maxLen at hs
  obtain ⟨S, hS⟩ : ∃ S, s.data.toList = S := ⟨_, rfl⟩
  obtain ⟨T, hT⟩ : ∃ T, D.data.toList = T := ⟨_, rfl⟩
  rw [hS] at hl HB ⊢
  rw [hT] at hdl HBD ⊢
  clear hS hT
  have mixed : Tryd.prog.follows Departure.mixedOrders = true := by kernel_rfl
  by_cases hn : (s.size : Int) = n
  · subst hn
    have hne : ((s.size : Int) != (s.size : Int)) = false := by simp
    go_enter Tryd.func47, Tryd.ntmps47
    go_wp2
    go_loopw [7] (fun i wr => ∃ k : Nat, k ≤ s.size ∧ i = .int .i64 (k : Int) ∧ (∀ j b, j < k → S[j]? = some b → b ∈ T) ∧ Below w.heap.size w wr) (fun i _ => s.size - (intOf i).toNat)
    case atStart => exact ⟨0, Nat.zero_le _, rfl, fun j b hj => absurd hj (by omega), Below.refl _ _⟩
    case round =>
      obtain ⟨k, hk, rfl, hall, hbel⟩ := hrel
      have HALL := Lib.hid hall
      clear hall
      by_cases hlt : k < s.size
      · have hb := HB.out k hlt
        have HSK := Lib.hid hb
        have x0 : (0 : Int) ≤ (k : Int) := by omega
        have x1 : (k : Int) < (s.size : Int) := by omega
        clear hb
        go_wp2
        go_loopw [8, 9] (fun f i wr' => ∃ (q : Nat) (b : Bool), q ≤ D.size ∧ i = .int .i64 (q : Int) ∧ f = .bool b ∧ (b = true ↔ ∃ j, j < q ∧ T[j]? = some s[k]) ∧ Below w.heap.size w wr') (fun _ i _ => D.size - (intOf i).toNat)
        case atStart => exact ⟨0, false, Nat.zero_le _, rfl, rfl, by simp, hbel⟩
        case round =>
          obtain ⟨q, b, hq, rfl, rfl, hbq, hbel2⟩ := hrel
          have HQ := Lib.hid hbq
          clear hbq
          by_cases hqt : q < D.size
          · have hdq := HBD.out q hqt
            have HST := Lib.hid (any_step (D := T) (c := s[k]) (q := q) (f := b) (by omega) HQ.out)
            have HDQ := Lib.hid (show T[q]'(by omega) = D[q] from by
              rw [List.getElem?_eq_getElem (by omega)] at hdq
              exact Option.some.inj hdq)
            have y0 : (0 : Int) ≤ (q : Int) := by omega
            have y1 : (q : Int) < (D.size : Int) := by omega
            have hbd := beq_dec s[k] D[q]
            clear hdq
            cases b with
            | true =>
              go_wp2
              go_region_o
              go_wp2
              go_roundw
              case rel => exact ⟨q + 1, true, by omega, by go_num, rfl, by have := HST.out; simpa using this, hbel2.drew⟩
              case measure => simp [intOf]; omega
            | false =>
              go_wp2
              go_region_o
              go_wp2
              go_roundw
              case rel => exact ⟨q + 1, decide (s[k] = D[q]), by omega, by go_num, by first | rfl | simp [hbd], by have := HST.out; rw [HDQ.out] at this; simpa using this, hbel2.drew⟩
              case measure => simp [intOf]; omega
          · have HMEM := Lib.hid (show b = true ↔ s[k] ∈ T from by
              rw [HQ.out, List.mem_iff_getElem?]
              constructor
              · rintro ⟨j, _, h⟩; exact ⟨j, h⟩
              · rintro ⟨j, h⟩
                have := (List.getElem?_eq_some_iff.1 h).1
                exact ⟨j, by omega, h⟩)
            cases b with
            | true =>
              go_wp2
              go_roundw
              case rel => exact ⟨k + 1, by omega, by go_num, fun j b hj hb => by
                rcases Nat.lt_succ_iff_lt_or_eq.1 hj with h | rfl
                · exact HALL.out j b h hb
                · rw [HSK.out] at hb
                  rw [← Option.some.inj hb]
                  exact HMEM.out.1 rfl, hbel2⟩
              case measure => simp [intOf]; omega
            | false =>
              go_wp2
              go_ret
              refine ⟨⟨false, rfl, ?_⟩, hbel2⟩
              constructor
              · intro h; exact absurd h (by simp)
              · rintro ⟨_, h⟩
                exact absurd (HMEM.out.2 (h _ (List.mem_of_getElem? HSK.out))) (by simp)
      · go_wp2
        go_ret
        refine ⟨⟨true, rfl, ?_⟩, hbel⟩
        refine ⟨fun _ => ⟨by omega, fun b hb => ?_⟩, fun _ => rfl⟩
        obtain ⟨j, hj⟩ := List.mem_iff_getElem?.1 hb
        have := (List.getElem?_eq_some_iff.1 hj).1
        exact HALL.out j b (by omega) hj
  · have hne : ((s.size : Int) != n) = true := by rw [bne_iff_ne]; exact hn
    go_enter Tryd.func47, Tryd.ntmps47
    go_wp2
    go_ret
    refine ⟨⟨false, rfl, ?_⟩, Below.refl _ _⟩
    constructor
    · intro h; exact absurd h (by simp)
    · rintro ⟨h, _⟩; omega
set_option maxRecDepth 100000 in
set_option maxHeartbeats 4000000 in
theorem number_any (s : ByteArray) (hs : s.size ≤ 32) (w : World) :
    Calls Tryd.prog 45 #[.string s] w fun e w' => e = .returned (.int .i64 (numB s.data.toList : Int)) ∧ w' = w := by
  have hl : s.data.toList.length = s.size := len_s s
  have HB := Lib.hid (bget s)
  obtain ⟨S, hS⟩ : ∃ S, s.data.toList = S := ⟨_, rfl⟩
  rw [hS] at hl HB ⊢
  clear hS
  have HBD := Lib.hid (numB_bd (l := S) (by omega))
  go_enter Tryd.func45, Tryd.ntmps45
  go_wp2
  go_loopw [3, 7] (fun v i wr => ∃ k : Nat, k ≤ s.size ∧ i = .int .i64 (k : Int) ∧ v = .int .i64 (numB (S.take k) : Int) ∧ wr = w) (fun _ i _ => s.size - (intOf i).toNat)
  case atStart => exact ⟨0, Nat.zero_le _, rfl, rfl, rfl⟩
  case round =>
    obtain ⟨k, hk, rfl, rfl, rfl⟩ := hrel
    by_cases hlt : k < s.size
    · have hbd := HBD.out k
      have hb := HB.out k hlt
      have HN := Lib.hid (show numB (S.take (k + 1)) = 2 * numB (S.take k) + bit1 s[k] from by
        rw [numB_take (by omega)]
        rw [List.getElem?_eq_getElem (by omega)] at hb
        rw [Option.some.inj hb])
      clear hb
      have x0 : (0 : Int) ≤ (k : Int) := by omega
      have x1 : (k : Int) < (s.size : Int) := by omega
      generalize numB (S.take k) = n at *
      by_cases h1 : s[k] = 49
      · have h2 : (s[k].toNat : Int) = 49 := (bit_one _).2 h1
        have HN2 := Lib.hid (show bit1 s[k] = 1 from by unfold bit1; rw [if_pos h1])
        clear h1
        go_wp2
        go_roundw
        case rel => exact ⟨k + 1, by omega, by go_num, by rw [HN.out, HN2.out]; go_num, by trivial⟩
        case measure => simp [intOf]; omega
      · have h2 : ¬ (s[k].toNat : Int) = 49 := fun h => h1 ((bit_one _).1 h)
        have HN2 := Lib.hid (show bit1 s[k] = 0 from by unfold bit1; rw [if_neg h1])
        clear h1
        go_wp2
        go_roundw
        case rel => exact ⟨k + 1, by omega, by go_num, by rw [HN.out, HN2.out]; go_num, by trivial⟩
        case measure => simp [intOf]; omega
    · have HK := Lib.hid (show S.take k = S from by rw [show k = S.length by omega, List.take_length])
      go_wp2
      go_ret
      exact ⟨by rw [HK.out]; rfl, rfl⟩
end Go.Proofs.YtaleaicfllcpiaaDoor.Fl
