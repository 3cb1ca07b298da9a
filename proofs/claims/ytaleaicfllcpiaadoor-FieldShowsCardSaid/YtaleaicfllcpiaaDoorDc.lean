/- Show: the plain law of a field's text; the document's count and Number. -/
import Derived.Test.YtaleaicfllcpiaaDoorDq
namespace Go.Proofs.YtaleaicfllcpiaaDoor.Fl
open Go.RowKit Mm Law
set_option linter.unusedVariables false
set_option linter.unusedSimpArgs false
set_option linter.unusedSectionVars false
def cntN (S : List UInt8) : Nat := (S.filter fun b => b ≠ 120).length
theorem cnt_snoc (S : List UInt8) (b : UInt8) : cntN (S ++ [b]) = cntN S + if b = 120 then 0 else 1 := by
  unfold cntN
  rw [List.filter_append, List.length_append]
  by_cases h : b = 120 <;> simp [h]
theorem cnt_take {S : List UInt8} {k : Nat} (h : k < S.length) : cntN (S.take (k + 1)) = cntN (S.take k) + if S[k] = 120 then 0 else 1 := by
  rw [List.take_succ_eq_append_getElem h, cnt_snoc]
theorem cnt_le (S : List UInt8) : cntN S ≤ S.length := List.length_filter_le _ _
def fstP (S : List UInt8) : Prop := ∀ i, (hi : i < S.length) → S[i] ≠ 120 → cntN (S.take (i + 1)) = i + 1
def fstK (S : List UInt8) (k : Nat) : Prop := ∀ i, (hi : i < S.length) → i < k → S[i] ≠ 120 → cntN (S.take (i + 1)) = i + 1
theorem fst_all (S : List UInt8) : fstK S S.length ↔ fstP S := ⟨fun h i hi hc => h i hi hi hc, fun h i hi _ hc => h i hi hc⟩
theorem fst_x {S : List UInt8} {k : Nat} (hk : k < S.length) (h : S[k] = 120) : fstK S (k + 1) ↔ fstK S k :=
  ⟨fun hf i hi hlt hc => hf i hi (by omega) hc, fun hf i hi hlt hc => by
    rcases Nat.lt_succ_iff_lt_or_eq.1 hlt with h1 | h1
    · exact hf i hi h1 hc
    · subst h1; exact absurd h hc⟩
theorem fst_d {S : List UInt8} {k : Nat} (hk : k < S.length) (h : S[k] ≠ 120) : fstK S (k + 1) ↔ fstK S k ∧ cntN (S.take (k + 1)) = k + 1 :=
  ⟨fun hf => ⟨fun i hi hlt hc => hf i hi (by omega) hc, hf k hk (by omega) h⟩, fun ⟨hf, h2⟩ i hi hlt hc => by
    rcases Nat.lt_succ_iff_lt_or_eq.1 hlt with h1 | h1
    · exact hf i hi h1 hc
    · subst h1; exact h2⟩
def numB2 (v : Nat) : ByteArray := if v < 65536 then ddT v else quadB v
set_option maxRecDepth 100000 in
set_option maxHeartbeats 4000000 in
theorem rnumber_any (v : Nat) (hv : v < 4294967296) (w : World) :
    Calls Tryd.prog 64 #[.int .i64 (v : Int)] w fun e w' => e = .returned (.string (numB2 v)) ∧ Below w.heap.size w w' := by
  have H1 := Lib.hid (fun w => decimal_any v hv w)
  have H2 := Lib.hid (fun w => rquad_any v hv w)
  by_cases h : v < 65536
  · have HN := Lib.hid (show numB2 v = ddT v from if_pos h)
    have hx : (v : Int) < 65536 := by omega
    go_enter Tryd.func64, Tryd.ntmps64
    go_wp2_with fail
    refine (H1.out _).mono ?_
    rintro e w1 ⟨rfl, hb1⟩
    go_wp2_with fail
    go_ret
    exact ⟨by rw [HN.out]; rfl, hb1⟩
  · have HN := Lib.hid (show numB2 v = quadB v from if_neg h)
    have hx : ¬ (v : Int) < 65536 := by omega
    go_enter Tryd.func64, Tryd.ntmps64
    go_wp2_with fail
    refine (H2.out _).mono ?_
    rintro e w1 ⟨rfl, hb1⟩
    go_wp2_with fail
    go_ret
    exact ⟨by rw [HN.out]; rfl, hb1⟩
set_option maxRecDepth 100000 in
set_option maxHeartbeats 4000000 in
theorem count_any (s : ByteArray) (hs : s.size ≤ 32) (w : World) :
    Calls Tryd.prog 63 #[.string s] w fun e w' => (∃ b, e = .returned (.tuple #[.int .i64 (cntN s.data.toList : Int), .bool b]) ∧ (b = true ↔ fstP s.data.toList)) ∧ Below w.heap.size w w' := by
  have hl : s.data.toList.length = s.size := len_s s
  have HB := Lib.hid (bget s)
  obtain ⟨S, hS⟩ : ∃ S, s.data.toList = S := ⟨_, rfl⟩
  rw [hS] at hl HB ⊢
  clear hS
  have mixed : Tryd.prog.follows Departure.mixedOrders = true := by kernel_rfl
  go_enter Tryd.func63, Tryd.ntmps63
  go_wp2_with fail
  go_loopw [4, 5, 6] (fun c f i wr => ∃ (k : Nat) (b : Bool), k ≤ s.size ∧ i = .int .i64 (k : Int) ∧ c = .int .i64 (cntN (S.take k) : Int) ∧ f = .bool b ∧ (b = true ↔ fstK S k) ∧ Below w.heap.size w wr) (fun _ _ i _ => s.size - (intOf i).toNat)
  case atStart => exact ⟨0, true, Nat.zero_le _, rfl, rfl, rfl, by simp [fstK], Below.refl _ _⟩
  case round =>
    obtain ⟨k, b, hk, rfl, rfl, rfl, hb, hbel⟩ := hrel
    have HBB := Lib.hid hb
    clear hb
    by_cases hlt : k < s.size
    · have hg := HB.out k hlt
      have hkS : k < S.length := by omega
      rw [List.getElem?_eq_getElem hkS] at hg
      have HCT := Lib.hid (cnt_take hkS)
      have HFX := Lib.hid (fst_x hkS)
      have HFD := Lib.hid (fst_d hkS)
      rw [Option.some.inj hg] at HCT HFX HFD
      have hcl := cnt_le (S.take k)
      rw [List.length_take] at hcl
      have x0 : (0 : Int) ≤ (k : Int) := by omega
      have x1 : (k : Int) < (s.size : Int) := by omega
      generalize cntN (S.take k) = c at *
      clear hg
      by_cases h120 : s[k] = 120
      · have h1 : (s[k].toNat : Int) = 120 := by rw [h120]; rfl
        have HC2 := Lib.hid (show cntN (S.take (k + 1)) = c from by rw [HCT.out, if_pos h120]; omega)
        have HF2 := Lib.hid (HBB.out.trans (HFX.out h120).symm)
        clear h120
        go_wp2_with fail
        go_roundw
        case rel => exact ⟨k + 1, b, by omega, by go_num, by rw [HC2.out], rfl, HF2.out, hbel⟩
        case measure => simp [intOf]; omega
      · have h1 : ¬ (s[k].toNat : Int) = 120 := fun h => h120 (UInt8.toNat_inj.1 (by have h58 : (120 : UInt8).toNat = 120 := rfl; omega))
        have HC2 := Lib.hid (show cntN (S.take (k + 1)) = c + 1 from by rw [HCT.out, if_neg h120])
        have HF2 := Lib.hid (HFD.out h120)
        clear h120
        cases b with
        | true =>
          have HFF := Lib.hid (show (((c : Int) + 1 == (k : Int) + 1) = true ↔ fstK S (k + 1)) from by
            rw [HF2.out, HC2.out, beq_iff_eq]
            exact ⟨fun h => ⟨HBB.out.1 rfl, by omega⟩, fun h => by have := h.2; omega⟩)
          go_wp2_with fail
          go_roundw
          case rel => exact ⟨k + 1, _, by omega, by go_num, by rw [HC2.out]; go_num, rfl, HFF.out, hbel⟩
          case measure => simp [intOf]; omega
        | false =>
          have HFF := Lib.hid (show (false = true ↔ fstK S (k + 1)) from by
            rw [HF2.out]
            exact ⟨fun h => absurd h (by simp), fun h => absurd (HBB.out.2 h.1) (by simp)⟩)
          go_wp2_with fail
          go_roundw
          case rel => exact ⟨k + 1, false, by omega, by go_num, by rw [HC2.out]; go_num, rfl, HFF.out, hbel⟩
          case measure => simp [intOf]; omega
    · have hkl : k = S.length := by omega
      have HF := Lib.hid (show b = true ↔ fstP S from by rw [HBB.out, hkl]; exact fst_all S)
      have HK := Lib.hid (show S.take k = S from by rw [hkl, List.take_length])
      clear hkl
      go_wp2_with fail
      refine bodyPost_ret (v := .tuple #[.int .i64 (cntN (S.take k) : Int), .bool b]) (by simp [results, Tryd.results63, go_sem]) rfl ⟨⟨b, by rw [HK.out], HF.out⟩, hbel⟩
end Go.Proofs.YtaleaicfllcpiaaDoor.Fl
