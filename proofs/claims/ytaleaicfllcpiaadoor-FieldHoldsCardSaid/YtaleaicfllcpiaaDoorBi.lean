/- binary, prefix; the document's Digits and Xs. -/
import Derived.Test.YtaleaicfllcpiaaDoorTo
import Derived.Test.YtaleaicfllcpiaaDoorBt
import Derived.Laws.BitsAllLaws
namespace Go.Proofs.YtaleaicfllcpiaaDoor.Fl
open Go.RowKit Mm Law
set_option linter.unusedVariables false
set_option linter.unusedSimpArgs false
set_option linter.unusedSectionVars false
theorem bits_i64 (x y : Nat) (h : x < 4294967296) (k : y < 4294967296) : bits .xor .i64 (x : Int) (y : Int) = ((x ^^^ y : Nat) : Int) := by
  have hx : x ^^^ y < 2 ^ 32 := Nat.xor_lt_two_pow (by omega) (by omega)
  show IntKind.i64.wrap ((BitVec.ofInt 64 (x : Int) ^^^ BitVec.ofInt 64 (y : Int)).toNat : Int) = _
  have e1 : (BitVec.ofInt 64 (x : Int)).toNat = x := by rw [BitVec.toNat_ofInt]; omega
  have e2 : (BitVec.ofInt 64 (y : Int)).toNat = y := by rw [BitVec.toNat_ofInt]; omega
  rw [BitVec.toNat_xor, e1, e2]
  exact IntWalk.i64_in _ (by omega)
theorem and1_i64 (x : Nat) (h : x < 4294967296) : bits .and .i64 (x : Int) 1 = ((x % 2 : Nat) : Int) := by
  show IntKind.i64.wrap ((BitVec.ofInt 64 (x : Int) &&& BitVec.ofInt 64 (1 : Int)).toNat : Int) = _
  have e1 : (BitVec.ofInt 64 (x : Int)).toNat = x := by rw [BitVec.toNat_ofInt]; omega
  have e2 : (BitVec.ofInt 64 (1 : Int)).toNat = 1 := by decide
  rw [BitVec.toNat_and, e1, e2, Nat.and_one_is_mod]
  exact IntWalk.i64_in _ (by omega)
theorem bit_val (v j : Nat) (hv : v < 4294967296) : wrap64 (48 + bits BinOp.and IntKind.i64 ((v : Int) / 2 ^ j) 1) % 256 = ((bitB v j).toNat : Int) := by
  have h0 : (v : Int) / 2 ^ j = ((v / 2 ^ j : Nat) : Int) := by rw [pow_int]; simp
  have h1 : v / 2 ^ j ≤ v := Nat.div_le_self _ _
  have h2 : bits BinOp.and IntKind.i64 ((v : Int) / 2 ^ j) 1 = ((v / 2 ^ j % 2 : Nat) : Int) := by
    rw [h0]
    exact and1_i64 (v / 2 ^ j) (by omega)
  rw [h2]
  have h3 : v / 2 ^ j % 2 = 0 ∨ v / 2 ^ j % 2 = 1 := by omega
  unfold bitB
  rcases h3 with h3 | h3 <;> rw [h3] <;> simp [wrap64]
theorem hiB_get (v b n k : Nat) (h : k < n) : (hiB v b n)[k]? = some (bitB v (b - 1 - k)) := by simp [hiB, h]
theorem new_bytes (w : World) (n : Nat) : Blk (w.alloc (.cells (Array.replicate n (bv 0)) 5)) w.heap.size 5 ((List.replicate n (0 : UInt8)).map bv).toArray := by
  have e : ((List.replicate n (0 : UInt8)).map bv).toArray = Array.replicate n (bv 0) := by simp
  rw [e]
  exact Blk.new w _ _
set_option maxRecDepth 100000 in
set_option maxHeartbeats 1000000 in
theorem binary_any (v b n : Nat) (hv : v < 4294967296) (hb : b ≤ 32) (hn : n ≤ b) (w : World) :
    Calls Tryd.prog 41 #[.int .i64 (v : Int), .int .i64 (b : Int), .int .i64 (n : Int)] w fun e w' => e = .returned (.string (str (hiB v b n))) ∧ Below w.heap.size w w' := by
  have hmk := make_bytes n (by omega)
  go_enter Tryd.func41, Tryd.ntmps41
  go_wp2
  clear hmk
  go_loopw [13] (fun i wr => ∃ (k : Nat) (l : List UInt8), k ≤ n ∧ i = .int .i64 k ∧ l.length = n ∧ l.take k = (hiB v b n).take k ∧ Blk wr w.heap.size 5 (l.map bv).toArray ∧ Below w.heap.size w wr) (fun i _ => n - (intOf i).toNat)
  case atStart => exact ⟨0, List.replicate n 0, Nat.zero_le _, rfl, by simp, rfl, new_bytes w n, bal (Below.refl _ _) _⟩
  case round =>
    obtain ⟨k, l, hk, rfl, hl, htk, hb1, hbel⟩ := hrel
    by_cases hlt : k < n
    · have hcell : wr.cell? ⟨w.heap.size, k, none⟩ = some (bv (l.getD k 0)) := by
        rw [hb1.cell]; simp [hl, hlt]
      have hfz := hb1.frozen k
      have HT := Lib.hid (And.intro htk hl)
      clear htk hl
      have hval := bit_val v (b - 1 - k) hv
      go_wp2
      go_roundw
      case rel =>
        obtain ⟨h1, h2⟩ := HT.out
        refine ⟨k + 1, l.set k (bitB v (b - 1 - k)), by omega, by go_num, by simpa using h2, set_take (by omega) h1 (hiB_get v b n k hlt), blk_put k _ hb1, hbel.setCell (by simp) _⟩
      case measure => simp [intOf]; omega
    · have hkn : k = n := by omega
      have hL : l = hiB v b n := by
        rw [hkn, List.take_of_length_le (by omega), List.take_of_length_le (by rw [hiB_len]; omega)] at htk
        exact htk
      subst hL
      have hst := run_string_blk (cap := n) Tryd.underlying46 Tryd.underlying5 Tryd.underlying9 hl hb1
      clear htk hl hkn
      go_wp2
      go_ret
      exact ⟨rfl, hbel⟩
theorem bit_test (v j : Nat) (hv : v < 4294967296) : bits BinOp.and IntKind.i64 ((v : Int) / 2 ^ j) 1 = ((v / 2 ^ j % 2 : Nat) : Int) := by
  have h0 : (v : Int) / 2 ^ j = ((v / 2 ^ j : Nat) : Int) := by rw [pow_int]; simp
  have h1 : v / 2 ^ j ≤ v := Nat.div_le_self _ _
  rw [h0]
  exact and1_i64 (v / 2 ^ j) (by omega)
theorem hiB_snoc (v b k j : Nat) (h : b = k + 1 + j) : (hiB v b b).take (k + 1) = (hiB v b b).take k ++ [bitB v j] := by
  have hg := hiB_get v b b k (by omega)
  rw [show b - 1 - k = j by omega] at hg
  have hlt : k < (hiB v b b).length := by rw [hiB_len]; omega
  rw [List.take_succ_eq_append_getElem hlt]
  rw [List.getElem?_eq_getElem hlt] at hg
  rw [Option.some.inj hg]
set_option maxRecDepth 100000 in
set_option maxHeartbeats 1000000 in
theorem digits_any (v b : Nat) (hv : v < 4294967296) (hb : b ≤ 32) (w : World) :
    Calls Tryd.prog 105 #[.int .i64 (v : Int), .int .i64 (b : Int)] w fun e w' => e = .returned (.string (str (hiB v b b))) ∧ Below w.heap.size w w' := by
  go_enter Tryd.func105, Tryd.ntmps105
  go_wp2
  go_loopw [5, 6] (fun u i wr => ∃ k : Nat, k ≤ b ∧ i = .int .i64 ((b : Int) - 1 - (k : Int)) ∧ wr.ownsRow w.heap.size 5 1 u k (((hiB v b b).take k).map bv) ∧ Below w.heap.size w wr) (fun _ i _ => (intOf i + 1).toNat)
  case atStart => exact ⟨0, Nat.zero_le _, by first | rfl | (simp; done), own_nilB _ _, Below.refl _ _⟩
  case round =>
    obtain ⟨k, hk, rfl, hown, hbel⟩ := hrel
    have HO := Lib.hid hown
    clear hown
    by_cases hlt : k < b
    · obtain ⟨j, hj⟩ : ∃ j, b = k + 1 + j := ⟨b - (k + 1), by omega⟩
      have e : ((b : Int) - 1 - (k : Int)) = (j : Int) := by omega
      rw [e]
      have HE := Lib.hid e
      have HS := Lib.hid (hiB_snoc v b k j hj)
      have hbt := bit_test v j hv
      have hjb : j ≤ 31 := by omega
      clear hj e
      by_cases h1 : v / 2 ^ j % 2 = 1
      · have HB := Lib.hid (show bitB v j = 49 from by unfold bitB; rw [if_pos h1])
        rw [h1] at hbt
        clear h1
        go_wp2_with (at_builtin; refine app_byte 49 HO.out rfl rfl rfl rfl (by omega) hbel.size ?_; intro v' w2 hown2 hb2)
        go_roundw
        case rel => exact ⟨k + 1, by omega, by first | (simp; omega) | (congr 1; have := HE.out; omega), by rw [HS.out, HB.out]; exact hown2, hbel.trans hb2⟩
        case measure => first | (simp [intOf]; done) | (simp [intOf]; omega)
      · have HB := Lib.hid (show bitB v j = 48 from by unfold bitB; rw [if_neg h1])
        rw [show v / 2 ^ j % 2 = 0 by omega] at hbt
        clear h1
        go_wp2_with (at_builtin; refine app_byte 48 HO.out rfl rfl rfl rfl (by omega) hbel.size ?_; intro v' w2 hown2 hb2)
        go_roundw
        case rel => exact ⟨k + 1, by omega, by first | (simp; omega) | (congr 1; have := HE.out; omega), by rw [HS.out, HB.out]; exact hown2, hbel.trans hb2⟩
        case measure => first | (simp [intOf]; done) | (simp [intOf]; omega)
    · have hkb : k = b := by omega
      have hst := str_own HO.out
      have HL := Lib.hid (show (hiB v b b).take k = hiB v b b from List.take_of_length_le (by rw [hiB_len]; omega))
      have hneg : ((b : Int) - 1 - (k : Int)) < 0 := by omega
      clear hkb hlt
      go_wp2
      go_ret
      exact ⟨by rw [HL.out]; rfl, hbel⟩
set_option maxRecDepth 100000 in
set_option maxHeartbeats 1000000 in
theorem xs_any (n : Nat) (hn : n ≤ 1000) (w : World) :
    Calls Tryd.prog 56 #[.int .i64 (n : Int)] w fun e w' => e = .returned (.string (str (List.replicate n 120))) ∧ Below w.heap.size w w' := by
  go_enter Tryd.func56, Tryd.ntmps56
  go_wp2
  go_loopw [3, 4] (fun u i wr => ∃ k : Nat, k ≤ n ∧ i = .int .i64 (k : Int) ∧ wr.ownsRow w.heap.size 5 1 u k ((List.replicate k 120).map bv) ∧ Below w.heap.size w wr) (fun _ i _ => n - (intOf i).toNat)
  case atStart => exact ⟨0, Nat.zero_le _, rfl, own_nilB _ _, Below.refl _ _⟩
  case round =>
    obtain ⟨k, hk, rfl, hown, hbel⟩ := hrel
    have HO := Lib.hid hown
    clear hown
    by_cases hlt : k < n
    · go_wp2_with (at_builtin; refine app_byte 120 HO.out rfl rfl rfl rfl (by omega) hbel.size ?_; intro v' w2 hown2 hb2)
      go_roundw
      case rel => exact ⟨k + 1, by omega, by go_num, by rw [List.replicate_succ']; exact hown2, hbel.trans hb2⟩
      case measure => simp [intOf]; omega
    · have hkn : k = n := by omega
      have hst := str_own HO.out
      have HK := Lib.hid hkn
      have hnl : n ≤ k := by omega
      clear hkn hlt
      go_wp2
      go_ret
      exact ⟨by rw [HK.out]; rfl, hbel⟩
end Go.Proofs.YtaleaicfllcpiaaDoor.Fl
