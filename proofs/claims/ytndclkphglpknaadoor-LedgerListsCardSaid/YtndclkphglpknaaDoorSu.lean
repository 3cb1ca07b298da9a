/- Sum: the walk, and the document's. -/
import Derived.Test.YtndclkphglpknaaDoorRows
import Derived.Test.YtndclkphglpknaaDoorCr
import Derived.Test.YtndclkphglpknaaDoorMm
import Derived.WalkKit
import Derived.BigQuiet
import Derived.BigRegion
import Derived.Deep.QuietTactic
import Derived.Handy
import Derived.Deep.DeepCutAuto
namespace Go.Proofs.YtndclkphglpknaaDoor.Lg
open Go.RowKit Mm
def bytesV (l : List UInt8) : List Value := l.map bv
theorem bytesV_len (l : List UInt8) : (bytesV l).length = l.length := by simp [bytesV]
theorem bytesV_at (l : List UInt8) (k : Nat) (h : k < l.length) : (bytesV l)[k]? = some (.int .u8 (l[k].toNat : Int)) := by simp [bytesV, bv, h]
theorem xor32 (x y : Nat) (h : x < 4294967296) (k : y < 4294967296) : bits .xor .u32 (x : Int) (y : Int) = ((x ^^^ y : Nat) : Int) := u32_xor_nat x y h k
theorem and15 (x : Nat) (h : x < 4294967296) : bits .and .u32 (x : Int) 15 = ((x % 16 : Nat) : Int) := by
  have := u32_and_nat x 15 h (by decide)
  rw [show (15 : Nat) = 2 ^ 4 - 1 from rfl, Nat.and_two_pow_sub_one_eq_mod] at this
  exact this
theorem nib_i (x : Nat) (h : x < 4294967296) : bits .xor .u32 ((x : Int) / 16) (T (x % 16) : Int) = ((st4 x : Nat) : Int) := by
  have e := xor32 (x / 16) (T (x % 16)) (by omega) (T_lt _ (by omega))
  rw [nib] at e
  rw [← e]; rfl
def tabV : Array Value := #[.int .u32 0, .int .u32 274646895, .int .u32 549293790, .int .u32 820201905, .int .u32 1098587580, .int .u32 1361435347, .int .u32 1640403810, .int .u32 1905808397, .int .u32 2197175160, .int .u32 2460548119, .int .u32 2722870694, .int .u32 2987750089, .int .u32 3280807620, .int .u32 3553878443, .int .u32 3811616794, .int .u32 4084100981]
theorem tab_at : ∀ i, i < 16 → tabV[i]? = some (.int .u32 (T i : Int)) := by
  intro i hi
  have h : i = 0 ∨ i = 1 ∨ i = 2 ∨ i = 3 ∨ i = 4 ∨ i = 5 ∨ i = 6 ∨ i = 7 ∨ i = 8 ∨ i = 9 ∨ i = 10 ∨ i = 11 ∨ i = 12 ∨ i = 13 ∨ i = 14 ∨ i = 15 := by omega
  rcases h with rfl | rfl | rfl | rfl | rfl | rfl | rfl | rfl | rfl | rfl | rfl | rfl | rfl | rfl | rfl | rfl <;> rfl
theorem fin32 (l : List UInt8) : wrap64 (bits .xor .u32 IntKind.u32.max (reg l : Int)) = (crc l : Int) := by
  have e := xor32 4294967295 (reg l) (by decide) (reg_lt l)
  rw [Nat.xor_comm, crc_xor] at e
  have e2 : bits .xor .u32 IntKind.u32.max (reg l : Int) = (crc l : Int) := e
  rw [e2]
  have := crc_lt l
  exact IntWalk.wrap64_in _ (by omega)
set_option maxRecDepth 100000 in
set_option maxHeartbeats 1000000 in
theorem sum_any (l : List UInt8) (v : Value) (w : World) (hS : Sees w v (bytesV l)) :
    Calls Tryd.prog 20 #[v] w fun e w' => e = .returned (.int .i64 (crc l : Int)) ∧ Below w.heap.size w w' := by
  obtain ⟨a0, cap0, rfl, _, hcap, hcm, hx⟩ := hS
  rw [bytesV_len] at hcap
  have hn := bytesV_len l
  rw [hn]
  have HX := Lib.hid hx
  unfold maxLen at hcm
  clear hx hn
  go_enter Tryd.func20, Tryd.ntmps20
  go_wp2
  go_loopw [4, 10] (fun r i wr => ∃ k : Nat, k ≤ l.length ∧ i = .int .i64 k ∧ r = .int .u32 (reg (l.take k) : Int) ∧ Blk wr w.heap.size 68 tabV ∧ Below w.heap.size w wr) (fun _ i _ => l.length - (intOf i).toNat)
  case atStart => exact ⟨0, Nat.zero_le _, rfl, rfl, Blk.new w _ _, by go_grown⟩
  case round =>
    obtain ⟨k, hk, rfl, rfl, hB, hbel⟩ := hrel
    by_cases hlt : k < l.length
    · obtain ⟨g, off, rfl, hg, hq⟩ : ∃ g off, a0 = some ⟨g, off, none⟩ ∧ g < w.heap.size ∧ ∀ j u, (bytesV l)[j]? = some u → w.cell? ⟨g, off + j, none⟩ = some u := by
        rcases HX.out with h0 | h0
        · have := bytesV_len l; rw [h0] at this; simp at this; omega
        · exact h0
      have q0 : wr.cell? ⟨g, off + k, none⟩ = some (.int .u8 (l[k].toNat : Int)) := by rw [hbel.cell (p := ⟨g, off + k, none⟩) hg]; exact hq k _ (bytesV_at l k hlt)
      have HS := Lib.hid (reg_snoc l k hlt)
      have hr := reg_lt (l.take k)
      have hb := l[k].toNat_lt
      generalize l[k].toNat = b at *
      generalize reg (l.take k) = r at *
      have e1 := xor32 r b hr (by omega)
      have hx1 : r ^^^ b < 4294967296 := xor_lt32 hr (by omega)
      clear hq
      go_upto_region 7 with fail
      have HE := Lib.hid (show step r b = st4 (st4 (r ^^^ b)) from rfl)
      generalize r ^^^ b = x at *
      have e2 := and15 x hx1
      have c2 : wr.cell? ⟨w.heap.size, x % 16, none⟩ = some (.int .u32 (T (x % 16) : Int)) := by rw [hB.cell, tab_at _ (by omega)]
      have b2 : x % 16 < 16 := by omega
      have e3 := nib_i x hx1
      have hy := nib_lt hx1
      clear e1
      go_upto_region 8 with fail
      clear e2 e3 c2 b2
      generalize st4 x = y at *
      have e2 := and15 y hy
      have c2 : wr.cell? ⟨w.heap.size, y % 16, none⟩ = some (.int .u32 (T (y % 16) : Int)) := by rw [hB.cell, tab_at _ (by omega)]
      have b2 : y % 16 < 16 := by omega
      have e3 := nib_i y hy
      go_wp2
      clear e2 e3 c2 b2
      go_roundw
      case rel => exact ⟨k + 1, by omega, by go_num, by rw [HS.out, HE.out], hB, hbel⟩
      case measure => simp [intOf]; omega
    · obtain rfl : k = l.length := by omega
      rw [List.take_length]
      go_wp2
      go_ret
      exact ⟨congrArg (fun n : Int => Ending.returned (.int .i64 n)) (fin32 l), hbel⟩
/-! The document's: bit by bit, in whole numbers. -/
theorem bits_i64 (x y : Nat) (h : x < 4294967296) (k : y < 4294967296) : bits .xor .i64 (x : Int) (y : Int) = ((x ^^^ y : Nat) : Int) := by
  have hx : x ^^^ y < 2 ^ 32 := Nat.xor_lt_two_pow (by omega) (by omega)
  show IntKind.i64.wrap ((BitVec.ofInt 64 (x : Int) ^^^ BitVec.ofInt 64 (y : Int)).toNat : Int) = _
  have e1 : (BitVec.ofInt 64 (x : Int)).toNat = x := by rw [BitVec.toNat_ofInt]; omega
  have e2 : (BitVec.ofInt 64 (y : Int)).toNat = y := by rw [BitVec.toNat_ofInt]; omega
  rw [BitVec.toNat_xor, e1, e2]
  exact IntWalk.i64_in _ (by omega)
theorem and1_i64 (x : Nat) (h : x < 4294967296) : bits .and .i64 (x : Int) 1 = ((x % 2 : Nat) : Int) := by
  show IntKind.i64.wrap ((BitVec.ofInt 64 (x : Int) &&& BitVec.ofInt 64 (1 : Int)).toNat : Int) = _
  have e1 : (BitVec.ofInt 64 (x : Int)).toNat = x := by rw [BitVec.toNat_ofInt]; omega
  have e2 : (BitVec.ofInt 64 (1 : Int)).toNat = 1 := by decide
  rw [BitVec.toNat_and, e1, e2, Nat.and_one_is_mod]
  exact IntWalk.i64_in _ (by omega)
theorem shr1_i64 (b k : Nat) (h : b < 256) : bits .and .i64 ((b : Int) / 2 ^ k) 1 = ((b / 2 ^ k % 2 : Nat) : Int) := by
  have e : ((b : Int) / 2 ^ k) = ((b / 2 ^ k : Nat) : Int) := by simp
  rw [e]
  exact and1_i64 _ (Nat.lt_of_le_of_lt (Nat.div_le_self ..) (by omega))
set_option maxRecDepth 100000 in
set_option maxHeartbeats 1000000 in
theorem rsum_any (l : List UInt8) (v : Value) (w : World) (hS : Sees w v (bytesV l)) :
    Calls Tryd.prog 23 #[v] w fun e w' => e = .returned (.int .i64 (crc l : Int)) ∧ w = w' := by
  obtain ⟨a0, cap0, rfl, _, hcap, hcm, hx⟩ := hS
  rw [bytesV_len] at hcap
  have hn := bytesV_len l
  rw [hn]
  have HX := Lib.hid hx
  unfold maxLen at hcm
  clear hx hn
  go_enter Tryd.func23, Tryd.ntmps23
  go_wp2
  go_loop [3, 4] (fun r i => ∃ k : Nat, k ≤ l.length ∧ i = .int .i64 k ∧ r = .int .i64 (reg (l.take k) : Int)) (fun _ i => l.length - (intOf i).toNat)
  case atStart => exact ⟨0, Nat.zero_le _, rfl, rfl⟩
  case round =>
    obtain ⟨k, hk, rfl, rfl⟩ := hrel
    by_cases hlt : k < l.length
    · obtain ⟨g, off, rfl, hg, hq⟩ : ∃ g off, a0 = some ⟨g, off, none⟩ ∧ g < w.heap.size ∧ ∀ j u, (bytesV l)[j]? = some u → w.cell? ⟨g, off + j, none⟩ = some u := by
        rcases HX.out with h0 | h0
        · have := bytesV_len l; rw [h0] at this; simp at this; omega
        · exact h0
      have q0 : w.cell? ⟨g, off + k, none⟩ = some (.int .u8 (l[k].toNat : Int)) := hq k _ (bytesV_at l k hlt)
      have hr := reg_lt (l.take k)
      have hb : l[k].toNat < 256 := by have := l[k].toNat_lt; omega
      have HS := Lib.hid ((byte_bits hb).trans (reg_snoc l k hlt).symm)
      generalize l[k].toNat = b at *
      generalize reg (l.take k) = r at *
      clear hq
      go_wp2
      go_loop [3, 5] (fun x i => ∃ j : Nat, j ≤ 8 ∧ i = .int .i64 j ∧ x = .int .i64 (bitsN r b j : Int)) (fun _ i => 8 - (intOf i).toNat)
      case atStart => exact ⟨0, Nat.zero_le _, rfl, rfl⟩
      case round =>
        obtain ⟨j, hj, rfl, rfl⟩ := hrel
        by_cases hj8 : j < 8
        · have hx := bitsN_lt (b := b) hr j
          have HN := Lib.hid (show bitsN r b (j + 1) = st (bitsN r b j ^^^ (b / 2 ^ j % 2)) from rfl)
          generalize bitsN r b j = x at *
          have e1 := shr1_i64 b j hb
          have e2 := and1_i64 x hx
          have hi : b / 2 ^ j % 2 < 2 := by omega
          have HB := Lib.hid (bit_step x _ hi)
          generalize b / 2 ^ j % 2 = i at *
          generalize hq : x % 2 = q at *
          have HQ := Lib.hid hq
          clear hq
          by_cases he : i = q
          · have t1 : ((i : Int) != (q : Int)) = false := by subst he; simp
            have HE := Lib.hid he
            clear he hi
            go_wp2
            go_round
            case rel => exact ⟨j + 1, by omega, by go_num, by rw [HN.out, HB.out, if_neg (fun h => h HE.out), Nat.xor_zero]; rfl⟩
            case measure => simp [intOf]; omega
          · have t1 : ((i : Int) != (q : Int)) = true := by rw [bne_iff_ne]; omega
            have e3 : bits .xor .i64 ((x : Int) / 2) 2197175160 = ((x / 2 ^^^ poly : Nat) : Int) := bits_i64 (x / 2) poly (by omega) (by decide)
            have HE := Lib.hid he
            clear he hi
            go_wp2
            go_round
            case rel => exact ⟨j + 1, by omega, by go_num, by rw [HN.out, HB.out, if_pos HE.out]⟩
            case measure => simp [intOf]; omega
        · obtain rfl : j = 8 := by omega
          rw [HS.out]
          go_wp2
          go_round
          case rel => exact ⟨k + 1, by omega, by go_num, rfl⟩
          case measure => simp [intOf]; omega
    · obtain rfl : k = l.length := by omega
      rw [List.take_length]
      have e1 : bits .xor .i64 (reg l : Int) 4294967295 = (crc l : Int) := by
        have := bits_i64 (reg l) 4294967295 (reg_lt l) (by decide)
        rw [crc_xor] at this; exact this
      go_wp2
      go_ret
      exact ⟨rfl, rfl⟩
end Go.Proofs.YtndclkphglpknaaDoor.Lg
