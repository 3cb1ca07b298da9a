/- TernOwn: marks. -/
import Derived.Test.YtoglcocplpdlhaaQD
import Derived.Test.YtoglcocplpdlhaaBt
import Derived.Laws.BitsAllLaws
namespace Go.Proofs.Ytoglcocplpdlhaa.Tn
open Go.RowKit
attribute [local go_sem] cv cs wv
def bitM (k i : Nat) : UInt8 := if k / 2 ^ i % 2 = 1 then 49 else 48
def markT (k : Nat) : List UInt8 := up (bitM k) 16
theorem pow_intM (j : Nat) : (2 : Int) ^ j = ((2 ^ j : Nat) : Int) := by simp
theorem and1_i64 (x : Nat) (h : x < 4294967296) : bits .and .i64 (x : Int) 1 = ((x % 2 : Nat) : Int) := by
  show IntKind.i64.wrap ((BitVec.ofInt 64 (x : Int) &&& BitVec.ofInt 64 (1 : Int)).toNat : Int) = _
  have e1 : (BitVec.ofInt 64 (x : Int)).toNat = x := by rw [BitVec.toNat_ofInt]; omega
  have e2 : (BitVec.ofInt 64 (1 : Int)).toNat = 1 := by decide
  rw [BitVec.toNat_and, e1, e2, Nat.and_one_is_mod]
  exact IntWalk.i64_in _ (by omega)
theorem bit_val (v j : Nat) (hv : v < 4294967296) : wrap64 (48 + bits BinOp.and IntKind.i64 ((v : Int) / 2 ^ j) 1) % 256 = ((bitM v j).toNat : Int) := by
  have h0 : (v : Int) / 2 ^ j = ((v / 2 ^ j : Nat) : Int) := by rw [pow_intM]; simp
  have h1 : v / 2 ^ j ≤ v := Nat.div_le_self _ _
  have h2 : bits BinOp.and IntKind.i64 ((v : Int) / 2 ^ j) 1 = ((v / 2 ^ j % 2 : Nat) : Int) := by
    rw [h0]
    exact and1_i64 (v / 2 ^ j) (by omega)
  rw [h2]
  have h3 : v / 2 ^ j % 2 = 0 ∨ v / 2 ^ j % 2 = 1 := by omega
  unfold bitM
  rcases h3 with h3 | h3 <;> rw [h3] <;> simp [wrap64]
theorem mark_len (k : Nat) : (markT k).length = 16 := up_length _ _
theorem mark_cub (k : Nat) : Cub (markT k) 16 (careF (markT k)) (onesF (markT k)) := by
  refine ⟨(mark_len k).symm, rfl, rfl, by rw [mark_len]; decide, ?_⟩
  unfold markT up
  rw [List.all_map, List.all_eq_true]
  intro i _
  show okB (bitM k i) = true
  unfold bitM
  split <;> rfl
theorem parseE_mark (k : Nat) : parseE (markT k) = 0 := by
  unfold parseE
  have h := mark_cub k
  rw [if_neg (by rw [mark_len]; decide), if_neg (fun e => by have := mark_len k; rw [e] at this; cases this), if_pos h.ok]
set_option maxRecDepth 100000 in
set_option maxHeartbeats 2000000 in
theorem marks_any {n : Nat} {c o : Nat → Bool} (k : Nat) (hk : k < 65536) (hC : Cub (markT k) n c o) (w : World) : Calls Try.prog 4 #[.int .i64 (k : Int)] w fun e w' => e = .returned (cv n c o) ∧ Below w.heap.size w w' := by
  have HC := Lib.hid hC
  clear hC
  have HM := Lib.hid (show markT k = up (bitM k) 16 from rfl)
  go_enter Try.func4, Try.ntmps4
  go_wp2_with fail
  go_loopw [3, 4] (fun u i wr => ∃ j : Nat, j ≤ 16 ∧ i = .int .i64 (j : Int) ∧ wr.ownsRow (w.heap.size + 1) 5 1 u j ((up (bitM k) j).map bv) ∧ Blk wr w.heap.size 27 #[.int .i64 0, .int .u64 0, .int .u64 0, .int .u64 0, .int .u64 0, .int .u64 0, .int .u64 0, .int .u64 0, .int .u64 0] ∧ Below w.heap.size w wr ∧ w.heap.size < wr.heap.size) (fun _ i _ => 16 - (intOf i).toNat)
  case atStart => exact ⟨0, Nat.zero_le _, rfl, World.ownsRow_nil _ _ _ _, Blk.new _ _ _, bal (Below.refl _ _) _, by simp⟩
  case round =>
    obtain ⟨j, hj, rfl, hown, hbl, hbel, hsz⟩ := hrel
    have HO := Lib.hid hown
    clear hown
    have HB := Lib.hid hbl
    clear hbl
    by_cases hlt : j < 16
    · have hval := bit_val k j (by omega)
      go_wp2_with (at_builtin; refine app_byte (bitM k j) HO.out rfl rfl rfl rfl (by omega) hsz ?_; intro v' w2 hown2 hb2)
      go_roundw
      case rel => exact ⟨j + 1, by omega, by go_num, by rw [up_succ]; exact hown2, HB.out.below hb2 (by omega), hbel.trans (hb2.mono (by omega)), by have := hb2.size; omega⟩
      case measure => first | (simp [intOf]; done) | (simp [intOf]; omega)
    · obtain rfl : j = 16 := by omega
      have hst := str_own HO.out
      rw [← HM.out] at hst
      go_wp2_with fail
      refine (parse_of HC.out (str (markT k)) (str_list _) _).mono ?_
      rintro e w1 ⟨rfl, hb1⟩
      have hR := HB.out.below hb1 HB.out.lt
      have g1 := bnx hbel hb1
      clear hst hb1 hbel HO HM hsz hj hlt
      generalize parseE (markT k) = pe
      go_upto_region 7 with fail
      have hA := hR.alloc (.cells (cs n c o) 27)
      have hN := Blk.new w1 27 (cs n c o)
      have gW := bal g1 (.cells (cs n c o) 27)
      have hne : w.heap.size ≠ w1.heap.size := Nat.ne_of_lt hR.lt
      revert hA hN gW
      unfold cs wv
      generalize w1.alloc _ = W
      generalize w1.heap.size = g2 at *
      intro hA hN gW
      have hf := hA.frozen
      have hl1 := hA.lt
      have hl2 := hN.lt
      have hc1 := hA.cell
      have hc2 := hN.cell
      clear hR g1
      go_wp2_with fail
      refine bodyPost_ret (v := .agg #[.int .i64 n, .int .u64 (wd c 0), .int .u64 (wd c 1), .int .u64 (wd c 2), .int .u64 (wd c 3), .int .u64 (wd o 0), .int .u64 (wd o 1), .int .u64 (wd o 2), .int .u64 (wd o 3)]) (by simp [results, Try.results4, go_sem, hc1]) rfl ⟨rfl, ?_⟩
      refine Below.trans gW ?_
      go_grown
end Go.Proofs.Ytoglcocplpdlhaa.Tn
