import Derived.Test.YtdiijannpfogdaaRows
import Derived.Test.YtdiijannpfogdaaMem
import Derived.WalkKit
import Derived.ChangeKeysEq
namespace Go.Proofs.Ytdiijannpfogdaa.Tn
open Go.RowKit
theorem info_u64 : (Try.prog.info? 26).map (fun i => (i.zero, i.size, i.bytes)) = some (some (.int .u64 0), 1, 8) := by kernel_rfl
theorem cells_u64 : Try.prog.cellsOf 26 = 1 := by kernel_rfl
theorem range4 : List.range 4 = [0, 1, 2, 3] := rfl
theorem ite_ok (p : Prop) [Decidable p] (x y : Bool) (w : World) : (if p then Result.ok x w else Result.ok y w) = Result.ok (if p then x else y) w := by split <;> rfl
set_option maxHeartbeats 400000 in
theorem eq_arr (d : Nat) (a0 a1 a2 a3 b0 b1 b2 b3 : Int) (w : World) :
    (Op.equalIn (d + 2) 28 (.agg #[.int .u64 a0, .int .u64 a1, .int .u64 a2, .int .u64 a3]) (.agg #[.int .u64 b0, .int .u64 b1, .int .u64 b2, .int .u64 b3])).run Try.prog w = .ok (a0 == b0 && a1 == b1 && a2 == b2 && a3 == b3) w := by
  obtain ⟨i0, hi, hz0, hz1, hz2⟩ := info_parts info_u64
  rw [run_equalIn_array w (d + 1) _ _ Try.underlying28 hi, cells_u64, range4]
  simp [Op.eqItems, go_sem]
  simp only [ite_ok]
  congr 1
  by_cases h0 : a0 = b0 <;> by_cases h1 : a1 = b1 <;> by_cases h2 : a2 = b2 <;> by_cases h3 : a3 = b3 <;> simp [h0, h1, h2, h3]
attribute [local go_sem] eq_arr
set_option maxHeartbeats 400000 in
theorem eq_cube (n a0 a1 a2 a3 c0 c1 c2 c3 m b0 b1 b2 b3 d0 d1 d2 d3 : Int) (w : World) :
    (Op.equalIn 10000 30 (.agg #[.int .i64 n, .int .u64 a0, .int .u64 a1, .int .u64 a2, .int .u64 a3, .int .u64 c0, .int .u64 c1, .int .u64 c2, .int .u64 c3])
      (.agg #[.int .i64 m, .int .u64 b0, .int .u64 b1, .int .u64 b2, .int .u64 b3, .int .u64 d0, .int .u64 d1, .int .u64 d2, .int .u64 d3])).run Try.prog w =
    .ok (n == m && (a0 == b0 && a1 == b1 && a2 == b2 && a3 == b3) && (c0 == d0 && c1 == d1 && c2 == d2 && c3 == d3)) w := by
  simp [go_sem]
  by_cases hn : n = m
  · rw [if_pos hn]
    by_cases ha : a0 = b0 ∧ a1 = b1 ∧ a2 = b2 ∧ a3 = b3
    · obtain ⟨rfl, rfl, rfl, rfl⟩ := ha
      by_cases hc : c0 = d0 ∧ c1 = d1 ∧ c2 = d2 ∧ c3 = d3
      · obtain ⟨rfl, rfl, rfl, rfl⟩ := hc
        simp [hn]
      · rw [if_neg (by simp), if_pos (fun h0 h1 h2 h3 => hc ⟨h0, h1, h2, h3⟩)]
        simp [hn]
        exact fun h0 h1 h2 h3 => hc ⟨h0, h1, h2, h3⟩
    · rw [if_pos (fun h0 h1 h2 h3 => ha ⟨h0, h1, h2, h3⟩)]
      simp [hn]
      exact fun h0 h1 h2 h3 => absurd ⟨h0, h1, h2, h3⟩ ha
  · rw [if_neg hn]
    simp [hn]
/-- Two cubes by ==, as the walk asks it. -/
theorem wd_beq (n m : Nat) (c o c' o' : Nat → Bool) : (((n : Int) == (m : Int)) && (((wd c 0 : Nat) : Int) == (wd c' 0 : Nat) && ((wd c 1 : Nat) : Int) == (wd c' 1 : Nat) && ((wd c 2 : Nat) : Int) == (wd c' 2 : Nat) && ((wd c 3 : Nat) : Int) == (wd c' 3 : Nat)) &&
    (((wd o 0 : Nat) : Int) == (wd o' 0 : Nat) && ((wd o 1 : Nat) : Int) == (wd o' 1 : Nat) && ((wd o 2 : Nat) : Int) == (wd o' 2 : Nat) && ((wd o 3 : Nat) : Int) == (wd o' 3 : Nat))) = true ↔ (n = m ∧ (∀ i, i < 256 → c i = c' i) ∧ ∀ i, i < 256 → o i = o' i) := by
  have key : ∀ f g : Nat → Bool, ((((wd f 0 : Nat) : Int) == (wd g 0 : Nat) && ((wd f 1 : Nat) : Int) == (wd g 1 : Nat) && ((wd f 2 : Nat) : Int) == (wd g 2 : Nat) && ((wd f 3 : Nat) : Int) == (wd g 3 : Nat)) = true) ↔ ∀ i, i < 256 → f i = g i := by
    intro f g
    simp only [Bool.and_eq_true, beq_iff_eq, Int.natCast_inj]
    constructor
    · rintro ⟨⟨⟨h0, h1⟩, h2⟩, h3⟩ i hi
      have e : 64 * (i / 64) + i % 64 = i := by omega
      have hm : i % 64 < 64 := by omega
      have hk : i / 64 = 0 ∨ i / 64 = 1 ∨ i / 64 = 2 ∨ i / 64 = 3 := by omega
      rw [← e]
      rcases hk with hk | hk | hk | hk <;> rw [hk]
      · exact wd_inj h0 _ hm
      · exact wd_inj h1 _ hm
      · exact wd_inj h2 _ hm
      · exact wd_inj h3 _ hm
    · intro h
      exact ⟨⟨⟨wd_congr fun j hj => h _ (by omega), wd_congr fun j hj => h _ (by omega)⟩, wd_congr fun j hj => h _ (by omega)⟩, wd_congr fun j hj => h _ (by omega)⟩
  rw [Bool.and_eq_true, Bool.and_eq_true, key, key]
  simp [Int.natCast_inj, and_assoc]
end Go.Proofs.Ytdiijannpfogdaa.Tn
