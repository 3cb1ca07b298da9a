/- tern's words, Parse and Text, ported -/
import Derived.WalkKit
import Derived.Test.YtlakglphjhoodaaDoorRows
import Derived.BigQuiet
import Derived.BigRegion
import Derived.Deep.QuietTactic
import Derived.Handy
import Derived.Lib.Hide
import Derived.Deep.Draws
import Derived.Maps.AppendAt
import Derived.Laws.BytesArg
import Derived.StillTailTactics
namespace Go.Proofs.YtlakglphjhoodaaDoor.Tn
set_option linter.unusedVariables false
set_option linter.unusedSimpArgs false
set_option linter.unusedSectionVars false
def wb (f : Nat → Bool) (b : Nat) : Nat → Nat
  | 0 => 0
  | n + 1 => wb f b n + (if f (b + n) then 2 ^ n else 0)
theorem wb_lt (f : Nat → Bool) (b n : Nat) : wb f b n < 2 ^ n := by
  induction n with
  | zero => simp [wb]
  | succ n ih => simp only [wb, Nat.pow_succ]; split <;> omega
theorem wb_bit (f : Nat → Bool) (b n j : Nat) : (wb f b n).testBit j = (decide (j < n) && f (b + j)) := by
  induction n with
  | zero => simp [wb]
  | succ n ih =>
    have hlt := wb_lt f b n
    simp only [wb]
    by_cases hf : f (b + n) = true
    · rw [if_pos hf, Nat.add_comm]
      rcases Nat.lt_trichotomy j n with h | h | h
      · rw [Nat.testBit_two_pow_add_gt h, ih]; simp [h, Nat.lt_succ_of_lt h]
      · subst h; rw [Nat.testBit_two_pow_add_eq, ih]; simp [hf]
      · have : (2 ^ n + wb f b n).testBit j = false := Nat.testBit_lt_two_pow (by
          have : 2 ^ (n+1) ≤ 2 ^ j := Nat.pow_le_pow_right (by omega) (by omega)
          rw [Nat.pow_succ] at this; omega)
        have h2 : ¬ j < n + 1 := by omega
        rw [this]; simp [h2]
    · rw [if_neg hf, Nat.add_zero, ih]
      rcases Nat.lt_trichotomy j n with h | h | h
      · simp [h, Nat.lt_succ_of_lt h]
      · subst h; simp; simpa using hf
      · have h1 : ¬ j < n := by omega
        have h2 : ¬ j < n + 1 := by omega
        simp [h1, h2]
def wd (f : Nat → Bool) (k : Nat) : Nat := wb f (64 * k) 64
theorem wd_lt (f : Nat → Bool) (k : Nat) : wd f k < 18446744073709551616 := wb_lt f _ 64
theorem wd_bit (f : Nat → Bool) (k j : Nat) : (wd f k).testBit j = (decide (j < 64) && f (64 * k + j)) := wb_bit f _ 64 j
theorem eq_wd {x : Nat} {f : Nat → Bool} {k : Nat} (h : ∀ j, x.testBit j = (decide (j < 64) && f (64 * k + j))) : x = wd f k :=
  Nat.eq_of_testBit_eq fun j => by rw [h, wd_bit]
theorem wd_congr {f g : Nat → Bool} {k : Nat} (h : ∀ j, j < 64 → f (64 * k + j) = g (64 * k + j)) : wd f k = wd g k :=
  eq_wd fun j => by rw [wd_bit]; by_cases hj : j < 64 <;> simp [hj, h]
theorem wd_inj {f g : Nat → Bool} {k : Nat} (h : wd f k = wd g k) : ∀ j, j < 64 → f (64 * k + j) = g (64 * k + j) := fun j hj => by
  have := congrArg (·.testBit j) h
  simpa [wd_bit, hj] using this
theorem wd_or (f g : Nat → Bool) (k : Nat) : wd f k ||| wd g k = wd (fun i => f i || g i) k :=
  eq_wd fun j => by rw [Nat.testBit_or, wd_bit, wd_bit]; cases decide (j < 64) <;> simp
theorem wd_and (f g : Nat → Bool) (k : Nat) : wd f k &&& wd g k = wd (fun i => f i && g i) k :=
  eq_wd fun j => by rw [Nat.testBit_and, wd_bit, wd_bit]; cases decide (j < 64) <;> simp
theorem wd_xor (f g : Nat → Bool) (k : Nat) : wd f k ^^^ wd g k = wd (fun i => f i ^^ g i) k :=
  eq_wd fun j => by rw [Nat.testBit_xor, wd_bit, wd_bit]; cases decide (j < 64) <;> simp
theorem not_bit (x j : Nat) (hx : x < 2 ^ 64) : (18446744073709551615 - x).testBit j = (decide (j < 64) && !x.testBit j) := by
  have := Nat.testBit_two_pow_sub_succ (x := x) (n := 64) hx j
  simpa using this
theorem wd_andNot (f g : Nat → Bool) (k : Nat) : wd f k &&& (18446744073709551615 - wd g k) = wd (fun i => f i && !g i) k :=
  eq_wd fun j => by rw [Nat.testBit_and, not_bit _ _ (wd_lt g k), wd_bit, wd_bit]; cases decide (j < 64) <;> simp
theorem wd_zero (k : Nat) : wd (fun _ => false) k = 0 := (eq_wd (x := 0) fun j => by simp).symm
theorem wd_eq_zero {f : Nat → Bool} {k : Nat} : wd f k = 0 ↔ ∀ j, j < 64 → f (64 * k + j) = false := by
  rw [← wd_zero k]
  exact ⟨fun h j hj => wd_inj h j hj, fun h => wd_congr h⟩
def put (f : Nat → Bool) (i : Nat) : Nat → Bool := fun j => f j || decide (j = i)
def drop (f : Nat → Bool) (i : Nat) : Nat → Bool := fun j => f j && !decide (j = i)
theorem two_pow_wd (i : Nat) : 2 ^ (i % 64) = wd (fun j => decide (j = i)) (i / 64) :=
  eq_wd fun j => by
    rw [Nat.testBit_two_pow]
    by_cases h : i % 64 = j
    · have h1 : j < 64 := by omega
      have h2 : 64 * (i / 64) + j = i := by omega
      simp [h, h1, h2]
    · have h2 : ¬ (64 * (i / 64) + j = i ∧ j < 64) := by omega
      by_cases h3 : j < 64
      · have h4 : ¬ 64 * (i / 64) + j = i := fun e => h2 ⟨e, h3⟩
        simp [h, h3, h4]
      · simp [h, h3]
theorem put_wd (f : Nat → Bool) (i : Nat) : wd f (i / 64) ||| 2 ^ (i % 64) = wd (put f i) (i / 64) := by
  rw [two_pow_wd, wd_or]; rfl
theorem put_wd_ne (f : Nat → Bool) (i k : Nat) (h : k ≠ i / 64) : wd (put f i) k = wd f k :=
  wd_congr fun j hj => by
    have : ¬ 64 * k + j = i := by omega
    simp [put, this]
theorem drop_wd (f : Nat → Bool) (i : Nat) : wd f (i / 64) &&& (18446744073709551615 - 2 ^ (i % 64)) = wd (drop f i) (i / 64) := by
  rw [two_pow_wd, wd_andNot]; rfl
theorem drop_wd_ne (f : Nat → Bool) (i k : Nat) (h : k ≠ i / 64) : wd (drop f i) k = wd f k :=
  wd_congr fun j hj => by
    have : ¬ 64 * k + j = i := by omega
    simp [drop, this]
theorem at_wd (f : Nat → Bool) (i : Nat) : (wd f (i / 64)).testBit (i % 64) = f i := by
  rw [wd_bit]
  have h1 : i % 64 < 64 := by omega
  have h2 : 64 * (i / 64) + i % 64 = i := by omega
  simp [h1, h2]
theorem shr_bit (x n : Nat) : ((x / 2 ^ n &&& 1 : Nat) == 1) = x.testBit n := by
  rw [← Nat.shiftRight_eq_div_pow, Nat.testBit]
  have h : (x >>> n &&& 1) = 0 ∨ (x >>> n &&& 1) = 1 := by
    rw [Nat.and_one_is_mod]; omega
  rw [Nat.and_comm 1]
  rcases h with h | h <;> simp [h]
end Go.Proofs.YtlakglphjhoodaaDoor.Tn

namespace Go.Proofs.YtlakglphjhoodaaDoor.Tn
open Go.RowKit

theorem bit_i (x n : Nat) (hx : x < 18446744073709551616) : (bits .and .u64 ((x : Int) / 2 ^ n) 1 == 1) = x.testBit n := by
  have e : ((x : Int) / 2 ^ n) = ((x / 2 ^ n : Nat) : Int) := by simp
  have hlt : x / 2 ^ n < 18446744073709551616 := Nat.lt_of_le_of_lt (Nat.div_le_self ..) hx
  have h2 := u64_and_nat (x / 2 ^ n) 1 hlt (by omega)
  rw [e]
  rw [show (1 : Int) = ((1 : Nat) : Int) from rfl, h2, ← shr_bit]
  rw [Bool.eq_iff_iff]; simp; omega

set_option maxHeartbeats 400000 in
theorem at_any (b off i x : Nat) (w : World) (hi : i < 256) (hx : x < 18446744073709551616) (hc : w.cell? ⟨b, off + i / 64, none⟩ = some (.int .u64 (x : Int))) :
    Calls Tryd.prog 71 #[.pointer (some ⟨b, off, none⟩), .int .i64 (i : Int)] w fun e w' => e = .returned (.bool (x.testBit (i % 64))) ∧ w = w' := by
  go_enter Tryd.func71, Tryd.ntmps71
  go_wp2
  go_ret
  exact ⟨by rw [bit_i x _ hx]; rfl, rfl⟩

theorem or_i (x n : Nat) (hn : n < 64) (hx : x < 18446744073709551616) : bits .or .u64 (x : Int) (IntKind.u64.wrap (2 ^ n)) = ((x ||| 2 ^ n : Nat) : Int) := by
  have hlt : (2 : Nat) ^ n < 18446744073709551616 := Nat.pow_lt_pow_of_lt (by omega) (show n < 64 from hn)
  have e : IntKind.u64.wrap ((2 : Int) ^ n) = ((2 ^ n : Nat) : Int) := by
    rw [show ((2 : Int) ^ n) = ((2 ^ n : Nat) : Int) by simp]
    generalize 2 ^ n = p at hlt
    exact IntWalk.u64_in _ ⟨by omega, by omega⟩
  rw [e]
  exact u64_or_nat x (2 ^ n) hx hlt
theorem andNot_i (x n : Nat) (hn : n < 64) (hx : x < 18446744073709551616) : bits .andNot .u64 (x : Int) (IntKind.u64.wrap (2 ^ n)) = ((x &&& (18446744073709551615 - 2 ^ n) : Nat) : Int) := by
  have hlt : (2 : Nat) ^ n < 18446744073709551616 := Nat.pow_lt_pow_of_lt (by omega) (show n < 64 from hn)
  have e : IntKind.u64.wrap ((2 : Int) ^ n) = ((2 ^ n : Nat) : Int) := by
    rw [show ((2 : Int) ^ n) = ((2 ^ n : Nat) : Int) by simp]
    generalize 2 ^ n = p at hlt
    exact IntWalk.u64_in _ ⟨by omega, by omega⟩
  rw [e]
  exact u64_andNot_nat x (2 ^ n) hx hlt

set_option maxHeartbeats 400000 in
theorem put_any (b off i x : Nat) (w : World) (hi : i < 256) (hx : x < 18446744073709551616) (hc : w.cell? ⟨b, off + i / 64, none⟩ = some (.int .u64 (x : Int)))
   (hf : w.frozen? ⟨b, off + i / 64, none⟩ = false) :
    Calls Tryd.prog 69 #[.pointer (some ⟨b, off, none⟩), .int .i64 (i : Int)] w fun e w' => e = .returned (.tuple #[]) ∧ (w.setCell ⟨b, off + i / 64, none⟩ (.int .u64 ((x ||| 2 ^ (i % 64) : Nat) : Int))).drew = w' := by
  have e1 : IntKind.i64.wrap ((i : Int) / 64) = (i : Int) / 64 := IntWalk.i64_in _ (by omega)
  have e2 : IntKind.i64.wrap ((i : Int) % 64) = (i : Int) % 64 := IntWalk.i64_in _ (by omega)
  have e3 : ((i : Int) / 64).toNat = i / 64 := by omega
  have e4 : ((i : Int) % 64).toNat = i % 64 := by omega
  have e5 : 0 ≤ (i : Int) / 64 := by omega
  have e6 : (i : Int) / 64 < 4 := by omega
  go_enter Tryd.func69, Tryd.ntmps69
  go_wp2
  go_region
  go_end0
  exact ⟨rfl, by rw [or_i x _ (by omega) hx]⟩


end Go.Proofs.YtlakglphjhoodaaDoor.Tn

namespace Go.Proofs.YtlakglphjhoodaaDoor.Tn
open Go.RowKit

def wv (f : Nat → Bool) (k : Nat) : Value := .int .u64 (wd f k : Nat)
def cs (n : Nat) (c o : Nat → Bool) : Array Value := #[.int .i64 n, wv c 0, wv c 1, wv c 2, wv c 3, wv o 0, wv o 1, wv o 2, wv o 3]
def cv (n : Nat) (c o : Nat → Bool) : Value := .agg (cs n c o)
def no : Nat → Bool := fun _ => false

def Blk (w : World) (g : Nat) (t : TypeId) (cs : Array Value) : Prop := w.heap[g]? = some (.cells cs t (0, 0))
section
variable {w w' : World} {g : Nat} {t : TypeId} {cs : Array Value}
theorem Blk.lt (h : Blk w g t cs) : g < w.heap.size := by
  rcases Nat.lt_or_ge g w.heap.size with hlt | hge
  · exact hlt
  · unfold Blk at h; rw [Array.getElem?_eq_none hge] at h; cases h
theorem Blk.cell (h : Blk w g t cs) (i : Nat) : w.cell? ⟨g, i, none⟩ = cs[i]? := cell_of_row w g i cs t (0, 0) h
theorem Blk.frozen (h : Blk w g t cs) (i : Nat) : w.frozen? ⟨g, i, none⟩ = false := by
  unfold Blk at h
  simp [World.frozen?, h]
theorem Blk.new (w : World) (t : TypeId) (cs : Array Value) : Blk (w.alloc (.cells cs t)) w.heap.size t cs := heap_alloc_new w _
theorem Blk.drew (h : Blk w g t cs) : Blk w.drew g t cs := h
theorem Blk.drewN (h : Blk w g t cs) (n : Nat) : Blk (w.drewN n) g t cs := h
theorem Blk.alloc (h : Blk w g t cs) (o : Obj) : Blk (w.alloc o) g t cs := (Below.heap_alloc w o g h.lt).trans h
theorem Blk.set_ (h : Blk w g t cs) (i : Nat) (u : Value) : Blk (w.setCell ⟨g, i, none⟩ u) g t (cs.setIfInBounds i u) := by
  unfold Blk at h ⊢
  simp [World.setCell, Array.getElem?_modify, h]
theorem Blk.far (h : Blk w g t cs) {p : Addr} (hp : g ≠ p.block) (u : Value) : Blk (w.setCell p u) g t cs := (Below.heap_setCell w p u g hp).trans h
theorem Blk.below {B : Nat} (h : Blk w g t cs) (hb : Below B w w') (hg : g < B) : Blk w' g t cs := (hb.block g hg).trans h
theorem Blk.grown {row : Option Nat} (h : Blk w g t cs) (hb : w.grownBy w' row) (hg : some g ≠ row) : Blk w' g t cs := (hb.block g h.lt hg).trans h
end

theorem only_set (w : World) (g i : Nat) (u : Value) : w.grownBy (w.setCell ⟨g, i, none⟩ u) (some g) :=
  ⟨rfl, rfl, rfl, by simp [World.setCell], fun k hk hne => Below.heap_setCell w _ u k (fun e => hne (by rw [e]))⟩

theorem cs_care (n : Nat) (c o : Nat → Bool) (k : Nat) (hk : k < 4) : (cs n c o)[1 + k]? = some (wv c k) := by
  match k, hk with
  | 0, _ => rfl
  | 1, _ => rfl
  | 2, _ => rfl
  | 3, _ => rfl
theorem cs_ones (n : Nat) (c o : Nat → Bool) (k : Nat) (hk : k < 4) : (cs n c o)[5 + k]? = some (wv o k) := by
  match k, hk with
  | 0, _ => rfl
  | 1, _ => rfl
  | 2, _ => rfl
  | 3, _ => rfl
theorem cs_set_care (n : Nat) (c c' o : Nat → Bool) (k : Nat) (hk : k < 4) (h : ∀ j, j ≠ k → wd c' j = wd c j) : (cs n c o).setIfInBounds (1 + k) (wv c' k) = cs n c' o := by
  have hj : ∀ j, j ≠ k → wv c j = wv c' j := fun j e => by unfold wv; rw [h j e]
  match k, hk, hj with
  | 0, _, hj => simp [cs, hj 1, hj 2, hj 3]
  | 1, _, hj => simp [cs, hj 0, hj 2, hj 3]
  | 2, _, hj => simp [cs, hj 0, hj 1, hj 3]
  | 3, _, hj => simp [cs, hj 0, hj 1, hj 2]
theorem cs_set_ones (n : Nat) (c o o' : Nat → Bool) (k : Nat) (hk : k < 4) (h : ∀ j, j ≠ k → wd o' j = wd o j) : (cs n c o).setIfInBounds (5 + k) (wv o' k) = cs n c o' := by
  have hj : ∀ j, j ≠ k → wv o j = wv o' j := fun j e => by unfold wv; rw [h j e]
  match k, hk, hj with
  | 0, _, hj => simp [cs, hj 1, hj 2, hj 3]
  | 1, _, hj => simp [cs, hj 0, hj 2, hj 3]
  | 2, _, hj => simp [cs, hj 0, hj 1, hj 3]
  | 3, _, hj => simp [cs, hj 0, hj 1, hj 2]

theorem wv_no (k : Nat) : wv no k = .int .u64 0 := by unfold wv no; rw [wd_zero]; rfl
theorem cs_zero : cs 0 no no = #[.int .i64 0, .int .u64 0, .int .u64 0, .int .u64 0, .int .u64 0, .int .u64 0, .int .u64 0, .int .u64 0, .int .u64 0] := by
  simp [cs, wv_no]
theorem cs_no (n : Nat) : cs n no no = #[.int .i64 n, .int .u64 0, .int .u64 0, .int .u64 0, .int .u64 0, .int .u64 0, .int .u64 0, .int .u64 0, .int .u64 0] := by
  simp [cs, wv_no]
theorem cv_zero : cv 0 no no = .agg #[.int .i64 0, .int .u64 0, .int .u64 0, .int .u64 0, .int .u64 0, .int .u64 0, .int .u64 0, .int .u64 0, .int .u64 0] := by
  unfold cv; rw [cs_zero]
def okB (b : UInt8) : Bool := b == 48 || b == 49 || b == 120
def parseE (t : List UInt8) : Int := if 256 < t.length then 2 else if t = [] then 10 else if t.all okB then 0 else 10
def cubeT (t : List UInt8) : List UInt8 := if parseE t = 0 then t else []
def careF (t : List UInt8) : Nat → Bool := fun i => t[i]? == some 48 || t[i]? == some 49
def onesF (t : List UInt8) : Nat → Bool := fun i => t[i]? == some 49
def cu (t : List UInt8) : Value := cv t.length (careF t) (onesF t)

theorem careF_nil : careF [] = no := by funext i; simp [careF, no]
theorem onesF_nil : onesF [] = no := by funext i; simp [onesF, no]

theorem len_s (s : ByteArray) : s.data.toList.length = s.size := by rw [Array.length_toList]; rfl
theorem parse_done (s : ByteArray) (k : Nat) (hk : k ≤ s.size) (hk2 : s.size ≤ k) (h : s.size ≤ 256) (h0 : 0 < s.size) (hall : (s.data.toList.take k).all okB = true) :
    cu (cubeT s.data.toList) = cv s.size (careF (s.data.toList.take k)) (onesF (s.data.toList.take k)) ∧ parseE s.data.toList = 0 := by
  have hl := len_s s
  rw [List.take_of_length_le (by omega)] at hall ⊢
  have e : parseE s.data.toList = 0 := by
    unfold parseE
    rw [if_neg (by omega), if_neg (by intro e; rw [e] at hl; simp at hl; omega), if_pos hall]
  refine ⟨?_, e⟩
  unfold cubeT cu
  rw [if_pos e, hl]
theorem parse_bad (s : ByteArray) (k : Nat) (hk : k < s.size) (h : s.size ≤ 256) (h0 : 0 < s.size) (hb : okB s[k] = false) : parseE s.data.toList = 10 := by
  have hl := len_s s
  unfold parseE
  rw [if_neg (by omega), if_neg (by intro e; rw [e] at hl; simp at hl; omega), if_neg]
  intro hall
  have := List.all_eq_true.1 hall s[k] (by
    rw [Array.mem_toList_iff]
    exact Array.getElem_mem hk)
  rw [hb] at this
  cases this
theorem take_at (t : List UInt8) (k : Nat) (b : UInt8) (h : t[k]? = some b) (i : Nat) : (t.take (k + 1))[i]? = if i = k then some b else (t.take k)[i]? := by
  by_cases e : i = k
  · subst e; rw [if_pos rfl, List.getElem?_take_of_lt (by omega), h]
  · rw [if_neg e]
    by_cases h1 : i < k
    · rw [List.getElem?_take_of_lt (by omega), List.getElem?_take_of_lt h1]
    · rw [List.getElem?_eq_none (by rw [List.length_take]; omega), List.getElem?_eq_none (by rw [List.length_take]; omega)]
theorem careF_snoc (t : List UInt8) (k : Nat) (b : UInt8) (h : t[k]? = some b) : careF (t.take (k + 1)) = if b = 48 ∨ b = 49 then put (careF (t.take k)) k else careF (t.take k) := by
  have hk : (t.take k)[k]? = none := List.getElem?_eq_none (by rw [List.length_take]; omega)
  funext i
  by_cases e : i = k
  · subst e
    simp only [careF, take_at t i b h, if_true]
    split
    · rename_i hb; rcases hb with rfl | rfl <;> simp [put]
    · rename_i hb
      have h1 : ¬ b = 48 := fun e => hb (.inl e)
      have h2 : ¬ b = 49 := fun e => hb (.inr e)
      simp [careF, hk, h1, h2]
  · simp only [careF, take_at t k b h, if_neg e]
    split
    · simp [put, e, careF]
    · rfl
theorem onesF_snoc (t : List UInt8) (k : Nat) (b : UInt8) (h : t[k]? = some b) : onesF (t.take (k + 1)) = if b = 49 then put (onesF (t.take k)) k else onesF (t.take k) := by
  have hk : (t.take k)[k]? = none := List.getElem?_eq_none (by rw [List.length_take]; omega)
  funext i
  by_cases e : i = k
  · subst e
    simp only [onesF, take_at t i b h, if_true]
    split
    · rename_i hb; subst hb; simp [put]
    · rename_i hb; simp [onesF, hk, hb]
  · simp only [onesF, take_at t k b h, if_neg e]
    split
    · simp [put, e, onesF]
    · rfl
end Go.Proofs.YtlakglphjhoodaaDoor.Tn

namespace Go.Proofs.YtlakglphjhoodaaDoor.Tn
open Go.RowKit

theorem gtrans {a b c : World} {row : Option Nat} (h : a.grownBy b row) (k : b.grownBy c row) : a.grownBy c row :=
  ⟨k.os.trans h.os, k.tape.trans h.tape, k.output.trans h.output, Nat.le_trans h.size k.size, fun i hi hn => (k.block i (Nat.lt_of_lt_of_le hi h.size) hn).trans (h.block i hi hn)⟩
theorem put_ones (B i n : Nat) (c o : Nat → Bool) (t : TypeId) (w : World) (hi : i < 256) (h : Blk w B t (cs n c o)) :
    Calls Tryd.prog 69 #[.pointer (some ⟨B, 5, none⟩), .int .i64 (i : Int)] w fun e w' => e = .returned (.tuple #[]) ∧ Blk w' B t (cs n c (put o i)) ∧ w.grownBy w' (some B) := by
  have hk : i / 64 < 4 := by omega
  refine (put_any B 5 i (wd o (i / 64)) w hi (wd_lt _ _) ((h.cell _).trans (cs_ones n c o _ hk)) (h.frozen _)).mono ?_
  rintro e w' ⟨rfl, rfl⟩
  refine ⟨rfl, ?_, ?_⟩
  · rw [put_wd]
    have h2 := h.set_ (5 + i / 64) (wv (put o i) (i / 64))
    rw [cs_set_ones n c o (put o i) _ hk (fun j hj => put_wd_ne o i j hj)] at h2
    exact h2.drew
  · have h2 := only_set w B (5 + i / 64) (.int .u64 ((wd o (i / 64) ||| 2 ^ (i % 64) : Nat) : Int))
    exact ⟨h2.os, h2.tape, h2.output, h2.size, h2.block⟩
theorem put_care (B i n : Nat) (c o : Nat → Bool) (t : TypeId) (w : World) (hi : i < 256) (h : Blk w B t (cs n c o)) :
    Calls Tryd.prog 69 #[.pointer (some ⟨B, 1, none⟩), .int .i64 (i : Int)] w fun e w' => e = .returned (.tuple #[]) ∧ Blk w' B t (cs n (put c i) o) ∧ w.grownBy w' (some B) := by
  have hk : i / 64 < 4 := by omega
  refine (put_any B 1 i (wd c (i / 64)) w hi (wd_lt _ _) ((h.cell _).trans (cs_care n c o _ hk)) (h.frozen _)).mono ?_
  rintro e w' ⟨rfl, rfl⟩
  refine ⟨rfl, ?_, ?_⟩
  · rw [put_wd]
    have h2 := h.set_ (1 + i / 64) (wv (put c i) (i / 64))
    rw [cs_set_care n c (put c i) o _ hk (fun j hj => put_wd_ne c i j hj)] at h2
    exact h2.drew
  · have h2 := only_set w B (1 + i / 64) (.int .u64 ((wd c (i / 64) ||| 2 ^ (i % 64) : Nat) : Int))
    exact ⟨h2.os, h2.tape, h2.output, h2.size, h2.block⟩
theorem at_care (B i n : Nat) (c o : Nat → Bool) (t : TypeId) (w : World) (hi : i < 256) (h : Blk w B t (cs n c o)) :
    Calls Tryd.prog 71 #[.pointer (some ⟨B, 1, none⟩), .int .i64 (i : Int)] w fun e w' => e = .returned (.bool (c i)) ∧ w = w' := by
  have hk : i / 64 < 4 := by omega
  have := at_any B 1 i (wd c (i / 64)) w hi (wd_lt _ _) ((h.cell _).trans (cs_care n c o _ hk))
  rw [at_wd] at this
  exact this
theorem at_ones (B i n : Nat) (c o : Nat → Bool) (t : TypeId) (w : World) (hi : i < 256) (h : Blk w B t (cs n c o)) :
    Calls Tryd.prog 71 #[.pointer (some ⟨B, 5, none⟩), .int .i64 (i : Int)] w fun e w' => e = .returned (.bool (o i)) ∧ w = w' := by
  have hk : i / 64 < 4 := by omega
  have := at_any B 5 i (wd o (i / 64)) w hi (wd_lt _ _) ((h.cell _).trans (cs_ones n c o _ hk))
  rw [at_wd] at this
  exact this

theorem isEmpty_no (s : ByteArray) (h : 0 < s.size) : s.toList.isEmpty = false := by
  rw [ByteArray.toList_eq]
  have : s.data.toList.length = s.size := by rw [Array.length_toList]; rfl
  cases hl : s.data.toList with
  | nil => rw [hl] at this; simp at this; omega
  | cons b l => rfl
theorem isEmpty_yes (s : ByteArray) (h : s.size = 0) : s.toList.isEmpty = true := by
  rw [ByteArray.toList_eq]
  have : s.data.toList.length = s.size := by rw [Array.length_toList]; rfl
  cases hl : s.data.toList with
  | nil => rfl
  | cons b l => rw [hl] at this; simp at this; omega

set_option maxHeartbeats 400000 in
theorem parse_long (s : ByteArray) (w : World) (hs : s.size ≤ maxLen) (h : 256 < s.size) :
    Calls Tryd.prog 59 #[.string s] w fun e w' => e = .returned (.tuple #[cv 0 no no, .int .i64 2]) ∧ Below w.heap.size w w' := by
  unfold maxLen at hs
  go_enter Tryd.func59, Tryd.ntmps59
  go_wp2
  refine bodyPost_ret (v := .tuple #[.agg #[.int .i64 0, .int .u64 0, .int .u64 0, .int .u64 0, .int .u64 0, .int .u64 0, .int .u64 0, .int .u64 0, .int .u64 0], .int .i64 2]) (by simp [results, Tryd.results59, go_sem]) rfl ⟨?_, ?_⟩
  · rw [cv_zero]
  · go_grown
set_option maxHeartbeats 400000 in
theorem parse_empty (s : ByteArray) (w : World) (h : s.size = 0) :
    Calls Tryd.prog 59 #[.string s] w fun e w' => e = .returned (.tuple #[cv 0 no no, .int .i64 10]) ∧ Below w.heap.size w w' := by
  have he := isEmpty_yes s h
  have h1 : s.size ≤ 256 := by omega
  clear h
  go_enter Tryd.func59, Tryd.ntmps59
  go_wp2
  refine bodyPost_ret (v := .tuple #[.agg #[.int .i64 0, .int .u64 0, .int .u64 0, .int .u64 0, .int .u64 0, .int .u64 0, .int .u64 0, .int .u64 0, .int .u64 0], .int .i64 10]) (by simp [results, Tryd.results59, go_sem]) rfl ⟨?_, ?_⟩
  · rw [cv_zero]
  · go_grown
theorem is49 {b : UInt8} (h : b = 49) : ((b.toNat : Int) == 49) = true := by subst h; rfl
theorem is48 {b : UInt8} (h : b = 48) : ((b.toNat : Int) == 48) = true := by subst h; rfl
theorem is120 {b : UInt8} (h : b = 120) : ((b.toNat : Int) == 120) = true := by subst h; rfl
theorem not_byte {b c : UInt8} (h : ¬ b = c) : ((b.toNat : Int) == (c.toNat : Int)) = false := by
  rw [beq_eq_false_iff_ne]
  intro e
  exact h (UInt8.toNat_inj.1 (by omega))
theorem not49 {b : UInt8} (h : ¬ b = 49) : ((b.toNat : Int) == 49) = false := not_byte h
theorem not48 {b : UInt8} (h : ¬ b = 48) : ((b.toNat : Int) == 48) = false := not_byte h
theorem not120 {b : UInt8} (h : ¬ b = 120) : ((b.toNat : Int) == 120) = false := not_byte h
attribute [local go_sem] cs wv
set_option maxHeartbeats 400000 in
theorem parse_loop (s : ByteArray) (w : World) (h : s.size ≤ 256) (h0 : 0 < s.size) :
    Calls Tryd.prog 59 #[.string s] w fun e w' => e = .returned (.tuple #[cu (cubeT s.data.toList), .int .i64 (parseE s.data.toList)]) ∧ Below w.heap.size w w' := by
  have he := isEmpty_no s h0
  go_enter Tryd.func59, Tryd.ntmps59
  go_wp2
  go_loopw [18] (fun i wr => ∃ k : Nat, k ≤ s.size ∧ i = .int .i64 k ∧ Blk wr w.heap.size 114 (cs 0 no no) ∧ Blk wr (w.heap.size + 1) 114 (cs s.size (careF (s.data.toList.take k)) (onesF (s.data.toList.take k))) ∧ (s.data.toList.take k).all okB = true ∧ Below w.heap.size w wr) (fun i _ => s.size - (intOf i).toNat)
  case atStart =>
    refine ⟨0, Nat.zero_le _, rfl, ?_, ?_, rfl, by go_grown⟩
    · rw [cs_zero]
      exact (Blk.new _ _ _).alloc _
    · rw [List.take_zero, careF_nil, onesF_nil, cs_no]
      have := Blk.new (w.alloc (.cells (cs 0 no no) 114)) 114 (cs s.size no no)
      rw [cs_zero, cs_no, World.size_alloc] at this
      exact this
  case round =>
    obtain ⟨k, hk, rfl, hb0, hb1, hall, hbel⟩ := hrel
    by_cases hlt : k < s.size
    · have hb : s.data.toList[k]? = some s[k] := by
        rw [Array.getElem?_toList]; exact Array.getElem?_eq_getElem hlt
      have hlt' : k < 256 := by omega
      have hcs := careF_snoc s.data.toList k s[k] hb
      have hos := onesF_snoc s.data.toList k s[k] hb
      have hal : (s.data.toList.take (k + 1)).all okB = okB s[k] := by
        rw [List.take_add_one, List.all_append, hall, hb]; simp
      have HS := Lib.hid (And.intro hcs (And.intro hos hal))
      clear hcs hos hal
      have HB := Lib.hid hb
      clear hb
      by_cases h49 : s[k] = 49
      · have t49 := is49 h49
        have H49 := Lib.hid h49
        clear h49
        go_wp2_with fail
        refine (put_ones (w.heap.size + 1) k s.size _ _ 114 wr hlt' hb1).mono ?_
        rintro e w1 ⟨rfl, hb2, hg⟩
        go_wp2_with fail
        refine (put_care (w.heap.size + 1) k s.size _ _ 114 w1 hlt' hb2).mono ?_
        rintro e w2 ⟨rfl, hb3, hg2⟩
        go_wp2_with fail
        have hz : w.heap.size + 1 < wr.heap.size := hb1.lt
        have hg3 := gtrans hg hg2
        go_roundw
        case rel =>
          obtain ⟨h1, h2, h3⟩ := HS.out
          have e := H49.out
          refine ⟨k + 1, by omega, by go_num, hb0.grown hg3 (by simp), ?_, by rw [h3, e]; rfl, hbel.grown hg3 (by omega) (fun j hj => by cases hj; omega)⟩
          rw [h1, h2, if_pos (.inr e), if_pos e]
          exact hb3
        case measure => simp [intOf]; omega
      · have t49 := not49 h49
        have H49 := Lib.hid h49
        clear h49
        by_cases h48 : s[k] = 48
        · have t48 := is48 h48
          have H48 := Lib.hid h48
          clear h48
          go_wp2_with fail
          refine (put_care (w.heap.size + 1) k s.size _ _ 114 wr hlt' hb1).mono ?_
          rintro e w1 ⟨rfl, hb2, hg⟩
          go_wp2_with fail
          have hz : w.heap.size + 1 < wr.heap.size := hb1.lt
          go_roundw
          case rel =>
            obtain ⟨h1, h2, h3⟩ := HS.out
            have e := H48.out
            refine ⟨k + 1, by omega, by go_num, hb0.grown hg (by simp), ?_, by rw [h3, e]; rfl, hbel.grown hg (by omega) (fun j hj => by cases hj; omega)⟩
            rw [h1, h2, if_pos (.inl e), if_neg H49.out]
            exact hb2
          case measure => simp [intOf]; omega
        · have t48 := not48 h48
          have H48 := Lib.hid h48
          clear h48
          by_cases h120 : s[k] = 120
          · have t120 := is120 h120
            have H120 := Lib.hid h120
            clear h120
            go_wp2_with fail
            go_roundw
            case rel =>
              obtain ⟨h1, h2, h3⟩ := HS.out
              have e := H120.out
              refine ⟨k + 1, by omega, by go_num, hb0, ?_, by rw [h3, e]; rfl, hbel⟩
              rw [h1, h2, if_neg (fun h => h.elim H48.out H49.out), if_neg H49.out]
              exact hb1
            case measure => simp [intOf]; omega
          · have t120 := not120 h120
            have H120 := Lib.hid h120
            clear h120
            have hc0 := hb0.cell
            have hf0 := hb0.frozen
            rw [cs_zero] at hc0
            go_wp2_with fail
            refine bodyPost_ret (v := .tuple #[.agg #[.int .i64 0, .int .u64 0, .int .u64 0, .int .u64 0, .int .u64 0, .int .u64 0, .int .u64 0, .int .u64 0, .int .u64 0], .int .i64 10]) (by simp [results, Tryd.results59, go_sem, hc0]) rfl ⟨?_, ?_⟩
            · have hne : parseE s.data.toList = 10 := parse_bad s k hlt h h0 (by simp [okB, H49.out, H48.out, H120.out])
              rw [hne]
              unfold cubeT cu
              rw [if_neg (by omega), careF_nil, onesF_nil, List.length_nil, cv_zero]
            · refine Below.trans hbel ?_
              go_grown
    · have hc0 := hb0.cell
      have hf0 := hb0.frozen
      have hc1 := hb1.cell
      rw [cs_zero] at hc0
      go_wp2
      refine bodyPost_ret (v := .tuple #[.agg (cs s.size (careF (s.data.toList.take k)) (onesF (s.data.toList.take k))), .int .i64 0]) (by simp [results, Tryd.results59, go_sem, hc0]) rfl ⟨?_, ?_⟩
      · obtain ⟨e1, e2⟩ := parse_done s k hk (by omega) h h0 hall
        rw [e1, e2]; rfl
      · refine Below.trans hbel ?_
        go_grown

theorem parse_any (s : ByteArray) (w : World) (hs : s.size ≤ maxLen) :
    Calls Tryd.prog 59 #[.string s] w fun e w' => e = .returned (.tuple #[cu (cubeT s.data.toList), .int .i64 (parseE s.data.toList)]) ∧ Below w.heap.size w w' := by
  have hl := len_s s
  by_cases h : 256 < s.size
  · have e : parseE s.data.toList = 2 := by unfold parseE; rw [if_pos (by omega)]
    have e2 : cu (cubeT s.data.toList) = cv 0 no no := by unfold cubeT cu; rw [if_neg (by omega), careF_nil, onesF_nil]; rfl
    rw [e, e2]
    exact parse_long s w hs h
  · by_cases h0 : s.size = 0
    · have hn : s.data.toList = [] := List.eq_nil_of_length_eq_zero (by omega)
      have e : parseE s.data.toList = 10 := by rw [hn]; rfl
      have e2 : cu (cubeT s.data.toList) = cv 0 no no := by unfold cubeT cu; rw [if_neg (by omega), careF_nil, onesF_nil]; rfl
      rw [e, e2]
      exact parse_empty s w h0
    · exact parse_loop s w (by omega) (by omega)
end Go.Proofs.YtlakglphjhoodaaDoor.Tn

namespace Go.Proofs.YtlakglphjhoodaaDoor.Tn
open Go.RowKit

def bv (b : UInt8) : Value := .int .u8 (b.toNat : Int)
def str (l : List UInt8) : ByteArray := ⟨l.toArray⟩
theorem str_list (l : List UInt8) : (str l).data.toList = l := rfl
theorem str_size (l : List UInt8) : (str l).size = l.length := by simp [str, ByteArray.size]
theorem str_of (s : ByteArray) : str s.data.toList = s := rfl

theorem bv_getD (l : List UInt8) (i : Nat) (h : i < l.length) : (l.map bv)[i]? = some (.int .u8 ((l.map fun b => (b.toNat : Int)).getD i 0)) := by
  simp [bv, List.getElem?_eq_getElem h]
theorem strOf_map (l : List UInt8) : strOfNums (l.map fun b => (b.toNat : Int)) = str l := by
  unfold strOfNums str
  congr 1
  congr 1
  rw [List.map_map]
  conv => rhs; rw [← List.map_id l]
  apply List.map_congr_left
  intro b _
  simp

section
variable {P : Program} {w : World}
theorem run_string_own {base : Nat} {e src dst : TypeId} {v : Value} {n : Nat} {l : List UInt8} (hs : P.underlying src = some (.slice e)) (he : P.underlying e = some (.int .u8)) (hd : P.underlying dst = some .string)
    (h : w.ownsRow base e 1 v n (l.map bv)) : (convert src dst v).run P w = .ok (.string (str l)) w := by
  have hl : l.length = n := by simpa using h.1
  rcases h.2 with ⟨rfl, hn⟩ | ⟨g, cap, cur, rfl, _, hg, _, _, _, htake⟩
  · have : l = [] := List.eq_nil_of_length_eq_zero (by omega)
    subst this
    exact run_convert_bytes_nil w src e hs he _ _ dst hd
  · have := run_convert_bytes_arg (P := P) w src e hs he g 0 n cap (l.map fun b => (b.toNat : Int)) (by simpa using hl) (fun i hi => by
      rw [Nat.zero_add, cell_of_row w g i cur e (0, 0) hg, ← bv_getD l i (by omega), ← htake, List.getElem?_take_of_lt (by omega), Array.getElem?_toList]) dst hd
    rw [this, strOf_map]
theorem run_string_blk {e src dst : TypeId} {g n cap : Nat} {l : List UInt8} (hs : P.underlying src = some (.slice e)) (he : P.underlying e = some (.int .u8)) (hd : P.underlying dst = some .string)
    (hl : l.length = n) (h : Blk w g e (l.map bv).toArray) : (convert src dst (.slice (some ⟨g, 0, none⟩) n cap)).run P w = .ok (.string (str l)) w := by
  have := run_convert_bytes_arg (P := P) w src e hs he g 0 n cap (l.map fun b => (b.toNat : Int)) (by simpa using hl) (fun i hi => by
      rw [Nat.zero_add, h.cell, ← bv_getD l i (by omega), List.getElem?_toArray]) dst hd
  rw [this, strOf_map]
end

theorem made_bytes (n : Nat) : madeCells #[Value.int .u8 0] n = ((List.replicate n (0 : UInt8)).map bv).toArray := by
  apply Array.toList_inj.1
  rw [toList_madeCells_one, List.map_replicate]; rfl

theorem set_take {l t : List UInt8} {k : Nat} {b : UInt8} (hk : k < l.length) (h : l.take k = t.take k) (hb : t[k]? = some b) : (l.set k b).take (k + 1) = t.take (k + 1) := by
  rw [List.take_add_one, List.take_add_one, List.take_set_of_le (by omega), h, hb]
  simp [hk]

theorem blk_put {w : World} {g : Nat} {e : TypeId} {l : List UInt8} (k : Nat) (b : UInt8) (h : Blk w g e (l.map bv).toArray) : Blk (w.setCell ⟨g, k, none⟩ (bv b)) g e ((l.set k b).map bv).toArray := by
  have := h.set_ k (bv b)
  rw [List.map_set]
  simpa using this
theorem own_form {w : World} {base : Nat} {e : TypeId} {size : Nat} {v : Value} {n : Nat} {xs : List Value} (h : w.ownsRow base e size v n xs) (hn : 0 < n) : ∃ g cap, v = .slice (some ⟨g, 0, none⟩) n cap ∧ base ≤ g ∧ g < w.heap.size := by
  rcases h.2 with ⟨_, h0⟩ | ⟨g, cap, cur, rfl, hb, hg, _⟩
  · omega
  · exact ⟨g, cap, rfl, hb, (Array.getElem?_eq_some_iff.1 hg).1⟩
theorem own_len {w : World} {base : Nat} {e : TypeId} {size : Nat} {v : Value} {n : Nat} {xs : List Value} (h : w.ownsRow base e size v n xs) : ∃ a cap, v = .slice a n cap := by
  rcases h.2 with ⟨rfl, rfl⟩ | ⟨g, cap, cur, rfl, hb, hg, _⟩
  · exact ⟨_, _, rfl⟩
  · exact ⟨_, _, rfl⟩

theorem still_tail {P : Program} {id : Nat} {Q : Exit → Act → World → Prop} {a : Act} {w : World} {l : List Oper} (n : Nat) (hm : P.follows .mixedOrders = true) (hB : Region.lexTailB .any l.toArray n = true)
    (h : ∀ W : World, Hid (W = w.drew) → wpStill P l.toArray W (fun a' => wpList P l.toArray Q (l.drop n) a' W) (l.take n) a) : (Code.region id l.toArray true).wp P Q a w :=
  wp_region_still_tail n hm hB (h _ (Lib.hid rfl))
theorem swp {P : Program} {f : FuncId} {args : Array Value} {w : World} {v : Value} (h : Calls P f args w fun e w' => e = .returned v ∧ w = w') : Calls P f args w fun e w' => e = .returned v ∧ w' = w :=
  h.mono fun _ _ ⟨a, b⟩ => ⟨a, b.symm⟩
theorem Blk.at_drew {w W : World} {g : Nat} {t : TypeId} {cs : Array Value} (h : Blk w g t cs) (e : Hid (W = w.drew)) : Blk W g t cs := by rw [e.out]; exact h
theorem size_at_drew {w W : World} (e : Hid (W = w.drew)) : W.heap.size = w.heap.size := by rw [e.out]; rfl
theorem below_at_drew {w W : World} (e : Hid (W = w.drew)) (B : Nat) : Below B w W := by rw [e.out]; exact (Below.refl _ _).drew
theorem quiet_left {P : Program} {f : FuncId} {args : Array Value} {w : World} {n : Nat} {v : Value} (h : Calls P f args (w.drewN n) fun e w' => e = .returned v ∧ w.drewN n = w') : Calls P f args (w.drewN n) fun e w'' => e = .returned v ∧ ∃ m, w'' = w.drewN m :=
  h.mono fun _ _ ⟨he, hm⟩ => ⟨he, n, hm.symm⟩
theorem below_drewN {B : Nat} {a w : World} (h : Below B a w) (n : Nat) : Below B a (w.drewN n) := ⟨h.os, h.tape, h.output, h.size, h.block⟩
structure Cub (t : List UInt8) (n : Nat) (c o : Nat → Bool) : Prop where
  hn : n = t.length
  hc : c = careF t
  ho : o = onesF t
  le : t.length ≤ 256
  ok : t.all okB = true
theorem Cub.val {t : List UInt8} {n : Nat} {c o : Nat → Bool} (h : Cub t n c o) : cv n c o = cu t := by rw [h.hn, h.hc, h.ho]; rfl
theorem parseE_zero {l : List UInt8} (h : parseE l = 0) : l ≠ [] ∧ l.length ≤ 256 ∧ l.all okB = true := by
  unfold parseE at h
  by_cases h1 : 256 < l.length
  · rw [if_pos h1] at h; omega
  · rw [if_neg h1] at h
    by_cases h2 : l = []
    · rw [if_pos h2] at h; omega
    · rw [if_neg h2] at h
      by_cases h3 : l.all okB = true
      · exact ⟨h2, by omega, h3⟩
      · rw [if_neg h3] at h; omega
theorem cubeT_ok (l : List UInt8) : (cubeT l).length ≤ 256 ∧ (cubeT l).all okB = true := by
  unfold cubeT
  by_cases h : parseE l = 0
  · rw [if_pos h]; exact (parseE_zero h).2
  · rw [if_neg h]; exact ⟨by simp, rfl⟩
theorem Cub.of (l : List UInt8) : Cub (cubeT l) (cubeT l).length (careF (cubeT l)) (onesF (cubeT l)) := ⟨rfl, rfl, rfl, (cubeT_ok l).1, (cubeT_ok l).2⟩
theorem cubeT_cub {t : List UInt8} {n : Nat} {c o : Nat → Bool} (h : Cub t n c o) : cubeT t = t := by
  unfold cubeT
  split
  · rfl
  · rename_i h2
    unfold parseE at h2
    rw [if_neg (by have := h.le; omega)] at h2
    by_cases h0 : t = []
    · exact h0.symm
    · rw [if_neg h0, if_pos h.ok] at h2; omega
theorem Cub.same {t : List UInt8} {n n' : Nat} {c c' o o' : Nat → Bool} (h : Cub t n c o) (h' : Cub t n' c' o') : n' = n ∧ c' = c ∧ o' = o := ⟨by rw [h.hn, h'.hn], by rw [h.hc, h'.hc], by rw [h.ho, h'.ho]⟩
theorem Cub.byte {t : List UInt8} {n : Nat} {c o : Nat → Bool} (h : Cub t n c o) (k : Nat) (hk : k < n) : t[k]? = some (if c k then (if o k then 49 else 48) else 120) := by
  have hk' : k < t.length := by rw [← h.hn]; exact hk
  have hb : t[k]? = some t[k] := List.getElem?_eq_getElem hk'
  have hok := List.all_eq_true.1 h.ok t[k] (List.getElem_mem hk')
  rw [h.hc, h.ho]
  simp only [careF, onesF, hb]
  generalize t[k] = b at hok
  simp only [okB, Bool.or_eq_true, beq_iff_eq] at hok
  rcases hok with (rfl | rfl) | rfl <;> simp
end Go.Proofs.YtlakglphjhoodaaDoor.Tn

namespace Go.Proofs.YtlakglphjhoodaaDoor.Tn
open Go.RowKit
theorem info_byte : (Tryd.prog.info? 5).map (fun i => (i.zero, i.size, i.bytes)) = some (some (.int .u8 0), 1, 1) := by kernel_rfl
attribute [local go_sem] cs wv
theorem text_any (t : List UInt8) (n : Nat) (c o : Nat → Bool) (w : World) (hC : Cub t n c o) :
    Calls Tryd.prog 62 #[cv n c o] w fun e w' => e = .returned (.string (str t)) ∧ Below w.heap.size w w' := by
  obtain ⟨i0, hi, hz0, hz1, hz2⟩ := info_parts info_byte
  have hn : n ≤ 256 := by have := hC.hn; have := hC.le; omega
  have hmk : ∀ u : World, (Instr.makeSlice 77 (.int .i64 (n : Int)) (.int .i64 (n : Int))).run Tryd.prog u =
      .ok (.slice (some ⟨u.heap.size, 0, none⟩) n n) (u.alloc (.cells (madeCells #[.int .u8 0] n) 5)) := fun u => by
    have h := run_make (P := Tryd.prog) u 77 5 i0 (.int .u8 0) Tryd.underlying77 hi hz0 .i64 .i64 (n : Int) (n : Int) (by omega) (Int.le_refl _) (by rw [hz2]; omega) (by omega)
    simpa [hz1, Value.cells] using h
  have HC := Lib.hid hC
  clear hC
  unfold cv cs wv
  go_enter Tryd.func62, Tryd.ntmps62
  go_wp2
  clear hmk
  go_loopw [10] (fun i wr => ∃ (k : Nat) (l : List UInt8), k ≤ n ∧ i = .int .i64 k ∧ l.length = n ∧ l.take k = t.take k ∧ Blk wr w.heap.size 114 (cs n c o) ∧ Blk wr (w.heap.size + 1) 5 (l.map bv).toArray ∧ Below w.heap.size w wr) (fun i _ => n - (intOf i).toNat)
  case atStart =>
    refine ⟨0, List.replicate n 0, Nat.zero_le _, rfl, by simp, rfl, ?_, ?_, by go_grown⟩
    · exact (Blk.new w 114 (cs n c o)).alloc _
    · rw [← made_bytes]
      have := Blk.new (w.alloc (.cells (cs n c o) 114)) 5 (madeCells #[.int .u8 0] n)
      rw [World.size_alloc] at this
      exact this
  case round =>
    obtain ⟨k, l, hk, rfl, hl, htk, hb0, hb1, hbel⟩ := hrel
    by_cases hlt : k < n
    · have hlt' : k < 256 := by omega
      have hcell : wr.cell? ⟨w.heap.size + 1, k, none⟩ = some (bv (l.getD k 0)) := by
        rw [hb1.cell]; simp [hl, hlt]
      have hfz := hb1.frozen k
      have hby := HC.out.byte k hlt
      have HT := Lib.hid (And.intro htk (And.intro hl hby))
      clear htk hl hby
      by_cases hck : c k = true
      · have HK := Lib.hid hck
        have hck' : (!c k) = false := by simp [hck]
        clear hck
        go_wp2_with fail
        refine (at_care w.heap.size k n c o 114 wr hlt' hb0).mono ?_
        rintro e w1 ⟨rfl, rfl⟩
        go_wp2_with fail
        by_cases hok : o k = true
        · refine (at_ones w.heap.size k n c o 114 wr hlt' hb0).mono ?_
          rintro e w1 ⟨rfl, rfl⟩
          go_wp2_with fail
          go_roundw
          case rel =>
            obtain ⟨h1, h2, h3⟩ := HT.out
            rw [if_pos HK.out, if_pos hok] at h3
            refine ⟨k + 1, l.set k 49, by omega, by go_num, by simpa using h2, set_take (by omega) h1 (by simpa using h3), hb0.far (by simp) _, blk_put k 49 hb1, ?_⟩
            exact hbel.setCell (by simp) _
          case measure => simp [intOf]; omega
        · have hok' : o k = false := by simpa using hok
          clear hok
          refine (at_ones w.heap.size k n c o 114 wr hlt' hb0).mono ?_
          rintro e w1 ⟨rfl, rfl⟩
          go_wp2_with fail
          go_roundw
          case rel =>
            obtain ⟨h1, h2, h3⟩ := HT.out
            rw [if_pos HK.out, if_neg (by simp [hok'])] at h3
            refine ⟨k + 1, l.set k 48, by omega, by go_num, by simpa using h2, set_take (by omega) h1 (by simpa using h3), hb0.far (by simp) _, blk_put k 48 hb1, ?_⟩
            exact hbel.setCell (by simp) _
          case measure => simp [intOf]; omega
      · have HK := Lib.hid hck
        have hck' : (!c k) = true := by simpa using hck
        clear hck
        go_wp2_with fail
        refine (at_care w.heap.size k n c o 114 wr hlt' hb0).mono ?_
        rintro e w1 ⟨rfl, rfl⟩
        go_wp2_with fail
        go_roundw
        case rel =>
          obtain ⟨h1, h2, h3⟩ := HT.out
          rw [if_neg HK.out] at h3
          refine ⟨k + 1, l.set k 120, by omega, by go_num, by simpa using h2, set_take (by omega) h1 (by simpa using h3), hb0.far (by simp) _, blk_put k 120 hb1, ?_⟩
          exact hbel.setCell (by simp) _
        case measure => simp [intOf]; omega
    · have : k = n := by omega
      subst this
      have hst : ∀ dst, Tryd.prog.underlying dst = some .string → (convert 77 dst (.slice (some ⟨w.heap.size + 1, 0, none⟩) k k)).run Tryd.prog wr = .ok (.string (str l)) wr := fun dst hd => run_string_blk Tryd.underlying77 Tryd.underlying5 hd hl hb1
      have hst2 := hst 9 Tryd.underlying9
      have HL := Lib.hid (And.intro htk hl)
      clear htk hl hst
      go_wp2
      go_ret
      obtain ⟨h1, h2⟩ := HL.out
      have hl2 : t.length = k := HC.out.hn.symm
      rw [List.take_of_length_le (by omega), List.take_of_length_le (by omega)] at h1
      subst h1
      exact ⟨rfl, hbel⟩
end Go.Proofs.YtlakglphjhoodaaDoor.Tn

namespace Go.Proofs.YtlakglphjhoodaaDoor.Tn
open Go.RowKit
theorem parse_of {t : List UInt8} {n : Nat} {c o : Nat → Bool} (hC : Cub t n c o) (s : ByteArray) (hs : s.data.toList = t) (w : World) :
    Calls Tryd.prog 59 #[.string s] w fun e w' => e = .returned (.tuple #[cv n c o, .int .i64 (parseE t)]) ∧ Below w.heap.size w w' := by
  have hl : s.size ≤ maxLen := by
    rw [← len_s, hs]; have := hC.le; simp only [maxLen]; omega
  have h := parse_any s w hl
  rw [hs, cubeT_cub hC, ← hC.val] at h
  exact h
theorem isEmpty_iff (s : ByteArray) : s.toList.isEmpty = decide (s.data.toList = []) := by
  rw [ByteArray.toList_eq]
  cases s.data.toList <;> simp
theorem Cub.nil {n : Nat} {c o : Nat → Bool} (h : Cub [] n c o) : n = 0 ∧ c = no ∧ o = no := ⟨h.hn, by rw [h.hc, careF_nil], by rw [h.ho, onesF_nil]⟩
theorem nilCub : Cub [] 0 no no := ⟨rfl, careF_nil.symm, onesF_nil.symm, by simp, rfl⟩
end Go.Proofs.YtlakglphjhoodaaDoor.Tn
