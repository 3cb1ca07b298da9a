/- The value of a cube, cell by cell; what a block that holds one becomes when a bit is put. Plain lemmas. -/
import Derived.Test.YtdiijannpfogdaaTb
import Derived.WalkKit
import Derived.Lib.Hide
import Derived.Deep.Draws
namespace Go.Proofs.Ytdiijannpfogdaa.Tn
open Go.RowKit

def wv (f : Nat → Bool) (k : Nat) : Value := .int .u64 (wd f k : Nat)
def cs (n : Nat) (c o : Nat → Bool) : Array Value := #[.int .i64 n, wv c 0, wv c 1, wv c 2, wv c 3, wv o 0, wv o 1, wv o 2, wv o 3]
def cv (n : Nat) (c o : Nat → Bool) : Value := .agg (cs n c o)
def no : Nat → Bool := fun _ => false

def Blk (w : World) (g : Nat) (t : TypeId) (cs : Array Value) : Prop := w.heap[g]? = some (.cells cs t (0, 0))
section
variable {w w' : World} {g : Nat} {t : TypeId} {cs : Array Value}
theorem Blk.lt (h : Blk w g t cs) : g < w.heap.size := by
  rcases Nat.lt_or_ge g w.heap.size with hlt | hge
  · exact hlt
  · unfold Blk at h; rw [Array.getElem?_eq_none hge] at h; cases h
theorem Blk.cell (h : Blk w g t cs) (i : Nat) : w.cell? ⟨g, i, none⟩ = cs[i]? := cell_of_row w g i cs t (0, 0) h
theorem Blk.frozen (h : Blk w g t cs) (i : Nat) : w.frozen? ⟨g, i, none⟩ = false := by
  unfold Blk at h
  simp [World.frozen?, h]
theorem Blk.new (w : World) (t : TypeId) (cs : Array Value) : Blk (w.alloc (.cells cs t)) w.heap.size t cs := heap_alloc_new w _
theorem Blk.drew (h : Blk w g t cs) : Blk w.drew g t cs := h
theorem Blk.drewN (h : Blk w g t cs) (n : Nat) : Blk (w.drewN n) g t cs := h
theorem Blk.alloc (h : Blk w g t cs) (o : Obj) : Blk (w.alloc o) g t cs := (Below.heap_alloc w o g h.lt).trans h
theorem Blk.set_ (h : Blk w g t cs) (i : Nat) (u : Value) : Blk (w.setCell ⟨g, i, none⟩ u) g t (cs.setIfInBounds i u) := by
  unfold Blk at h ⊢
  simp [World.setCell, Array.getElem?_modify, h]
theorem Blk.far (h : Blk w g t cs) {p : Addr} (hp : g ≠ p.block) (u : Value) : Blk (w.setCell p u) g t cs := (Below.heap_setCell w p u g hp).trans h
theorem Blk.below {B : Nat} (h : Blk w g t cs) (hb : Below B w w') (hg : g < B) : Blk w' g t cs := (hb.block g hg).trans h
theorem Blk.grown {row : Option Nat} (h : Blk w g t cs) (hb : w.grownBy w' row) (hg : some g ≠ row) : Blk w' g t cs := (hb.block g h.lt hg).trans h
end

theorem only_set (w : World) (g i : Nat) (u : Value) : w.grownBy (w.setCell ⟨g, i, none⟩ u) (some g) :=
  ⟨rfl, rfl, rfl, by simp [World.setCell], fun k hk hne => Below.heap_setCell w _ u k (fun e => hne (by rw [e]))⟩

theorem cs_care (n : Nat) (c o : Nat → Bool) (k : Nat) (hk : k < 4) : (cs n c o)[1 + k]? = some (wv c k) := by
  match k, hk with
  | 0, _ => rfl
  | 1, _ => rfl
  | 2, _ => rfl
  | 3, _ => rfl
theorem cs_ones (n : Nat) (c o : Nat → Bool) (k : Nat) (hk : k < 4) : (cs n c o)[5 + k]? = some (wv o k) := by
  match k, hk with
  | 0, _ => rfl
  | 1, _ => rfl
  | 2, _ => rfl
  | 3, _ => rfl
theorem cs_set_care (n : Nat) (c c' o : Nat → Bool) (k : Nat) (hk : k < 4) (h : ∀ j, j ≠ k → wd c' j = wd c j) : (cs n c o).setIfInBounds (1 + k) (wv c' k) = cs n c' o := by
  have hj : ∀ j, j ≠ k → wv c j = wv c' j := fun j e => by unfold wv; rw [h j e]
  match k, hk, hj with
  | 0, _, hj => simp [cs, hj 1, hj 2, hj 3]
  | 1, _, hj => simp [cs, hj 0, hj 2, hj 3]
  | 2, _, hj => simp [cs, hj 0, hj 1, hj 3]
  | 3, _, hj => simp [cs, hj 0, hj 1, hj 2]
theorem cs_set_ones (n : Nat) (c o o' : Nat → Bool) (k : Nat) (hk : k < 4) (h : ∀ j, j ≠ k → wd o' j = wd o j) : (cs n c o).setIfInBounds (5 + k) (wv o' k) = cs n c o' := by
  have hj : ∀ j, j ≠ k → wv o j = wv o' j := fun j e => by unfold wv; rw [h j e]
  match k, hk, hj with
  | 0, _, hj => simp [cs, hj 1, hj 2, hj 3]
  | 1, _, hj => simp [cs, hj 0, hj 2, hj 3]
  | 2, _, hj => simp [cs, hj 0, hj 1, hj 3]
  | 3, _, hj => simp [cs, hj 0, hj 1, hj 2]

theorem wv_no (k : Nat) : wv no k = .int .u64 0 := by unfold wv no; rw [wd_zero]; rfl
theorem cs_zero : cs 0 no no = #[.int .i64 0, .int .u64 0, .int .u64 0, .int .u64 0, .int .u64 0, .int .u64 0, .int .u64 0, .int .u64 0, .int .u64 0] := by
  simp [cs, wv_no]
theorem cs_no (n : Nat) : cs n no no = #[.int .i64 n, .int .u64 0, .int .u64 0, .int .u64 0, .int .u64 0, .int .u64 0, .int .u64 0, .int .u64 0, .int .u64 0] := by
  simp [cs, wv_no]
theorem cv_zero : cv 0 no no = .agg #[.int .i64 0, .int .u64 0, .int .u64 0, .int .u64 0, .int .u64 0, .int .u64 0, .int .u64 0, .int .u64 0, .int .u64 0] := by
  unfold cv; rw [cs_zero]
/-! The texts. -/
def okB (b : UInt8) : Bool := b == 48 || b == 49 || b == 120
def parseE (t : List UInt8) : Int := if 256 < t.length then 2 else if t = [] then 10 else if t.all okB then 0 else 10
def cubeT (t : List UInt8) : List UInt8 := if parseE t = 0 then t else []
def careF (t : List UInt8) : Nat → Bool := fun i => t[i]? == some 48 || t[i]? == some 49
def onesF (t : List UInt8) : Nat → Bool := fun i => t[i]? == some 49
def cu (t : List UInt8) : Value := cv t.length (careF t) (onesF t)

theorem careF_nil : careF [] = no := by funext i; simp [careF, no]
theorem onesF_nil : onesF [] = no := by funext i; simp [onesF, no]

theorem len_s (s : ByteArray) : s.data.toList.length = s.size := by rw [Array.length_toList]; rfl
theorem parse_done (s : ByteArray) (k : Nat) (hk : k ≤ s.size) (hk2 : s.size ≤ k) (h : s.size ≤ 256) (h0 : 0 < s.size) (hall : (s.data.toList.take k).all okB = true) :
    cu (cubeT s.data.toList) = cv s.size (careF (s.data.toList.take k)) (onesF (s.data.toList.take k)) ∧ parseE s.data.toList = 0 := by
  have hl := len_s s
  rw [List.take_of_length_le (by omega)] at hall ⊢
  have e : parseE s.data.toList = 0 := by
    unfold parseE
    rw [if_neg (by omega), if_neg (by intro e; rw [e] at hl; simp at hl; omega), if_pos hall]
  refine ⟨?_, e⟩
  unfold cubeT cu
  rw [if_pos e, hl]
theorem parse_bad (s : ByteArray) (k : Nat) (hk : k < s.size) (h : s.size ≤ 256) (h0 : 0 < s.size) (hb : okB s[k] = false) : parseE s.data.toList = 10 := by
  have hl := len_s s
  unfold parseE
  rw [if_neg (by omega), if_neg (by intro e; rw [e] at hl; simp at hl; omega), if_neg]
  intro hall
  have := List.all_eq_true.1 hall s[k] (by
    rw [Array.mem_toList_iff]
    exact Array.getElem_mem hk)
  rw [hb] at this
  cases this
theorem take_at (t : List UInt8) (k : Nat) (b : UInt8) (h : t[k]? = some b) (i : Nat) : (t.take (k + 1))[i]? = if i = k then some b else (t.take k)[i]? := by
  by_cases e : i = k
  · subst e; rw [if_pos rfl, List.getElem?_take_of_lt (by omega), h]
  · rw [if_neg e]
    by_cases h1 : i < k
    · rw [List.getElem?_take_of_lt (by omega), List.getElem?_take_of_lt h1]
    · rw [List.getElem?_eq_none (by rw [List.length_take]; omega), List.getElem?_eq_none (by rw [List.length_take]; omega)]
theorem careF_snoc (t : List UInt8) (k : Nat) (b : UInt8) (h : t[k]? = some b) : careF (t.take (k + 1)) = if b = 48 ∨ b = 49 then put (careF (t.take k)) k else careF (t.take k) := by
  have hk : (t.take k)[k]? = none := List.getElem?_eq_none (by rw [List.length_take]; omega)
  funext i
  by_cases e : i = k
  · subst e
    simp only [careF, take_at t i b h, if_true]
    split
    · rename_i hb; rcases hb with rfl | rfl <;> simp [put]
    · rename_i hb
      have h1 : ¬ b = 48 := fun e => hb (.inl e)
      have h2 : ¬ b = 49 := fun e => hb (.inr e)
      simp [careF, hk, h1, h2]
  · simp only [careF, take_at t k b h, if_neg e]
    split
    · simp [put, e, careF]
    · rfl
theorem onesF_snoc (t : List UInt8) (k : Nat) (b : UInt8) (h : t[k]? = some b) : onesF (t.take (k + 1)) = if b = 49 then put (onesF (t.take k)) k else onesF (t.take k) := by
  have hk : (t.take k)[k]? = none := List.getElem?_eq_none (by rw [List.length_take]; omega)
  funext i
  by_cases e : i = k
  · subst e
    simp only [onesF, take_at t i b h, if_true]
    split
    · rename_i hb; subst hb; simp [put]
    · rename_i hb; simp [onesF, hk, hb]
  · simp only [onesF, take_at t k b h, if_neg e]
    split
    · simp [put, e, onesF]
    · rfl
end Go.Proofs.Ytdiijannpfogdaa.Tn
