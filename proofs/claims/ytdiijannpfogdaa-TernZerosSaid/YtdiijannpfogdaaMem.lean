/- Plain lemmas on memory, no program in sight: rows of bytes, strings out of rows, one element more. -/
import Derived.Test.YtdiijannpfogdaaTv
import Derived.WalkKit
import Derived.Maps.AppendAt
import Derived.Laws.BytesArg
import Derived.Lib.Hide
import Derived.StillTailTactics
import Derived.Deep.Draws
namespace Go.Proofs.Ytdiijannpfogdaa.Tn
open Go.RowKit

def bv (b : UInt8) : Value := .int .u8 (b.toNat : Int)
def str (l : List UInt8) : ByteArray := ⟨l.toArray⟩
theorem str_list (l : List UInt8) : (str l).data.toList = l := rfl
theorem str_size (l : List UInt8) : (str l).size = l.length := by simp [str, ByteArray.size]
theorem str_of (s : ByteArray) : str s.data.toList = s := rfl

theorem bv_getD (l : List UInt8) (i : Nat) (h : i < l.length) : (l.map bv)[i]? = some (.int .u8 ((l.map fun b => (b.toNat : Int)).getD i 0)) := by
  simp [bv, List.getElem?_eq_getElem h]
theorem strOf_map (l : List UInt8) : strOfNums (l.map fun b => (b.toNat : Int)) = str l := by
  unfold strOfNums str
  congr 1
  congr 1
  rw [List.map_map]
  conv => rhs; rw [← List.map_id l]
  apply List.map_congr_left
  intro b _
  simp

section
variable {P : Program} {w : World}
/-- string(b), b a row of the call's own. -/
theorem run_string_own {base : Nat} {e src dst : TypeId} {v : Value} {n : Nat} {l : List UInt8} (hs : P.underlying src = some (.slice e)) (he : P.underlying e = some (.int .u8)) (hd : P.underlying dst = some .string)
    (h : w.ownsRow base e 1 v n (l.map bv)) : (convert src dst v).run P w = .ok (.string (str l)) w := by
  have hl : l.length = n := by simpa using h.1
  rcases h.2 with ⟨rfl, hn⟩ | ⟨g, cap, cur, rfl, _, hg, _, _, _, htake⟩
  · have : l = [] := List.eq_nil_of_length_eq_zero (by omega)
    subst this
    exact run_convert_bytes_nil w src e hs he _ _ dst hd
  · have := run_convert_bytes_arg (P := P) w src e hs he g 0 n cap (l.map fun b => (b.toNat : Int)) (by simpa using hl) (fun i hi => by
      rw [Nat.zero_add, cell_of_row w g i cur e (0, 0) hg, ← bv_getD l i (by omega), ← htake, List.getElem?_take_of_lt (by omega), Array.getElem?_toList]) dst hd
    rw [this, strOf_map]
/-- string(b), b a whole block. -/
theorem run_string_blk {e src dst : TypeId} {g n cap : Nat} {l : List UInt8} (hs : P.underlying src = some (.slice e)) (he : P.underlying e = some (.int .u8)) (hd : P.underlying dst = some .string)
    (hl : l.length = n) (h : Blk w g e (l.map bv).toArray) : (convert src dst (.slice (some ⟨g, 0, none⟩) n cap)).run P w = .ok (.string (str l)) w := by
  have := run_convert_bytes_arg (P := P) w src e hs he g 0 n cap (l.map fun b => (b.toNat : Int)) (by simpa using hl) (fun i hi => by
      rw [Nat.zero_add, h.cell, ← bv_getD l i (by omega), List.getElem?_toArray]) dst hd
  rw [this, strOf_map]
end

theorem made_bytes (n : Nat) : madeCells #[Value.int .u8 0] n = ((List.replicate n (0 : UInt8)).map bv).toArray := by
  apply Array.toList_inj.1
  rw [toList_madeCells_one, List.map_replicate]; rfl

theorem set_take {l t : List UInt8} {k : Nat} {b : UInt8} (hk : k < l.length) (h : l.take k = t.take k) (hb : t[k]? = some b) : (l.set k b).take (k + 1) = t.take (k + 1) := by
  rw [List.take_add_one, List.take_add_one, List.take_set_of_le (by omega), h, hb]
  simp [hk]

theorem blk_put {w : World} {g : Nat} {e : TypeId} {l : List UInt8} (k : Nat) (b : UInt8) (h : Blk w g e (l.map bv).toArray) : Blk (w.setCell ⟨g, k, none⟩ (bv b)) g e ((l.set k b).map bv).toArray := by
  have := h.set_ k (bv b)
  rw [List.map_set]
  simpa using this
/-- the shape of a row that holds something -/
theorem own_form {w : World} {base : Nat} {e : TypeId} {size : Nat} {v : Value} {n : Nat} {xs : List Value} (h : w.ownsRow base e size v n xs) (hn : 0 < n) : ∃ g cap, v = .slice (some ⟨g, 0, none⟩) n cap ∧ base ≤ g ∧ g < w.heap.size := by
  rcases h.2 with ⟨_, h0⟩ | ⟨g, cap, cur, rfl, hb, hg, _⟩
  · omega
  · exact ⟨g, cap, rfl, hb, (Array.getElem?_eq_some_iff.1 hg).1⟩
theorem own_len {w : World} {base : Nat} {e : TypeId} {size : Nat} {v : Value} {n : Nat} {xs : List Value} (h : w.ownsRow base e size v n xs) : ∃ a cap, v = .slice a n cap := by
  rcases h.2 with ⟨rfl, rfl⟩ | ⟨g, cap, cur, rfl, hb, hg, _⟩
  · exact ⟨_, _, rfl⟩
  · exact ⟨_, _, rfl⟩

/-- A region that draws its order: the first n operations read or call quietly, the rest are one forced chain: the world behind the draw under a name of its own. -/
theorem still_tail {P : Program} {id : Nat} {Q : Exit → Act → World → Prop} {a : Act} {w : World} {l : List Oper} (n : Nat) (hm : P.follows .mixedOrders = true) (hB : Region.lexTailB .any l.toArray n = true)
    (h : ∀ W : World, Hid (W = w.drew) → wpStill P l.toArray W (fun a' => wpList P l.toArray Q (l.drop n) a' W) (l.take n) a) : (Code.region id l.toArray true).wp P Q a w :=
  wp_region_still_tail n hm hB (h _ (Lib.hid rfl))
theorem swp {P : Program} {f : FuncId} {args : Array Value} {w : World} {v : Value} (h : Calls P f args w fun e w' => e = .returned v ∧ w = w') : Calls P f args w fun e w' => e = .returned v ∧ w' = w :=
  h.mono fun _ _ ⟨a, b⟩ => ⟨a, b.symm⟩
theorem Blk.at_drew {w W : World} {g : Nat} {t : TypeId} {cs : Array Value} (h : Blk w g t cs) (e : Hid (W = w.drew)) : Blk W g t cs := by rw [e.out]; exact h
theorem size_at_drew {w W : World} (e : Hid (W = w.drew)) : W.heap.size = w.heap.size := by rw [e.out]; rfl
theorem below_at_drew {w W : World} (e : Hid (W = w.drew)) (B : Nat) : Below B w W := by rw [e.out]; exact (Below.refl _ _).drew
theorem quiet_left {P : Program} {f : FuncId} {args : Array Value} {w : World} {n : Nat} {v : Value} (h : Calls P f args (w.drewN n) fun e w' => e = .returned v ∧ w.drewN n = w') : Calls P f args (w.drewN n) fun e w'' => e = .returned v ∧ ∃ m, w'' = w.drewN m :=
  h.mono fun _ _ ⟨he, hm⟩ => ⟨he, n, hm.symm⟩
theorem below_drewN {B : Nat} {a w : World} (h : Below B a w) (n : Nat) : Below B a (w.drewN n) := ⟨h.os, h.tape, h.output, h.size, h.block⟩
/-! A cube's description: its text beside its value's parts. -/
structure Cub (t : List UInt8) (n : Nat) (c o : Nat → Bool) : Prop where
  hn : n = t.length
  hc : c = careF t
  ho : o = onesF t
  le : t.length ≤ 256
  ok : t.all okB = true
theorem Cub.val {t : List UInt8} {n : Nat} {c o : Nat → Bool} (h : Cub t n c o) : cv n c o = cu t := by rw [h.hn, h.hc, h.ho]; rfl
theorem parseE_zero {l : List UInt8} (h : parseE l = 0) : l ≠ [] ∧ l.length ≤ 256 ∧ l.all okB = true := by
  unfold parseE at h
  by_cases h1 : 256 < l.length
  · rw [if_pos h1] at h; omega
  · rw [if_neg h1] at h
    by_cases h2 : l = []
    · rw [if_pos h2] at h; omega
    · rw [if_neg h2] at h
      by_cases h3 : l.all okB = true
      · exact ⟨h2, by omega, h3⟩
      · rw [if_neg h3] at h; omega
theorem cubeT_ok (l : List UInt8) : (cubeT l).length ≤ 256 ∧ (cubeT l).all okB = true := by
  unfold cubeT
  by_cases h : parseE l = 0
  · rw [if_pos h]; exact (parseE_zero h).2
  · rw [if_neg h]; exact ⟨by simp, rfl⟩
theorem Cub.of (l : List UInt8) : Cub (cubeT l) (cubeT l).length (careF (cubeT l)) (onesF (cubeT l)) := ⟨rfl, rfl, rfl, (cubeT_ok l).1, (cubeT_ok l).2⟩
theorem cubeT_cub {t : List UInt8} {n : Nat} {c o : Nat → Bool} (h : Cub t n c o) : cubeT t = t := by
  unfold cubeT
  split
  · rfl
  · rename_i h2
    unfold parseE at h2
    rw [if_neg (by have := h.le; omega)] at h2
    by_cases h0 : t = []
    · exact h0.symm
    · rw [if_neg h0, if_pos h.ok] at h2; omega
theorem Cub.same {t : List UInt8} {n n' : Nat} {c c' o o' : Nat → Bool} (h : Cub t n c o) (h' : Cub t n' c' o') : n' = n ∧ c' = c ∧ o' = o := ⟨by rw [h.hn, h'.hn], by rw [h.hc, h'.hc], by rw [h.ho, h'.ho]⟩
theorem Cub.byte {t : List UInt8} {n : Nat} {c o : Nat → Bool} (h : Cub t n c o) (k : Nat) (hk : k < n) : t[k]? = some (if c k then (if o k then 49 else 48) else 120) := by
  have hk' : k < t.length := by rw [← h.hn]; exact hk
  have hb : t[k]? = some t[k] := List.getElem?_eq_getElem hk'
  have hok := List.all_eq_true.1 h.ok t[k] (List.getElem_mem hk')
  rw [h.hc, h.ho]
  simp only [careF, onesF, hb]
  generalize t[k] = b at hok
  simp only [okB, Bool.or_eq_true, beq_iff_eq] at hok
  rcases hok with (rfl | rfl) | rfl <;> simp
end Go.Proofs.Ytdiijannpfogdaa.Tn
