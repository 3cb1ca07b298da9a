/- Bytes and strings: rows of bytes, strings out of rows, one byte more. -/
import Derived.Test.YtaleaicfllcpiaaDoorMm
import Derived.Test.YtaleaicfllcpiaaDoorRows
import Derived.BigQuiet
import Derived.Deep.QuietTactic
import Derived.Handy
namespace Go.Proofs.YtaleaicfllcpiaaDoor.Mm
open Go.RowKit
set_option linter.unusedVariables false
set_option linter.unusedSimpArgs false
set_option linter.unusedSectionVars false
section
variable {P : Program} {w : World}
/-- string(b), b a row of the call's own. -/
theorem run_string_own {base : Nat} {e src dst : TypeId} {v : Value} {n : Nat} {l : List UInt8} (hs : P.underlying src = some (.slice e)) (he : P.underlying e = some (.int .u8)) (hd : P.underlying dst = some .string)
    (h : w.ownsRow base e 1 v n (l.map bv)) : (convert src dst v).run P w = .ok (.string (str l)) w := by
  have hl : l.length = n := by simpa using h.1
  rcases h.2 with ⟨rfl, hn⟩ | ⟨g, cap, cur, rfl, _, hg, _, _, _, htake⟩
  · have : l = [] := List.eq_nil_of_length_eq_zero (by omega)
    subst this
    exact run_convert_bytes_nil w src e hs he _ _ dst hd
  · have := run_convert_bytes_arg (P := P) w src e hs he g 0 n cap (l.map fun b => (b.toNat : Int)) (by simpa using hl) (fun i hi => by
      rw [Nat.zero_add, cell_of_row w g i cur e (0, 0) hg, ← bv_getD l i (by omega), ← htake, List.getElem?_take_of_lt (by omega), Array.getElem?_toList]) dst hd
    rw [this, strOf_map]
/-- string(b), b a whole block. -/
theorem run_string_blk {e src dst : TypeId} {g n cap : Nat} {l : List UInt8} (hs : P.underlying src = some (.slice e)) (he : P.underlying e = some (.int .u8)) (hd : P.underlying dst = some .string)
    (hl : l.length = n) (h : Blk w g e (l.map bv).toArray) : (convert src dst (.slice (some ⟨g, 0, none⟩) n cap)).run P w = .ok (.string (str l)) w := by
  have := run_convert_bytes_arg (P := P) w src e hs he g 0 n cap (l.map fun b => (b.toNat : Int)) (by simpa using hl) (fun i hi => by
      rw [Nat.zero_add, h.cell, ← bv_getD l i (by omega), List.getElem?_toArray]) dst hd
  rw [this, strOf_map]
end

theorem made_bytes (n : Nat) : madeCells #[Value.int .u8 0] n = ((List.replicate n (0 : UInt8)).map bv).toArray := by
  apply Array.toList_inj.1
  rw [toList_madeCells_one, List.map_replicate]; rfl

theorem set_take {l t : List UInt8} {k : Nat} {b : UInt8} (hk : k < l.length) (h : l.take k = t.take k) (hb : t[k]? = some b) : (l.set k b).take (k + 1) = t.take (k + 1) := by
  rw [List.take_add_one, List.take_add_one, List.take_set_of_le (by omega), h, hb]
  simp [hk]

theorem blk_put {w : World} {g : Nat} {e : TypeId} {l : List UInt8} (k : Nat) (b : UInt8) (h : Blk w g e (l.map bv).toArray) : Blk (w.setCell ⟨g, k, none⟩ (bv b)) g e ((l.set k b).map bv).toArray := by
  have := h.set_ k (bv b)
  rw [List.map_set]
  simpa using this
theorem info_u8 : (Tryd.prog.info? 5).map (fun i => (i.zero, i.size, i.bytes)) = some (some (.int .u8 0), 1, 1) := by kernel_rfl
theorem app_byte {B : Nat} {v : Value} {n : Nat} {l : List UInt8} {w : World} (b : UInt8) {ops : Array Oper} {rest : List Oper} {o : Oper} {a : Act} {Q : Exit → Act → World → Prop} {s x : Operand}
    (hown : w.ownsRow B 5 1 v n (l.map bv)) (hgd : o.guard = none) (ho : o.op = .call { callee := .builtin .append, args := #[s, x], argTypes := #[46, 46] })
    (hs : a.eval s = v) (hx : a.eval x = .slice (some ⟨w.heap.size, 0, none⟩) 1 1) (hn : n ≤ 1000000) (hB : B ≤ w.heap.size)
    (h : ∀ v' w', w'.ownsRow B 5 1 v' (n + 1) ((l ++ [b]).map bv) → Below B w w' → wpList Tryd.prog ops Q rest (a.put o.dst v') w') : wpList Tryd.prog ops Q (o :: rest) a (w.alloc (.cells #[bv b] 5)) := by
  obtain ⟨i0, hi, hz0, hz1, hz2⟩ := info_parts info_u8
  refine wpList_append_own _ hgd s x 46 ho B 5 i0 (.int .u8 0) 1 1 Tryd.underlying46 hi hz0 hz1 hz2 rfl (by decide) v n _ hs (hown.alloc _) ⟨w.heap.size, 0, none⟩ 1 1 [bv b] hx rfl (cell_one_new _ _ _)
    (by simp [bv, Value.oneCell']) (by simp only [maxLen]; omega) (by omega) (by simp; omega) ?_
  intro v' w1 hown' hg _
  refine h v' w1 (by rw [List.map_append]; exact hown') ?_
  have h1 : Below B w (w.alloc (.cells #[bv b] 5)) := (Below.refl _ _).alloc hB _
  exact h1.grown hg (by simp; omega) (fun k hk => (hown.lt k hk).1)
theorem str_own {w : World} {B : Nat} {v : Value} {n : Nat} {l : List UInt8} (h : w.ownsRow B 5 1 v n (l.map bv)) : (convert 46 9 v).run Tryd.prog w = .ok (.string (str l)) w :=
  run_string_own Tryd.underlying46 Tryd.underlying5 Tryd.underlying9 h
theorem own_nilB (w : World) (B : Nat) : w.ownsRow B 5 1 (.slice none 0 0) 0 (([] : List UInt8).map bv) := World.ownsRow_nil w B 5 1

theorem make_bytes (n : Nat) (h : n ≤ 1000000) (u : World) : (Instr.makeSlice 46 (.int .i64 (n : Int)) (.int .i64 (n : Int))).run Tryd.prog u =
    .ok (.slice (some ⟨u.heap.size, 0, none⟩) n n) (u.alloc (.cells ((List.replicate n (0 : UInt8)).map bv).toArray 5)) := by
  obtain ⟨i0, hi, hz0, hz1, hz2⟩ := info_parts info_u8
  have h := run_make (P := Tryd.prog) u 46 5 i0 (.int .u8 0) Tryd.underlying46 hi hz0 .i64 .i64 (n : Int) (n : Int) (by omega) (Int.le_refl _) (by rw [hz2]; omega) (by omega)
  rw [← made_bytes]
  simpa [hz1, Value.cells] using h
end Go.Proofs.YtaleaicfllcpiaaDoor.Mm
