/- Merged for FieldOwn -/
import Derived.Test.YtlakglphjhoodaaDoorSs
import Derived.Test.YtlakglphjhoodaaDoorRows
import Derived.Test.YtlakglphjhoodaaDoorLaw
import Derived.ChangeSlices
import Derived.SizedLaws
import Derived.Deep.Slices
import Derived.BigQuiet
import Derived.Handy
import Derived.Test.YtlakglphjhoodaaDoorFC
import Derived.Shelf.Strings.Builder1
import Derived.Test.YtlakglphjhoodaaDoorShelf
import Derived.Test.YtlakglphjhoodaaDoorFB
namespace Go.Proofs.YtlakglphjhoodaaDoor.Mm
open Go.RowKit
set_option linter.unusedVariables false
set_option linter.unusedSimpArgs false
set_option linter.unusedSectionVars false
def inC (l : List Int) : List Value := l.map fun z => .int .i64 z
theorem inC_len (l : List Int) : (inC l).length = l.length := by simp [inC]
theorem inC_at (l : List Int) (k : Nat) (z : Int) (h : l[k]? = some z) : (inC l)[k]? = some (.int .i64 z) := by simp [inC, h]
end Go.Proofs.YtlakglphjhoodaaDoor.Mm
namespace Go.Proofs.YtlakglphjhoodaaDoor.Law
open Go.RowKit Go.WideShapes Go.ChangeShapes Go.ChangeAt Mm
section
variable {H : Type} {enc : TypeId × Value → H} {P : Program} {W : World}
theorem open_argI {base : Nat} {t e : TypeId} {v : Value} {d : DataW H} {p : List MemPlace} (ht : P.underlying t = some (.slice e)) (he : P.underlying e = some (.int .i64)) (hc : P.cellsOf e = 1)
    (hval : Value.okWide P W .any base t v) (h : DataW.Trod enc P W 0 (fun _ => true) true t v d p) :
    ∃ l : List Int, SeesS W v 1 l.length (inC l) ∧ (∀ z ∈ l, (Lit.int .i64 z).wf = true) ∧ ((d = .nil ∧ l = []) ∨ ∃ es spare, d = .slice es spare ∧ es.length = l.length) := by
  obtain ⟨a1, len, cap, rfl⟩ := okWide_slice ht hval
  obtain ⟨fuel, hf⟩ := h
  rcases open_ints ht he hc hf with ⟨hcs, hx⟩ | ⟨a, len', cap', zs, hcs, _, hl, hm, hz, hx, hcell, hwf⟩
  · simp [Value.cells] at hcs
    obtain ⟨rfl, rfl, rfl⟩ := hcs
    simp at hx
    exact ⟨[], ⟨none, 0, rfl, fun _ => rfl, Nat.le_refl _, Nat.zero_le _, rfl, .inl rfl⟩, (fun z hz => by cases hz), .inl ⟨hx.1, rfl⟩⟩
  · simp [Value.cells] at hcs
    obtain ⟨rfl, rfl, rfl⟩ := hcs
    simp at hx
    simp only [if_true] at hz
    obtain ⟨b, off, spot⟩ := a
    generalize hL : zs.take len = L
    have hlen : L.length = len := by rw [← hL]; simp; omega
    refine ⟨L, ⟨some ⟨b, off, spot⟩, cap, by rw [hlen], (fun h => by cases h), by rw [hlen]; omega, hm, by rw [inC_len, Nat.mul_one], ?_⟩, fun z hz => hwf z (by rw [← hL] at hz; exact List.mem_of_mem_take hz), .inr ⟨_, _, hx.1, by simp [lits, hlen]; omega⟩⟩
    by_cases h0 : len = 0
    · left
      omega
    · right
      have hspot : spot = none := by simpa [Addr.add] using World.cell?_spot (hcell 0 (by omega))
      subst hspot
      refine ⟨b, off, rfl, World.block_lt_of_cell? W _ (hcell 0 (by omega)), fun j u hj => ?_⟩
      have hjl : j < len := by
        have := (List.getElem?_eq_some_iff.1 hj).1
        rw [inC_len] at this
        omega
      have hc1 := hcell j (by omega)
      rw [add_plain] at hc1
      rw [hc1]
      have hjz : j < zs.length := by omega
      rw [← hL] at hj
      simp only [inC, List.getElem?_map, List.getElem?_take_of_lt hjl, List.getElem?_eq_getElem hjz, Option.map_some, Option.some.injEq] at hj
      rw [← hj]
      simp only [List.getD, List.getElem?_eq_getElem hjz, Option.getD_some]
theorem len_argI {ts : List TypeId} {ds : List (DataW H)} {j : Nat} {t e : TypeId} {d : DataW H} {l : List Int} (h : (DataW.weightsEach P ts ds).all (· ≤ reachBytes) = true) (ht : ts[j]? = some t) (hd : ds[j]? = some d) (hu : P.underlying t = some (.slice e)) (hb : P.bytesOf e = 8)
    (hD : (d = .nil ∧ l = []) ∨ ∃ es spare, d = .slice es spare ∧ es.length = l.length) : l.length * 8 ≤ 140737488355328 := by
  rcases hD with ⟨_, rfl⟩ | ⟨es, spare, rfl, he⟩
  · simp
  · have h1 := sized_slice h ht hd hu
    have h2 := reachBytes_lt
    rw [hb, he] at h1
    omega
end
end Go.Proofs.YtlakglphjhoodaaDoor.Law
namespace Go.Proofs.YtlakglphjhoodaaDoor.Mm
open Go.RowKit
theorem info_int : (Tryd.prog.info? 3).map (fun i => (i.zero, i.size, i.bytes)) = some (some (.int .i64 0), 1, 8) := by kernel_rfl
theorem app_int {B : Nat} {v : Value} {m : Nat} {L : List Int} {w : World} (t : Int) {ops : Array Oper} {rest : List Oper} {op : Oper} {a : Act} {Q : Exit → Act → World → Prop} {s x : Operand}
    (hown : w.ownsRow B 3 1 v m (inC L)) (hgd : op.guard = none) (ho : op.op = .call { callee := .builtin .append, args := #[s, x], argTypes := #[22, 22] })
    (hs : a.eval s = v) (hx : a.eval x = .slice (some ⟨w.heap.size, 0, none⟩) 1 1) (hn : (m + 1) * 8 ≤ 140737488355328) (hB : B ≤ w.heap.size)
    (h : ∀ v' w', w'.ownsRow B 3 1 v' (m + 1) (inC (L ++ [t])) → Below B w w' → wpList Tryd.prog ops Q rest (a.put op.dst v') w') : wpList Tryd.prog ops Q (op :: rest) a (w.alloc (.cells #[.int .i64 t] 3)) := by
  obtain ⟨i0, hi, hz0, hz1, hz2⟩ := info_parts info_int
  refine wpList_append_own _ hgd s x 22 ho B 3 i0 _ 1 8 Tryd.underlying22 hi hz0 hz1 hz2 rfl (by decide) v m _ hs (hown.alloc _) ⟨w.heap.size, 0, none⟩ 1 1 [.int .i64 t] hx rfl (cells_new _ #[.int .i64 t] _)
    (by simp [Value.oneCell']) (by simp only [maxLen]; omega) (by omega) (by simp; omega) ?_
  intro v' w1 hown' hg _
  have h1 : Below B w (w.alloc (.cells #[.int .i64 t] 3)) := (Below.refl _ _).alloc hB _
  exact h v' w1 (by unfold inC at hown' ⊢; rw [List.map_append]; exact hown') (h1.grown hg (by simp; omega) (fun k hk => (hown.lt k hk).1))
end Go.Proofs.YtlakglphjhoodaaDoor.Mm

namespace Go.Proofs.YtlakglphjhoodaaDoor.Mm
open Go.RowKit Go.Shelf
def SB (B b : Nat) (l : List UInt8) (w : World) : Prop := Lib.IsBuilder 81 5 B b (Lib.byteCells l) w
theorem info_sb : (Tryd.prog.info? 81).map (fun i => i.size) = some 2 := by kernel_rfl
set_option maxHeartbeats 1000000 in
set_option maxRecDepth 100000 in
theorem sb_used (b : Nat) (w : World) (h0 : w.cell? ⟨b, 0, none⟩ = some (.pointer (some ⟨b, 0, none⟩))) :
    Calls Tryd.prog 53 #[.pointer (some ⟨b, 0, none⟩)] w fun e w' => e = .returned (.tuple #[]) ∧ w' = w := by
  obtain ⟨j, hj, _⟩ := Option.map_eq_some_iff.1 info_sb
  go_enter Tryd.func53, Tryd.ntmps53
  go_wp2
  rw [Lib.run_neq_ptr_same w _ Tryd.underlying79 hj]
  go_wp2
  go_end0
  exact ⟨rfl, rfl⟩
theorem sb_lies : liesAt Tryd.prog Tryd.prog.depth 81 (2 / Tryd.prog.cellsOf 81) 0 81 1 = true := by kernel_rfl
set_option maxHeartbeats 1000000 in
set_option maxRecDepth 100000 in
theorem sb_fresh (b : Nat) (w : World) (h0 : w.cell? ⟨b, 0, none⟩ = some (.pointer none)) (hsh : w.shape? b = some (81, 2)) (hfz : w.frozen? ⟨b, 0, none⟩ = false) :
    Calls Tryd.prog 53 #[.pointer (some ⟨b, 0, none⟩)] w fun e w' => e = .returned (.tuple #[]) ∧ w' = w.setCell ⟨b, 0, none⟩ (.pointer (some ⟨b, 0, none⟩)) := by
  obtain ⟨j, hj, hjs⟩ := Option.map_eq_some_iff.1 info_sb
  go_enter Tryd.func53, Tryd.ntmps53
  go_wp2
  rw [Lib.run_to_unsafe w ⟨b, 0, none⟩ Tryd.underlying79 Tryd.underlying124 hj (by rw [hjs]; decide) hsh (Nat.zero_lt_succ 1)]
  simp only [Result.andThen]
  rw [Oper.upon_value]
  go_wp2
  rw [run_callFunc_extern Tryd.func67 (by kernel_rfl) (by kernel_rfl) (by kernel_rfl) (e := Extern.AbiNoEscape.same) (by kernel_rfl)]
  rw [Lib.run_noEscape]
  simp only [Result.andThen]
  rw [Oper.upon_value]
  go_wp2
  rw [Lib.run_from_unsafe w ⟨b, 0, none⟩ Tryd.underlying124 Tryd.underlying79 hj hsh sb_lies]
  simp only [Result.andThen]
  rw [Oper.upon_value]
  go_wp2
  go_end0
  exact ⟨rfl, rfl⟩
theorem sb_check (B b : Nat) (bs : List Value) (w : World) (h : Lib.IsBuilder 81 5 B b bs w) :
    Calls Tryd.prog 53 #[.pointer (some ⟨b, 0, none⟩)] w fun e w' => e = .returned (.tuple #[]) ∧ Lib.BuilderAt 81 5 B b (.pointer (some ⟨b, 0, none⟩)) bs w' ∧ Below B w w' := by
  rcases h with h | h
  · refine (sb_fresh b w h.cell0 h.shape h.frozen0).mono ?_
    rintro e w' ⟨rfl, rfl⟩
    exact ⟨rfl, h.used _, (Below.refl B w).setCell (p := ⟨b, 0, none⟩) h.1 _⟩
  · refine (sb_used b w h.cell0).mono ?_
    rintro e w' ⟨rfl, rfl⟩
    exact ⟨rfl, h, Below.refl B _⟩
set_option maxHeartbeats 2000000 in
set_option maxRecDepth 100000 in
theorem sb_write (B b : Nat) (l : List UInt8) (s : ByteArray) (w : World) (h : SB B b l w) (hlen : l.length + s.size ≤ 140737488355328) (hBw : B ≤ w.heap.size) :
    Calls Tryd.prog 37 #[.pointer (some ⟨b, 0, none⟩), .string s] w fun e w' => e = .returned (.tuple #[.int .i64 s.size, .nilIface]) ∧ SB B b (l ++ s.data.toList) w' ∧ Below B w w' := by
  obtain ⟨i0, hi, hz0, hz1, hz2⟩ := info_parts info_u8
  have hcl : (Lib.byteCells l).length = l.length := Lib.byteCells_length l
  go_enter Tryd.func37, Tryd.ntmps37
  go_wp2_with (go_at_call 53; refine (sb_check B b _ _ h).mono ?_)
  rintro e w1 ⟨rfl, h1, hb1⟩
  obtain ⟨hB, v, hbk, hown, hne⟩ := h1
  have c0 : w1.cell? ⟨b, 0, none⟩ = some (.pointer (some ⟨b, 0, none⟩)) := by rw [Lib.cell_of_heap hbk]; rfl
  have c1 : w1.cell? ⟨b, 1, none⟩ = some v := by rw [Lib.cell_of_heap hbk]; rfl
  go_wp2_with (at_builtin; refine Lib.wpList_append_own_string _ rfl _ _ 77 9 rfl B 5 i0 Tryd.underlying77 Tryd.underlying9 hi hz0 hz1 hz2 _ _ _ rfl hown s rfl ?c3 ?c4 ?c5 ?_)
  case c3 => unfold maxLen; omega
  case c4 => omega
  case c5 => have := hb1.size; omega
  intro v' w2 hown' hgrow _
  have hlt : b < w1.heap.size := (Array.getElem?_eq_some_iff.1 hbk).1
  have hb2 : w2.heap[b]? = some (.cells #[.pointer (some ⟨b, 0, none⟩), v] 81 (0, 0)) := by
    rw [hgrow.block b hlt (fun e => hne e.symm)]
    exact hbk
  have d0 : w2.cell? ⟨b, 0, none⟩ = some (.pointer (some ⟨b, 0, none⟩)) := by rw [Lib.cell_of_heap hb2]; rfl
  have d1 : w2.cell? ⟨b, 1, none⟩ = some v := by rw [Lib.cell_of_heap hb2]; rfl
  have f1 : w2.frozen? ⟨b, 1, none⟩ = false := Lib.frozen_of_heap hb2 1
  obtain ⟨ao, n', cap, rfl⟩ : ∃ ao n' cap, v' = .slice ao n' cap := by
    rcases hown'.2 with ⟨hv, _⟩ | ⟨g, cap, cur, hv, _⟩
    · exact ⟨_, _, _, hv⟩
    · exact ⟨_, _, _, hv⟩
  go_wp2
  go_ret2
  refine ⟨rfl, ?_, ?_⟩
  · have e : Lib.byteCells (l ++ s.data.toList) = Lib.byteCells l ++ Lib.strCells s := by
      rw [Lib.byteCells_append]
      rfl
    have hp := Lib.BuilderAt.put (T := 81) (e := 5) hB hb2 (bs' := Lib.byteCells l ++ Lib.strCells s) (by rw [List.length_append, Lib.strCells_length, hcl]; exact hown') (by decide)
    unfold SB
    rw [e]
    exact .inr hp
  · exact (hb1.grown hgrow (by have := hb1.size; omega) (fun k hk => (hown.lt k hk).1)).setCell (p := ⟨b, 1, none⟩) hB _
theorem sb_string (B b : Nat) (l : List UInt8) (w : World) (h : SB B b l w) (hBw : B ≤ w.heap.size) :
    Calls Tryd.prog 38 #[.pointer (some ⟨b, 0, none⟩)] w fun e w' => e = .returned (.string (str l)) ∧ Below B w w' := Tryd.Builder_String_any B b l w h hBw
end Go.Proofs.YtlakglphjhoodaaDoor.Mm

namespace Go.Proofs.YtlakglphjhoodaaDoor.Fl
open Go.RowKit Mm Law
theorem chkFrom_all (l : List Fld) : ∀ (n k : Nat), l.length - k ≤ n → (chkFrom l k).1 = 0 → ∀ j, k ≤ j → (h : j < l.length) → ¬ badAt l j l[j] := by
  intro n
  induction n with
  | zero => intro k hn _ j hj h; omega
  | succ n ih =>
    intro k hn h0 j hj h
    have hk : k < l.length := by omega
    by_cases hb : badAt l k l[k]
    · rw [chkFrom_bad hk hb] at h0
      exact absurd (show (40 : Int) = 0 from h0) (by decide)
    · rw [chkFrom_ok hk hb] at h0
      rcases Nat.lt_or_ge k j with h1 | h1
      · exact ih (k + 1) (by omega) h0 j h1 h
      · have : k = j := by omega
        subst this
        exact hb
theorem chk_zero {l : List Fld} (h : (chk l).1 = 0) : 0 < l.length ∧ l.length ≤ 12 ∧ ∀ j, (hj : j < l.length) → 1 ≤ l[j].2 ∧ l[j].2 ≤ 32 := by
  rcases chk_cases l with ⟨h1, e⟩ | ⟨h1, e⟩ | ⟨h1, h2, e⟩
  · rw [e] at h; exact absurd h (by decide)
  · rw [e] at h; exact absurd h (by decide)
  · rw [e] at h
    refine ⟨h1, h2, fun j hj => ?_⟩
    have hb := chkFrom_all l l.length 0 (by omega) h j (Nat.zero_le _) hj
    unfold badAt at hb
    refine ⟨?_, ?_⟩ <;> refine Classical.byContradiction fun hc => hb ?_
    · exact .inr (.inr (.inr (.inr (.inl (by omega)))))
    · exact .inr (.inr (.inr (.inr (.inr (.inl (by omega))))))
def bitsAt (l : List Fld) (k : Nat) : Nat := ((l[k]?.map fun f : Fld => f.2).getD 0).toNat
def valAt (x : List Int) (k : Nat) : Int := x.getD k 0
def tooB (l : List Fld) (x : List Int) (k : Nat) : Prop := valAt x k < 0 ∨ (topN (bitsAt l k) : Int) < valAt x k
def pkT (l : List Fld) (x : List Int) : Nat → List UInt8
  | 0 => []
  | k + 1 => pkT l x k ++ hiB (valAt x k).toNat (bitsAt l k) (bitsAt l k)
open Classical in
noncomputable def pkE (l : List Fld) (x : List Int) : Int := if (chk l).1 ≠ 0 then (chk l).1 else if x.length ≠ l.length then 1 else if ∃ k, k < l.length ∧ tooB l x k then 42 else 0
open Classical in
noncomputable def pkS (l : List Fld) (x : List Int) : List UInt8 := if pkE l x = 0 then pkT l x l.length else []
theorem pkT_len {l : List Fld} {x : List Int} (h : ∀ j, (hj : j < l.length) → 1 ≤ l[j].2 ∧ l[j].2 ≤ 32) : ∀ k, k ≤ l.length → (pkT l x k).length ≤ 32 * k := by
  intro k
  induction k with
  | zero => intro _; simp [pkT]
  | succ k ih =>
    intro hk
    have h1 := ih (by omega)
    have h2 := h k (by omega)
    unfold pkT
    rw [List.length_append, hiB_len]
    have : bitsAt l k ≤ 32 := by
      unfold bitsAt
      rw [List.getElem?_eq_getElem (by omega)]
      simp only [Option.map_some, Option.getD_some]
      omega
    omega
theorem pk_chk {l : List Fld} {x : List Int} {c : Int} (h : (chk l).1 = c) (h0 : c ≠ 0) : pkE l x = c ∧ pkS l x = [] := by
  have e : pkE l x = c := by unfold pkE; rw [if_pos (by rw [h]; exact h0), h]
  exact ⟨e, by unfold pkS; rw [e, if_neg h0]⟩
theorem pk_len {l : List Fld} {x : List Int} (h : (chk l).1 = 0) (h0 : x.length ≠ l.length) : pkE l x = 1 ∧ pkS l x = [] := by
  have e : pkE l x = 1 := by unfold pkE; rw [if_neg (by rw [h]; simp), if_pos h0]
  exact ⟨e, by unfold pkS; rw [e, if_neg (by decide)]⟩
theorem pk_big {l : List Fld} {x : List Int} (h : (chk l).1 = 0) (h0 : x.length = l.length) {k : Nat} (hk : k < l.length) (hb : tooB l x k) : pkE l x = 42 ∧ pkS l x = [] := by
  have e : pkE l x = 42 := by unfold pkE; rw [if_neg (by rw [h]; simp), if_neg (by omega), if_pos ⟨k, hk, hb⟩]
  exact ⟨e, by unfold pkS; rw [e, if_neg (by decide)]⟩
theorem pk_ok {l : List Fld} {x : List Int} (h : (chk l).1 = 0) (h0 : x.length = l.length) (hb : ∀ k, k < l.length → ¬ tooB l x k) : pkE l x = 0 ∧ pkS l x = pkT l x l.length := by
  have e : pkE l x = 0 := by unfold pkE; rw [if_neg (by rw [h]; simp), if_neg (by omega), if_neg (fun ⟨k, hk, hh⟩ => hb k hk hh)]
  exact ⟨e, by unfold pkS; rw [if_pos e]⟩
theorem pk_form (l : List Fld) (x : List Int) : -9223372036854775808 ≤ pkE l x ∧ pkE l x ≤ 9223372036854775807 := by
  unfold pkE
  split
  · have := chk_form l; omega
  · split
    · decide
    · split <;> decide
theorem bitsAt_of {l : List Fld} {k : Nat} {f : Fld} (h : l[k]? = some f) (h1 : 1 ≤ f.2) : (bitsAt l k : Int) = f.2 := by
  unfold bitsAt
  rw [h]
  simp only [Option.map_some, Option.getD_some]
  omega
theorem SB_below {B b : Nat} {l : List UInt8} {w w' : World} (h : SB B b l w) (hb : Below w.heap.size w w') : SB B b l w' := by
  have hh : ∀ p, Lib.BuilderAt 81 5 B b p (Lib.byteCells l) w → Lib.BuilderAt 81 5 B b p (Lib.byteCells l) w' := by
    rintro p ⟨h1, v, h2, h3, h4⟩
    exact ⟨h1, v, (hb.block b (Array.getElem?_eq_some_iff.1 h2).1).trans h2, own_below h3 hb (Nat.le_refl _), h4⟩
  exact h.imp (hh _) (hh _)
theorem SB_new (w : World) (B : Nat) (h : B ≤ w.heap.size) : SB B w.heap.size [] (w.alloc (.cells #[.pointer none, .slice none 0 0] 81)) :=
  .inl ⟨h, .slice none 0 0, Blk.new w _ _, World.ownsRow_nil _ _ _ _, by simp [Value.ownBlock]⟩
end Go.Proofs.YtlakglphjhoodaaDoor.Fl
