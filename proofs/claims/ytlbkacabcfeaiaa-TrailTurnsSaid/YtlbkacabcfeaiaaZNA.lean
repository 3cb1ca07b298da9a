/- Texts of one kind, put together: Na, Nb, Nc, Nd, Ne. -/
import Derived.Test.YtlbkacabcfeaiaaZCo
import Derived.Test.YtlbkacabcfeaiaaZKA
import Derived.Test.YtlbkacabcfeaiaaZPA
/- Patterns: does a leaf take a name? The program and the reference. -/
namespace Go.Proofs.Ytlbkacabcfeaiaa.Tl
open Go.RowKit Mm
set_option linter.unusedVariables false
theorem bs_ne {s t : ByteArray} (h : ¬ s = t) : (s.toList == t.toList) = false := by
  rw [ByteArray.toList_eq, ByteArray.toList_eq, beq_eq_false_iff_ne]
  intro e
  apply h
  cases s with
  | mk a => cases t with
    | mk b => simp only [ByteArray.mk.injEq]; exact Array.toList_inj.1 e
theorem bs_eq (s : ByteArray) : (s.toList == s.toList) = true := by simp
theorem name_eq {nm : ByteArray} {tx : List UInt8} : (nm.data.toList == tx) = decide (nm = str tx) := by
  rw [Bool.eq_iff_iff, beq_iff_eq, decide_eq_true_eq]
  exact ⟨fun h => by rw [← h]; exact (str_of nm).symm, fun h => by rw [h]; rfl⟩
set_option maxRecDepth 100000 in
set_option maxHeartbeats 4000000 in
theorem likes_any (tx : List UInt8) (n p d : Bool) (nm : ByteArray) (htx : tx.length ≤ 100000) (hnm : nm.size ≤ 100000) (w : World) :
    Calls Try.prog 72 #[.agg #[.string (str tx), .bool n, .bool p, .bool d], .string nm] w fun e w' => e = .returned (.bool (lkB (.leaf tx n p d) nm.data.toList)) ∧ Below w.heap.size w w' := by
  have hB := Blk.new w 87 #[.string (str tx), .bool n, .bool p, .bool d]
  have c0 := hB.cell 0
  have c1 := hB.cell 1
  have c2 := hB.cell 2
  have c3 := hB.cell 3
  have hz := str_size tx
  have HB := Lib.hid (show ∀ z, Below w.heap.size w (w.alloc (.cells #[.string z, .bool n, .bool p, .bool d] 87)) from fun z => bal (Below.refl _ w) _)
  clear hB
  cases n with
  | false =>
    go_enter Try.func72, Try.ntmps72
    go_wp2_with fail
    go_ret
    exact ⟨rfl, HB.out _⟩
  | true =>
    cases p with
    | true =>
      have HL := Lib.hid (show lkB (.leaf tx true true d) nm.data.toList = (decide (nm = str tx) != d) from by
        show ((nm.data.toList == tx) != d) = _
        rw [name_eq])
      rw [HL.out]
      generalize str tx = z at *
      by_cases he : nm = z
      · subst he
        have h1 := bs_eq nm
        rw [decide_eq_true rfl]
        go_enter Try.func72, Try.ntmps72
        go_wp2_with fail
        go_ret
        exact ⟨by cases d <;> rfl, HB.out _⟩
      · have h1 := bs_ne he
        rw [decide_eq_false he]
        clear he
        go_enter Try.func72, Try.ntmps72
        go_wp2_with fail
        go_ret
        exact ⟨by cases d <;> rfl, HB.out _⟩
    | false =>
      have HL := Lib.hid (show lkB (.leaf tx true false d) nm.data.toList = (Lib.hasPrefix nm.data.toList (str tx ++ ⟨#[46]⟩).data.toList != d) from by
        show (List.isPrefixOf (tx ++ [46]) nm.data.toList != d) = _
        rw [show str tx ++ ⟨#[46]⟩ = str (tx ++ [46]) from str_app tx [46]]
        rfl)
      rw [HL.out]
      have hz2 : ¬ 9223372036854775807 < (str tx).size + 1 := by omega
      generalize str tx = z at *
      have HP := Lib.hid (fun (X : World) => Try.strings_HasPrefix nm (z ++ ⟨#[46]⟩) X)
      generalize Lib.hasPrefix nm.data.toList (z ++ ⟨#[46]⟩).data.toList = b at *
      go_enter Try.func72, Try.ntmps72
      go_wp2_with fail
      go_quiet ((go_at_call 73; exact Calls.quiet_of_same (HP.out _)))
      go_wp2_with fail
      go_ret
      exact ⟨by cases b <;> cases d <;> rfl, below_drewN (HB.out _) _⟩
theorem pref_raw (nm tx : ByteArray) : Lib.hasPrefix nm.data.toList tx.data.toList = (decide (tx.size ≤ nm.size) && ((nm.extract 0 tx.size).toList == tx.toList)) := (Lib.hasPrefix_raw nm tx).symm
set_option maxRecDepth 100000 in
set_option maxHeartbeats 4000000 in
theorem begins_any (nm tx : ByteArray) (h1 : nm.size ≤ 200000) (h2 : tx.size ≤ 200000) (w : World) :
    Calls Try.prog 46 #[.string nm, .string tx] w fun e w' => e = .returned (.bool (Lib.hasPrefix nm.data.toList tx.data.toList)) ∧ w = w' := by
  rw [pref_raw]
  by_cases hl : tx.size ≤ nm.size
  · rw [decide_eq_true hl]
    have z0 : (0 : Int) ≤ (tx.size : Int) := by omega
    have z1 : (tx.size : Int) ≤ (nm.size : Int) := by omega
    go_enter Try.func46, Try.ntmps46
    go_wp2_with fail
    go_ret
    exact ⟨by simp, rfl⟩
  · rw [decide_eq_false hl]
    go_enter Try.func46, Try.ntmps46
    go_wp2_with fail
    go_ret
    exact ⟨rfl, rfl⟩
end Go.Proofs.Ytlbkacabcfeaiaa.Tl
/- Patterns: the reference's leaves; rows of truths. -/
namespace Go.Proofs.Ytlbkacabcfeaiaa.Tl
open Go.RowKit Mm
set_option linter.unusedVariables false
set_option maxRecDepth 100000 in
set_option maxHeartbeats 4000000 in
theorem rtakes_any {N : List Nd} {k : Nat} {tx : List UInt8} {n po dn : Bool} {d : Nd} (hden : Den N k (.leaf tx n po dn)) (hd : N[k]? = some d) (nm : ByteArray) (htx : tx.length ≤ 100000) (hnm : nm.size ≤ 100000) (hkv : ∃ a m c, d.kv = .slice a m c) (w : World) :
    Calls Try.prog 40 #[.agg #[.int .i64 (d.kind : Int), .string d.name, .bool d.no, d.kv], .string nm] w fun e w' => e = .returned (.bool (lkB (.leaf tx n po dn) nm.data.toList)) ∧ Below w.heap.size w w' := by
  have hcs : (d.kind = 1 ∧ lkB (.leaf tx n po dn) nm.data.toList = true) ∨ (d.kind = 2 ∧ d.name.data.toList = tx ∧ lkB (.leaf tx n po dn) nm.data.toList = (decide (nm = d.name) != d.no)) ∨ (d.kind = 3 ∧ d.name.data.toList = tx ∧ lkB (.leaf tx n po dn) nm.data.toList = (Lib.hasPrefix nm.data.toList (d.name ++ ⟨#[46]⟩).data.toList != d.no)) := by
    cases hden with
    | any k e h1 h2 => rw [h1] at hd; cases hd; exact .inl ⟨h2, rfl⟩
    | nam k e po h1 h2 =>
      rw [h1] at hd; cases hd
      cases po with
      | true =>
        refine .inr (.inl ⟨h2, rfl, ?_⟩)
        show ((nm.data.toList == d.name.data.toList) != d.no) = _
        rw [name_eq, str_of]
      | false =>
        refine .inr (.inr ⟨h2, rfl, ?_⟩)
        show (List.isPrefixOf (d.name.data.toList ++ [46]) nm.data.toList != d.no) = _
        have e : (d.name ++ (⟨#[46]⟩ : ByteArray)).data.toList = d.name.data.toList ++ [46] := by rw [ByteArray.data_append, Array.toList_append]
        rw [e]
        rfl
  obtain ⟨a, m, c, hkv⟩ := hkv
  obtain ⟨kd, nam, no, kv, kids⟩ := d
  dsimp only at hkv hcs
  subst hkv
  have hB := Blk.new w 92 #[.int .i64 (kd : Int), .string nam, .bool no, .slice a m c]
  have c0 := hB.cell 0
  have c1 := hB.cell 1
  have c2 := hB.cell 2
  have c3 := hB.cell 3
  have HB := Lib.hid (show ∀ z, Below w.heap.size w (w.alloc (.cells #[z, .string nam, .bool no, .slice a m c] 92)) from fun z => bal (Below.refl _ w) _)
  clear hB hden hd
  rcases hcs with ⟨hk, hl⟩ | ⟨hk, hx, hl⟩ | ⟨hk, hx, hl⟩
  · rw [hl]
    have hkI : (kd : Int) = 1 := by omega
    clear hl hk
    go_enter Try.func40, Try.ntmps40
    go_wp2_with fail
    go_ret
    exact ⟨rfl, HB.out _⟩
  · rw [hl]
    have hkI : (kd : Int) = 2 := by omega
    clear hl hk hx
    by_cases he : nm = nam
    · subst he
      have h1 := bs_eq nm
      rw [decide_eq_true rfl]
      go_enter Try.func40, Try.ntmps40
      go_wp2_with fail
      go_ret
      exact ⟨by cases no <;> rfl, HB.out _⟩
    · have h1 := bs_ne he
      rw [decide_eq_false he]
      clear he
      go_enter Try.func40, Try.ntmps40
      go_wp2_with fail
      go_ret
      exact ⟨by cases no <;> rfl, HB.out _⟩
  · rw [hl]
    have hkI : (kd : Int) = 3 := by omega
    have hsz : nam.size ≤ 100000 := by rw [← len_s, hx]; exact htx
    have hz2 : ¬ 9223372036854775807 < nam.size + 1 := by omega
    have hz3 : (nam ++ (⟨#[46]⟩ : ByteArray)).size ≤ 200000 := by rw [ByteArray.size_append]; have : (⟨#[46]⟩ : ByteArray).size = 1 := rfl; omega
    have HP := Lib.hid (fun (X : World) => begins_any nm (nam ++ ⟨#[46]⟩) (by omega) hz3 X)
    clear hl hk hx hz3
    generalize Lib.hasPrefix nm.data.toList (nam ++ ⟨#[46]⟩).data.toList = b at *
    go_enter Try.func40, Try.ntmps40
    go_wp2_with fail
    go_quiet ((go_at_call 46; exact Calls.quiet_of_same (swp (HP.out _))))
    go_wp2_with fail
    go_ret
    exact ⟨by cases b <;> cases no <;> rfl, below_drewN (HB.out _) _⟩
/-! Rows of truths. -/
def blA (l : List Bool) : Array Value := (l.map Value.bool).toArray
/-- a relation of n places, in a block of its own -/
def Mx (w : World) (B n : Nat) (l : List Bool) (v : Value) : Prop := ∃ g, v = .agg #[.int .i64 (n : Int), .slice (some ⟨g, 0, none⟩) (n * n) (n * n)] ∧ B ≤ g ∧ Blk w g 4 (blA l) ∧ l.length = n * n
theorem Mx.below {w w' : World} {B n : Nat} {l : List Bool} {v : Value} (h : Mx w B n l v) (hb : Below w.heap.size w w') : Mx w' B n l v := by
  obtain ⟨g, h1, h2, h3, h4⟩ := h
  exact ⟨g, h1, h2, h3.below hb h3.lt, h4⟩
theorem Mx.mono {w : World} {B B' n : Nat} {l : List Bool} {v : Value} (h : Mx w B n l v) (hb : B' ≤ B) : Mx w B' n l v := by
  obtain ⟨g, h1, h2, h3, h4⟩ := h
  exact ⟨g, h1, Nat.le_trans hb h2, h3, h4⟩
theorem info_bool : (Try.prog.info? 4).map (fun i => (i.zero, i.size, i.bytes)) = some (some (.bool false), 1, 1) := by kernel_rfl
theorem blA_rep (n : Nat) : blA (List.replicate n false) = madeCells #[.bool false] n := by
  apply Array.ext'
  rw [toList_madeCells_one]
  simp [blA]
theorem make_bools (n : Nat) (h : n ≤ 1000000) (u : World) : (Instr.makeSlice 77 (.int .i64 (n : Int)) (.int .i64 (n : Int))).run Try.prog u =
    .ok (.slice (some ⟨u.heap.size, 0, none⟩) n n) (u.alloc (.cells (blA (List.replicate n false)) 4)) := by
  obtain ⟨i0, hi, hz0, hz1, hz2⟩ := info_parts info_bool
  have h := run_make (P := Try.prog) u 77 4 i0 (.bool false) Try.underlying77 hi hz0 .i64 .i64 (n : Int) (n : Int) (by omega) (Int.le_refl _) (by rw [hz2]; omega) (by omega)
  rw [blA_rep]
  simpa [hz1, Value.cells] using h
end Go.Proofs.Ytlbkacabcfeaiaa.Tl
/- Patterns: the reference's relations: nothing, staying. -/
namespace Go.Proofs.Ytlbkacabcfeaiaa.Tl
open Go.RowKit Mm
set_option linter.unusedVariables false
set_option maxRecDepth 100000 in
set_option maxHeartbeats 4000000 in
theorem empty_any (n : Nat) (hn : n ≤ 301) (w : World) : Calls Try.prog 37 #[.int .i64 (n : Int)] w fun e w' => ∃ v, e = .returned v ∧ Mx w' w.heap.size n (List.replicate (n * n) false) v ∧ Below w.heap.size w w' := by
  have hnn : n * n ≤ 301 * 301 := Nat.mul_le_mul hn hn
  have hmk := make_bools (n * n) (by omega)
  have hmul : (n : Int) * (n : Int) = ((n * n : Nat) : Int) := by push_cast; rfl
  unfold Mx
  generalize n * n = m at *
  have hw1 : wrap64 (m : Int) = (m : Int) := by unfold wrap64; omega
  have hw2 : IntKind.i64.wrap (m : Int) = (m : Int) := IntWalk.i64_in _ (by omega)
  have hB0 := Blk.new w 79 #[.int .i64 0, .slice none 0 0]
  have c0 := hB0.cell 0
  have c1 := hB0.cell 1
  go_enter Try.func37, Try.ntmps37
  go_wp2_with fail
  have h1 := (Blk.new w 79 #[.int .i64 (n : Int), .slice (some ⟨w.heap.size + 1, 0, none⟩) m m]).alloc (.cells (blA (List.replicate m false)) 4)
  have z0 := h1.cell 0
  have z1 := h1.cell 1
  have h3 := Blk.new (w.alloc (.cells #[.int .i64 (n : Int), .slice (some ⟨w.heap.size + 1, 0, none⟩) m m] 79)) 4 (blA (List.replicate m false))
  rw [World.size_alloc] at h3
  refine bodyPost_ret (v := .agg #[.int .i64 (n : Int), .slice (some ⟨w.heap.size + 1, 0, none⟩) m m]) (by simp [results, Try.results37, go_sem, z0, z1]) rfl ?_
  exact ⟨_, rfl, ⟨w.heap.size + 1, rfl, by omega, h3, by simp⟩, bal (bal (Below.refl _ w) _) _⟩
/-- a row of truths tells a relation -/
def Rl (n : Nat) (l : List Bool) (R : Nat → Nat → Prop) : Prop := l.length = n * n ∧ ∀ i j, i < n → j < n → ∃ b, l[i * n + j]? = some b ∧ (b = true ↔ R i j)
theorem idx_lt {n i j : Nat} (hi : i < n) (hj : j < n) : i * n + j < n * n := by
  have := Nat.mul_le_mul_right n (show i + 1 ≤ n from hi)
  rw [Nat.succ_mul] at this
  omega
theorem idx_inj {n i j a c : Nat} (h : i * n + j = a * n + c) (hj : j < n) (hc : c < n) : i = a ∧ j = c := by
  rcases Nat.lt_trichotomy i a with hlt | heq | hgt
  · have := Nat.mul_le_mul_right n (show i + 1 ≤ a from hlt)
    rw [Nat.succ_mul] at this
    omega
  · subst heq
    exact ⟨rfl, by omega⟩
  · have := Nat.mul_le_mul_right n (show a + 1 ≤ i from hgt)
    rw [Nat.succ_mul] at this
    omega
theorem Rl.none (n : Nat) : Rl n (List.replicate (n * n) false) (fun _ _ => False) := by
  refine ⟨by simp, fun i j hi hj => ⟨false, ?_, by simp⟩⟩
  rw [List.getElem?_replicate, if_pos (idx_lt hi hj)]
theorem Rl.iff {n : Nat} {l : List Bool} {R R' : Nat → Nat → Prop} (h : Rl n l R) (hr : ∀ i j, i < n → j < n → (R i j ↔ R' i j)) : Rl n l R' :=
  ⟨h.1, fun i j hi hj => by
    obtain ⟨b, h1, h2⟩ := h.2 i j hi hj
    exact ⟨b, h1, h2.trans (hr i j hi hj)⟩⟩
theorem Rl.set {n a c : Nat} {l : List Bool} {R : Nat → Nat → Prop} (h : Rl n l R) (ha : a < n) (hc : c < n) (b : Bool) : Rl n (l.set (a * n + c) b) (fun i j => if i = a ∧ j = c then b = true else R i j) := by
  refine ⟨by rw [List.length_set]; exact h.1, fun i j hi hj => ?_⟩
  by_cases he : i = a ∧ j = c
  · obtain ⟨rfl, rfl⟩ := he
    refine ⟨b, ?_, by simp⟩
    rw [List.getElem?_set, if_pos rfl, if_pos (by rw [h.1]; exact idx_lt ha hc)]
  · obtain ⟨x, h1, h2⟩ := h.2 i j hi hj
    refine ⟨x, ?_, by show x = true ↔ (if i = a ∧ j = c then b = true else R i j); rw [if_neg he]; exact h2⟩
    rw [List.getElem?_set, if_neg (fun e => he (by obtain ⟨e1, e2⟩ := idx_inj e.symm hj hc; exact ⟨e1, e2⟩))]
    exact h1
theorem blA_get {l : List Bool} {k : Nat} {b : Bool} (h : l[k]? = some b) : (blA l)[k]? = some (.bool b) := by
  unfold blA
  rw [List.getElem?_toArray, List.getElem?_map, h]
  rfl
theorem blA_set (l : List Bool) (k : Nat) (b : Bool) : (blA l).setIfInBounds k (.bool b) = blA (l.set k b) := by
  unfold blA
  rw [List.setIfInBounds_toArray, List.map_set]
/-- a relation that stands -/
def MR (w : World) (B n : Nat) (R : Nat → Nat → Prop) (v : Value) : Prop := ∃ l, Mx w B n l v ∧ Rl n l R
theorem MR.below {w w' : World} {B n : Nat} {R : Nat → Nat → Prop} {v : Value} (h : MR w B n R v) (hb : Below w.heap.size w w') : MR w' B n R v := by
  obtain ⟨l, h1, h2⟩ := h
  exact ⟨l, h1.below hb, h2⟩
theorem MR.mono {w : World} {B B' n : Nat} {R : Nat → Nat → Prop} {v : Value} (h : MR w B n R v) (hb : B' ≤ B) : MR w B' n R v := by
  obtain ⟨l, h1, h2⟩ := h
  exact ⟨l, h1.mono hb, h2⟩
theorem MR.iff {w : World} {B n : Nat} {R R' : Nat → Nat → Prop} {v : Value} (h : MR w B n R v) (hr : ∀ i j, i < n → j < n → (R i j ↔ R' i j)) : MR w B n R' v := by
  obtain ⟨l, h1, h2⟩ := h
  exact ⟨l, h1, h2.iff hr⟩
set_option maxRecDepth 100000 in
set_option maxHeartbeats 4000000 in
theorem stay_any (n : Nat) (hn : n ≤ 301) (w : World) : Calls Try.prog 35 #[.int .i64 (n : Int)] w fun e w' => ∃ v, e = .returned v ∧ MR w' w.heap.size n (fun i j => i = j) v ∧ Below w.heap.size w w' := by
  have hnn : n * n ≤ 301 * 301 := Nat.mul_le_mul hn hn
  have hB0 := Blk.new w 79 #[.int .i64 0, .slice none 0 0]
  have hA0 : Below w.heap.size w (w.alloc (.cells #[.int .i64 0, .slice none 0 0] 79)) := bal (Below.refl _ w) _
  have HE := Lib.hid (empty_any n hn (w.alloc (.cells #[.int .i64 0, .slice none 0 0] 79)))
  have hsz : (w.alloc (.cells #[.int .i64 0, .slice none 0 0] 79)).heap.size = w.heap.size + 1 := by simp
  have HB0 := Lib.hid hB0
  have HA0 := Lib.hid hA0
  clear hB0 hA0
  go_enter Try.func35, Try.ntmps35
  go_wp2_with fail
  refine HE.out.mono ?_
  rintro e w1 ⟨v1, rfl, ⟨g, rfl, hg, hbg, hll⟩, hb1⟩
  rw [hsz] at hg
  have hA1 : Below w1.heap.size w1 (w1.alloc (.cells #[.int .i64 (n : Int), .slice (some ⟨g, 0, none⟩) (n * n) (n * n)] 79)) := (Below.refl _ w1).alloc (Nat.le_refl _) _
  have HG := Lib.hid (hbg.alloc (.cells #[.int .i64 (n : Int), .slice (some ⟨g, 0, none⟩) (n * n) (n * n)] 79))
  have HB3 := Lib.hid (Blk.new w1 79 #[.int .i64 (n : Int), .slice (some ⟨g, 0, none⟩) (n * n) (n * n)])
  have HB2 := Lib.hid ((HB0.out.below hb1 (by omega)).alloc (.cells #[.int .i64 (n : Int), .slice (some ⟨g, 0, none⟩) (n * n) (n * n)] 79))
  have HBL := Lib.hid (bal (bnx HA0.out hb1) (.cells #[.int .i64 (n : Int), .slice (some ⟨g, 0, none⟩) (n * n) (n * n)] 79))
  have hg1 : g < w1.heap.size := hbg.lt
  have hw1 := hb1.size
  rw [hsz] at hw1
  have HR := Lib.hid (show Rl n (List.replicate (n * n) false) (fun i j => i = j ∧ i < 0) from (Rl.none n).iff (fun i j _ _ => by simp))
  clear hbg hb1 hll hA1 HE HB0 HA0
  generalize List.replicate (n * n) false = l0 at *
  go_wp2_with fail
  go_loopw [4] (fun iv wr => ∃ (k : Nat) (l : List Bool), k ≤ n ∧ iv = .int .i64 (k : Int) ∧ Blk wr g 4 (blA l) ∧ Rl n l (fun i j => i = j ∧ i < k) ∧ Blk wr w1.heap.size 79 #[.int .i64 (n : Int), .slice (some ⟨g, 0, none⟩) (n * n) (n * n)] ∧ Blk wr w.heap.size 79 #[.int .i64 0, .slice none 0 0] ∧ Below w.heap.size w wr) (fun iv _ => n - (intOf iv).toNat)
  case atStart => exact ⟨0, l0, Nat.zero_le _, rfl, HG.out, HR.out, HB3.out, HB2.out, HBL.out⟩
  case round =>
    clear HG HR HB3 HB2 HBL
    obtain ⟨k, l, hk, rfl, hbg, hrl, hb3, hb2, hbl⟩ := hrel
    have c3 : wr.cell? ⟨w1.heap.size, 1, none⟩ = some (.slice (some ⟨g, 0, none⟩) (n * n) (n * n)) := hb3.cell 1
    have c30 : wr.cell? ⟨w1.heap.size, 0, none⟩ = some (.int .i64 (n : Int)) := hb3.cell 0
    have HG := Lib.hid hbg
    have HR := Lib.hid hrl
    have HB3 := Lib.hid hb3
    have HB2 := Lib.hid hb2
    have HBL := Lib.hid hbl
    clear hbl hrl
    by_cases hlt : k < n
    · have hidx := idx_lt hlt hlt
      have hkn : k * n ≤ 301 * 301 := Nat.mul_le_mul (by omega) hn
      obtain ⟨b, hb, _⟩ := HR.out.2 k k hlt hlt
      have cg1 : wr.cell? ⟨g, k * n + k, none⟩ = some (.bool b) := (hbg.cell _).trans (blA_get hb)
      have fg1 := hbg.frozen (k * n + k)
      have hmul : (k : Int) * (n : Int) = ((k * n : Nat) : Int) := by push_cast; rfl
      have HSET := Lib.hid (show Rl n (l.set (k * n + k) true) (fun i j => i = j ∧ i < k + 1) from (HR.out.set hlt hlt true).iff (fun i j _ _ => by
        by_cases he : i = k ∧ j = k
        · rw [if_pos he]; simp; omega
        · rw [if_neg he]; omega))
      have HGS := Lib.hid (show Blk (wr.setCell ⟨g, k * n + k, none⟩ (.bool true)) g 4 (blA (l.set (k * n + k) true)) from by rw [← blA_set]; exact hbg.set_ (k * n + k) (.bool true))
      clear hb hb3 hb2 hbg
      generalize hq : k * n = q at *
      generalize n * n = m at *
      have hw9 : IntKind.i64.wrap ((q : Int) + (k : Int)) = (q : Int) + (k : Int) := IntWalk.i64_in _ (by omega)
      have i0 : (0 : Int) ≤ (q : Int) + (k : Int) := by omega
      have i1 : (q : Int) + (k : Int) < (m : Int) := by omega
      go_wp2_with fail
      go_roundw
      case rel => exact ⟨k + 1, _, by omega, by go_num, HGS.out, HSET.out, HB3.out.far (p := ⟨g, q + k, none⟩) (show w1.heap.size ≠ g by omega) _, HB2.out.far (p := ⟨g, q + k, none⟩) (show w.heap.size ≠ g by omega) _, HBL.out.grown (only_set _ _ _ _) HBL.out.size (fun z hz => by cases hz; omega)⟩
      case measure => simp [intOf]; omega
    · obtain rfl : k = n := by omega
      have d0 : wr.cell? ⟨w.heap.size, 0, none⟩ = some (.int .i64 0) := hb2.cell 0
      have d1 : wr.cell? ⟨w.heap.size, 1, none⟩ = some (.slice none 0 0) := hb2.cell 1
      have e0 := hb2.frozen 0
      have e1 := hb2.frozen 1
      have HRF := Lib.hid (HR.out.iff (R' := fun i j => i = j) (fun i j hi hj => by omega))
      have hln := HR.out.1
      clear hb2 hb3 hbg
      go_wp2_with fail
      have hZ := (HB2.out.set_ 0 (.int .i64 (k : Int))).set_ 1 (.slice (some ⟨g, 0, none⟩) (k * k) (k * k))
      have z0 : ((wr.setCell ⟨w.heap.size, 0, none⟩ (.int .i64 (k : Int))).setCell ⟨w.heap.size, 1, none⟩ (.slice (some ⟨g, 0, none⟩) (k * k) (k * k))).cell? ⟨w.heap.size, 0, none⟩ = some (.int .i64 (k : Int)) := hZ.cell 0
      have z1 : ((wr.setCell ⟨w.heap.size, 0, none⟩ (.int .i64 (k : Int))).setCell ⟨w.heap.size, 1, none⟩ (.slice (some ⟨g, 0, none⟩) (k * k) (k * k))).cell? ⟨w.heap.size, 1, none⟩ = some (.slice (some ⟨g, 0, none⟩) (k * k) (k * k)) := hZ.cell 1
      refine bodyPost_ret (v := .agg #[.int .i64 (k : Int), .slice (some ⟨g, 0, none⟩) (k * k) (k * k)]) (by simp [results, Try.results35, go_sem, z0, z1]) rfl ?_
      refine ⟨_, rfl, ⟨l, ⟨g, rfl, by omega, (HG.out.far (p := ⟨w.heap.size, 0, none⟩) (show g ≠ w.heap.size by omega) _).far (p := ⟨w.heap.size, 1, none⟩) (show g ≠ w.heap.size by omega) _, hln⟩, HRF.out⟩, HBL.out.grown (gtrans (only_set _ _ _ _) (only_set _ _ _ _)) HBL.out.size (fun z hz => by cases hz; exact Nat.le_refl _)⟩
end Go.Proofs.Ytlbkacabcfeaiaa.Tl
/- Patterns: the reference's relations: one behind the other. -/
namespace Go.Proofs.Ytlbkacabcfeaiaa.Tl
open Go.RowKit Mm
set_option linter.unusedVariables false
/-- what a call that makes a relation out of two holds in its memory -/
structure En (w X : World) (n ga gb g ba bb br bt : Nat) (la lb l : List Bool) : Prop where
  a : Blk X ga 4 (blA la)
  b : Blk X gb 4 (blA lb)
  r : Blk X g 4 (blA l)
  xa : Blk X ba 79 #[.int .i64 (n : Int), .slice (some ⟨ga, 0, none⟩) (n * n) (n * n)]
  xb : Blk X bb 79 #[.int .i64 (n : Int), .slice (some ⟨gb, 0, none⟩) (n * n) (n * n)]
  xr : Blk X br 79 #[.int .i64 (n : Int), .slice (some ⟨g, 0, none⟩) (n * n) (n * n)]
  xt : Blk X bt 79 #[.int .i64 0, .slice none 0 0]
  bel : Below w.heap.size w X
  lo : w.heap.size ≤ g ∧ w.heap.size ≤ bt ∧ g ≠ ga ∧ g ≠ gb
section
variable {w X : World} {n ga gb g ba bb br bt : Nat} {la lb l : List Bool}
theorem blk_ty {g h : Nat} {t u : TypeId} {cs ds : Array Value} (h1 : Blk X g t cs) (h2 : Blk X h u ds) (hne : t ≠ u) : g ≠ h := fun e => by
  subst e
  unfold Blk at h1 h2
  rw [h1] at h2
  cases h2
  exact hne rfl
theorem En.set (h : En w X n ga gb g ba bb br bt la lb l) (p : Nat) (v : Bool) : En w (X.setCell ⟨g, p, none⟩ (.bool v)) n ga gb g ba bb br bt la lb (l.set p v) :=
  ⟨h.a.far (p := ⟨g, p, none⟩) (Ne.symm h.lo.2.2.1) _, h.b.far (p := ⟨g, p, none⟩) (Ne.symm h.lo.2.2.2) _, by rw [← blA_set]; exact h.r.set_ p (.bool v),
   h.xa.far (p := ⟨g, p, none⟩) (blk_ty h.xa h.r (by decide)) _, h.xb.far (p := ⟨g, p, none⟩) (blk_ty h.xb h.r (by decide)) _, h.xr.far (p := ⟨g, p, none⟩) (blk_ty h.xr h.r (by decide)) _, h.xt.far (p := ⟨g, p, none⟩) (blk_ty h.xt h.r (by decide)) _,
   h.bel.grown (only_set _ _ _ _) h.bel.size (fun z hz => by cases hz; exact h.lo.1), h.lo⟩
theorem En.drew (h : En w X n ga gb g ba bb br bt la lb l) : En w X.drew n ga gb g ba bb br bt la lb l := ⟨h.a, h.b, h.r, h.xa, h.xb, h.xr, h.xt, h.bel.drew, h.lo⟩
theorem En.start {W W1 : World} {l0 : List Bool} {v1 : Value} (ha : Blk W ga 4 (blA la)) (hb : Blk W gb 4 (blA lb))
    (xa : Blk W ba 79 #[.int .i64 (n : Int), .slice (some ⟨ga, 0, none⟩) (n * n) (n * n)]) (xb : Blk W bb 79 #[.int .i64 (n : Int), .slice (some ⟨gb, 0, none⟩) (n * n) (n * n)]) (xt : Blk W bt 79 #[.int .i64 0, .slice none 0 0])
    (hbt : w.heap.size ≤ bt) (hbel : Below w.heap.size w W) (h1 : Mx W1 W.heap.size n l0 v1) (hb1 : Below W.heap.size W W1) :
    ∃ g, v1 = .agg #[.int .i64 (n : Int), .slice (some ⟨g, 0, none⟩) (n * n) (n * n)] ∧ g < W1.heap.size ∧ En w (W1.alloc (.cells #[.int .i64 (n : Int), .slice (some ⟨g, 0, none⟩) (n * n) (n * n)] 79)) n ga gb g ba bb W1.heap.size bt la lb l0 := by
  obtain ⟨g, rfl, hg, hbg, _⟩ := h1
  have la1 := ha.lt
  have lb1 := hb.lt
  have hs := hbel.size
  have k := fun {z : Nat} {t : TypeId} {cs : Array Value} (h : Blk W z t cs) => (h.below hb1 h.lt).alloc (.cells #[.int .i64 (n : Int), .slice (some ⟨g, 0, none⟩) (n * n) (n * n)] 79)
  exact ⟨g, rfl, hbg.lt, k ha, k hb, hbg.alloc _, k xa, k xb, Blk.new W1 _ _, k xt, bal (bnx hbel hb1) _, by omega, hbt, by omega, by omega⟩
/-- what it hands back -/
theorem En.done (h : En w X n ga gb g ba bb br bt la lb l) {R : Nat → Nat → Prop} (hr : Rl n l R) : MR ((X.setCell ⟨bt, 0, none⟩ (.int .i64 (n : Int))).setCell ⟨bt, 1, none⟩ (.slice (some ⟨g, 0, none⟩) (n * n) (n * n))) w.heap.size n R (.agg #[.int .i64 (n : Int), .slice (some ⟨g, 0, none⟩) (n * n) (n * n)]) ∧ Below w.heap.size w ((X.setCell ⟨bt, 0, none⟩ (.int .i64 (n : Int))).setCell ⟨bt, 1, none⟩ (.slice (some ⟨g, 0, none⟩) (n * n) (n * n))) := by
  have hne := blk_ty h.r h.xt (by decide)
  refine ⟨⟨l, ⟨g, rfl, h.lo.1, (h.r.far (p := ⟨bt, 0, none⟩) hne _).far (p := ⟨bt, 1, none⟩) hne _, hr.1⟩, hr⟩, h.bel.grown (gtrans (only_set _ _ _ _) (only_set _ _ _ _)) h.bel.size (fun z hz => by cases hz; exact h.lo.2.1)⟩
end
/-! The rounds of 'then'. -/
def Fu (Ra Rb : Nat → Nat → Prop) (x y : Nat) : Prop := ∃ m, x ≤ m ∧ m ≤ y ∧ Ra x m ∧ Rb m y
def P1 (Ra Rb : Nat → Nat → Prop) (k x y : Nat) : Prop := x < k ∧ Fu Ra Rb x y
def P2 (Ra Rb : Nat → Nat → Prop) (k mm x y : Nat) : Prop := P1 Ra Rb k x y ∨ (x = k ∧ ∃ m, k ≤ m ∧ m < mm ∧ m ≤ y ∧ Ra k m ∧ Rb m y)
def P3 (Ra Rb : Nat → Nat → Prop) (k mm jj x y : Nat) : Prop := P2 Ra Rb k mm x y ∨ (x = k ∧ mm ≤ y ∧ y < jj ∧ Rb mm y)
section
variable {Ra Rb : Nat → Nat → Prop} {k mm jj n : Nat} {l : List Bool}
theorem p_12 (h : Rl n l (P1 Ra Rb k)) : Rl n l (P2 Ra Rb k k) := h.iff fun i j _ _ => by
  unfold P2
  constructor
  · exact .inl
  · rintro (h | ⟨_, m, h1, h2, _⟩)
    · exact h
    · omega
theorem p_2no (h : Rl n l (P2 Ra Rb k mm)) (hr : ¬ Ra k mm) : Rl n l (P2 Ra Rb k (mm + 1)) := h.iff fun i j _ _ => by
  unfold P2
  constructor
  · rintro (h | ⟨h0, m, h1, h2, h3⟩)
    · exact .inl h
    · exact .inr ⟨h0, m, h1, by omega, h3⟩
  · rintro (h | ⟨h0, m, h1, h2, h3, h4, h5⟩)
    · exact .inl h
    · refine .inr ⟨h0, m, h1, ?_, h3, h4, h5⟩
      rcases Nat.lt_succ_iff_lt_or_eq.1 h2 with h | rfl
      · exact h
      · exact absurd h4 hr
theorem p_23 (h : Rl n l (P2 Ra Rb k mm)) : Rl n l (P3 Ra Rb k mm mm) := h.iff fun i j _ _ => by
  unfold P3
  constructor
  · exact .inl
  · rintro (h | ⟨_, h1, h2, _⟩)
    · exact h
    · omega
theorem p_3no (h : Rl n l (P3 Ra Rb k mm jj)) (hr : ¬ Rb mm jj) : Rl n l (P3 Ra Rb k mm (jj + 1)) := h.iff fun i j _ _ => by
  unfold P3
  constructor
  · rintro (h | ⟨h0, h1, h2, h3⟩)
    · exact .inl h
    · exact .inr ⟨h0, h1, by omega, h3⟩
  · rintro (h | ⟨h0, h1, h2, h3⟩)
    · exact .inl h
    · refine .inr ⟨h0, h1, ?_, h3⟩
      rcases Nat.lt_succ_iff_lt_or_eq.1 h2 with h | rfl
      · exact h
      · exact absurd h3 hr
theorem p_3yes (h : Rl n l (P3 Ra Rb k mm jj)) (hr : Rb mm jj) (hm : mm ≤ jj) (hk : k < n) (hj : jj < n) : Rl n (l.set (k * n + jj) true) (P3 Ra Rb k mm (jj + 1)) := (h.set hk hj true).iff fun x y _ _ => by
  by_cases he : x = k ∧ y = jj
  · rw [if_pos he]
    obtain ⟨rfl, rfl⟩ := he
    exact ⟨fun _ => .inr ⟨rfl, hm, Nat.lt_succ_self _, hr⟩, fun _ => rfl⟩
  · rw [if_neg he]
    unfold P3
    constructor
    · rintro (h | ⟨h0, h1, h2, h3⟩)
      · exact .inl h
      · exact .inr ⟨h0, h1, by omega, h3⟩
    · rintro (h | ⟨h0, h1, h2, h3⟩)
      · exact .inl h
      · refine .inr ⟨h0, h1, ?_, h3⟩
        rcases Nat.lt_succ_iff_lt_or_eq.1 h2 with h | rfl
        · exact h
        · exact absurd ⟨h0, rfl⟩ he
theorem p_32 (h : Rl n l (P3 Ra Rb k mm n)) (hr : Ra k mm) (hkm : k ≤ mm) : Rl n l (P2 Ra Rb k (mm + 1)) := h.iff fun i j _ hj => by
  unfold P3 P2
  constructor
  · rintro ((h | ⟨h0, m, h1, h2, h3⟩) | ⟨h0, h1, h2, h3⟩)
    · exact .inl h
    · exact .inr ⟨h0, m, h1, by omega, h3⟩
    · exact .inr ⟨h0, mm, hkm, by omega, h1, hr, h3⟩
  · rintro (h | ⟨h0, m, h1, h2, h3, h4, h5⟩)
    · exact .inl (.inl h)
    · rcases Nat.lt_succ_iff_lt_or_eq.1 h2 with h | rfl
      · exact .inl (.inr ⟨h0, m, h1, h, h3, h4, h5⟩)
      · exact .inr ⟨h0, h3, hj, h5⟩
theorem p_21 (h : Rl n l (P2 Ra Rb k n)) : Rl n l (P1 Ra Rb (k + 1)) := h.iff fun i j _ hj => by
  unfold P2 P1
  constructor
  · rintro (⟨h, h2⟩ | ⟨rfl, m, h1, h2, h3, h4, h5⟩)
    · exact ⟨by omega, h2⟩
    · exact ⟨Nat.lt_succ_self _, m, h1, h3, h4, h5⟩
  · rintro ⟨h1, h2⟩
    rcases Nat.lt_succ_iff_lt_or_eq.1 h1 with h | rfl
    · exact .inl ⟨h, h2⟩
    · obtain ⟨m, g1, g2, g3, g4⟩ := h2
      exact .inr ⟨rfl, m, g1, by omega, g2, g3, g4⟩
end
set_option maxRecDepth 100000 in
set_option maxHeartbeats 16000000 in
theorem then_any (n : Nat) (hn : n ≤ 301) (w : World) (A B : Nat) (Ra Rb : Nat → Nat → Prop) (va vb : Value) (hA : MR w A n Ra va) (hB : MR w B n Rb vb) :
    Calls Try.prog 36 #[va, vb] w fun e w' => ∃ v, e = .returned v ∧ MR w' w.heap.size n (fun i j => ∃ m, i ≤ m ∧ m ≤ j ∧ Ra i m ∧ Rb m j) v ∧ Below w.heap.size w w' := by
  obtain ⟨la, ⟨ga, rfl, _, ha, _⟩, hra⟩ := hA
  obtain ⟨lb, ⟨gb, rfl, _, hb, _⟩, hrb⟩ := hB
  have hnn : n * n ≤ 301 * 301 := Nat.mul_le_mul hn hn
  have x1 := Blk.new w 79 #[.int .i64 (n : Int), .slice (some ⟨ga, 0, none⟩) (n * n) (n * n)]
  have x2 := Blk.new (w.alloc (.cells #[.int .i64 (n : Int), .slice (some ⟨ga, 0, none⟩) (n * n) (n * n)] 79)) 79 #[.int .i64 (n : Int), .slice (some ⟨gb, 0, none⟩) (n * n) (n * n)]
  have x3 := Blk.new ((w.alloc (.cells #[.int .i64 (n : Int), .slice (some ⟨ga, 0, none⟩) (n * n) (n * n)] 79)).alloc (.cells #[.int .i64 (n : Int), .slice (some ⟨gb, 0, none⟩) (n * n) (n * n)] 79)) 79 #[.int .i64 0, .slice none 0 0]
  have hbel := bal (bal (bal (Below.refl w.heap.size w) (.cells #[.int .i64 (n : Int), .slice (some ⟨ga, 0, none⟩) (n * n) (n * n)] 79)) (.cells #[.int .i64 (n : Int), .slice (some ⟨gb, 0, none⟩) (n * n) (n * n)] 79)) (.cells #[.int .i64 0, .slice none 0 0] 79)
  have y1 := (x1.alloc (.cells #[.int .i64 (n : Int), .slice (some ⟨gb, 0, none⟩) (n * n) (n * n)] 79)).alloc (.cells #[.int .i64 0, .slice none 0 0] 79)
  have y2 := x2.alloc (.cells #[.int .i64 0, .slice none 0 0] 79)
  have ya := ((ha.alloc (.cells #[.int .i64 (n : Int), .slice (some ⟨ga, 0, none⟩) (n * n) (n * n)] 79)).alloc (.cells #[.int .i64 (n : Int), .slice (some ⟨gb, 0, none⟩) (n * n) (n * n)] 79)).alloc (.cells #[.int .i64 0, .slice none 0 0] 79)
  have yb := ((hb.alloc (.cells #[.int .i64 (n : Int), .slice (some ⟨ga, 0, none⟩) (n * n) (n * n)] 79)).alloc (.cells #[.int .i64 (n : Int), .slice (some ⟨gb, 0, none⟩) (n * n) (n * n)] 79)).alloc (.cells #[.int .i64 0, .slice none 0 0] 79)
  simp only [World.size_alloc] at x2 x3 y2
  have HST := Lib.hid (fun W1 l0 v1 => En.start (w := w) (W1 := W1) (l0 := l0) (v1 := v1) ya yb y1 y2 x3 (by omega) hbel)
  have HE := Lib.hid (empty_any n hn (((w.alloc (.cells #[.int .i64 (n : Int), .slice (some ⟨ga, 0, none⟩) (n * n) (n * n)] 79)).alloc (.cells #[.int .i64 (n : Int), .slice (some ⟨gb, 0, none⟩) (n * n) (n * n)] 79)).alloc (.cells #[.int .i64 0, .slice none 0 0] 79)))
  have c0 := y1.cell 0
  have c1 := y1.cell 1
  have HRA := Lib.hid hra
  have HRB := Lib.hid hrb
  clear x1 x2 x3 y1 y2 ya yb hbel ha hb hra hrb
  go_enter Try.func36, Try.ntmps36
  go_wp2_with fail
  refine HE.out.mono ?_
  rintro e w1 ⟨v1, rfl, hm1, hb1⟩
  obtain ⟨g, rfl, hgl, hen⟩ := HST.out w1 _ _ hm1 hb1
  have HEN := Lib.hid hen
  have HR0 := Lib.hid (show Rl n (List.replicate (n * n) false) (P1 Ra Rb 0) from (Rl.none n).iff (fun i j _ _ => by unfold P1; simp))
  clear hm1 hb1 hen HST HE c0 c1
  generalize List.replicate (n * n) false = l0 at *
  go_wp2_with fail
  go_loopw [7] (fun iv wr => ∃ (k : Nat) (l : List Bool), k ≤ n ∧ iv = .int .i64 (k : Int) ∧ En w wr n ga gb g w.heap.size (w.heap.size + 1) w1.heap.size (w.heap.size + 1 + 1) la lb l ∧ Rl n l (P1 Ra Rb k)) (fun iv _ => n - (intOf iv).toNat)
  case atStart => exact ⟨0, l0, Nat.zero_le _, rfl, HEN.out, HR0.out⟩
  case round =>
    clear HEN HR0
    obtain ⟨k, l, hk, rfl, hen, hrl⟩ := hrel
    have HEN := Lib.hid hen
    have HR := Lib.hid hrl
    by_cases hlt : k < n
    · clear hen hrl
      have HR2 := Lib.hid (p_12 HR.out)
      go_wp2_with fail
      go_loopw [8] (fun mv wr => ∃ (mm : Nat) (l : List Bool), k ≤ mm ∧ mm ≤ n ∧ mv = .int .i64 (mm : Int) ∧ En w wr n ga gb g w.heap.size (w.heap.size + 1) w1.heap.size (w.heap.size + 1 + 1) la lb l ∧ Rl n l (P2 Ra Rb k mm)) (fun mv _ => n - (intOf mv).toNat)
      case atStart => exact ⟨k, l, Nat.le_refl _, hk, rfl, HEN.out, HR2.out⟩
      case round =>
        clear HEN HR HR2
        obtain ⟨mm, l2, hkm, hmn, rfl, hen, hrl⟩ := hrel
        have HEN := Lib.hid hen
        have HR := Lib.hid hrl
        by_cases hlm : mm < n
        · obtain ⟨b, hb, hbr⟩ := HRA.out.2 k mm hlt hlm
          have hidx := idx_lt hlt hlm
          have hkn : k * n ≤ 301 * 301 := Nat.mul_le_mul (by omega) hn
          have ca : wr.cell? ⟨ga, k * n + mm, none⟩ = some (.bool b) := (hen.a.cell _).trans (blA_get hb)
          have cxa : wr.cell? ⟨w.heap.size, 1, none⟩ = some (.slice (some ⟨ga, 0, none⟩) (n * n) (n * n)) := hen.xa.cell 1
          have hmul : (k : Int) * (n : Int) = ((k * n : Nat) : Int) := by push_cast; rfl
          clear hen hrl hb
          generalize hq : k * n = q at *
          cases b with
          | false =>
            have hnr : ¬ Ra k mm := fun h => by have := hbr.2 h; cases this
            have HR3 := Lib.hid (p_2no HR.out hnr)
            clear hbr hnr
            generalize n * n = m at *
            have i0 : (0 : Int) ≤ (q : Int) + (mm : Int) := by omega
            have i1 : (q : Int) + (mm : Int) < (m : Int) := by omega
            go_wp2_with fail
            go_roundw
            case rel => exact ⟨mm + 1, l2, by omega, by omega, by go_num, HEN.out, HR3.out⟩
            case measure => simp [intOf]; omega
          | true =>
            have hr : Ra k mm := hbr.1 rfl
            have HR3 := Lib.hid (p_23 HR.out)
            clear hbr
            have hmm : (n * n : Nat) ≤ 301 * 301 := hnn
            obtain ⟨m, hm⟩ : ∃ m, m = n * n := ⟨_, rfl⟩
            rw [← hm] at cxa hidx
            have i0 : (0 : Int) ≤ (q : Int) + (mm : Int) := by omega
            have i1 : (q : Int) + (mm : Int) < (m : Int) := by omega
            go_wp2_with fail
            go_loopw [9] (fun jv wr => ∃ (jj : Nat) (l : List Bool), mm ≤ jj ∧ jj ≤ n ∧ jv = .int .i64 (jj : Int) ∧ En w wr n ga gb g w.heap.size (w.heap.size + 1) w1.heap.size (w.heap.size + 1 + 1) la lb l ∧ Rl n l (P3 Ra Rb k mm jj)) (fun jv _ => n - (intOf jv).toNat)
            case atStart => exact ⟨mm, l2, Nat.le_refl _, hmn, rfl, HEN.out, HR3.out⟩
            case round =>
              clear HEN HR HR3 ca cxa
              obtain ⟨jj, l3, hmj, hjn, rfl, hen, hrl⟩ := hrel
              have HEN := Lib.hid hen
              have HR := Lib.hid hrl
              by_cases hlj : jj < n
              · obtain ⟨b2, hb2, hbr2⟩ := HRB.out.2 mm jj hlm hlj
                have hidx2 := idx_lt hlm hlj
                have hmn2 : mm * n ≤ 301 * 301 := Nat.mul_le_mul (by omega) hn
                have cb : wr.cell? ⟨gb, mm * n + jj, none⟩ = some (.bool b2) := (hen.b.cell _).trans (blA_get hb2)
                have cxb : wr.cell? ⟨w.heap.size + 1, 1, none⟩ = some (.slice (some ⟨gb, 0, none⟩) (n * n) (n * n)) := hen.xb.cell 1
                have hmul2 : (mm : Int) * (n : Int) = ((mm * n : Nat) : Int) := by push_cast; rfl
                rw [← hm] at cxb hidx2
                cases b2 with
                | false =>
                  have HR4 := Lib.hid (p_3no HR.out (fun h => by have := hbr2.2 h; cases this))
                  clear hen hrl hb2 hbr2
                  generalize mm * n = q2 at *
                  have i2 : (0 : Int) ≤ (q2 : Int) + (jj : Int) := by omega
                  have i3 : (q2 : Int) + (jj : Int) < (m : Int) := by omega
                  go_wp2_with fail
                  go_roundw
                  case rel => exact ⟨jj + 1, l3, by omega, by omega, by go_num, HEN.out, HR4.out⟩
                  case measure => simp [intOf]; omega
                | true =>
                  obtain ⟨b3, hb3, _⟩ := HR.out.2 k jj hlt hlj
                  have hidx3 := idx_lt hlt hlj
                  have HR4 := Lib.hid (p_3yes HR.out (hbr2.1 rfl) hmj hlt hlj)
                  have cg : wr.cell? ⟨g, k * n + jj, none⟩ = some (.bool b3) := (hen.r.cell _).trans (blA_get hb3)
                  have fg := hen.r.frozen (k * n + jj)
                  have cxr : wr.cell? ⟨w1.heap.size, 1, none⟩ = some (.slice (some ⟨g, 0, none⟩) (n * n) (n * n)) := hen.xr.cell 1
                  rw [← hm] at cxr hidx3
                  rw [hq] at cg fg HR4 hidx3
                  clear hen hrl hb2 hbr2 hb3
                  generalize mm * n = q2 at *
                  have i2 : (0 : Int) ≤ (q2 : Int) + (jj : Int) := by omega
                  have i3 : (q2 : Int) + (jj : Int) < (m : Int) := by omega
                  have i4 : (0 : Int) ≤ (q : Int) + (jj : Int) := by omega
                  have i5 : (q : Int) + (jj : Int) < (m : Int) := by omega
                  go_wp2_with fail
                  go_roundw
                  case rel => exact ⟨jj + 1, _, by omega, by omega, by go_num, HEN.out.set (q + jj) true, HR4.out⟩
                  case measure => simp [intOf]; omega
              · obtain rfl : jj = n := by omega
                have HR4 := Lib.hid (p_32 HR.out hr hkm)
                clear hen hrl
                go_wp2_with fail
                go_roundw
                case rel => exact ⟨mm + 1, l3, by omega, by omega, by go_num, HEN.out, HR4.out⟩
                case measure => simp [intOf]; omega
        · obtain rfl : mm = n := by omega
          have HR3 := Lib.hid (p_21 HR.out)
          clear hen hrl
          go_wp2_with fail
          go_roundw
          case rel => exact ⟨k + 1, l2, by omega, by go_num, HEN.out, HR3.out⟩
          case measure => simp [intOf]; omega
    · obtain rfl : k = n := by omega
      have HD := Lib.hid (HEN.out.done (R := fun i j => ∃ m, i ≤ m ∧ m ≤ j ∧ Ra i m ∧ Rb m j) (HR.out.iff (fun i j hi _ => ⟨fun h => h.2, fun h => ⟨hi, h⟩⟩)))
      have d0 : wr.cell? ⟨w1.heap.size, 0, none⟩ = some (.int .i64 (k : Int)) := hen.xr.cell 0
      have d1 : wr.cell? ⟨w1.heap.size, 1, none⟩ = some (.slice (some ⟨g, 0, none⟩) (k * k) (k * k)) := hen.xr.cell 1
      have d2 : wr.cell? ⟨w.heap.size + 1 + 1, 0, none⟩ = some (.int .i64 0) := hen.xt.cell 0
      have d3 : wr.cell? ⟨w.heap.size + 1 + 1, 1, none⟩ = some (.slice none 0 0) := hen.xt.cell 1
      have e2 := hen.xt.frozen 0
      have e3 := hen.xt.frozen 1
      have hZ := (hen.xt.set_ 0 (.int .i64 (k : Int))).set_ 1 (.slice (some ⟨g, 0, none⟩) (k * k) (k * k))
      have HZ := Lib.hid hZ
      clear hen hrl hZ
      go_wp2_with fail
      have z0 : ((wr.setCell ⟨w.heap.size + 1 + 1, 0, none⟩ (.int .i64 (k : Int))).setCell ⟨w.heap.size + 1 + 1, 1, none⟩ (.slice (some ⟨g, 0, none⟩) (k * k) (k * k))).cell? ⟨w.heap.size + 1 + 1, 0, none⟩ = some (.int .i64 (k : Int)) := HZ.out.cell 0
      have z1 : ((wr.setCell ⟨w.heap.size + 1 + 1, 0, none⟩ (.int .i64 (k : Int))).setCell ⟨w.heap.size + 1 + 1, 1, none⟩ (.slice (some ⟨g, 0, none⟩) (k * k) (k * k))).cell? ⟨w.heap.size + 1 + 1, 1, none⟩ = some (.slice (some ⟨g, 0, none⟩) (k * k) (k * k)) := HZ.out.cell 1
      refine bodyPost_ret (v := .agg #[.int .i64 (k : Int), .slice (some ⟨g, 0, none⟩) (k * k) (k * k)]) (by simp [results, Try.results36, go_sem, z0, z1]) rfl ?_
      exact ⟨_, rfl, HD.out.1, HD.out.2⟩
end Go.Proofs.Ytlbkacabcfeaiaa.Tl
/- Patterns: the reference's relations: one any number of times. -/
namespace Go.Proofs.Ytlbkacabcfeaiaa.Tl
open Go.RowKit Mm
set_option linter.unusedVariables false
def Sf (Ra : Nat → Nat → Prop) (p q : Nat) : Prop := p ≤ q ∧ Ra p q
/-- a chain all of whose steps begin ahead of a place -/
def Sb (Ra : Nat → Nat → Prop) (mm : Nat) : Nat → Nat → Prop := Star fun p q => p < mm ∧ p ≤ q ∧ Ra p q
def O1 (Ra : Nat → Nat → Prop) (k x y : Nat) : Prop := if x < k then Star (fun p q => p ≤ q ∧ Ra p q) x y else x = y
def O2 (Ra : Nat → Nat → Prop) (k mm x y : Nat) : Prop := if x < k then Star (fun p q => p ≤ q ∧ Ra p q) x y else if x = k then Sb Ra mm k y else x = y
def O3 (Ra : Nat → Nat → Prop) (k mm jj x y : Nat) : Prop := O2 Ra k mm x y ∨ (x = k ∧ mm ≤ y ∧ y < jj ∧ Ra mm y)
section
variable {Ra : Nat → Nat → Prop} {k mm jj n : Nat} {l : List Bool}
theorem sb_stuck {x y : Nat} (h : Sb Ra mm x y) (hx : mm ≤ x) : x = y := by
  cases h with
  | nil => rfl
  | cons _ m _ h1 _ => omega
theorem sb_mono {x y : Nat} (h : Sb Ra mm x y) : Sb Ra (mm + 1) x y := by
  induction h with
  | nil i => exact .nil i
  | cons i m j h1 _ ih => exact .cons i m j ⟨by omega, h1.2⟩ ih
theorem sb_split {x y : Nat} (h : Sb Ra (mm + 1) x y) : Sb Ra mm x y ∨ (Sb Ra mm x mm ∧ mm ≤ y ∧ Ra mm y) := by
  induction h with
  | nil i => exact .inl (.nil i)
  | cons i m j h1 _ ih =>
    by_cases hi : i < mm
    · rcases ih with h | ⟨h, h2⟩
      · exact .inl (.cons i m j ⟨hi, h1.2⟩ h)
      · exact .inr ⟨.cons i m mm ⟨hi, h1.2⟩ h, h2⟩
    · obtain rfl : i = mm := by omega
      rcases ih with h | ⟨h, h2⟩
      · obtain rfl := sb_stuck h h1.2.1
        exact .inr ⟨.nil _, h1.2⟩
      · exact .inr ⟨.nil _, h2⟩
theorem sb_snoc {x y : Nat} (h : Sb Ra mm x mm) (hy : mm ≤ y) (hr : Ra mm y) : Sb Ra (mm + 1) x y := Star.snoc (sb_mono h) ⟨Nat.lt_succ_self mm, hy, hr⟩
theorem sb_all {x y : Nat} (h : Star (fun p q => p ≤ q ∧ Ra p q) x y) (hy : y < n) : Sb Ra n x y := by
  induction h with
  | nil i => exact .nil i
  | cons i m j h1 h2 ih =>
    have := Star.le (fun _ _ h => h.1) h2
    have := h1.1
    exact .cons i m j ⟨by omega, h1⟩ (ih hy)
theorem sb_star {x y : Nat} (h : Sb Ra n x y) : Star (fun p q => p ≤ q ∧ Ra p q) x y := by
  induction h with
  | nil i => exact .nil i
  | cons i m j h1 _ ih => exact .cons i m j h1.2 ih
theorem o_at (Ra : Nat → Nat → Prop) (k mm : Nat) : O2 Ra k mm k mm ↔ Sb Ra mm k mm := by unfold O2; rw [if_neg (Nat.lt_irrefl k), if_pos rfl]
theorem o_12 (h : Rl n l (O1 Ra k)) : Rl n l (O2 Ra k k) := h.iff fun i j _ _ => by
  unfold O1 O2
  by_cases hi : i < k
  · rw [if_pos hi, if_pos hi]
  · rw [if_neg hi, if_neg hi]
    by_cases he : i = k
    · rw [if_pos he, he]
      exact ⟨fun h => by rw [← h]; exact .nil k, fun h => sb_stuck h (Nat.le_refl k)⟩
    · rw [if_neg he]
theorem o_2no (h : Rl n l (O2 Ra k mm)) (hr : ¬ Sb Ra mm k mm) : Rl n l (O2 Ra k (mm + 1)) := h.iff fun i j _ _ => by
  unfold O2
  by_cases hi : i < k
  · rw [if_pos hi, if_pos hi]
  · rw [if_neg hi, if_neg hi]
    by_cases he : i = k
    · rw [if_pos he, if_pos he]
      refine ⟨sb_mono, fun h => ?_⟩
      rcases sb_split h with h | ⟨h, _⟩
      · exact h
      · exact absurd h hr
    · rw [if_neg he, if_neg he]
theorem o_23 (h : Rl n l (O2 Ra k mm)) : Rl n l (O3 Ra k mm mm) := h.iff fun i j _ _ => by
  unfold O3
  constructor
  · exact .inl
  · rintro (h | ⟨_, h1, h2, _⟩)
    · exact h
    · omega
theorem o_3no (h : Rl n l (O3 Ra k mm jj)) (hr : ¬ Ra mm jj) : Rl n l (O3 Ra k mm (jj + 1)) := h.iff fun i j _ _ => by
  unfold O3
  constructor
  · rintro (h | ⟨h0, h1, h2, h3⟩)
    · exact .inl h
    · exact .inr ⟨h0, h1, by omega, h3⟩
  · rintro (h | ⟨h0, h1, h2, h3⟩)
    · exact .inl h
    · refine .inr ⟨h0, h1, ?_, h3⟩
      rcases Nat.lt_succ_iff_lt_or_eq.1 h2 with h | rfl
      · exact h
      · exact absurd h3 hr
theorem o_3yes (h : Rl n l (O3 Ra k mm jj)) (hr : Ra mm jj) (hm : mm ≤ jj) (hk : k < n) (hj : jj < n) : Rl n (l.set (k * n + jj) true) (O3 Ra k mm (jj + 1)) := (h.set hk hj true).iff fun x y _ _ => by
  by_cases he : x = k ∧ y = jj
  · rw [if_pos he]
    obtain ⟨rfl, rfl⟩ := he
    exact ⟨fun _ => .inr ⟨rfl, hm, Nat.lt_succ_self _, hr⟩, fun _ => rfl⟩
  · rw [if_neg he]
    unfold O3
    constructor
    · rintro (h | ⟨h0, h1, h2, h3⟩)
      · exact .inl h
      · exact .inr ⟨h0, h1, by omega, h3⟩
    · rintro (h | ⟨h0, h1, h2, h3⟩)
      · exact .inl h
      · refine .inr ⟨h0, h1, ?_, h3⟩
        rcases Nat.lt_succ_iff_lt_or_eq.1 h2 with h | rfl
        · exact h
        · exact absurd ⟨h0, rfl⟩ he
theorem o_32 (h : Rl n l (O3 Ra k mm n)) (hr : Sb Ra mm k mm) (hkm : k ≤ mm) (hlt : k < n) : Rl n l (O2 Ra k (mm + 1)) := h.iff fun i j _ hj => by
  unfold O3 O2
  by_cases hi : i < k
  · rw [if_pos hi, if_pos hi]
    constructor
    · rintro (h | ⟨h0, _⟩)
      · exact h
      · omega
    · exact .inl
  · rw [if_neg hi, if_neg hi]
    by_cases he : i = k
    · rw [if_pos he, if_pos he]
      constructor
      · rintro (h | ⟨_, h1, _, h3⟩)
        · exact sb_mono h
        · exact sb_snoc hr h1 h3
      · intro h
        rcases sb_split h with h | ⟨_, h1, h2⟩
        · exact .inl h
        · exact .inr ⟨he, h1, hj, h2⟩
    · rw [if_neg he, if_neg he]
      constructor
      · rintro (h | ⟨h0, _⟩)
        · exact h
        · exact absurd h0 he
      · exact .inl
theorem o_21 (h : Rl n l (O2 Ra k n)) : Rl n l (O1 Ra (k + 1)) := h.iff fun i j _ hj => by
  unfold O2 O1
  by_cases hi : i < k
  · rw [if_pos hi, if_pos (by omega)]
  · rw [if_neg hi]
    by_cases he : i = k
    · rw [if_pos he, if_pos (by omega), he]
      exact ⟨sb_star, fun h => sb_all h hj⟩
    · rw [if_neg he, if_neg (by omega)]
end
set_option maxRecDepth 100000 in
set_option maxHeartbeats 16000000 in
theorem often_any (n : Nat) (hn : n ≤ 301) (w : World) (A : Nat) (Ra : Nat → Nat → Prop) (va : Value) (hA : MR w A n Ra va) :
    Calls Try.prog 39 #[va] w fun e w' => ∃ v, e = .returned v ∧ MR w' w.heap.size n (Star (fun p q => p ≤ q ∧ Ra p q)) v ∧ Below w.heap.size w w' := by
  obtain ⟨la, ⟨ga, rfl, _, ha, _⟩, hra⟩ := hA
  have hnn : n * n ≤ 301 * 301 := Nat.mul_le_mul hn hn
  have x1 := Blk.new w 79 #[.int .i64 (n : Int), .slice (some ⟨ga, 0, none⟩) (n * n) (n * n)]
  have x3 := Blk.new (w.alloc (.cells #[.int .i64 (n : Int), .slice (some ⟨ga, 0, none⟩) (n * n) (n * n)] 79)) 79 #[.int .i64 0, .slice none 0 0]
  have hbel := bal (bal (Below.refl w.heap.size w) (.cells #[.int .i64 (n : Int), .slice (some ⟨ga, 0, none⟩) (n * n) (n * n)] 79)) (.cells #[.int .i64 0, .slice none 0 0] 79)
  have y1 := x1.alloc (.cells #[.int .i64 0, .slice none 0 0] 79)
  have ya := (ha.alloc (.cells #[.int .i64 (n : Int), .slice (some ⟨ga, 0, none⟩) (n * n) (n * n)] 79)).alloc (.cells #[.int .i64 0, .slice none 0 0] 79)
  simp only [World.size_alloc] at x3
  have HST := Lib.hid (fun W1 l0 v1 => En.start (w := w) (W1 := W1) (l0 := l0) (v1 := v1) ya ya y1 y1 x3 (by omega) hbel)
  have HE := Lib.hid (stay_any n hn ((w.alloc (.cells #[.int .i64 (n : Int), .slice (some ⟨ga, 0, none⟩) (n * n) (n * n)] 79)).alloc (.cells #[.int .i64 0, .slice none 0 0] 79)))
  have c0 := y1.cell 0
  have c1 := y1.cell 1
  have HRA := Lib.hid hra
  clear x1 x3 y1 ya hbel ha hra
  go_enter Try.func39, Try.ntmps39
  go_wp2_with fail
  refine HE.out.mono ?_
  rintro e w1 ⟨v1, rfl, ⟨l0, hm1, hr1⟩, hb1⟩
  obtain ⟨g, rfl, hgl, hen⟩ := HST.out w1 _ _ hm1 hb1
  have HEN := Lib.hid hen
  have HR0 := Lib.hid (show Rl n l0 (O1 Ra 0) from hr1.iff (fun i j _ _ => by unfold O1; rw [if_neg (Nat.not_lt_zero i)]))
  clear hm1 hb1 hen HST HE c0 c1 hr1
  go_wp2_with fail
  go_loopw [5] (fun iv wr => ∃ (k : Nat) (l : List Bool), k ≤ n ∧ iv = .int .i64 (k : Int) ∧ En w wr n ga ga g w.heap.size w.heap.size w1.heap.size (w.heap.size + 1) la la l ∧ Rl n l (O1 Ra k)) (fun iv _ => n - (intOf iv).toNat)
  case atStart => exact ⟨0, l0, Nat.zero_le _, rfl, HEN.out, HR0.out⟩
  case round =>
    clear HEN HR0
    obtain ⟨k, l, hk, rfl, hen, hrl⟩ := hrel
    have HEN := Lib.hid hen
    have HR := Lib.hid hrl
    by_cases hlt : k < n
    · clear hen hrl
      have HR2 := Lib.hid (o_12 HR.out)
      go_wp2_with fail
      go_loopw [6] (fun mv wr => ∃ (mm : Nat) (l : List Bool), k ≤ mm ∧ mm ≤ n ∧ mv = .int .i64 (mm : Int) ∧ En w wr n ga ga g w.heap.size w.heap.size w1.heap.size (w.heap.size + 1) la la l ∧ Rl n l (O2 Ra k mm)) (fun mv _ => n - (intOf mv).toNat)
      case atStart => exact ⟨k, l, Nat.le_refl _, hk, rfl, HEN.out, HR2.out⟩
      case round =>
        clear HEN HR HR2
        obtain ⟨mm, l2, hkm, hmn, rfl, hen, hrl⟩ := hrel
        have HEN := Lib.hid hen
        have HR := Lib.hid hrl
        by_cases hlm : mm < n
        · obtain ⟨b, hb, hbr0⟩ := HR.out.2 k mm hlt hlm
          have hbr := hbr0.trans (o_at Ra k mm)
          have hidx := idx_lt hlt hlm
          have hkn : k * n ≤ 301 * 301 := Nat.mul_le_mul (by omega) hn
          have ca : wr.cell? ⟨g, k * n + mm, none⟩ = some (.bool b) := (hen.r.cell _).trans (blA_get hb)
          have cxa : wr.cell? ⟨w1.heap.size, 1, none⟩ = some (.slice (some ⟨g, 0, none⟩) (n * n) (n * n)) := hen.xr.cell 1
          clear hbr0
          have hmul : (k : Int) * (n : Int) = ((k * n : Nat) : Int) := by push_cast; rfl
          clear hen hrl hb
          generalize hq : k * n = q at *
          cases b with
          | false =>
            have hnr : ¬ Sb Ra mm k mm := fun h => by have := hbr.2 h; cases this
            have HR3 := Lib.hid (o_2no HR.out hnr)
            clear hbr hnr
            generalize n * n = m at *
            have i0 : (0 : Int) ≤ (q : Int) + (mm : Int) := by omega
            have i1 : (q : Int) + (mm : Int) < (m : Int) := by omega
            go_wp2_with fail
            go_roundw
            case rel => exact ⟨mm + 1, l2, by omega, by omega, by go_num, HEN.out, HR3.out⟩
            case measure => simp [intOf]; omega
          | true =>
            have hr : Sb Ra mm k mm := hbr.1 rfl
            have HR3 := Lib.hid (o_23 HR.out)
            clear hbr
            have hmm : (n * n : Nat) ≤ 301 * 301 := hnn
            obtain ⟨m, hm⟩ : ∃ m, m = n * n := ⟨_, rfl⟩
            rw [← hm] at cxa hidx
            have i0 : (0 : Int) ≤ (q : Int) + (mm : Int) := by omega
            have i1 : (q : Int) + (mm : Int) < (m : Int) := by omega
            go_wp2_with fail
            go_loopw [7] (fun jv wr => ∃ (jj : Nat) (l : List Bool), mm ≤ jj ∧ jj ≤ n ∧ jv = .int .i64 (jj : Int) ∧ En w wr n ga ga g w.heap.size w.heap.size w1.heap.size (w.heap.size + 1) la la l ∧ Rl n l (O3 Ra k mm jj)) (fun jv _ => n - (intOf jv).toNat)
            case atStart => exact ⟨mm, l2, Nat.le_refl _, hmn, rfl, HEN.out, HR3.out⟩
            case round =>
              clear HEN HR HR3 ca cxa
              obtain ⟨jj, l3, hmj, hjn, rfl, hen, hrl⟩ := hrel
              have HEN := Lib.hid hen
              have HR := Lib.hid hrl
              by_cases hlj : jj < n
              · obtain ⟨b2, hb2, hbr2⟩ := HRA.out.2 mm jj hlm hlj
                have hidx2 := idx_lt hlm hlj
                have hmn2 : mm * n ≤ 301 * 301 := Nat.mul_le_mul (by omega) hn
                have cb : wr.cell? ⟨ga, mm * n + jj, none⟩ = some (.bool b2) := (hen.a.cell _).trans (blA_get hb2)
                have cxb : wr.cell? ⟨w.heap.size, 1, none⟩ = some (.slice (some ⟨ga, 0, none⟩) (n * n) (n * n)) := hen.xa.cell 1
                have hmul2 : (mm : Int) * (n : Int) = ((mm * n : Nat) : Int) := by push_cast; rfl
                rw [← hm] at cxb hidx2
                cases b2 with
                | false =>
                  have HR4 := Lib.hid (o_3no HR.out (fun h => by have := hbr2.2 h; cases this))
                  clear hen hrl hb2 hbr2
                  generalize mm * n = q2 at *
                  have i2 : (0 : Int) ≤ (q2 : Int) + (jj : Int) := by omega
                  have i3 : (q2 : Int) + (jj : Int) < (m : Int) := by omega
                  go_wp2_with fail
                  go_roundw
                  case rel => exact ⟨jj + 1, l3, by omega, by omega, by go_num, HEN.out, HR4.out⟩
                  case measure => simp [intOf]; omega
                | true =>
                  obtain ⟨b3, hb3, _⟩ := HR.out.2 k jj hlt hlj
                  have hidx3 := idx_lt hlt hlj
                  have HR4 := Lib.hid (o_3yes HR.out (hbr2.1 rfl) hmj hlt hlj)
                  have cg : wr.cell? ⟨g, k * n + jj, none⟩ = some (.bool b3) := (hen.r.cell _).trans (blA_get hb3)
                  have fg := hen.r.frozen (k * n + jj)
                  have cxr : wr.cell? ⟨w1.heap.size, 1, none⟩ = some (.slice (some ⟨g, 0, none⟩) (n * n) (n * n)) := hen.xr.cell 1
                  rw [← hm] at cxr hidx3
                  rw [hq] at cg fg HR4 hidx3
                  clear hen hrl hb2 hbr2 hb3
                  generalize mm * n = q2 at *
                  have i2 : (0 : Int) ≤ (q2 : Int) + (jj : Int) := by omega
                  have i3 : (q2 : Int) + (jj : Int) < (m : Int) := by omega
                  have i4 : (0 : Int) ≤ (q : Int) + (jj : Int) := by omega
                  have i5 : (q : Int) + (jj : Int) < (m : Int) := by omega
                  go_wp2_with fail
                  go_roundw
                  case rel => exact ⟨jj + 1, _, by omega, by omega, by go_num, HEN.out.set (q + jj) true, HR4.out⟩
                  case measure => simp [intOf]; omega
              · obtain rfl : jj = n := by omega
                have HR4 := Lib.hid (o_32 HR.out hr hkm hlt)
                clear hen hrl
                go_wp2_with fail
                go_roundw
                case rel => exact ⟨mm + 1, l3, by omega, by omega, by go_num, HEN.out, HR4.out⟩
                case measure => simp [intOf]; omega
        · obtain rfl : mm = n := by omega
          have HR3 := Lib.hid (o_21 HR.out)
          clear hen hrl
          go_wp2_with fail
          go_roundw
          case rel => exact ⟨k + 1, l2, by omega, by go_num, HEN.out, HR3.out⟩
          case measure => simp [intOf]; omega
    · obtain rfl : k = n := by omega
      have HD := Lib.hid (HEN.out.done (R := Star (fun p q => p ≤ q ∧ Ra p q)) (HR.out.iff (fun i j hi _ => by unfold O1; rw [if_pos hi])))
      have d0 : wr.cell? ⟨w1.heap.size, 0, none⟩ = some (.int .i64 (k : Int)) := hen.xr.cell 0
      have d1 : wr.cell? ⟨w1.heap.size, 1, none⟩ = some (.slice (some ⟨g, 0, none⟩) (k * k) (k * k)) := hen.xr.cell 1
      have d2 : wr.cell? ⟨w.heap.size + 1, 0, none⟩ = some (.int .i64 0) := hen.xt.cell 0
      have d3 : wr.cell? ⟨w.heap.size + 1, 1, none⟩ = some (.slice none 0 0) := hen.xt.cell 1
      have e2 := hen.xt.frozen 0
      have e3 := hen.xt.frozen 1
      have hZ := (hen.xt.set_ 0 (.int .i64 (k : Int))).set_ 1 (.slice (some ⟨g, 0, none⟩) (k * k) (k * k))
      have HZ := Lib.hid hZ
      clear hen hrl hZ
      go_wp2_with fail
      have z0 : ((wr.setCell ⟨w.heap.size + 1, 0, none⟩ (.int .i64 (k : Int))).setCell ⟨w.heap.size + 1, 1, none⟩ (.slice (some ⟨g, 0, none⟩) (k * k) (k * k))).cell? ⟨w.heap.size + 1, 0, none⟩ = some (.int .i64 (k : Int)) := HZ.out.cell 0
      have z1 : ((wr.setCell ⟨w.heap.size + 1, 0, none⟩ (.int .i64 (k : Int))).setCell ⟨w.heap.size + 1, 1, none⟩ (.slice (some ⟨g, 0, none⟩) (k * k) (k * k))).cell? ⟨w.heap.size + 1, 1, none⟩ = some (.slice (some ⟨g, 0, none⟩) (k * k) (k * k)) := HZ.out.cell 1
      refine bodyPost_ret (v := .agg #[.int .i64 (k : Int), .slice (some ⟨g, 0, none⟩) (k * k) (k * k)]) (by simp [results, Try.results39, go_sem, z0, z1]) rfl ?_
      exact ⟨_, rfl, HD.out.1, HD.out.2⟩
end Go.Proofs.Ytlbkacabcfeaiaa.Tl
