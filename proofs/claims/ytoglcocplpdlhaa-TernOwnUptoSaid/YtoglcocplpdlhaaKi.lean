/- TernOwn: appends, the argument. -/
import Derived.Test.YtoglcocplpdlhaaKh
import Derived.Test.YtoglcocplpdlhaaArg
import Derived.Test.YtoglcocplpdlhaaHd
namespace Go.Proofs.Ytoglcocplpdlhaa.Tn
open Go.RowKit Mm
open Law (ArgS)
set_option linter.unusedVariables false
theorem info_kept : (Try.prog.info? 37).map (fun i => (i.zero, i.size, i.bytes)) = some (some (.agg #[.slice none 0 0, .slice none 0 0, .int .i64 0, .int .u64 0, .int .u64 0, .int .u64 0, .int .u64 0, .int .u64 0, .int .u64 0, .int .u64 0, .int .u64 0]), 11, 120) := by kernel_rfl
theorem info_cc : (Try.prog.info? 32).map (fun i => (i.zero, i.size, i.bytes)) = some (some (.slice none 0 0), 1, 24) := by kernel_rfl
def kcells (l g : Value) (m : Nat) (c o : Nat → Bool) : Array Value := #[l, g, .int .i64 m, wv c 0, wv c 1, wv c 2, wv c 3, wv o 0, wv o 1, wv o 2, wv o 3]
theorem kcells_eq (l g : Value) (m : Nat) (c o : Nat → Bool) : #[l, g] ++ cs m c o = kcells l g m c o := rfl
theorem kcells_list {t : List UInt8} {m : Nat} {c o : Nat → Bool} (h : Cub t m c o) (l g : Value) : (kcells l g m c o).toList = [l, g] ++ ccells t := by
  rw [← h.cells, ← kcells_eq]
  simp
theorem app_kept {B : Nat} {v l g : Value} {n m k : Nat} {c o : Nat → Bool} {xs : List Value} {w : World} (hC : Cub (markT k) m c o) (h1 : l.oneCell' = true) (h2 : g.oneCell' = true) {ops : Array Oper} {rest : List Oper} {op : Oper} {a : Act} {Q : Exit → Act → World → Prop} {s x : Operand}
    (hown : w.ownsRow B 37 11 v n xs) (hgd : op.guard = none) (ho : op.op = .call { callee := .builtin .append, args := #[s, x], argTypes := #[30, 30] })
    (hs : a.eval s = v) (hx : a.eval x = .slice (some ⟨w.heap.size, 0, none⟩) 1 1) (hn : n ≤ 1000000) (hB : B ≤ w.heap.size)
    (h : ∀ v' w', w'.ownsRow B 37 11 v' (n + 1) (xs ++ ([l, g] ++ ccells (markT k))) → Keeps (w.alloc (.cells (kcells l g m c o) 37)) v v' w' → wpList Try.prog ops Q rest (a.put op.dst v') w') : wpList Try.prog ops Q (op :: rest) a (w.alloc (.cells (kcells l g m c o) 37)) := by
  obtain ⟨i0, hi, hz0, hz1, hz2⟩ := info_parts info_kept
  refine wpList_append_keep _ hgd s x 30 ho B 37 i0 _ 11 120 Try.underlying30 hi hz0 hz1 hz2 rfl (by decide) v n _ hs (hown.alloc _) ⟨w.heap.size, 0, none⟩ 1 1 (kcells l g m c o).toList hx rfl (cells_new _ _ _)
    ?_ (by decide) (by simp only [maxLen]; omega) (by omega) (by simp; omega) ?_
  · intro u hu
    rw [kcells_list hC] at hu
    simp only [List.cons_append, List.nil_append, List.mem_cons] at hu
    rcases hu with rfl | rfl | hu
    · exact h1
    · exact h2
    · rw [← hC.cells] at hu
      exact cs_one m c o u hu
  · intro v' w1 hown' hk
    rw [kcells_list hC] at hown'
    exact h v' w1 hown' hk
theorem app_cc1 {B : Nat} {v y : Value} {n : Nat} {xs : List Value} {w : World} (hy : y.oneCell' = true) {ops : Array Oper} {rest : List Oper} {op : Oper} {a : Act} {Q : Exit → Act → World → Prop} {s x : Operand}
    (hown : w.ownsRow B 32 1 v n xs) (hgd : op.guard = none) (ho : op.op = .call { callee := .builtin .append, args := #[s, x], argTypes := #[31, 31] })
    (hs : a.eval s = v) (hx : a.eval x = .slice (some ⟨w.heap.size, 0, none⟩) 1 1) (hn : n ≤ 1000000) (hB : B ≤ w.heap.size)
    (h : ∀ v' w', w'.ownsRow B 32 1 v' (n + 1) (xs ++ [y]) → Keeps (w.alloc (.cells #[y] 32)) v v' w' → wpList Try.prog ops Q rest (a.put op.dst v') w') : wpList Try.prog ops Q (op :: rest) a (w.alloc (.cells #[y] 32)) := by
  obtain ⟨i0, hi, hz0, hz1, hz2⟩ := info_parts info_cc
  exact wpList_append_keep _ hgd s x 31 ho B 32 i0 _ 1 24 Try.underlying31 hi hz0 hz1 hz2 rfl (by decide) v n _ hs (hown.alloc _) ⟨w.heap.size, 0, none⟩ 1 1 [y] hx rfl (cell_one_new _ _ _)
    (by simp [hy]) (by decide) (by simp only [maxLen]; omega) (by omega) (by simp; omega) h
theorem app_cc2 {B : Nat} {v y z : Value} {n : Nat} {xs : List Value} {w : World} (hy : y.oneCell' = true) (hz : z.oneCell' = true) {ops : Array Oper} {rest : List Oper} {op : Oper} {a : Act} {Q : Exit → Act → World → Prop} {s x : Operand}
    (hown : w.ownsRow B 32 1 v n xs) (hgd : op.guard = none) (ho : op.op = .call { callee := .builtin .append, args := #[s, x], argTypes := #[31, 31] })
    (hs : a.eval s = v) (hx : a.eval x = .slice (some ⟨w.heap.size, 0, none⟩) 2 2) (hn : n ≤ 1000000) (hB : B ≤ w.heap.size)
    (h : ∀ v' w', w'.ownsRow B 32 1 v' (n + 2) (xs ++ [y, z]) → Keeps (w.alloc (.cells #[y, z] 32)) v v' w' → wpList Try.prog ops Q rest (a.put op.dst v') w') : wpList Try.prog ops Q (op :: rest) a (w.alloc (.cells #[y, z] 32)) := by
  obtain ⟨i0, hi, hz0, hz1, hz2⟩ := info_parts info_cc
  exact wpList_append_keep _ hgd s x 31 ho B 32 i0 _ 1 24 Try.underlying31 hi hz0 hz1 hz2 rfl (by decide) v n _ hs (hown.alloc _) ⟨w.heap.size, 0, none⟩ 2 2 [y, z] hx rfl (cells_new _ #[y, z] _)
    (by simp [hy, hz]) (by decide) (by simp only [maxLen]; omega) (by omega) (by simp; omega) h
theorem arg_take {w : World} {a : Option Addr} {N cap : Nat} {Xs : List ByteArray} (h : ArgS w (.slice a N cap) Xs) (k : Nat) (hk : k ≤ Xs.length) : ArgS w (.slice a k cap) (Xs.take k) := by
  obtain ⟨a', cap', hv, hc, hm, hx, hz⟩ := h
  cases hv
  have hl : (Xs.take k).length = k := by rw [List.length_take]; omega
  refine ⟨a, cap, by rw [hl], by omega, hm, ?_, fun X hX => hz X (List.mem_of_mem_take hX)⟩
  rcases hx with rfl | ⟨b, off, ha, hb, hx⟩
  · exact .inl (by simp)
  · refine .inr ⟨b, off, ha, hb, fun j X hj => hx j X ?_⟩
    rw [List.getElem?_take] at hj
    split at hj <;> simp_all
theorem own_cell {w : World} {B s n : Nat} {e : TypeId} {v : Value} {xs : List Value} (h : w.ownsRow B e s v n xs) : v.oneCell' = true := by
  rcases h.2 with ⟨h0, _⟩ | ⟨g, cap, cur, hv, _⟩
  · rw [h0]; rfl
  · rw [hv]; rfl
theorem fz_new {X Y : World} {B s n N : Nat} {e : TypeId} {v u : Value} {xs ys : List Value} (h : Fz X v n xs) (hu : Y.ownsRow B e s u N ys) (hB : X.heap.size ≤ B) : Apart v u := by
  obtain ⟨a, cap, rfl, _, hx⟩ := h
  rcases hx with ⟨rfl, _⟩ | ⟨g, cur, rfl, hg, _⟩
  · exact .inl rfl
  · refine .inr (fun e0 => ?_)
    have h1 : B ≤ g := (own_ty hu e0.symm).1
    have h2 := (Array.getElem?_eq_some_iff.1 hg).1
    omega
theorem Ow.apN {w X Y : World} {bk : List Bk} {held was : List Rw} {b h s : Value} (H : Ow w bk held was b h s X) {B n : Nat} {v : Value} {xs : List Value} (ho : Y.ownsRow B 27 9 v n xs) (hB : X.heap.size ≤ B) :
    (∀ (i : Nat) (r : Rw), held[i]? = some r → Apart r.v v) ∧ ∀ (i : Nat) (e : Bk), bk[i]? = some e → Apart e.l v ∧ Apart e.g v :=
  ⟨fun i r hr => apart_new (H.fh.1 i r hr) ho hB, fun i e he => ⟨fz_new (H.fb i e he).fl ho hB, fz_new (H.fb i e he).fg ho hB⟩⟩
theorem idx_one {α : Type} {q r : α} {j : Nat} (h : [q][j]? = some r) : r = q := by
  cases j with
  | zero => simpa using h.symm
  | succ j => simp at h
theorem idx_two {α : Type} {p q r : α} {j : Nat} (h : [p, q][j]? = some r) : (j = 0 ∧ r = p) ∨ (j = 1 ∧ r = q) := by
  rcases j with _ | _ | j
  · exact .inl ⟨rfl, by simpa using h.symm⟩
  · exact .inr ⟨rfl, by simpa using h.symm⟩
  · simp at h
theorem Fam.one {B z : Nat} {e : TypeId} {X : World} {q : Rw} (h : X.ownsRow B e z q.v q.n q.xs) : Fam B e z [q] X :=
  ⟨fun i r hi => by rw [idx_one hi]; exact h, fun i j a b hij ha hb => by
    have h1 := (List.getElem?_eq_some_iff.1 ha).1
    have h2 := (List.getElem?_eq_some_iff.1 hb).1
    simp at h1 h2
    omega⟩
theorem Fam.two {B z : Nat} {e : TypeId} {X : World} {p q : Rw} (h : X.ownsRow B e z p.v p.n p.xs) (h' : X.ownsRow B e z q.v q.n q.xs) (ha : Apart p.v q.v) : Fam B e z [p, q] X :=
  ⟨fun i r hi => by rcases idx_two hi with ⟨_, rfl⟩ | ⟨_, rfl⟩ <;> assumption, fun i j a b hij h1 h2 => by
    rcases idx_two h1 with ⟨e1, rfl⟩ | ⟨e1, rfl⟩ <;> rcases idx_two h2 with ⟨e2, rfl⟩ | ⟨e2, rfl⟩
    · omega
    · exact ha
    · exact ha.symm
    · omega⟩
theorem str5 : str (markT 5) = ⟨#[49, 48, 49, 48, 48, 48, 48, 48, 48, 48, 48, 48, 48, 48, 48, 48]⟩ := by rfl
end Go.Proofs.Ytoglcocplpdlhaa.Tn
