/- LedgerLists: what the statement keeps: lists of records, lists of texts, and those gone on from. -/
import Derived.Test.YtndclkphglpknaaDoorRc
import Derived.Test.YtndclkphglpknaaDoorUm
import Derived.Test.YtndclkphglpknaaDoorFx
import Derived.Test.YtndclkphglpknaaDoorGw
import Derived.Laws.Runes
namespace Go.Proofs.YtndclkphglpknaaDoor.Lg
open Go.RowKit Mm Law
set_option linter.unusedVariables false
theorem info_lr : (Tryd.prog.info? 24).map (fun i => (i.zero, i.size, i.bytes)) = some (some (.slice none 0 0), 1, 24) := by kernel_rfl
theorem info_lt : (Tryd.prog.info? 27).map (fun i => (i.zero, i.size, i.bytes)) = some (some (.slice none 0 0), 1, 24) := by kernel_rfl
theorem info_rcL : (Tryd.prog.info? 40).map (fun i => (i.zero, i.size, i.bytes)) = some (some (.agg #[.int .i64 0, .int .i64 0, .string ⟨#[]⟩]), 3, 32) := by kernel_rfl
theorem info_stL : (Tryd.prog.info? 9).map (fun i => (i.zero, i.size, i.bytes)) = some (some (.string ⟨#[]⟩), 1, 16) := by kernel_rfl
section
variable {B : Nat} {v : Value} {n : Nat} {xs : List Value} {w : World} {ops : Array Oper} {rest : List Oper} {o : Oper} {a : Act} {Q : Exit → Act → World → Prop} {s x : Operand}
theorem app_lr (y : Value) (hy : y.oneCell' = true) (hown : w.ownsRow B 24 1 v n xs) (hgd : o.guard = none) (ho : o.op = .call { callee := .builtin .append, args := #[s, x], argTypes := #[30, 30] })
    (hs : a.eval s = v) (hx : a.eval x = .slice (some ⟨w.heap.size, 0, none⟩) 1 1) (hn : n ≤ 1000000) (hB : B ≤ w.heap.size)
    (h : ∀ v' w', w'.ownsRow B 24 1 v' (n + 1) (xs ++ [y]) → Keeps (w.alloc (.cells #[y] 24)) v v' w' → wpList Tryd.prog ops Q rest (a.put o.dst v') w') : wpList Tryd.prog ops Q (o :: rest) a (w.alloc (.cells #[y] 24)) := by
  obtain ⟨i0, hi, hz0, hz1, hz2⟩ := info_parts info_lr
  exact wpList_append_keep _ hgd s x 30 ho B 24 i0 _ 1 24 Tryd.underlying30 hi hz0 hz1 hz2 rfl (by decide) v n _ hs (hown.alloc _) ⟨w.heap.size, 0, none⟩ 1 1 [y] hx rfl (cell_one_new _ _ _)
    (by simp [hy]) (by decide) (by simp only [maxLen]; omega) (by omega) (by simp; omega) h
theorem app_lt (y : Value) (hy : y.oneCell' = true) (hown : w.ownsRow B 27 1 v n xs) (hgd : o.guard = none) (ho : o.op = .call { callee := .builtin .append, args := #[s, x], argTypes := #[31, 31] })
    (hs : a.eval s = v) (hx : a.eval x = .slice (some ⟨w.heap.size, 0, none⟩) 1 1) (hn : n ≤ 1000000) (hB : B ≤ w.heap.size)
    (h : ∀ v' w', w'.ownsRow B 27 1 v' (n + 1) (xs ++ [y]) → Keeps (w.alloc (.cells #[y] 27)) v v' w' → wpList Tryd.prog ops Q rest (a.put o.dst v') w') : wpList Tryd.prog ops Q (o :: rest) a (w.alloc (.cells #[y] 27)) := by
  obtain ⟨i0, hi, hz0, hz1, hz2⟩ := info_parts info_lt
  exact wpList_append_keep _ hgd s x 31 ho B 27 i0 _ 1 24 Tryd.underlying31 hi hz0 hz1 hz2 rfl (by decide) v n _ hs (hown.alloc _) ⟨w.heap.size, 0, none⟩ 1 1 [y] hx rfl (cell_one_new _ _ _)
    (by simp [hy]) (by decide) (by simp only [maxLen]; omega) (by omega) (by simp; omega) h
theorem app_rcK (c d : Int) (t : ByteArray) (hown : w.ownsRow B 40 3 v n xs) (hgd : o.guard = none) (ho : o.op = .call { callee := .builtin .append, args := #[s, x], argTypes := #[24, 24] })
    (hs : a.eval s = v) (hx : a.eval x = .slice (some ⟨w.heap.size, 0, none⟩) 1 1) (hn : n ≤ 2000000) (hB : B ≤ w.heap.size)
    (h : ∀ v' w', w'.ownsRow B 40 3 v' (n + 1) (xs ++ [.int .i64 c, .int .i64 d, .string t]) → Keeps (w.alloc (.cells #[.int .i64 c, .int .i64 d, .string t] 40)) v v' w' → wpList Tryd.prog ops Q rest (a.put o.dst v') w') : wpList Tryd.prog ops Q (o :: rest) a (w.alloc (.cells #[.int .i64 c, .int .i64 d, .string t] 40)) := by
  obtain ⟨i0, hi, hz0, hz1, hz2⟩ := info_parts info_rcL
  exact wpList_append_keep _ hgd s x 24 ho B 40 i0 _ 3 32 Tryd.underlying24 hi hz0 hz1 hz2 rfl (by decide) v n _ hs (hown.alloc _) ⟨w.heap.size, 0, none⟩ 1 1 [.int .i64 c, .int .i64 d, .string t] hx rfl (cells_new _ #[.int .i64 c, .int .i64 d, .string t] _)
    (by simp [Value.oneCell']) (by decide) (by simp only [maxLen]; omega) (by omega) (by simp; omega) h
theorem app_stK (t : ByteArray) (hown : w.ownsRow B 9 1 v n xs) (hgd : o.guard = none) (ho : o.op = .call { callee := .builtin .append, args := #[s, x], argTypes := #[27, 27] })
    (hs : a.eval s = v) (hx : a.eval x = .slice (some ⟨w.heap.size, 0, none⟩) 1 1) (hn : n ≤ 2000000) (hB : B ≤ w.heap.size)
    (h : ∀ v' w', w'.ownsRow B 9 1 v' (n + 1) (xs ++ [.string t]) → Keeps (w.alloc (.cells #[.string t] 9)) v v' w' → wpList Tryd.prog ops Q rest (a.put o.dst v') w') : wpList Tryd.prog ops Q (o :: rest) a (w.alloc (.cells #[.string t] 9)) := by
  obtain ⟨i0, hi, hz0, hz1, hz2⟩ := info_parts info_stL
  exact wpList_append_keep _ hgd s x 27 ho B 9 i0 _ 1 16 Tryd.underlying27 hi hz0 hz1 hz2 rfl (by decide) v n _ hs (hown.alloc _) ⟨w.heap.size, 0, none⟩ 1 1 [.string t] hx rfl (cell_one_new _ _ _)
    (by simp [Value.oneCell']) (by decide) (by simp only [maxLen]; omega) (by omega) (by simp; omega) h
end
set_option maxRecDepth 100000 in
set_option maxHeartbeats 2000000 in
theorem lists_yes (L : List ByteArray) (v u : Value) (w : World) (hv : SeesS w v 1 L.length (sC L)) (hu : SeesS w u 1 L.length (sC L)) :
    Calls Tryd.prog 10 #[v, u] w fun e w' => e = .returned (.bool true) ∧ Below w.heap.size w w' := by
  obtain ⟨a0, cap0, rfl, hcap, hcm⟩ := hv.form
  obtain ⟨a1, cap1, rfl, hcap1, hcm1⟩ := hu.form
  have HX := Lib.hid hv
  have HX1 := Lib.hid hu
  unfold maxLen at hcm hcm1
  have hne : ((L.length : Int) != (L.length : Int)) = false := by simp
  clear hv hu
  go_enter Tryd.func10, Tryd.ntmps10
  go_wp2
  go_loopw [5] (fun i wr => ∃ k : Nat, k ≤ L.length ∧ i = .int .i64 k ∧ Below w.heap.size w wr) (fun i _ => L.length - (intOf i).toNat)
  case atStart => exact ⟨0, Nat.zero_le _, rfl, Below.refl _ _⟩
  case round =>
    obtain ⟨k, hk, rfl, hbel⟩ := hrel
    by_cases hlt : k < L.length
    · obtain ⟨_, g, off, rfl, hg, hq⟩ := HX.out.at (by omega)
      obtain ⟨_, g1, off1, rfl, hg1, hq1⟩ := HX1.out.at (by omega)
      have kat : (sC L)[k]? = some (.string L[k]) := sC_at (by simp [hlt])
      have q0 := hq _ _ kat
      have p0 := hq1 _ _ kat
      rw [← hbel.cell (p := ⟨g, off + k, none⟩) hg] at q0
      rw [← hbel.cell (p := ⟨g1, off1 + k, none⟩) hg1] at p0
      have hnn : (L[k].toList == L[k].toList) = true := by simp
      generalize L[k] = f at *
      have h1 : g < wr.heap.size := Nat.lt_of_lt_of_le hg hbel.size
      have h2 : g1 < wr.heap.size := Nat.lt_of_lt_of_le hg1 hbel.size
      go_upto_region 6 with fail
      go_quiet (fail)
      go_wp2
      go_roundw
      case rel => exact ⟨k + 1, by omega, by go_num, below_drewN hbel _⟩
      case measure => simp [intOf]; omega
    · go_wp2
      go_ret
      exact ⟨rfl, hbel⟩
/-- the lists that came -/
structure Ls1 (w : World) (rows txs : List Rw) (a b : Value) (X : World) : Prop where
  bel : Below w.heap.size w X
  oa : X.ownsRow w.heap.size 24 1 a rows.length (rows.map Rw.v)
  ob : X.ownsRow w.heap.size 27 1 b txs.length (txs.map Rw.v)
  fr : Fam w.heap.size 40 3 rows X
  ft : Fam w.heap.size 9 1 txs X
theorem Ls1.new (w : World) : Ls1 w [] [] (.slice none 0 0) (.slice none 0 0) w :=
  ⟨Below.refl _ _, World.ownsRow_nil _ _ _ _, World.ownsRow_nil _ _ _ _, Fam.nil _ _ _ _, Fam.nil _ _ _ _⟩
section
variable {w X Y Z : World} {rows txs : List Rw} {a b : Value}
theorem Ls1.below (h : Ls1 w rows txs a b X) (hb : Below X.heap.size X Y) : Ls1 w rows txs a b Y :=
  ⟨bnx h.bel hb, own_below h.oa hb (Nat.le_refl _), own_below h.ob hb (Nat.le_refl _), h.fr.below hb (Nat.le_refl _), h.ft.below hb (Nat.le_refl _)⟩
theorem bel_keepsL {B s n : Nat} {e : TypeId} {v v' : Value} {xs : List Value} (h : Below w.heap.size w X) (ho : X.ownsRow w.heap.size e s v n xs) (hk : Keeps X v v' Y) : Below w.heap.size w Y :=
  h.grown hk.by h.size (fun k hk => (ho.lt k hk).1)
theorem own_low {B B' s n : Nat} {e : TypeId} {v : Value} {xs : List Value} (h : X.ownsRow B e s v n xs) (hB : B' ≤ B) : X.ownsRow B' e s v n xs := by
  refine ⟨h.1, ?_⟩
  rcases h.2 with h0 | ⟨g, cap, cur, hv, hb, rest⟩
  · exact .inl h0
  · exact .inr ⟨g, cap, cur, hv, Nat.le_trans hB hb, rest⟩
/-- .. and the two that came last -/
structure Ls2 (w : World) (rows txs : List Rw) (a b : Value) (q p : Rw) (X : World) : Prop where
  st : Ls1 w rows txs a b X
  o1 : X.ownsRow w.heap.size 40 3 q.v q.n q.xs
  o2 : X.ownsRow w.heap.size 9 1 p.v p.n p.xs
  a1 : ∀ (i : Nat) (r : Rw), rows[i]? = some r → Apart r.v q.v
  a2 : ∀ (i : Nat) (r : Rw), txs[i]? = some r → Apart r.v p.v
theorem Ls1.two (h : Ls1 w rows txs a b X) {q p : Rw} (hb1 : Below X.heap.size X Y) (h1 : Y.ownsRow X.heap.size 40 3 q.v q.n q.xs) (hb2 : Below Y.heap.size Y Z) (h2 : Z.ownsRow Y.heap.size 9 1 p.v p.n p.xs) : Ls2 w rows txs a b q p Z :=
  ⟨(h.below hb1).below hb2, own_low (own_below h1 hb2 (Nat.le_refl _)) h.bel.size, own_low h2 (h.below hb1).bel.size, fun i r hr => apart_new (h.fr.1 i r hr) h1 (Nat.le_refl _), fun i r hr => apart_new ((h.below hb1).ft.1 i r hr) h2 (Nat.le_refl _)⟩
theorem Ls2.below {q p : Rw} (h : Ls2 w rows txs a b q p X) (hb : Below X.heap.size X Y) : Ls2 w rows txs a b q p Y :=
  ⟨h.st.below hb, own_below h.o1 hb (Nat.le_refl _), own_below h.o2 hb (Nat.le_refl _), h.a1, h.a2⟩
/-- after the first of the two -/
structure Ls3 (w : World) (rows txs : List Rw) (a b : Value) (p : Rw) (X : World) : Prop where
  st : Ls1 w rows txs a b X
  o2 : X.ownsRow w.heap.size 9 1 p.v p.n p.xs
  a2 : ∀ (i : Nat) (r : Rw), txs[i]? = some r → Apart r.v p.v
theorem Ls2.addA {q p : Rw} {a' : Value} (h : Ls2 w rows txs a b q p X) (ho : Y.ownsRow w.heap.size 24 1 a' (rows.length + 1) (rows.map Rw.v ++ [q.v])) (hk : Keeps X a a' Y) : Ls3 w (rows ++ [q]) txs a' b p Y := by
  refine ⟨⟨bel_keepsL (B := 0) h.st.bel h.st.oa hk, by simpa using ho, own_keeps h.st.ob hk (apart_ty h.st.ob h.st.oa (by decide)), ?_, h.st.ft.keeps hk fun i r hr => apart_ty (h.st.ft.1 i r hr) h.st.oa (by decide)⟩, own_keeps h.o2 hk (apart_ty h.o2 h.st.oa (by decide)), h.a2⟩
  exact (h.st.fr.keeps hk fun i r hr => apart_ty (h.st.fr.1 i r hr) h.st.oa (by decide)).snoc (own_keeps h.o1 hk (apart_ty h.o1 h.st.oa (by decide))) h.a1
theorem Ls3.below {p : Rw} (h : Ls3 w rows txs a b p X) (hb : Below X.heap.size X Y) : Ls3 w rows txs a b p Y := ⟨h.st.below hb, own_below h.o2 hb (Nat.le_refl _), h.a2⟩
theorem Ls3.addB {p : Rw} {b' : Value} (h : Ls3 w rows txs a b p X) (ho : Y.ownsRow w.heap.size 27 1 b' (txs.length + 1) (txs.map Rw.v ++ [p.v])) (hk : Keeps X b b' Y) : Ls1 w rows (txs ++ [p]) a b' Y := by
  refine ⟨bel_keepsL (B := 0) h.st.bel h.st.ob hk, own_keeps h.st.oa hk (apart_ty h.st.oa h.st.ob (by decide)), by simpa using ho, h.st.fr.keeps hk fun i r hr => apart_ty (h.st.fr.1 i r hr) h.st.ob (by decide), ?_⟩
  exact (h.st.ft.keeps hk fun i r hr => apart_ty (h.st.ft.1 i r hr) h.st.ob (by decide)).snoc (own_keeps h.o2 hk (apart_ty h.o2 h.st.ob (by decide))) h.a2
/-- a cell of a list is written -/
theorem Ls1.putA (h : Ls1 w rows txs a b X) {i g n cap : Nat} {xs : List Value} (hi : rows[i]? = some ⟨.slice (some ⟨g, 0, none⟩) n cap, n, xs⟩) (k : Nat) (u : Value) :
    Ls1 w (rows.set i ⟨.slice (some ⟨g, 0, none⟩) n cap, n, xs.set k u⟩) txs a b (X.setCell ⟨g, k, none⟩ u) := by
  have ho := h.fr.1 i _ hi
  have hgr := only_set X g k u
  refine ⟨h.bel.setCell (show w.heap.size ≤ (⟨g, k, none⟩ : Addr).block from (own_ty ho rfl).1) u, ?_, own_grown h.ob hgr (apart_ty h.ob ho (by decide)), h.fr.put hi k u, ⟨fun j r hr => own_grown (h.ft.1 j r hr) hgr (apart_ty (h.ft.1 j r hr) ho (by decide)), h.ft.2⟩⟩
  rw [map_v_set hi, List.length_set]
  exact own_grown h.oa hgr (apart_ty h.oa ho (by decide))
theorem Ls1.putB (h : Ls1 w rows txs a b X) {i g n cap : Nat} {xs : List Value} (hi : txs[i]? = some ⟨.slice (some ⟨g, 0, none⟩) n cap, n, xs⟩) (k : Nat) (u : Value) :
    Ls1 w rows (txs.set i ⟨.slice (some ⟨g, 0, none⟩) n cap, n, xs.set k u⟩) a b (X.setCell ⟨g, k, none⟩ u) := by
  have ho := h.ft.1 i _ hi
  have hgr := only_set X g k u
  refine ⟨h.bel.setCell (show w.heap.size ≤ (⟨g, k, none⟩ : Addr).block from (own_ty ho rfl).1) u, own_grown h.oa hgr (apart_ty h.oa ho (by decide)), ?_, ⟨fun j r hr => own_grown (h.fr.1 j r hr) hgr (apart_ty (h.fr.1 j r hr) ho (by decide)), h.fr.2⟩, h.ft.put hi k u⟩
  rw [map_v_set hi, List.length_set]
  exact own_grown h.ob hgr (apart_ty h.ob ho (by decide))
end
/-- three cells of record k of list i are written -/
theorem Ls1.put3 {w X : World} {rows txs : List Rw} {a b : Value} {i g n cap : Nat} {xs : List Value} (h : Ls1 w (rows.set i ⟨.slice (some ⟨g, 0, none⟩) n cap, n, xs⟩) txs a b X) (hi : i < rows.length) (k : Nat) (u0 u1 u2 : Value) :
    Ls1 w (rows.set i ⟨.slice (some ⟨g, 0, none⟩) n cap, n, ((xs.set (k * 3) u0).set (k * 3 + 1) u1).set (k * 3 + 2) u2⟩) txs a b (((X.setCell ⟨g, k * 3, none⟩ u0).setCell ⟨g, k * 3 + 1, none⟩ u1).setCell ⟨g, k * 3 + 2, none⟩ u2) := by
  have h0 := h.putA (List.getElem?_set_self hi) (k * 3) u0
  rw [List.set_set] at h0
  have h1 := h0.putA (List.getElem?_set_self hi) (k * 3 + 1) u1
  rw [List.set_set] at h1
  have h2 := h1.putA (List.getElem?_set_self hi) (k * 3 + 2) u2
  rw [List.set_set] at h2
  exact h2
theorem Ls1.put1 {w X : World} {rows txs : List Rw} {a b : Value} {i g n cap : Nat} {xs : List Value} (h : Ls1 w rows (txs.set i ⟨.slice (some ⟨g, 0, none⟩) n cap, n, xs⟩) a b X) (hi : i < txs.length) (k : Nat) (u : Value) :
    Ls1 w rows (txs.set i ⟨.slice (some ⟨g, 0, none⟩) n cap, n, xs.set k u⟩) a b (X.setCell ⟨g, k, none⟩ u) := by
  have h0 := h.putB (List.getElem?_set_self hi) k u
  rw [List.set_set] at h0
  exact h0
/-- what is written into a list of records, of texts -/
def recW (j m : Nat) : List Value := (List.range m).flatMap fun (q : Nat) => [.int .i64 (100 * (j : Int)), .int .i64 (q : Int), .string ⟨#[]⟩]
theorem recW_succ (j m : Nat) : recW j (m + 1) = recW j m ++ [.int .i64 (100 * (j : Int)), .int .i64 (m : Int), .string ⟨#[]⟩] := by
  unfold recW
  rw [List.range_succ, List.flatMap_append]
  simp
theorem recW_len (j m : Nat) : (recW j m).length = m * 3 := by
  induction m with
  | zero => rfl
  | succ m ih => rw [recW_succ, List.length_append, ih]; simp; omega
theorem recW_at (j m q : Nat) (h : q < m) : (recW j m)[q * 3]? = some (.int .i64 (100 * (j : Int))) ∧ (recW j m)[q * 3 + 1]? = some (.int .i64 (q : Int)) ∧ (recW j m)[q * 3 + 2]? = some (.string ⟨#[]⟩) := by
  induction m with
  | zero => omega
  | succ m ih =>
    have hl := recW_len j m
    rw [recW_succ]
    by_cases hq : q < m
    · rw [List.getElem?_append_left (by omega), List.getElem?_append_left (by omega), List.getElem?_append_left (by omega)]
      exact ih hq
    · obtain rfl : q = m := by omega
      rw [List.getElem?_append_right (by omega), List.getElem?_append_right (by omega), List.getElem?_append_right (by omega), hl]
      rw [Nat.sub_self, show q * 3 + 1 - q * 3 = 1 by omega, show q * 3 + 2 - q * 3 = 2 by omega]
      exact ⟨rfl, rfl, rfl⟩
/-- what is put behind it -/
def recA (j m : Nat) : List Value := (List.range m).flatMap fun _ => [.int .i64 (-1 - (j : Int)), .int .i64 0, .string ⟨#[]⟩]
theorem recA_succ (j m : Nat) : recA j (m + 1) = recA j m ++ [.int .i64 (-1 - (j : Int)), .int .i64 0, .string ⟨#[]⟩] := by
  unfold recA
  rw [List.range_succ, List.flatMap_append]
  simp
theorem recA_len (j m : Nat) : (recA j m).length = m * 3 := by
  induction m with
  | zero => rfl
  | succ m ih => rw [recA_succ, List.length_append, ih]; simp; omega
theorem recA_at (j m q : Nat) (h : q < m) : (recA j m)[q * 3]? = some (.int .i64 (-1 - (j : Int))) := by
  induction m with
  | zero => omega
  | succ m ih =>
    have hl := recA_len j m
    rw [recA_succ]
    by_cases hq : q < m
    · rw [List.getElem?_append_left (by omega)]
      exact ih hq
    · obtain rfl : q = m := by omega
      rw [List.getElem?_append_right (by omega), hl, Nat.sub_self]
      rfl
def chA (j : Nat) : ByteArray := Utf8.encode (97 + (j : Int))
def chB (j : Nat) : ByteArray := Utf8.encode (65 + (j : Int))
theorem conv_a (j : Nat) : ∀ W : World, (convert 21 9 (.int .i32 (97 + (j : Int)))).run Tryd.prog W = .ok (.string (chA j)) W :=
  fun W => run_convert_int_string W _ _ _ _ (by rw [Tryd.underlying21]; rfl) Tryd.underlying9
theorem conv_b (j : Nat) : ∀ W : World, (convert 21 9 (.int .i32 (65 + (j : Int)))).run Tryd.prog W = .ok (.string (chB j)) W :=
  fun W => run_convert_int_string W _ _ _ _ (by rw [Tryd.underlying21]; rfl) Tryd.underlying9
theorem take3 {xs : List Value} {k N : Nat} (hl : xs.length = N * 3) (hk : k < N) {p : List Value} (h : xs.take (k * 3) = p) (a0 a1 a2 : Value) :
    (((xs.set (k * 3) a0).set (k * 3 + 1) a1).set (k * 3 + 2) a2).take ((k + 1) * 3) = p ++ [a0, a1, a2] := by
  have one : ∀ (ys : List Value) (m : Nat) (q : List Value) (u : Value), m < ys.length → ys.take m = q → (ys.set m u).take (m + 1) = q ++ [u] := by
    intro ys m q u hm hq
    rw [List.take_add_one, List.take_set_of_le (Nat.le_refl m), hq, List.getElem?_set_self hm]
    rfl
  have h0 := one xs (k * 3) p a0 (by omega) h
  have h1 := one _ _ _ a1 (by simp; omega) h0
  have h2 := one _ _ _ a2 (by simp; omega) h1
  rw [show (k + 1) * 3 = k * 3 + 2 + 1 by omega]
  simpa using h2
theorem take1 {xs : List Value} {k : Nat} (hl : k < xs.length) {p : List Value} (h : xs.take k = p) (a : Value) : (xs.set k a).take (k + 1) = p ++ [a] := by
  rw [List.take_add_one, List.take_set_of_le (Nat.le_refl k), h, List.getElem?_set_self hl]
  rfl
/-- what stands in the lists, one after the other -/
def Cn (rows : List Rw) (N : Nat) (f : Nat → List Value) : Prop := ∀ (i : Nat) (r : Rw), rows[i]? = some r → r.n = N ∧ r.xs = f i
theorem Cn.nil (N : Nat) (f : Nat → List Value) : Cn [] N f := fun i r h => by simp at h
theorem Cn.snoc {rows : List Rw} {N : Nat} {f : Nat → List Value} (h : Cn rows N f) {v : Value} {xs : List Value} (hx : xs = f rows.length) : Cn (rows ++ [⟨v, N, xs⟩]) N f := by
  intro i r hr
  rcases Nat.lt_or_ge i rows.length with h1 | h1
  · rw [List.getElem?_append_left h1] at hr; exact h i r hr
  · rw [List.getElem?_append_right h1] at hr
    rcases Nat.eq_or_lt_of_le h1 with h2 | h2
    · rw [← h2, Nat.sub_self] at hr
      cases hr
      exact ⟨rfl, by rw [← h2]; exact hx⟩
    · rw [List.getElem?_eq_none (by simp; omega)] at hr; cases hr
theorem Cn.set {rows : List Rw} {N : Nat} {f f' : Nat → List Value} (h : Cn rows N f) {i : Nat} {v : Value} {xs : List Value} (hx : xs = f' i) (hf : ∀ j, j ≠ i → f' j = f j) : Cn (rows.set i ⟨v, N, xs⟩) N f' := by
  intro j r hr
  by_cases hj : j = i
  · subst hj
    have hl : j < rows.length := by have := (List.getElem?_eq_some_iff.1 hr).1; simpa using this
    rw [List.getElem?_set_self hl] at hr
    cases hr
    exact ⟨rfl, hx⟩
  · rw [List.getElem?_set_ne (Ne.symm hj)] at hr
    rw [hf j hj]
    exact h j r hr
theorem Cn.at {rows : List Rw} {N : Nat} {f : Nat → List Value} (h : Cn rows N f) {i : Nat} (hi : i < rows.length) : ∃ v, rows[i]? = some ⟨v, N, f i⟩ := by
  have h1 : rows[i]? = some rows[i] := List.getElem?_eq_getElem hi
  obtain ⟨h2, h3⟩ := h i _ h1
  refine ⟨rows[i].v, ?_⟩
  rw [h1, ← h2, ← h3]
theorem Cn.of {rows : List Rw} {N : Nat} {f f' : Nat → List Value} (h : Cn rows N f) (hf : ∀ j, j < rows.length → f j = f' j) : Cn rows N f' := fun i r hr => by
  obtain ⟨h1, h2⟩ := h i r hr
  exact ⟨h1, by rw [h2, hf i (List.getElem?_eq_some_iff.1 hr).1]⟩
/-- the lists, and those gone on from them -/
structure Ls4 (w : World) (rows gs txs hs : List Rw) (a b m l : Value) (km kl : Nat) (X : World) : Prop where
  bel : Below w.heap.size w X
  oa : X.ownsRow w.heap.size 24 1 a rows.length (rows.map Rw.v)
  ob : X.ownsRow w.heap.size 27 1 b txs.length (txs.map Rw.v)
  om : X.ownsRow w.heap.size 24 1 m km ((gs.take km).map Rw.v)
  ol : X.ownsRow w.heap.size 27 1 l kl ((hs.take kl).map Rw.v)
  am : Apart a m
  bl : Apart b l
  gr : Grow w.heap.size 40 3 rows gs X
  gt : Grow w.heap.size 9 1 txs hs X
theorem Ls1.to4 {w X : World} {rows txs : List Rw} {a b : Value} (h : Ls1 w rows txs a b X) : Ls4 w rows rows txs txs a b (.slice none 0 0) (.slice none 0 0) 0 0 X :=
  ⟨h.bel, h.oa, h.ob, World.ownsRow_nil _ _ _ _, World.ownsRow_nil _ _ _ _, Apart.symm (.inl rfl), Apart.symm (.inl rfl), Grow.start h.fr, Grow.start h.ft⟩
section
variable {w X Y Z : World} {rows txs gs hs : List Rw} {a b m l : Value} {km kl : Nat}
theorem Ls4.below (h : Ls4 w rows gs txs hs a b m l km kl X) (hb : Below X.heap.size X Y) : Ls4 w rows gs txs hs a b m l km kl Y :=
  ⟨bnx h.bel hb, own_below h.oa hb (Nat.le_refl _), own_below h.ob hb (Nat.le_refl _), own_below h.om hb (Nat.le_refl _), own_below h.ol hb (Nat.le_refl _), h.am, h.bl, h.gr.below hb, h.gt.below hb⟩
/-- list i of records is gone on from -/
theorem Ls4.stepA {i n n' : Nat} {u u' : Value} {xs news : List Value} (h : Ls4 w rows (gs.set i ⟨u, n, xs⟩) txs hs a b m l i kl X) (hi : i < rows.length) (hg : i < gs.length) (ho : Y.ownsRow w.heap.size 40 3 u' n' (xs ++ news)) (hk : Keeps X u u' Y) :
    Ls4 w rows (gs.set i ⟨u', n', xs ++ news⟩) txs hs a b m l i kl Y := by
  have hq : (gs.set i ⟨u, n, xs⟩)[i]? = some ⟨u, n, xs⟩ := List.getElem?_set_self hg
  have hou := h.gr.fam.1 i _ hq
  have hgr := h.gr.step (List.getElem?_eq_getElem hi) hq ho hk
  rw [List.set_set] at hgr
  refine ⟨bel_keepsL (B := 0) h.bel hou hk, own_keeps h.oa hk (apart_ty h.oa hou (by decide)), own_keeps h.ob hk (apart_ty h.ob hou (by decide)), ?_, own_keeps h.ol hk (apart_ty h.ol hou (by decide)), h.am, h.bl, hgr, h.gt.other hou (by decide) hk⟩
  have := own_keeps h.om hk (apart_ty h.om hou (by decide))
  rw [List.take_set_of_le (Nat.le_refl _)] at this ⊢
  exact this
theorem Ls4.stepB {i n n' : Nat} {u u' : Value} {xs news : List Value} (h : Ls4 w rows gs txs (hs.set i ⟨u, n, xs⟩) a b m l km i X) (hi : i < txs.length) (hg : i < hs.length) (ho : Y.ownsRow w.heap.size 9 1 u' n' (xs ++ news)) (hk : Keeps X u u' Y) :
    Ls4 w rows gs txs (hs.set i ⟨u', n', xs ++ news⟩) a b m l km i Y := by
  have hq : (hs.set i ⟨u, n, xs⟩)[i]? = some ⟨u, n, xs⟩ := List.getElem?_set_self hg
  have hou := h.gt.fam.1 i _ hq
  have hgr := h.gt.step (List.getElem?_eq_getElem hi) hq ho hk
  rw [List.set_set] at hgr
  refine ⟨bel_keepsL (B := 0) h.bel hou hk, own_keeps h.oa hk (apart_ty h.oa hou (by decide)), own_keeps h.ob hk (apart_ty h.ob hou (by decide)), own_keeps h.om hk (apart_ty h.om hou (by decide)), ?_, h.am, h.bl, h.gr.other hou (by decide) hk, hgr⟩
  have := own_keeps h.ol hk (apart_ty h.ol hou (by decide))
  rw [List.take_set_of_le (Nat.le_refl _)] at this ⊢
  exact this
theorem take_v {gs : List Rw} {i : Nat} {q : Rw} (h : gs[i]? = some q) : (gs.take (i + 1)).map Rw.v = (gs.take i).map Rw.v ++ [q.v] := by
  rw [List.take_add_one, h, List.map_append]
  rfl
theorem Ls4.moreA {q : Rw} {m' : Value} (h : Ls4 w rows gs txs hs a b m l km kl X) (hq : gs[km]? = some q) (ho : Y.ownsRow w.heap.size 24 1 m' (km + 1) ((gs.take km).map Rw.v ++ [q.v])) (hk : Keeps X m m' Y) : Ls4 w rows gs txs hs a b m' l (km + 1) kl Y :=
  ⟨bel_keepsL (B := 0) h.bel h.om hk, own_keeps h.oa hk h.am, own_keeps h.ob hk (apart_ty h.ob h.om (by decide)), by rw [take_v hq]; exact ho, own_keeps h.ol hk (apart_ty h.ol h.om (by decide)), Apart.keeps h.oa hk h.am, h.bl, h.gr.other h.om (by decide) hk, h.gt.other h.om (by decide) hk⟩
theorem Ls4.moreB {q : Rw} {l' : Value} (h : Ls4 w rows gs txs hs a b m l km kl X) (hq : hs[kl]? = some q) (ho : Y.ownsRow w.heap.size 27 1 l' (kl + 1) ((hs.take kl).map Rw.v ++ [q.v])) (hk : Keeps X l l' Y) : Ls4 w rows gs txs hs a b m l' km (kl + 1) Y :=
  ⟨bel_keepsL (B := 0) h.bel h.ol hk, own_keeps h.oa hk (apart_ty h.oa h.ol (by decide)), own_keeps h.ob hk h.bl, own_keeps h.om hk (apart_ty h.om h.ol (by decide)), by rw [take_v hq]; exact ho, h.am, Apart.keeps h.ob hk h.bl, h.gr.other h.ol (by decide) hk, h.gt.other h.ol (by decide) hk⟩
end
end Go.Proofs.YtndclkphglpknaaDoor.Lg
