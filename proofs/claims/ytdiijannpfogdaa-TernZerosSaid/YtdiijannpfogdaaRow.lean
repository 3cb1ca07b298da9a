/- Rows of cubes and of texts; what Split answers, on texts. -/
import Derived.Test.YtdiijannpfogdaaTs
namespace Go.Proofs.Ytdiijannpfogdaa.Tn
open Go.RowKit
def ccells (t : List UInt8) : List Value := (cs t.length (careF t) (onesF t)).toList
def crow (L : List (List UInt8)) : List Value := L.flatMap ccells
def srow (L : List (List UInt8)) : List Value := L.map fun t => .string (str t)
theorem ccells_len (t : List UInt8) : (ccells t).length = 9 := rfl
theorem Cub.cells {t : List UInt8} {n : Nat} {c o : Nat → Bool} (h : Cub t n c o) : (cs n c o).toList = ccells t := by rw [h.hn, h.hc, h.ho]; rfl
theorem crow_len (L : List (List UInt8)) : (crow L).length = L.length * 9 := by
  induction L with
  | nil => rfl
  | cons t L ih => simp only [crow, List.flatMap_cons, List.length_append, List.length_cons] at ih ⊢; rw [ih, ccells_len]; omega
theorem crow_snoc (L : List (List UInt8)) (t : List UInt8) : crow (L ++ [t]) = crow L ++ ccells t := by simp [crow]
theorem crow_at (L : List (List UInt8)) : ∀ (i : Nat) (h : i < L.length) (j : Nat), j < 9 → (crow L)[i * 9 + j]? = (ccells L[i])[j]? := by
  induction L with
  | nil => intro i h; simp at h
  | cons t L ih =>
    intro i h j hj
    cases i with
    | zero =>
      simp only [crow, List.flatMap_cons, Nat.zero_mul, Nat.zero_add, List.getElem_cons_zero]
      rw [List.getElem?_append_left (by rw [ccells_len]; exact hj)]
    | succ i =>
      simp only [crow, List.flatMap_cons, List.getElem_cons_succ]
      rw [List.getElem?_append_right (by rw [ccells_len]; omega), ccells_len, show (i + 1) * 9 + j - 9 = i * 9 + j by omega]
      exact ih i (by simpa using h) j hj
theorem info_cube : (Try.prog.info? 30).map (fun i => (i.zero, i.size, i.bytes)) = some (some (.agg #[.int .i64 0, .int .u64 0, .int .u64 0, .int .u64 0, .int .u64 0, .int .u64 0, .int .u64 0, .int .u64 0, .int .u64 0]), 9, 72) := by kernel_rfl
theorem info_str : (Try.prog.info? 9).map (fun i => (i.zero, i.size, i.bytes)) = some (some (.string ⟨#[]⟩), 1, 16) := by kernel_rfl
theorem cells_new (w : World) (xs : Array Value) (t : TypeId) : ∀ j u, xs.toList[j]? = some u → (w.alloc (.cells xs t)).cell? ((⟨w.heap.size, 0, none⟩ : Addr).add j) = some u := by
  intro j u h
  have hadd : (⟨w.heap.size, 0, none⟩ : Addr).add j = ⟨w.heap.size, j, none⟩ := by unfold Addr.add; split <;> simp_all
  rw [hadd, World.cell?_alloc_new, ← Array.getElem?_toList, h]
theorem cs_one (n : Nat) (c o : Nat → Bool) : ∀ u ∈ (cs n c o).toList, u.oneCell' = true := by
  simp [cs, wv, Value.oneCell']
/-- append(l, o): one cube more behind a row of the call's own. -/
theorem app_cube {B : Nat} {v : Value} {m : Nat} {L : List (List UInt8)} {w : World} {t : List UInt8} {n : Nat} {c o : Nat → Bool} (hC : Cub t n c o) {ops : Array Oper} {rest : List Oper} {op : Oper} {a : Act} {Q : Exit → Act → World → Prop} {s x : Operand}
    (hown : w.ownsRow B 30 9 v m (crow L)) (hgd : op.guard = none) (ho : op.op = .call { callee := .builtin .append, args := #[s, x], argTypes := #[49, 49] })
    (hs : a.eval s = v) (hx : a.eval x = .slice (some ⟨w.heap.size, 0, none⟩) 1 1) (hn : m ≤ 1900000000000) (hB : B ≤ w.heap.size)
    (h : ∀ v' w', w'.ownsRow B 30 9 v' (m + 1) (crow (L ++ [t])) → Below B w w' → (∀ g t' cs', some g ≠ v.ownBlock → Blk w g t' cs' → Blk w' g t' cs') → wpList Try.prog ops Q rest (a.put op.dst v') w') : wpList Try.prog ops Q (op :: rest) a (w.alloc (.cells (cs n c o) 30)) := by
  obtain ⟨i0, hi, hz0, hz1, hz2⟩ := info_parts info_cube
  refine wpList_append_own _ hgd s x 49 ho B 30 i0 _ 9 72 Try.underlying49 hi hz0 hz1 hz2 rfl (by decide) v m _ hs (hown.alloc _) ⟨w.heap.size, 0, none⟩ 1 1 (cs n c o).toList hx rfl (cells_new _ _ _)
    (cs_one n c o) (by simp only [maxLen]; omega) (by omega) (by simp; omega) ?_
  intro v' w1 hown' hg _
  refine h v' w1 (by rw [crow_snoc, ← hC.cells]; exact hown') ?_ (fun g t' cs' hne hb => (hb.alloc _).grown hg hne)
  have h1 : Below B w (w.alloc (.cells (cs n c o) 30)) := (Below.refl _ _).alloc hB _
  exact h1.grown hg (by simp; omega) (fun k hk => (hown.lt k hk).1)
/-- append(l, s): one text more. -/
theorem app_str {B : Nat} {v : Value} {m : Nat} {L : List (List UInt8)} {w : World} (t : List UInt8) {ops : Array Oper} {rest : List Oper} {op : Oper} {a : Act} {Q : Exit → Act → World → Prop} {s x : Operand}
    (hown : w.ownsRow B 9 1 v m (srow L)) (hgd : op.guard = none) (ho : op.op = .call { callee := .builtin .append, args := #[s, x], argTypes := #[48, 48] })
    (hs : a.eval s = v) (hx : a.eval x = .slice (some ⟨w.heap.size, 0, none⟩) 1 1) (hn : m ≤ 8700000000000) (hB : B ≤ w.heap.size)
    (h : ∀ v' w', w'.ownsRow B 9 1 v' (m + 1) (srow (L ++ [t])) → Below B w w' → (∀ g t' cs', some g ≠ v.ownBlock → Blk w g t' cs' → Blk w' g t' cs') → wpList Try.prog ops Q rest (a.put op.dst v') w') : wpList Try.prog ops Q (op :: rest) a (w.alloc (.cells #[.string (str t)] 9)) := by
  obtain ⟨i0, hi, hz0, hz1, hz2⟩ := info_parts info_str
  refine wpList_append_own _ hgd s x 48 ho B 9 i0 _ 1 16 Try.underlying48 hi hz0 hz1 hz2 rfl (by decide) v m _ hs (hown.alloc _) ⟨w.heap.size, 0, none⟩ 1 1 [.string (str t)] hx rfl (cell_one_new _ _ _)
    (by simp [Value.oneCell']) (by simp only [maxLen]; omega) (by omega) (by simp; omega) ?_
  intro v' w1 hown' hg _
  refine h v' w1 (by rw [srow, List.map_append]; exact hown') ?_ (fun g t' cs' hne hb => (hb.alloc _).grown hg hne)
  have h1 : Below B w (w.alloc (.cells #[.string (str t)] 9)) := (Below.refl _ _).alloc hB _
  exact h1.grown hg (by simp; omega) (fun k hk => (hown.lt k hk).1)

/-! Split on texts. -/
def otherB (b : UInt8) : UInt8 := if b = 48 then 49 else 48
def partF (t u : List UInt8) (i k : Nat) : UInt8 := if k = i then otherB (byt u k) else if k < i ∧ byt t k = 120 then byt u k else byt t k
def partT (t u : List UInt8) (i : Nat) : List UInt8 := up (partF t u i) t.length
def splits (t u : List UInt8) (i : Nat) : Bool := byt t i == 120 && byt u i != 120
def partsT (t u : List UInt8) (i : Nat) : List (List UInt8) := ((List.range i).filter (splits t u)).map (partT t u)
theorem partsT_yes {t u : List UInt8} {i : Nat} (h : splits t u i = true) : partsT t u (i + 1) = partsT t u i ++ [partT t u i] := by
  simp [partsT, List.range_succ, List.filter_append, h]
theorem partsT_no {t u : List UInt8} {i : Nat} (h : splits t u i = false) : partsT t u (i + 1) = partsT t u i := by
  simp [partsT, List.range_succ, List.filter_append, h]
theorem partsT_le (t u : List UInt8) (i : Nat) : (partsT t u i).length ≤ i := by
  have := List.length_filter_le (splits t u) (List.range i)
  simpa [partsT] using this
def splitT (t u : List UInt8) : List (List UInt8) := if meetOk t u then partsT t u t.length else [t]

def pre (i : Nat) (f g : Nat → Bool) : Nat → Bool := fun j => if j < i then g j else f j
theorem pre_zero (f g : Nat → Bool) : pre 0 f g = f := by funext j; simp [pre]
theorem pre_stay {i : Nat} {f g : Nat → Bool} (h : g i = f i) : pre (i + 1) f g = pre i f g := by
  funext j
  by_cases e : j = i
  · subst e; simp [pre, h]
  · by_cases h1 : j < i
    · have h2 : j < i + 1 := by omega
      simp [pre, h1, h2]
    · have h2 : ¬ j < i + 1 := by omega
      simp [pre, h1, h2]
theorem pre_put {i : Nat} {f g : Nat → Bool} (h : g i = true) : put (pre i f g) i = pre (i + 1) f g := by
  funext j
  by_cases e : j = i
  · subst e; simp [pre, put, h]
  · by_cases h1 : j < i
    · have h2 : j < i + 1 := by omega
      simp [pre, put, h1, h2, e]
    · have h2 : ¬ j < i + 1 := by omega
      simp [pre, put, h1, h2, e]
section
variable {t u : List UInt8} {n : Nat} {c o d p : Nat → Bool}
theorem splits_iff (h : Cub t n c o) (h' : Cub u n d p) (i : Nat) (hi : i < n) : splits t u i = (!c i && d i) := by
  unfold splits
  rw [h.at_ i hi, h'.at_ i hi]
  cases c i <;> cases o i <;> cases d i <;> cases p i <;> rfl
theorem noconf_at (hno : ∀ i, i < 256 → conf c o d p i = false) (h : Cub t n c o) (i : Nat) : c i = true → d i = true → p i = true → o i = true := by
  intro hc hd hp
  have hi : i < 256 := by
    rcases Nat.lt_or_ge i 256 with h1 | h1
    · exact h1
    · have := h.nrm.hi i (by have := h.nrm.le; omega); rw [hc] at this; cases this
  have := hno i hi
  simp only [conf, band, bxor, hc, hd, hp] at this
  simpa using this
theorem part_cub (h : Cub t n c o) (h' : Cub u n d p) (hno : ∀ i, i < 256 → conf c o d p i = false) {i : Nat} (hi : i < n) (hc : c i = false) (hd : d i = true) {o'' : Nat → Bool}
    (ho : ∀ k, o'' k = if k = i then !p i else pre i o (bor o p) k) : Cub (partT t u i) n (pre (i + 1) c (bor c d)) o'' := by
  unfold partT
  rw [← h.hn]
  have oi : o i = false := by
    cases hoi : o i with
    | false => rfl
    | true => rw [h.nrm.sub i hoi] at hc; cases hc
  have hN : Nrm n (pre (i + 1) c (bor c d)) o'' := by
    refine ⟨h.nrm.le, fun k hk => ?_, fun k hk => ?_⟩
    · have h1 : ¬ k < i + 1 := by omega
      simp [pre, h1, h.nrm.hi k hk]
    · rw [ho k] at hk
      by_cases e : k = i
      · subst e
        simp [pre, bor, hd]
      · rw [if_neg e] at hk
        by_cases h1 : k < i
        · have h2 : k < i + 1 := by omega
          simp only [pre, h1, h2, if_true, bor, Bool.or_eq_true] at hk ⊢
          exact hk.imp (h.nrm.sub k) (h'.nrm.sub k)
        · have h2 : ¬ k < i + 1 := by omega
          simp only [pre, h1, h2, if_false] at hk ⊢
          exact h.nrm.sub k hk
  refine hN.of_places fun k hk => ?_
  unfold partF
  rw [h.at_ k hk, h'.at_ k hk, ho k]
  by_cases e : k = i
  · subst e
    have h2 : k < k + 1 := by omega
    simp only [if_true, pre, h2, bor, hd, Bool.or_true]
    cases p k <;> rfl
  · rw [if_neg e, if_neg e]
    have s1 := h.nrm.sub k
    have s2 := h'.nrm.sub k
    have s3 := noconf_at hno h k
    by_cases h1 : k < i
    · have h2 : k < i + 1 := by omega
      simp only [pre, h1, h2, if_true, bor, true_and]
      generalize c k = x at *; generalize o k = y at *; generalize d k = z at *; generalize p k = q at *
      cases x <;> cases y <;> cases z <;> cases q <;> simp_all [dig]
    · have h2 : ¬ k < i + 1 := by omega
      simp only [pre, h1, h2, if_false, false_and]
end
end Go.Proofs.Ytdiijannpfogdaa.Tn
