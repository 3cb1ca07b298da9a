/- Patterns, plain law: the machine's bounds; texts and code of trees. No program. -/
import Derived.Test.YtlbkacabcfeaiaaPa
namespace Go.Proofs.Ytlbkacabcfeaiaa.Tl
open Go.RowKit Mm
theorem sum_app (a b : List Nat) : (a ++ b).sum = a.sum + b.sum := by simp
theorem named_bd {x : List UInt8} {s s' : St} {i : Nat} {deny : Bool} (hi : s.pos ≤ i) (hl : atB isLetter x i = true) (h : named x s i deny = .inl s') : bdS s' + 16 * s.pos ≤ bdS s + 16 * s'.pos ∧ s'.it = s.it + 1 ∧ s'.stk = s.stk := by
  unfold named at h
  have hn := name_end hl
  split at h
  · cases h
  · cases h
    refine ⟨?_, rfl, rfl⟩
    unfold bdS nameT
    dsimp only
    rw [bdL_app]
    simp only [bdL, bd, List.length_take, List.length_drop]
    omega
theorem stp_bd {x : List UInt8} {s s' : St} (h : stp x s = .inl s') (h1 : s.it ≤ 48) (h2 : s.stk.length ≤ 32) : bdS s' + 16 * s.pos ≤ bdS s + 16 * s'.pos ∧ s'.it ≤ 48 ∧ s'.stk.length ≤ 32 := by
  unfold stp at h
  cases hx : x[s.pos]? with
  | none => rw [hx] at h; cases h
  | some c =>
    have hi : s.pos < x.length := (List.getElem?_eq_some_iff.1 hx).1
    rw [hx] at h
    dsimp only at h
    split at h
    · cases h; unfold bdS; dsimp only; exact ⟨by omega, h1, h2⟩
    split at h
    · split at h
      · cases h
      · cases h
        refine ⟨?_, h1, by simp; omega⟩
        unfold bdS
        dsimp only
        rw [List.map_append, sum_app]
        simp only [List.map_cons, List.map_nil, List.sum_cons, List.sum_nil, bdL]
        omega
    split at h
    · split at h
      · cases h
      · rename_i o ho
        cases h
        refine ⟨?_, h1, by simp; omega⟩
        have hs : s.stk = s.stk.dropLast ++ [o] := by
          rw [List.getLast?_eq_some_iff] at ho
          obtain ⟨ys, hy⟩ := ho
          rw [hy, List.dropLast_concat]
        have hw := bd_whole s.ch s.ps
        unfold bdS
        dsimp only
        conv => rhs; rw [hs]
        rw [List.map_append, sum_app, bdL_app]
        simp only [List.map_cons, List.map_nil, List.sum_cons, List.sum_nil, bdL]
        omega
    split at h
    · split at h
      · cases h
      · rename_i t ht
        split at h
        · cases h
        · cases h
          refine ⟨?_, by dsimp only; omega, h2⟩
          have hs : s.ps = s.ps.dropLast ++ [t] := by
            rw [List.getLast?_eq_some_iff] at ht
            obtain ⟨ys, hy⟩ := ht
            rw [hy, List.dropLast_concat]
          unfold bdS
          dsimp only
          conv => rhs; rw [hs]
          rw [bdL_app, bdL_app]
          simp only [bdL, bd]
          omega
    split at h
    · split at h
      · cases h
      · cases h
        refine ⟨?_, by dsimp only; omega, h2⟩
        have hw := bd_mkSeq s.ps
        unfold bdS
        dsimp only
        rw [bdL_app]
        simp only [bdL]
        omega
    split at h
    · split at h
      · cases h
      · cases h
        refine ⟨?_, by dsimp only; omega, h2⟩
        unfold bdS
        dsimp only
        rw [bdL_app]
        simp only [bdL, bd, List.length_cons, List.length_nil]
        omega
    split at h
    · split at h
      · cases h
      · split at h
        · rename_i h48 hl
          obtain ⟨a, b, c⟩ := named_bd (by omega) hl h
          exact ⟨a, by omega, by rw [c]; exact h2⟩
        · cases h
    split at h
    · rename_i hl
      rw [Bool.and_eq_true, decide_eq_true_eq] at hl
      obtain ⟨a, b, c⟩ := named_bd (Nat.le_refl _) (by unfold atB; rw [hx]; exact hl.1) h
      exact ⟨a, by omega, by rw [c]; exact h2⟩
    · cases h
/-! Texts. -/
def isAlt : T → Bool
  | .alt _ => true
  | _ => false
def isMany : T → Bool
  | .alt _ => true
  | .seq _ => true
  | _ => false
def brk (b : Bool) (s : List UInt8) : List UInt8 := if b then 40 :: (s ++ [41]) else s
def orUnit (s : List UInt8) : List UInt8 := if s = [] then [40, 41] else s
mutual
def txt : T → List UInt8
  | .leaf tx _ _ deny => if deny then 33 :: tx else tx
  | .seq l => Lib.join (txtS l) [32]
  | .alt l => Lib.join (txtA l) [32, 124, 32]
  | .suf t s => brk (isMany t) (txt t) ++ [s]
def txtS : List T → List (List UInt8)
  | [] => []
  | t :: l => brk (isAlt t) (txt t) :: txtS l
def txtA : List T → List (List UInt8)
  | [] => []
  | t :: l => orUnit (txt t) :: txtA l
end
theorem txtS_map (l : List T) : txtS l = l.map fun t => brk (isAlt t) (txt t) := by
  induction l with
  | nil => rfl
  | cons t l ih => rw [txtS, ih, List.map_cons]
theorem txtA_map (l : List T) : txtA l = l.map fun t => orUnit (txt t) := by
  induction l with
  | nil => rfl
  | cons t l ih => rw [txtA, ih, List.map_cons]
theorem join_le (sep : List UInt8) (k : Nat) (hk : sep.length ≤ k) (l : List (List UInt8)) : (Lib.join l sep).length ≤ Lib.lens l + k * l.length := by
  cases l with
  | nil => simp [Lib.join_nil]
  | cons x l =>
    rw [Lib.join_length, List.length_cons, Nat.mul_succ]
    have : sep.length * l.length ≤ k * l.length := Nat.mul_le_mul_right _ hk
    omega
theorem brk_len (b : Bool) (s : List UInt8) : (brk b s).length ≤ s.length + 2 := by
  unfold brk
  split <;> simp
mutual
theorem txt_bd : (t : T) → (txt t).length + 6 ≤ bd t
  | .leaf tx n p d => by
    simp only [txt, bd]
    split <;> (try simp only [List.length_cons]) <;> omega
  | .seq l => by
    have h1 := txtS_bd l
    have h2 := join_le [32] 1 (by decide) (txtS l)
    simp only [txt, bd]
    omega
  | .alt l => by
    have h1 := txtA_bd l
    have h2 := join_le [32, 124, 32] 3 (by decide) (txtA l)
    simp only [txt, bd]
    omega
  | .suf t s => by
    have h1 := txt_bd t
    have h2 := brk_len (isMany t) (txt t)
    simp only [txt, bd, List.length_append, List.length_cons, List.length_nil]
    omega
theorem txtS_bd : (l : List T) → Lib.lens (txtS l) + 4 * (txtS l).length ≤ bdL l
  | [] => by simp [txtS, bdL, Lib.lens]
  | t :: l => by
    have h1 := txt_bd t
    have h2 := txtS_bd l
    have h3 := brk_len (isAlt t) (txt t)
    simp only [txtS, bdL, List.length_cons]
    have : Lib.lens (brk (isAlt t) (txt t) :: txtS l) = (brk (isAlt t) (txt t)).length + Lib.lens (txtS l) := by simp [Lib.lens]
    omega
theorem txtA_bd : (l : List T) → Lib.lens (txtA l) + 4 * (txtA l).length ≤ bdL l
  | [] => by simp [txtA, bdL, Lib.lens]
  | t :: l => by
    have h1 := txt_bd t
    have h2 := txtA_bd l
    have h3 : (orUnit (txt t)).length ≤ (txt t).length + 2 := by
      unfold orUnit
      split
      · simp
      · omega
    simp only [txtA, bdL, List.length_cons]
    have : Lib.lens (orUnit (txt t) :: txtA l) = (orUnit (txt t)).length + Lib.lens (txtA l) := by simp [Lib.lens]
    omega
end
/-! Code. -/
structure Sp where
  lk : Option T
  nx : Nat
  ot : Nat
  dn : Bool
def setOt (c : List Sp) (i n : Nat) : List Sp := c.set i { (c[i]?.getD ⟨none, 0, 0, false⟩) with ot := n }
def setNx (c : List Sp) (i n : Nat) : List Sp := c.set i { (c[i]?.getD ⟨none, 0, 0, false⟩) with nx := n }
mutual
def em : T → List Sp → List Sp
  | .leaf tx n p d, c => c ++ [⟨some (.leaf tx n p d), 0, 0, false⟩]
  | .seq l, c => emS l c
  | .alt l, c => let r := emA l c []; r.2.foldl (fun c j => setNx c j r.1.length) r.1
  | .suf t s, c =>
    if s = 43 then
      let c1 := em t c
      if c1.length = c.length then c1 else c1 ++ [⟨none, c.length, c1.length + 1, false⟩]
    else
      let c1 := em t (c ++ [⟨none, c.length + 1, 0, false⟩])
      let c2 := if s = 42 then c1 ++ [⟨none, c.length, 0, false⟩] else c1
      setOt c2 c.length c2.length
def emS : List T → List Sp → List Sp
  | [], c => c
  | t :: l, c => emS l (em t c)
def emA : List T → List Sp → List Nat → List Sp × List Nat
  | [], c, js => (c, js)
  | t :: l, c, js =>
    if l.isEmpty then emA l (em t c) js
    else
      let c1 := em t (c ++ [⟨none, c.length + 1, 0, false⟩])
      let c2 := c1 ++ [⟨none, 0, 0, false⟩]
      emA l (setOt c2 c.length c2.length) (js ++ [c1.length])
end
theorem setOt_len (c : List Sp) (i n : Nat) : (setOt c i n).length = c.length := List.length_set
theorem setNx_len (c : List Sp) (i n : Nat) : (setNx c i n).length = c.length := List.length_set
theorem fold_len (js : List Nat) (n : Nat) : ∀ c : List Sp, (js.foldl (fun c j => setNx c j n) c).length = c.length := by
  induction js with
  | nil => exact fun c => rfl
  | cons j js ih => exact fun c => by rw [List.foldl_cons, ih, setNx_len]
mutual
theorem em_len : (t : T) → (c : List Sp) → c.length ≤ (em t c).length ∧ (em t c).length + 5 ≤ c.length + bd t
  | .leaf tx n p d, c => by simp only [em, bd, List.length_append, List.length_cons, List.length_nil]; omega
  | .seq l, c => by
    have h := emS_len l c
    simp only [em, bd]
    omega
  | .alt l, c => by
    have h := emA_len l c []
    simp only [em, bd]
    rw [fold_len]
    omega
  | .suf t s, c => by
    simp only [em, bd]
    have h1 := em_len t c
    have h2 := em_len t (c ++ [⟨none, c.length + 1, 0, false⟩])
    rw [List.length_append, List.length_cons, List.length_nil] at h2
    split
    · split
      · omega
      · rw [List.length_append, List.length_cons, List.length_nil]; omega
    · rw [setOt_len]
      split
      · rw [List.length_append, List.length_cons, List.length_nil]; omega
      · omega
theorem emS_len : (l : List T) → (c : List Sp) → c.length ≤ (emS l c).length ∧ (emS l c).length ≤ c.length + bdL l
  | [], c => by simp only [emS, bdL]; omega
  | t :: l, c => by
    have h1 := em_len t c
    have h2 := emS_len l (em t c)
    simp only [emS, bdL]
    omega
theorem emA_len : (l : List T) → (c : List Sp) → (js : List Nat) → c.length ≤ (emA l c js).1.length ∧ (emA l c js).1.length ≤ c.length + bdL l ∧ (emA l c js).2.length ≤ js.length + l.length
  | [], c, js => by simp only [emA, bdL, List.length_nil]; omega
  | t :: l, c, js => by
    simp only [emA, bdL]
    split
    · have h1 := em_len t c
      have h2 := emA_len l (em t c) js
      simp only [List.length_cons]
      omega
    · have h1 := em_len t (c ++ [⟨none, c.length + 1, 0, false⟩])
      rw [List.length_append, List.length_cons, List.length_nil] at h1
      generalize em t (c ++ [⟨none, c.length + 1, 0, false⟩]) = c1 at *
      have h2 := emA_len l (setOt (c1 ++ [(⟨none, 0, 0, false⟩ : Sp)]) c.length (c1 ++ [(⟨none, 0, 0, false⟩ : Sp)]).length) (js ++ [c1.length])
      rw [setOt_len, List.length_append, List.length_append, List.length_cons, List.length_nil, List.length_cons, List.length_nil] at h2
      simp only [List.length_cons, List.length_append, List.length_nil] at h2 ⊢
      omega
end
end Go.Proofs.Ytlbkacabcfeaiaa.Tl
