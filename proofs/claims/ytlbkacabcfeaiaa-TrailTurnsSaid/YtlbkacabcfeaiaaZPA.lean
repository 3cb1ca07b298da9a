/- Texts of one kind, put together: Pa, Pb, Ma, Mb, Mc, Me, Pc, Pd, Md. -/
import Derived.Test.YtlbkacabcfeaiaaMm
import Derived.Lib.Join
/- Patterns, plain law: trees, their texts, and a machine that reads one byte after the other. No program. -/
namespace Go.Proofs.Ytlbkacabcfeaiaa.Tl
open Go.RowKit Mm
inductive T where
  | leaf (tx : List UInt8) (named port deny : Bool)
  | seq (l : List T)
  | alt (l : List T)
  | suf (t : T) (s : UInt8)
instance : Inhabited T := ⟨.seq []⟩
/-! Trees without needless brackets. -/
def inSeq : T → List T
  | .seq l => l
  | t => [t]
def inAlt : T → List T
  | .alt l => l
  | t => [t]
def oneOr (f : List T → T) : List T → T
  | [x] => x
  | l => f l
def mkSeq (l : List T) : T := oneOr .seq (l.flatMap inSeq)
def mkAlt (l : List T) : T := oneOr .alt (l.flatMap inAlt)
def whole (ch ps : List T) : T := mkAlt (ch ++ [mkSeq ps])
/-! Weights: a bound of text and code. -/
mutual
def bd : T → Nat
  | .leaf tx _ _ _ => tx.length + 8
  | .seq l => bdL l + 8
  | .alt l => bdL l + 8
  | .suf t _ => bd t + 8
def bdL : List T → Nat
  | [] => 0
  | t :: l => bd t + bdL l
end
theorem bdL_app (a b : List T) : bdL (a ++ b) = bdL a + bdL b := by
  induction a with
  | nil => simp [bdL]
  | cons x a ih => simp only [List.cons_append, bdL, ih]; omega
theorem bd_ge (t : T) : 8 ≤ bd t := by cases t <;> simp only [bd] <;> omega
theorem bdL_mem {t : T} {l : List T} (h : t ∈ l) : bd t ≤ bdL l := by
  induction l with
  | nil => cases h
  | cons x l ih =>
    rw [bdL]
    rcases List.mem_cons.1 h with rfl | h
    · omega
    · have := ih h; omega
theorem bdL_len (l : List T) : l.length * 8 ≤ bdL l := by
  induction l with
  | nil => simp [bdL]
  | cons x l ih => have := bd_ge x; rw [bdL, List.length_cons]; omega
theorem bd_inSeq (t : T) : bdL (inSeq t) ≤ bd t := by
  cases t <;> simp only [inSeq, bdL, bd] <;> omega
theorem bd_inAlt (t : T) : bdL (inAlt t) ≤ bd t := by
  cases t <;> simp only [inAlt, bdL, bd] <;> omega
theorem bd_oneOr (f : List T → T) (hf : ∀ l, bd (f l) = bdL l + 8) (l : List T) : bd (oneOr f l) ≤ bdL l + 8 := by
  unfold oneOr
  split
  · simp only [bdL]; omega
  · rw [hf]; exact Nat.le_refl _
theorem bd_flat (g : T → List T) (hg : ∀ t, bdL (g t) ≤ bd t) (l : List T) : bdL (l.flatMap g) ≤ bdL l := by
  induction l with
  | nil => simp [bdL]
  | cons x l ih => rw [List.flatMap_cons, bdL_app, bdL]; have := hg x; omega
theorem bd_mkSeq (l : List T) : bd (mkSeq l) ≤ bdL l + 8 := by
  have h1 := bd_oneOr .seq (fun _ => rfl) (l.flatMap inSeq)
  have h2 := bd_flat inSeq bd_inSeq l
  unfold mkSeq
  omega
theorem bd_mkAlt (l : List T) : bd (mkAlt l) ≤ bdL l + 8 := by
  have h1 := bd_oneOr .alt (fun _ => rfl) (l.flatMap inAlt)
  have h2 := bd_flat inAlt bd_inAlt l
  unfold mkAlt
  omega
theorem bd_whole (ch ps : List T) : bd (whole ch ps) ≤ bdL ch + bdL ps + 16 := by
  have h1 := bd_mkAlt (ch ++ [mkSeq ps])
  have h2 := bd_mkSeq ps
  rw [bdL_app] at h1
  simp only [bdL] at h1
  unfold whole
  omega
/-! Bytes. -/
def isLetter (c : UInt8) : Bool := c == 95 || (97 ≤ c && c ≤ 122) || (65 ≤ c && c ≤ 90)
def isDigit (c : UInt8) : Bool := 48 ≤ c && c ≤ 57
def isWord (c : UInt8) : Bool := isLetter c || isDigit c
def atB (p : UInt8 → Bool) (x : List UInt8) (i : Nat) : Bool := (x[i]?.map p).getD false
def runEnd (x : List UInt8) (i : Nat) : Nat := i + ((x.drop i).takeWhile isWord).length
def portAt (x : List UInt8) (i : Nat) : Bool := x[runEnd x i]? == some 46 && atB isLetter x (runEnd x i + 1)
def nameEnd (x : List UInt8) (i : Nat) : Nat := if portAt x i then runEnd x (runEnd x i + 1) else runEnd x i
def nameLong (x : List UInt8) (i : Nat) : Bool := decide (24 < runEnd x i - i) || (portAt x i && decide (24 < runEnd x (runEnd x i + 1) - (runEnd x i + 1)))
def nameT (x : List UInt8) (i : Nat) (deny : Bool) : T := .leaf ((x.drop i).take (nameEnd x i - i)) true (portAt x i) deny
theorem run_ge (x : List UInt8) (i : Nat) : i ≤ runEnd x i := by unfold runEnd; omega
theorem take_while_le {p : UInt8 → Bool} (l : List UInt8) : (l.takeWhile p).length ≤ l.length := by
  induction l with
  | nil => simp
  | cons a l ih => rw [List.takeWhile_cons]; split <;> simp only [List.length_cons, List.length_nil] <;> omega
theorem run_le {x : List UInt8} {i : Nat} (h : i ≤ x.length) : runEnd x i ≤ x.length := by
  have := take_while_le (p := isWord) (x.drop i)
  rw [List.length_drop] at this
  unfold runEnd
  omega
theorem run_step {x : List UInt8} {i : Nat} (h : atB isWord x i = true) : runEnd x i = runEnd x (i + 1) := by
  unfold atB at h
  cases hx : x[i]? with
  | none => rw [hx] at h; simp at h
  | some c =>
    rw [hx] at h
    have hi : i < x.length := (List.getElem?_eq_some_iff.1 hx).1
    have hc : x[i] = c := (List.getElem?_eq_some_iff.1 hx).2
    unfold runEnd
    rw [List.drop_eq_getElem_cons hi, List.takeWhile_cons, hc, if_pos (by simpa using h)]
    simp only [List.length_cons]
    omega
theorem run_stop {x : List UInt8} {i : Nat} (h : atB isWord x i = false) : runEnd x i = i := by
  unfold atB at h
  cases hx : x[i]? with
  | none =>
    have hi : x.length ≤ i := List.getElem?_eq_none_iff.1 hx
    unfold runEnd
    rw [List.drop_eq_nil_of_le hi]
    rfl
  | some c =>
    rw [hx] at h
    have hi : i < x.length := (List.getElem?_eq_some_iff.1 hx).1
    have hc : x[i] = c := (List.getElem?_eq_some_iff.1 hx).2
    unfold runEnd
    rw [List.drop_eq_getElem_cons hi, List.takeWhile_cons, hc, if_neg (by simpa using h)]
    rfl
theorem letter_word {x : List UInt8} {i : Nat} (h : atB isLetter x i = true) : atB isWord x i = true := by
  unfold atB at *
  cases hx : x[i]? with
  | none => rw [hx] at h; simp at h
  | some c => rw [hx] at h; simp only [Option.map_some, Option.getD_some] at h ⊢; unfold isWord; rw [h]; rfl
theorem at_lt {p : UInt8 → Bool} {x : List UInt8} {i : Nat} (h : atB p x i = true) : i < x.length := by
  unfold atB at h
  cases hx : x[i]? with
  | none => rw [hx] at h; simp at h
  | some c => exact (List.getElem?_eq_some_iff.1 hx).1
theorem name_end {x : List UInt8} {i : Nat} (h : atB isLetter x i = true) : i < nameEnd x i ∧ nameEnd x i ≤ x.length := by
  have h1 := run_step (letter_word h)
  have h2 := run_ge x (i + 1)
  have h3 := run_le (x := x) (i := i) (by have := at_lt h; omega)
  unfold nameEnd
  split
  · rename_i hp
    have h4 : atB isLetter x (runEnd x i + 1) = true := by unfold portAt at hp; rw [Bool.and_eq_true] at hp; exact hp.2
    have h5 := run_ge x (runEnd x i + 1)
    have h6 := run_le (x := x) (i := runEnd x i + 1) (by have := at_lt h4; omega)
    omega
  · omega
/-! The machine. -/
structure St where
  pos : Nat
  it : Nat
  stk : List (List T × List T)
  ch : List T
  ps : List T
inductive Res where
  | ok (t : T)
  | err (e : Nat)
def named (x : List UInt8) (s : St) (i : Nat) (deny : Bool) : St ⊕ Res :=
  if nameLong x i then .inr (.err i) else .inl ⟨nameEnd x i, s.it + 1, s.stk, s.ch, s.ps ++ [nameT x i deny]⟩
def stp (x : List UInt8) (s : St) : St ⊕ Res :=
  match x[s.pos]? with
  | none => .inr (if s.stk = [] then .ok (whole s.ch s.ps) else .err s.pos)
  | some c =>
    if c = 32 then .inl { s with pos := s.pos + 1 }
    else if c = 40 then if 32 ≤ s.stk.length then .inr (.err s.pos) else .inl ⟨s.pos + 1, s.it, s.stk ++ [(s.ch, s.ps)], [], []⟩
    else if c = 41 then match s.stk.getLast? with
      | none => .inr (.err s.pos)
      | some o => .inl ⟨s.pos + 1, s.it, s.stk.dropLast, o.1, o.2 ++ [whole s.ch s.ps]⟩
    else if c = 42 ∨ c = 43 ∨ c = 63 then match s.ps.getLast? with
      | none => .inr (.err s.pos)
      | some t => if 48 ≤ s.it then .inr (.err s.pos) else .inl ⟨s.pos + 1, s.it + 1, s.stk, s.ch, s.ps.dropLast ++ [.suf t c]⟩
    else if c = 124 then if 48 ≤ s.it then .inr (.err s.pos) else .inl ⟨s.pos + 1, s.it + 1, s.stk, s.ch ++ [mkSeq s.ps], []⟩
    else if c = 46 then if 48 ≤ s.it then .inr (.err s.pos) else .inl ⟨s.pos + 1, s.it + 1, s.stk, s.ch, s.ps ++ [.leaf [46] false false false]⟩
    else if c = 33 then if 48 ≤ s.it then .inr (.err s.pos) else if atB isLetter x (s.pos + 1) then named x s (s.pos + 1) true else .inr (.err (s.pos + 1))
    else if isLetter c && decide (s.it < 48) then named x s s.pos false else .inr (.err s.pos)
theorem named_on {x : List UInt8} {s s' : St} {i : Nat} {deny : Bool} (hi : s.pos ≤ i) (hl : atB isLetter x i = true) (h : named x s i deny = .inl s') : s.pos < s'.pos ∧ s'.pos ≤ x.length := by
  unfold named at h
  have := name_end hl
  split at h
  · cases h
  · cases h
    dsimp only
    omega
theorem stp_on {x : List UInt8} {s s' : St} (h : stp x s = .inl s') : s.pos < s'.pos ∧ s'.pos ≤ x.length := by
  unfold stp at h
  cases hx : x[s.pos]? with
  | none => rw [hx] at h; cases h
  | some c =>
    have hi : s.pos < x.length := (List.getElem?_eq_some_iff.1 hx).1
    rw [hx] at h
    dsimp only at h
    split at h
    · cases h; dsimp only; omega
    split at h
    · split at h
      · cases h
      · cases h; dsimp only; omega
    split at h
    · split at h
      · cases h
      · cases h; dsimp only; omega
    split at h
    · split at h
      · cases h
      · split at h
        · cases h
        · cases h; dsimp only; omega
    split at h
    · split at h
      · cases h
      · cases h; dsimp only; omega
    split at h
    · split at h
      · cases h
      · cases h; dsimp only; omega
    split at h
    · split at h
      · cases h
      · split at h
        · rename_i hl
          exact named_on (by omega) hl h
        · cases h
    split at h
    · rename_i hl
      rw [Bool.and_eq_true] at hl
      exact named_on (Nat.le_refl _) (by unfold atB; rw [hx]; exact hl.1) h
    · cases h
def runM (x : List UInt8) : Nat → St → Res
  | 0, _ => .err 0
  | n + 1, s => match stp x s with
    | .inl s' => runM x n s'
    | .inr r => r
theorem run_more (x : List UInt8) : ∀ (n m : Nat) (s : St), x.length + 1 - s.pos ≤ n → x.length + 1 - s.pos ≤ m → s.pos ≤ x.length → runM x n s = runM x m s := by
  intro n
  induction n with
  | zero => intro m s h1 _ h3; omega
  | succ n ih =>
    intro m s h1 h2 h3
    cases m with
    | zero => omega
    | succ m =>
      unfold runM
      cases hs : stp x s with
      | inr r => rfl
      | inl s' =>
        have := stp_on hs
        exact ih m s' (by omega) (by omega) this.2
/-- what the machine says from a state on -/
def res (x : List UInt8) (s : St) : Res := runM x (x.length + 1) s
theorem res_inl {x : List UInt8} {s s' : St} (h : stp x s = .inl s') : res x s = res x s' := by
  have hp := stp_on h
  unfold res
  rw [show runM x (x.length + 1) s = runM x x.length s' from by conv => lhs; unfold runM; rw [h]]
  exact run_more x _ _ s' (by omega) (by omega) hp.2
theorem res_inr {x : List UInt8} {s : St} {r : Res} (h : stp x s = .inr r) : res x s = r := by
  unfold res runM
  rw [h]
/-- a bound of all that stands in a state -/
def bdS (s : St) : Nat := (s.stk.map fun o => bdL o.1 + bdL o.2).sum + bdL s.ch + bdL s.ps
end Go.Proofs.Ytlbkacabcfeaiaa.Tl
/- Patterns, plain law: the machine's bounds; texts and code of trees. No program. -/
namespace Go.Proofs.Ytlbkacabcfeaiaa.Tl
open Go.RowKit Mm
theorem sum_app (a b : List Nat) : (a ++ b).sum = a.sum + b.sum := by simp
theorem named_bd {x : List UInt8} {s s' : St} {i : Nat} {deny : Bool} (hi : s.pos ≤ i) (hl : atB isLetter x i = true) (h : named x s i deny = .inl s') : bdS s' + 16 * s.pos ≤ bdS s + 16 * s'.pos ∧ s'.it = s.it + 1 ∧ s'.stk = s.stk := by
  unfold named at h
  have hn := name_end hl
  split at h
  · cases h
  · cases h
    refine ⟨?_, rfl, rfl⟩
    unfold bdS nameT
    dsimp only
    rw [bdL_app]
    simp only [bdL, bd, List.length_take, List.length_drop]
    omega
theorem stp_bd {x : List UInt8} {s s' : St} (h : stp x s = .inl s') (h1 : s.it ≤ 48) (h2 : s.stk.length ≤ 32) : bdS s' + 16 * s.pos ≤ bdS s + 16 * s'.pos ∧ s'.it ≤ 48 ∧ s'.stk.length ≤ 32 := by
  unfold stp at h
  cases hx : x[s.pos]? with
  | none => rw [hx] at h; cases h
  | some c =>
    have hi : s.pos < x.length := (List.getElem?_eq_some_iff.1 hx).1
    rw [hx] at h
    dsimp only at h
    split at h
    · cases h; unfold bdS; dsimp only; exact ⟨by omega, h1, h2⟩
    split at h
    · split at h
      · cases h
      · cases h
        refine ⟨?_, h1, by simp; omega⟩
        unfold bdS
        dsimp only
        rw [List.map_append, sum_app]
        simp only [List.map_cons, List.map_nil, List.sum_cons, List.sum_nil, bdL]
        omega
    split at h
    · split at h
      · cases h
      · rename_i o ho
        cases h
        refine ⟨?_, h1, by simp; omega⟩
        have hs : s.stk = s.stk.dropLast ++ [o] := by
          rw [List.getLast?_eq_some_iff] at ho
          obtain ⟨ys, hy⟩ := ho
          rw [hy, List.dropLast_concat]
        have hw := bd_whole s.ch s.ps
        unfold bdS
        dsimp only
        conv => rhs; rw [hs]
        rw [List.map_append, sum_app, bdL_app]
        simp only [List.map_cons, List.map_nil, List.sum_cons, List.sum_nil, bdL]
        omega
    split at h
    · split at h
      · cases h
      · rename_i t ht
        split at h
        · cases h
        · cases h
          refine ⟨?_, by dsimp only; omega, h2⟩
          have hs : s.ps = s.ps.dropLast ++ [t] := by
            rw [List.getLast?_eq_some_iff] at ht
            obtain ⟨ys, hy⟩ := ht
            rw [hy, List.dropLast_concat]
          unfold bdS
          dsimp only
          conv => rhs; rw [hs]
          rw [bdL_app, bdL_app]
          simp only [bdL, bd]
          omega
    split at h
    · split at h
      · cases h
      · cases h
        refine ⟨?_, by dsimp only; omega, h2⟩
        have hw := bd_mkSeq s.ps
        unfold bdS
        dsimp only
        rw [bdL_app]
        simp only [bdL]
        omega
    split at h
    · split at h
      · cases h
      · cases h
        refine ⟨?_, by dsimp only; omega, h2⟩
        unfold bdS
        dsimp only
        rw [bdL_app]
        simp only [bdL, bd, List.length_cons, List.length_nil]
        omega
    split at h
    · split at h
      · cases h
      · split at h
        · rename_i h48 hl
          obtain ⟨a, b, c⟩ := named_bd (by omega) hl h
          exact ⟨a, by omega, by rw [c]; exact h2⟩
        · cases h
    split at h
    · rename_i hl
      rw [Bool.and_eq_true, decide_eq_true_eq] at hl
      obtain ⟨a, b, c⟩ := named_bd (Nat.le_refl _) (by unfold atB; rw [hx]; exact hl.1) h
      exact ⟨a, by omega, by rw [c]; exact h2⟩
    · cases h
/-! Texts. -/
def isAlt : T → Bool
  | .alt _ => true
  | _ => false
def isMany : T → Bool
  | .alt _ => true
  | .seq _ => true
  | _ => false
def brk (b : Bool) (s : List UInt8) : List UInt8 := if b then 40 :: (s ++ [41]) else s
def orUnit (s : List UInt8) : List UInt8 := if s = [] then [40, 41] else s
mutual
def txt : T → List UInt8
  | .leaf tx _ _ deny => if deny then 33 :: tx else tx
  | .seq l => Lib.join (txtS l) [32]
  | .alt l => Lib.join (txtA l) [32, 124, 32]
  | .suf t s => brk (isMany t) (txt t) ++ [s]
def txtS : List T → List (List UInt8)
  | [] => []
  | t :: l => brk (isAlt t) (txt t) :: txtS l
def txtA : List T → List (List UInt8)
  | [] => []
  | t :: l => orUnit (txt t) :: txtA l
end
theorem txtS_map (l : List T) : txtS l = l.map fun t => brk (isAlt t) (txt t) := by
  induction l with
  | nil => rfl
  | cons t l ih => rw [txtS, ih, List.map_cons]
theorem txtA_map (l : List T) : txtA l = l.map fun t => orUnit (txt t) := by
  induction l with
  | nil => rfl
  | cons t l ih => rw [txtA, ih, List.map_cons]
theorem join_le (sep : List UInt8) (k : Nat) (hk : sep.length ≤ k) (l : List (List UInt8)) : (Lib.join l sep).length ≤ Lib.lens l + k * l.length := by
  cases l with
  | nil => simp [Lib.join_nil]
  | cons x l =>
    rw [Lib.join_length, List.length_cons, Nat.mul_succ]
    have : sep.length * l.length ≤ k * l.length := Nat.mul_le_mul_right _ hk
    omega
theorem brk_len (b : Bool) (s : List UInt8) : (brk b s).length ≤ s.length + 2 := by
  unfold brk
  split <;> simp
mutual
theorem txt_bd : (t : T) → (txt t).length + 6 ≤ bd t
  | .leaf tx n p d => by
    simp only [txt, bd]
    split <;> (try simp only [List.length_cons]) <;> omega
  | .seq l => by
    have h1 := txtS_bd l
    have h2 := join_le [32] 1 (by decide) (txtS l)
    simp only [txt, bd]
    omega
  | .alt l => by
    have h1 := txtA_bd l
    have h2 := join_le [32, 124, 32] 3 (by decide) (txtA l)
    simp only [txt, bd]
    omega
  | .suf t s => by
    have h1 := txt_bd t
    have h2 := brk_len (isMany t) (txt t)
    simp only [txt, bd, List.length_append, List.length_cons, List.length_nil]
    omega
theorem txtS_bd : (l : List T) → Lib.lens (txtS l) + 4 * (txtS l).length ≤ bdL l
  | [] => by simp [txtS, bdL, Lib.lens]
  | t :: l => by
    have h1 := txt_bd t
    have h2 := txtS_bd l
    have h3 := brk_len (isAlt t) (txt t)
    simp only [txtS, bdL, List.length_cons]
    have : Lib.lens (brk (isAlt t) (txt t) :: txtS l) = (brk (isAlt t) (txt t)).length + Lib.lens (txtS l) := by simp [Lib.lens]
    omega
theorem txtA_bd : (l : List T) → Lib.lens (txtA l) + 4 * (txtA l).length ≤ bdL l
  | [] => by simp [txtA, bdL, Lib.lens]
  | t :: l => by
    have h1 := txt_bd t
    have h2 := txtA_bd l
    have h3 : (orUnit (txt t)).length ≤ (txt t).length + 2 := by
      unfold orUnit
      split
      · simp
      · omega
    simp only [txtA, bdL, List.length_cons]
    have : Lib.lens (orUnit (txt t) :: txtA l) = (orUnit (txt t)).length + Lib.lens (txtA l) := by simp [Lib.lens]
    omega
end
/-! Code. -/
structure Sp where
  lk : Option T
  nx : Nat
  ot : Nat
  dn : Bool
def setOt (c : List Sp) (i n : Nat) : List Sp := c.set i { (c[i]?.getD ⟨none, 0, 0, false⟩) with ot := n }
def setNx (c : List Sp) (i n : Nat) : List Sp := c.set i { (c[i]?.getD ⟨none, 0, 0, false⟩) with nx := n }
mutual
def em : T → List Sp → List Sp
  | .leaf tx n p d, c => c ++ [⟨some (.leaf tx n p d), 0, 0, false⟩]
  | .seq l, c => emS l c
  | .alt l, c => let r := emA l c []; r.2.foldl (fun c j => setNx c j r.1.length) r.1
  | .suf t s, c =>
    if s = 43 then
      let c1 := em t c
      if c1.length = c.length then c1 else c1 ++ [⟨none, c.length, c1.length + 1, false⟩]
    else
      let c1 := em t (c ++ [⟨none, c.length + 1, 0, false⟩])
      let c2 := if s = 42 then c1 ++ [⟨none, c.length, 0, false⟩] else c1
      setOt c2 c.length c2.length
def emS : List T → List Sp → List Sp
  | [], c => c
  | t :: l, c => emS l (em t c)
def emA : List T → List Sp → List Nat → List Sp × List Nat
  | [], c, js => (c, js)
  | t :: l, c, js =>
    if l.isEmpty then emA l (em t c) js
    else
      let c1 := em t (c ++ [⟨none, c.length + 1, 0, false⟩])
      let c2 := c1 ++ [⟨none, 0, 0, false⟩]
      emA l (setOt c2 c.length c2.length) (js ++ [c1.length])
end
theorem setOt_len (c : List Sp) (i n : Nat) : (setOt c i n).length = c.length := List.length_set
theorem setNx_len (c : List Sp) (i n : Nat) : (setNx c i n).length = c.length := List.length_set
theorem fold_len (js : List Nat) (n : Nat) : ∀ c : List Sp, (js.foldl (fun c j => setNx c j n) c).length = c.length := by
  induction js with
  | nil => exact fun c => rfl
  | cons j js ih => exact fun c => by rw [List.foldl_cons, ih, setNx_len]
mutual
theorem em_len : (t : T) → (c : List Sp) → c.length ≤ (em t c).length ∧ (em t c).length + 5 ≤ c.length + bd t
  | .leaf tx n p d, c => by simp only [em, bd, List.length_append, List.length_cons, List.length_nil]; omega
  | .seq l, c => by
    have h := emS_len l c
    simp only [em, bd]
    omega
  | .alt l, c => by
    have h := emA_len l c []
    simp only [em, bd]
    rw [fold_len]
    omega
  | .suf t s, c => by
    simp only [em, bd]
    have h1 := em_len t c
    have h2 := em_len t (c ++ [⟨none, c.length + 1, 0, false⟩])
    rw [List.length_append, List.length_cons, List.length_nil] at h2
    split
    · split
      · omega
      · rw [List.length_append, List.length_cons, List.length_nil]; omega
    · rw [setOt_len]
      split
      · rw [List.length_append, List.length_cons, List.length_nil]; omega
      · omega
theorem emS_len : (l : List T) → (c : List Sp) → c.length ≤ (emS l c).length ∧ (emS l c).length ≤ c.length + bdL l
  | [], c => by simp only [emS, bdL]; omega
  | t :: l, c => by
    have h1 := em_len t c
    have h2 := emS_len l (em t c)
    simp only [emS, bdL]
    omega
theorem emA_len : (l : List T) → (c : List Sp) → (js : List Nat) → c.length ≤ (emA l c js).1.length ∧ (emA l c js).1.length ≤ c.length + bdL l ∧ (emA l c js).2.length ≤ js.length + l.length
  | [], c, js => by simp only [emA, bdL, List.length_nil]; omega
  | t :: l, c, js => by
    simp only [emA, bdL]
    split
    · have h1 := em_len t c
      have h2 := emA_len l (em t c) js
      simp only [List.length_cons]
      omega
    · have h1 := em_len t (c ++ [⟨none, c.length + 1, 0, false⟩])
      rw [List.length_append, List.length_cons, List.length_nil] at h1
      generalize em t (c ++ [⟨none, c.length + 1, 0, false⟩]) = c1 at *
      have h2 := emA_len l (setOt (c1 ++ [(⟨none, 0, 0, false⟩ : Sp)]) c.length (c1 ++ [(⟨none, 0, 0, false⟩ : Sp)]).length) (js ++ [c1.length])
      rw [setOt_len, List.length_append, List.length_append, List.length_cons, List.length_nil, List.length_cons, List.length_nil] at h2
      simp only [List.length_cons, List.length_append, List.length_nil] at h2 ⊢
      omega
end
end Go.Proofs.Ytlbkacabcfeaiaa.Tl
/- Patterns, plain law: the code of a tree as one list. No program. -/
namespace Go.Proofs.Ytlbkacabcfeaiaa.Tl
open Go.RowKit Mm
set_option linter.unusedVariables false
mutual
def cg : T → Nat → List Sp
  | .leaf tx n p d, _ => [⟨some (.leaf tx n p d), 0, 0, false⟩]
  | .seq l, a => cgS l a
  | .alt l, a => cgA l a (a + (cgA l a 0).length)
  | .suf t s, a =>
    if s = 43 then (if (cg t a).length = 0 then [] else cg t a ++ [⟨none, a, a + (cg t a).length + 1, false⟩])
    else if s = 42 then ⟨none, a + 1, a + 1 + (cg t (a + 1)).length + 1, false⟩ :: (cg t (a + 1) ++ [⟨none, a, 0, false⟩])
    else ⟨none, a + 1, a + 1 + (cg t (a + 1)).length, false⟩ :: cg t (a + 1)
def cgS : List T → Nat → List Sp
  | [], _ => []
  | t :: l, a => cg t a ++ cgS l (a + (cg t a).length)
def cgA : List T → Nat → Nat → List Sp
  | [], _, _ => []
  | t :: l, a, e =>
    if l.isEmpty then cg t a
    else ⟨none, a + 1, a + 1 + (cg t (a + 1)).length + 1, false⟩ :: (cg t (a + 1) ++ (⟨none, e, 0, false⟩ :: cgA l (a + 1 + (cg t (a + 1)).length + 1) e))
end
def jsA : List T → Nat → List Nat
  | [], _ => []
  | t :: l, a => if l.isEmpty then [] else (a + 1 + (cg t (a + 1)).length) :: jsA l (a + 1 + (cg t (a + 1)).length + 1)
theorem set_mid (c r : List Sp) (x y : Sp) : (c ++ x :: r).set c.length y = c ++ y :: r := by simp
theorem get_mid (c r : List Sp) (x : Sp) : (c ++ x :: r)[c.length]?.getD ⟨none, 0, 0, false⟩ = x := by simp
theorem setOt_mid (c r : List Sp) (x : Sp) (n : Nat) : setOt (c ++ x :: r) c.length n = c ++ { x with ot := n } :: r := by
  unfold setOt
  rw [get_mid, set_mid]
theorem setNx_mid (c r : List Sp) (x : Sp) (n : Nat) : setNx (c ++ x :: r) c.length n = c ++ { x with nx := n } :: r := by
  unfold setNx
  rw [get_mid, set_mid]
theorem cgA_len (e : Nat) : ∀ (l : List T) (a e' : Nat), (cgA l a e).length = (cgA l a e').length
  | [], _, _ => by rw [cgA, cgA]
  | t :: l, a, e' => by
    rw [cgA, cgA]
    split
    · rfl
    · simp only [List.length_cons, List.length_append]
      rw [cgA_len e l _ e']
theorem jumps_set (e : Nat) : ∀ (l : List T) (P : List Sp), (jsA l P.length).foldl (fun d j => setNx d j e) (P ++ cgA l P.length 0) = P ++ cgA l P.length e
  | [], P => by rw [jsA, cgA, cgA]; rfl
  | t :: l, P => by
    rw [jsA, cgA, cgA]
    split
    · rfl
    · have h := jumps_set e l (P ++ ⟨none, P.length + 1, P.length + 1 + (cg t (P.length + 1)).length + 1, false⟩ :: (cg t (P.length + 1) ++ [⟨none, e, 0, false⟩]))
      have hl : (P ++ ⟨none, P.length + 1, P.length + 1 + (cg t (P.length + 1)).length + 1, false⟩ :: (cg t (P.length + 1) ++ [(⟨none, e, 0, false⟩ : Sp)])).length = P.length + 1 + (cg t (P.length + 1)).length + 1 := by simp; omega
      rw [hl] at h
      rw [List.foldl_cons]
      have hs : setNx (P ++ ⟨none, P.length + 1, P.length + 1 + (cg t (P.length + 1)).length + 1, false⟩ :: (cg t (P.length + 1) ++ ⟨none, 0, 0, false⟩ :: cgA l (P.length + 1 + (cg t (P.length + 1)).length + 1) 0)) (P.length + 1 + (cg t (P.length + 1)).length) e
          = P ++ ⟨none, P.length + 1, P.length + 1 + (cg t (P.length + 1)).length + 1, false⟩ :: (cg t (P.length + 1) ++ [⟨none, e, 0, false⟩]) ++ cgA l (P.length + 1 + (cg t (P.length + 1)).length + 1) 0 := by
        have h2 := setNx_mid (P ++ ⟨none, P.length + 1, P.length + 1 + (cg t (P.length + 1)).length + 1, false⟩ :: cg t (P.length + 1)) (cgA l (P.length + 1 + (cg t (P.length + 1)).length + 1) 0) ⟨none, 0, 0, false⟩ e
        have h3 : (P ++ (⟨none, P.length + 1, P.length + 1 + (cg t (P.length + 1)).length + 1, false⟩ : Sp) :: cg t (P.length + 1)).length = P.length + 1 + (cg t (P.length + 1)).length := by simp; omega
        rw [h3] at h2
        simpa using h2
      rw [hs, h]
      simp
mutual
theorem em_cg : (t : T) → (c : List Sp) → em t c = c ++ cg t c.length
  | .leaf tx n p d, c => by rw [em, cg]
  | .seq l, c => by rw [em, cg]; exact emS_cg l c
  | .alt l, c => by
    rw [em, cg]
    have h := emA_cg l c []
    simp only [h]
    rw [List.nil_append, List.length_append]
    exact jumps_set _ l c
  | .suf t s, c => by
    rw [em, cg]
    by_cases h43 : s = 43
    · rw [if_pos h43, if_pos h43]
      simp only [em_cg t c]
      by_cases h0 : (cg t c.length).length = 0
      · rw [if_pos (by rw [List.length_append]; omega), if_pos h0, List.eq_nil_of_length_eq_zero h0]
      · rw [if_neg (by rw [List.length_append]; omega), if_neg h0, List.length_append, List.append_assoc]
    · rw [if_neg h43, if_neg h43]
      have h1 := em_cg t (c ++ [⟨none, c.length + 1, 0, false⟩])
      rw [List.length_append, List.length_cons, List.length_nil, Nat.zero_add] at h1
      simp only [h1]
      by_cases h42 : s = 42
      · rw [if_pos h42, if_pos h42]
        have h2 := setOt_mid c (cg t (c.length + 1) ++ [⟨none, c.length, 0, false⟩]) ⟨none, c.length + 1, 0, false⟩ (c.length + 1 + (cg t (c.length + 1)).length + 1)
        simp only [List.append_assoc, List.cons_append, List.nil_append, List.length_append, List.length_cons, List.length_nil]
        rw [show c.length + ((cg t (c.length + 1)).length + (0 + 1) + 1) = c.length + 1 + (cg t (c.length + 1)).length + 1 from by omega]
        exact h2
      · rw [if_neg h42, if_neg h42]
        have h2 := setOt_mid c (cg t (c.length + 1)) ⟨none, c.length + 1, 0, false⟩ (c.length + 1 + (cg t (c.length + 1)).length)
        simp only [List.append_assoc, List.cons_append, List.nil_append, List.length_append, List.length_cons]
        rw [show c.length + ((cg t (c.length + 1)).length + 1) = c.length + 1 + (cg t (c.length + 1)).length from by omega]
        exact h2
theorem emS_cg : (l : List T) → (c : List Sp) → emS l c = c ++ cgS l c.length
  | [], c => by rw [emS, cgS, List.append_nil]
  | t :: l, c => by
    rw [emS, cgS, emS_cg l (em t c), em_cg t c, List.length_append, List.append_assoc]
theorem emA_cg : (l : List T) → (c : List Sp) → (js : List Nat) → emA l c js = (c ++ cgA l c.length 0, js ++ jsA l c.length)
  | [], c, js => by rw [emA, cgA, jsA, List.append_nil, List.append_nil]
  | t :: l, c, js => by
    rw [emA, cgA, jsA]
    by_cases hl : l.isEmpty = true
    · have h0 : l = [] := by cases l; rfl; cases hl
      subst h0
      rw [if_pos hl, if_pos hl, if_pos hl, emA_cg [] (em t c) js, em_cg t c, cgA, jsA, List.append_nil]
    · rw [if_neg hl, if_neg hl, if_neg hl]
      have h1 := em_cg t (c ++ [⟨none, c.length + 1, 0, false⟩])
      rw [List.length_append, List.length_cons, List.length_nil, Nat.zero_add] at h1
      simp only [h1]
      have h2 := setOt_mid c (cg t (c.length + 1) ++ [⟨none, 0, 0, false⟩]) ⟨none, c.length + 1, 0, false⟩ (c.length + 1 + (cg t (c.length + 1)).length + 1)
      have h3 : setOt (c ++ [⟨none, c.length + 1, 0, false⟩] ++ cg t (c.length + 1) ++ [(⟨none, 0, 0, false⟩ : Sp)]) c.length (c ++ [(⟨none, c.length + 1, 0, false⟩ : Sp)] ++ cg t (c.length + 1) ++ [(⟨none, 0, 0, false⟩ : Sp)]).length = c ++ ⟨none, c.length + 1, c.length + 1 + (cg t (c.length + 1)).length + 1, false⟩ :: (cg t (c.length + 1) ++ [⟨none, 0, 0, false⟩]) := by
        simp only [List.append_assoc, List.cons_append, List.nil_append, List.length_append, List.length_cons, List.length_nil]
        rw [show c.length + ((cg t (c.length + 1)).length + (0 + 1) + 1) = c.length + 1 + (cg t (c.length + 1)).length + 1 from by omega]
        exact h2
      rw [h3, emA_cg l _ _]
      have h4 : (c ++ (⟨none, c.length + 1, c.length + 1 + (cg t (c.length + 1)).length + 1, false⟩ : Sp) :: (cg t (c.length + 1) ++ [⟨none, 0, 0, false⟩])).length = c.length + 1 + (cg t (c.length + 1)).length + 1 := by simp; omega
      rw [h4]
      simp
      omega
end
end Go.Proofs.Ytlbkacabcfeaiaa.Tl
/- Patterns, plain law: what a tree means; its code leads just there. No program. -/
namespace Go.Proofs.Ytlbkacabcfeaiaa.Tl
open Go.RowKit Mm
set_option linter.unusedVariables false
/-- does a leaf take a name? -/
def lkB : T → List UInt8 → Bool
  | .leaf tx named port deny, name => if named then (if port then (name == tx) != deny else (List.isPrefixOf (tx ++ [46]) name) != deny) else true
  | _, _ => false
inductive Star (R : Nat → Nat → Prop) : Nat → Nat → Prop where
  | nil (i : Nat) : Star R i i
  | cons (i m j : Nat) : R i m → Star R m j → Star R i j
mutual
/-- from which places of a list of names to which others a tree leads -/
def Mt (ns : List (List UInt8)) : T → Nat → Nat → Prop
  | .leaf tx n p d => fun i j => j = i + 1 ∧ ∃ x, ns[i]? = some x ∧ lkB (.leaf tx n p d) x = true
  | .seq l => MtS ns l
  | .alt l => MtA ns l
  | .suf t s => fun i j => if s = 42 then Star (Mt ns t) i j else if s = 43 then ∃ m, Mt ns t i m ∧ Star (Mt ns t) m j else i = j ∨ Mt ns t i j
def MtS (ns : List (List UInt8)) : List T → Nat → Nat → Prop
  | [] => fun i j => i = j
  | t :: l => fun i j => ∃ m, Mt ns t i m ∧ MtS ns l m j
def MtA (ns : List (List UInt8)) : List T → Nat → Nat → Prop
  | [] => fun _ _ => False
  | t :: l => fun i j => Mt ns t i j ∨ MtA ns l i j
end
/-- one step of the machine: from an instruction and a place to others -/
def Stp (D : List Sp) (ns : List (List UInt8)) (p i q j : Nat) : Prop :=
  ∃ s, D[p]? = some s ∧ ((∃ t x, s.lk = some t ∧ q = p + 1 ∧ j = i + 1 ∧ ns[i]? = some x ∧ lkB t x = true) ∨ (s.lk = none ∧ s.dn = false ∧ j = i ∧ (q = s.nx ∨ (0 < s.ot ∧ q = s.ot))))
inductive Pt (D : List Sp) (ns : List (List UInt8)) : Nat → Nat → Nat → Nat → Nat → Prop where
  | nil (p i : Nat) : Pt D ns 0 p i p i
  | cons (n p i q j r k : Nat) : Stp D ns p i q j → Pt D ns n q j r k → Pt D ns (n + 1) p i r k
inductive Lo (D : List Sp) (ns : List (List UInt8)) (a b : Nat) : Nat → Nat → Nat → Nat → Prop where
  | nil (p i : Nat) : Lo D ns a b p i p i
  | cons (p i q j r k : Nat) : a ≤ p → p < b → Stp D ns p i q j → Lo D ns a b q j r k → Lo D ns a b p i r k
section
variable {D : List Sp} {ns : List (List UInt8)} {a b a' b' p i q j r k n e : Nat}
theorem Lo.trans (h : Lo D ns a b p i q j) (g : Lo D ns a b q j r k) : Lo D ns a b p i r k := by
  induction h with
  | nil p i => exact g
  | cons p i q j r k h1 h2 h3 _ ih => exact .cons p i q j _ _ h1 h2 h3 (ih g)
theorem Lo.mono (h : Lo D ns a b p i r k) (h1 : a' ≤ a) (h2 : b ≤ b') : Lo D ns a' b' p i r k := by
  induction h with
  | nil p i => exact .nil p i
  | cons p i q j r k g1 g2 g3 _ ih => exact .cons p i q j _ _ (by omega) (by omega) g3 ih
theorem Lo.empty (h : Lo D ns a b p i r k) (hb : b ≤ a) : p = r ∧ i = k := by
  cases h with
  | nil => exact ⟨rfl, rfl⟩
  | cons _ _ q j _ _ h1 h2 => omega
theorem Lo.pt (h : Lo D ns a b p i r k) : ∃ n, Pt D ns n p i r k := by
  induction h with
  | nil p i => exact ⟨0, .nil p i⟩
  | cons p i q j r k _ _ h3 _ ih =>
    obtain ⟨n, hn⟩ := ih
    exact ⟨n + 1, .cons n p i q j r k h3 hn⟩
theorem pt_inv (h : Pt D ns n p i r k) (hne : r ≠ p) : ∃ n' q j, n = n' + 1 ∧ Stp D ns p i q j ∧ Pt D ns n' q j r k := by
  cases h with
  | nil => exact absurd rfl hne
  | cons n _ _ q j _ _ h1 h2 => exact ⟨n, q, j, rfl, h1, h2⟩
theorem stp_fork {x y : Nat} (hD : D[p]? = some ⟨none, x, y, false⟩) (h : Stp D ns p i q j) : j = i ∧ (q = x ∨ (0 < y ∧ q = y)) := by
  obtain ⟨s, hs, h⟩ := h
  rw [hD] at hs
  cases hs
  rcases h with ⟨t, x, h, _⟩ | ⟨_, _, h1, h2⟩
  · cases h
  · exact ⟨h1, h2⟩
theorem stp_leaf {t : T} (hD : D[p]? = some ⟨some t, 0, 0, false⟩) (h : Stp D ns p i q j) : q = p + 1 ∧ j = i + 1 ∧ ∃ x, ns[i]? = some x ∧ lkB t x = true := by
  obtain ⟨s, hs, h⟩ := h
  rw [hD] at hs
  cases hs
  rcases h with ⟨t, x, h, h1, h2, h3, h4⟩ | ⟨h, _⟩
  · cases h
    exact ⟨h1, h2, x, h3, h4⟩
  · cases h
theorem go_nx {x y : Nat} (hD : D[p]? = some ⟨none, x, y, false⟩) : Stp D ns p i x i := ⟨_, hD, .inr ⟨rfl, rfl, rfl, .inl rfl⟩⟩
theorem go_ot {x y : Nat} (hD : D[p]? = some ⟨none, x, y, false⟩) (hy : 0 < y) : Stp D ns p i y i := ⟨_, hD, .inr ⟨rfl, rfl, rfl, .inr ⟨hy, rfl⟩⟩⟩
/-- a piece of the code stands there -/
def Has (D : List Sp) (a : Nat) (c : List Sp) : Prop := ∀ (k : Nat) (s : Sp), c[k]? = some s → D[a + k]? = some s
theorem Has.left {c d : List Sp} (h : Has D a (c ++ d)) : Has D a c := fun k s hk => h k s (by rw [List.getElem?_append_left (List.getElem?_eq_some_iff.1 hk).1]; exact hk)
theorem Has.right {c d : List Sp} (h : Has D a (c ++ d)) : Has D (a + c.length) d := fun k s hk => by
  have := h (c.length + k) s (by rw [List.getElem?_append_right (by omega)]; simpa using hk)
  rw [Nat.add_assoc]
  exact this
theorem Has.head {c : List Sp} {s : Sp} (h : Has D a (s :: c)) : D[a]? = some s := h 0 s rfl
theorem Has.tail {c : List Sp} {s : Sp} (h : Has D a (s :: c)) : Has D (a + 1) c := fun k x hk => by
  have := h (k + 1) x hk
  rw [show a + 1 + k = a + (k + 1) from by omega]
  exact this
end
mutual
theorem cg_lo (D : List Sp) (ns : List (List UInt8)) : (t : T) → (a : Nat) → Has D a (cg t a) → ∀ i j, Mt ns t i j → Lo D ns a (a + (cg t a).length) a i (a + (cg t a).length) j
  | .leaf tx n p d, a, h, i, j, hm => by
    rw [cg] at h
    simp only [Mt] at hm
    obtain ⟨rfl, x, hx, hl⟩ := hm
    simp only [cg, List.length_cons, List.length_nil, Nat.zero_add]
    exact .cons a i (a + 1) (i + 1) _ _ (Nat.le_refl _) (by omega) ⟨_, h.head, .inl ⟨_, x, rfl, rfl, rfl, hx, hl⟩⟩ (.nil _ _)
  | .seq l, a, h, i, j, hm => by
    rw [cg] at h ⊢
    simp only [Mt] at hm
    exact cgS_lo D ns l a h i j hm
  | .alt l, a, h, i, j, hm => by
    rw [cg] at h ⊢
    simp only [Mt] at hm
    have hl := cgA_len (a + (cgA l a 0).length) l a 0
    exact cgA_lo D ns l a _ h (by rw [hl]) i j hm
  | .suf t s, a, h, i, j, hm => by
    rw [cg] at h ⊢
    simp only [Mt] at hm
    by_cases h43 : s = 43
    · have h42 : ¬ s = 42 := by rw [h43]; decide
      rw [if_neg h42, if_pos h43] at hm
      rw [if_pos h43] at h ⊢
      obtain ⟨m, hm1, hm2⟩ := hm
      by_cases h0 : (cg t a).length = 0
      · rw [if_pos h0]
        have hb : Has D a (cg t a) := by rw [List.eq_nil_of_length_eq_zero h0]; intro k s hk; simp at hk
        have heq : ∀ i j, Mt ns t i j → i = j := fun i j hij => ((cg_lo D ns t a hb i j hij).empty (by omega)).2
        have hst : ∀ i j, Star (Mt ns t) i j → i = j := fun i j hij => by
          induction hij with
          | nil i => rfl
          | cons i m j h1 _ ih => rw [heq i m h1, ih]
        rw [heq i m hm1, hst m j hm2]
        exact .nil _ _
      · rw [if_neg h0] at h ⊢
        have hb := h.left
        have hj := h.right.head
        have hl : (cg t a ++ [(⟨none, a, a + (cg t a).length + 1, false⟩ : Sp)]).length = (cg t a).length + 1 := by simp
        rw [hl]
        have hbody : ∀ i j, Mt ns t i j → Lo D ns a (a + ((cg t a).length + 1)) a i (a + (cg t a).length) j := fun i j hij => (cg_lo D ns t a hb i j hij).mono (Nat.le_refl _) (by omega)
        have hst : ∀ m j, Star (Mt ns t) m j → Lo D ns a (a + ((cg t a).length + 1)) (a + (cg t a).length) m (a + ((cg t a).length + 1)) j := fun m j hmj => by
          induction hmj with
          | nil i => exact .cons _ _ (a + (cg t a).length + 1) i _ _ (by omega) (by omega) (go_ot hj (by omega)) (.nil _ _)
          | cons i m j h1 _ ih => exact .cons _ _ a i _ _ (by omega) (by omega) (go_nx hj) ((hbody i m h1).trans ih)
        exact (hbody i m hm1).trans (hst m j hm2)
    · rw [if_neg h43] at h ⊢
      by_cases h42 : s = 42
      · rw [if_pos h42] at h hm ⊢
        have hf := h.head
        have hb := h.tail.left
        have hj := h.tail.right.head
        have hl : ((⟨none, a + 1, a + 1 + (cg t (a + 1)).length + 1, false⟩ : Sp) :: (cg t (a + 1) ++ [⟨none, a, 0, false⟩])).length = (cg t (a + 1)).length + 2 := by simp
        rw [hl]
        have hbody : ∀ i j, Mt ns t i j → Lo D ns a (a + ((cg t (a + 1)).length + 2)) (a + 1) i (a + 1 + (cg t (a + 1)).length) j := fun i j hij => (cg_lo D ns t (a + 1) hb i j hij).mono (by omega) (by omega)
        induction hm with
        | nil i => exact .cons _ _ (a + 1 + (cg t (a + 1)).length + 1) i _ _ (by omega) (by omega) (go_ot hf (by omega)) (by rw [show a + 1 + (cg t (a + 1)).length + 1 = a + ((cg t (a + 1)).length + 2) from by omega]; exact .nil _ _)
        | cons i m j h1 _ ih => exact .cons _ _ (a + 1) i _ _ (by omega) (by omega) (go_nx hf) ((hbody i m h1).trans (.cons _ _ a m _ _ (by omega) (by omega) (go_nx hj) ih))
      · rw [if_neg h42] at h hm ⊢
        rw [if_neg h43] at hm
        have hf := h.head
        have hb := h.tail
        rw [List.length_cons]
        rcases hm with rfl | hm
        · exact .cons _ _ (a + 1 + (cg t (a + 1)).length) i _ _ (by omega) (by omega) (go_ot hf (by omega)) (by rw [show a + 1 + (cg t (a + 1)).length = a + ((cg t (a + 1)).length + 1) from by omega]; exact .nil _ _)
        · refine .cons _ _ (a + 1) i _ _ (by omega) (by omega) (go_nx hf) ?_
          have := (cg_lo D ns t (a + 1) hb i j hm).mono (a' := a) (b' := a + ((cg t (a + 1)).length + 1)) (by omega) (by omega)
          rw [show a + 1 + (cg t (a + 1)).length = a + ((cg t (a + 1)).length + 1) from by omega] at this
          exact this
theorem cgS_lo (D : List Sp) (ns : List (List UInt8)) : (l : List T) → (a : Nat) → Has D a (cgS l a) → ∀ i j, MtS ns l i j → Lo D ns a (a + (cgS l a).length) a i (a + (cgS l a).length) j
  | [], a, h, i, j, hm => by
    simp only [MtS] at hm
    subst hm
    rw [cgS]
    exact .nil _ _
  | t :: l, a, h, i, j, hm => by
    rw [cgS] at h ⊢
    simp only [MtS] at hm
    obtain ⟨m, h1, h2⟩ := hm
    have p1 := cg_lo D ns t a h.left i m h1
    have p2 := cgS_lo D ns l _ h.right m j h2
    rw [List.length_append, ← Nat.add_assoc]
    exact (p1.mono (Nat.le_refl _) (by omega)).trans (p2.mono (by omega) (Nat.le_refl _))
theorem cgA_lo (D : List Sp) (ns : List (List UInt8)) : (l : List T) → (a e : Nat) → Has D a (cgA l a e) → e = a + (cgA l a e).length → ∀ i j, MtA ns l i j → Lo D ns a (a + (cgA l a e).length) a i (a + (cgA l a e).length) j
  | [], a, e, h, he, i, j, hm => by
    simp only [MtA] at hm
  | t :: l, a, e, h, he, i, j, hm => by
    rw [cgA] at h he ⊢
    simp only [MtA] at hm
    by_cases hl : l.isEmpty = true
    · rw [if_pos hl] at h he ⊢
      have h0 : l = [] := by cases l; rfl; cases hl
      subst h0
      simp only [MtA, or_false] at hm
      exact cg_lo D ns t a h i j hm
    · rw [if_neg hl] at h he ⊢
      rw [← he]
      simp only [List.length_cons, List.length_append] at he
      have hf := h.head
      have hb := h.tail.left
      have hj := h.tail.right.head
      have hr := h.tail.right.tail
      rcases hm with hm | hm
      · refine .cons _ _ (a + 1) i _ _ (by omega) (by omega) (go_nx hf) ?_
        have p := (cg_lo D ns t (a + 1) hb i j hm).mono (a' := a) (b' := e) (by omega) (by omega)
        exact p.trans (.cons _ _ e j _ _ (by omega) (by omega) (go_nx hj) (.nil _ _))
      · refine .cons _ _ (a + 1 + (cg t (a + 1)).length + 1) i _ _ (by omega) (by omega) (go_ot hf (by omega)) ?_
        have hre : e = a + 1 + (cg t (a + 1)).length + 1 + (cgA l (a + 1 + (cg t (a + 1)).length + 1) e).length := by omega
        have p := cgA_lo D ns l _ e hr hre i j hm
        rw [← hre] at p
        exact p.mono (by omega) (Nat.le_refl _)
end
end Go.Proofs.Ytlbkacabcfeaiaa.Tl
/- Patterns, plain law: its code leads nowhere else; where it may lead. No program. -/
namespace Go.Proofs.Ytlbkacabcfeaiaa.Tl
open Go.RowKit Mm
set_option linter.unusedVariables false
mutual
/-- no choice of nothing -/
def fine : T → Bool
  | .leaf _ _ _ _ => true
  | .seq l => fineL l
  | .alt l => !l.isEmpty && fineL l
  | .suf t _ => fine t
def fineL : List T → Bool
  | [] => true
  | t :: l => fine t && fineL l
end
mutual
theorem cg_on (D : List Sp) (ns : List (List UInt8)) : (t : T) → (a : Nat) → fine t = true → Has D a (cg t a) → ∀ n i r k, Pt D ns n a i r k → (r < a ∨ a + (cg t a).length ≤ r) → ∃ m j, m ≤ n ∧ Mt ns t i j ∧ Pt D ns m (a + (cg t a).length) j r k
  | .leaf tx nn p d, a, hfn, h, n, i, r, k, hp, hr => by
    simp only [cg, List.length_cons, List.length_nil, Nat.zero_add] at h hr ⊢
    obtain ⟨n', q, j, rfl, hs, hp2⟩ := pt_inv hp (by omega)
    obtain ⟨rfl, rfl, x, hx, hl⟩ := stp_leaf h.head hs
    exact ⟨n', i + 1, by omega, by simp only [Mt]; exact ⟨trivial, x, hx, hl⟩, hp2⟩
  | .seq l, a, hfn, h, n, i, r, k, hp, hr => by
    rw [fine] at hfn
    rw [cg] at h hr ⊢
    obtain ⟨m, j, h1, h2, h3⟩ := cgS_on D ns l a hfn h n i r k hp hr
    exact ⟨m, j, h1, by simp only [Mt]; exact h2, h3⟩
  | .alt l, a, hfn, h, n, i, r, k, hp, hr => by
    rw [fine, Bool.and_eq_true] at hfn
    rw [cg] at h hr ⊢
    have hl := cgA_len (a + (cgA l a 0).length) l a 0
    obtain ⟨m, j, h1, h2, h3⟩ := cgA_on D ns l a _ (by have := hfn.1; intro e; rw [e] at this; cases this) hfn.2 h (by rw [hl]) n i r k hp hr
    exact ⟨m, j, h1, by simp only [Mt]; exact h2, h3⟩
  | .suf t s, a, hfn, h, n, i, r, k, hp, hr => by
    rw [fine] at hfn
    rw [cg] at h hr ⊢
    simp only [Mt]
    by_cases h43 : s = 43
    · have h42 : ¬ s = 42 := by rw [h43]; decide
      simp only [if_neg h42, if_pos h43]
      rw [if_pos h43] at h hr
      by_cases h0 : (cg t a).length = 0
      · rw [if_pos h0]
        have hb : Has D a (cg t a) := by rw [List.eq_nil_of_length_eq_zero h0]; intro k s hk; simp at hk
        obtain ⟨m, j, h1, h2, h3⟩ := cg_on D ns t a hfn hb 0 i a i (.nil a i) (.inr (by omega))
        obtain rfl : m = 0 := by omega
        rw [h0, Nat.add_zero] at h3
        cases h3 with
        | nil => exact ⟨n, i, Nat.le_refl _, ⟨i, h2, .nil i⟩, hp⟩
      · rw [if_neg h0] at h hr ⊢
        have hb := h.left
        have hj := h.right.head
        have hl : (cg t a ++ [(⟨none, a, a + (cg t a).length + 1, false⟩ : Sp)]).length = (cg t a).length + 1 := by simp
        rw [hl] at hr ⊢
        have key : ∀ n i, Pt D ns n a i r k → ∃ m j, m ≤ n ∧ (∃ m', Mt ns t i m' ∧ Star (Mt ns t) m' j) ∧ Pt D ns m (a + ((cg t a).length + 1)) j r k := by
          intro n
          induction n using Nat.strongRecOn with
          | _ n ih =>
            intro i hp
            obtain ⟨m1, j1, g1, g2, g3⟩ := cg_on D ns t a hfn hb n i r k hp (by omega)
            obtain ⟨n', q, j, rfl, hs, hp2⟩ := pt_inv g3 (by omega)
            obtain ⟨rfl, hq⟩ := stp_fork hj hs
            rcases hq with rfl | ⟨_, rfl⟩
            · obtain ⟨m2, j2, k1, ⟨m', k2, k3⟩, k4⟩ := ih n' (by omega) j hp2
              exact ⟨m2, j2, by omega, ⟨j, g2, .cons j m' j2 k2 k3⟩, k4⟩
            · exact ⟨n', j, by omega, ⟨j, g2, .nil j⟩, hp2⟩
        exact key n i hp
    · rw [if_neg h43] at h hr
      by_cases h42 : s = 42
      · rw [if_pos h42] at h hr
        simp only [if_neg h43, if_pos h42]
        have hf := h.head
        have hb := h.tail.left
        have hj := h.tail.right.head
        have hl : ((⟨none, a + 1, a + 1 + (cg t (a + 1)).length + 1, false⟩ : Sp) :: (cg t (a + 1) ++ [⟨none, a, 0, false⟩])).length = (cg t (a + 1)).length + 2 := by simp
        rw [hl] at hr ⊢
        have key : ∀ n i, Pt D ns n a i r k → ∃ m j, m ≤ n ∧ Star (Mt ns t) i j ∧ Pt D ns m (a + ((cg t (a + 1)).length + 2)) j r k := by
          intro n
          induction n using Nat.strongRecOn with
          | _ n ih =>
            intro i hp
            obtain ⟨n', q, j, rfl, hs, hp2⟩ := pt_inv hp (by omega)
            obtain ⟨rfl, hq⟩ := stp_fork hf hs
            rcases hq with rfl | ⟨_, rfl⟩
            · obtain ⟨m1, j1, g1, g2, g3⟩ := cg_on D ns t (a + 1) hfn hb n' j r k hp2 (by omega)
              obtain ⟨n2, q2, j2, rfl, hs2, hp3⟩ := pt_inv g3 (by omega)
              obtain ⟨rfl, hq2⟩ := stp_fork hj hs2
              rcases hq2 with rfl | ⟨h0, _⟩
              · obtain ⟨m3, j3, k1, k2, k3⟩ := ih n2 (by omega) j2 hp3
                exact ⟨m3, j3, by omega, .cons j j2 j3 g2 k2, k3⟩
              · omega
            · exact ⟨n', j, by omega, .nil j, by rw [show a + ((cg t (a + 1)).length + 2) = a + 1 + (cg t (a + 1)).length + 1 from by omega]; exact hp2⟩
        exact key n i hp
      · rw [if_neg h42] at h hr
        simp only [if_neg h42, if_neg h43]
        have hf := h.head
        have hb := h.tail
        rw [List.length_cons] at hr ⊢
        obtain ⟨n', q, j, rfl, hs, hp2⟩ := pt_inv hp (by omega)
        obtain ⟨rfl, hq⟩ := stp_fork hf hs
        rcases hq with rfl | ⟨_, rfl⟩
        · obtain ⟨m1, j1, g1, g2, g3⟩ := cg_on D ns t (a + 1) hfn hb n' j r k hp2 (by omega)
          exact ⟨m1, j1, by omega, .inr g2, by rw [show a + ((cg t (a + 1)).length + 1) = a + 1 + (cg t (a + 1)).length from by omega]; exact g3⟩
        · exact ⟨n', j, by omega, .inl rfl, by rw [show a + ((cg t (a + 1)).length + 1) = a + 1 + (cg t (a + 1)).length from by omega]; exact hp2⟩
theorem cgS_on (D : List Sp) (ns : List (List UInt8)) : (l : List T) → (a : Nat) → fineL l = true → Has D a (cgS l a) → ∀ n i r k, Pt D ns n a i r k → (r < a ∨ a + (cgS l a).length ≤ r) → ∃ m j, m ≤ n ∧ MtS ns l i j ∧ Pt D ns m (a + (cgS l a).length) j r k
  | [], a, hfn, h, n, i, r, k, hp, hr => by
    rw [cgS]
    exact ⟨n, i, Nat.le_refl _, by simp only [MtS], hp⟩
  | t :: l, a, hfn, h, n, i, r, k, hp, hr => by
    rw [fineL, Bool.and_eq_true] at hfn
    rw [cgS] at h hr ⊢
    rw [List.length_append] at hr ⊢
    obtain ⟨m1, j1, g1, g2, g3⟩ := cg_on D ns t a hfn.1 h.left n i r k hp (by omega)
    obtain ⟨m2, j2, k1, k2, k3⟩ := cgS_on D ns l _ hfn.2 h.right m1 j1 r k g3 (by omega)
    exact ⟨m2, j2, by omega, by simp only [MtS]; exact ⟨j1, g2, k2⟩, by rw [← Nat.add_assoc]; exact k3⟩
theorem cgA_on (D : List Sp) (ns : List (List UInt8)) : (l : List T) → (a e : Nat) → l ≠ [] → fineL l = true → Has D a (cgA l a e) → e = a + (cgA l a e).length → ∀ n i r k, Pt D ns n a i r k → (r < a ∨ a + (cgA l a e).length ≤ r) → ∃ m j, m ≤ n ∧ MtA ns l i j ∧ Pt D ns m (a + (cgA l a e).length) j r k
  | [], a, e, hne, hfn, h, he, n, i, r, k, hp, hr => absurd rfl hne
  | t :: l, a, e, hne, hfn, h, he, n, i, r, k, hp, hr => by
    rw [fineL, Bool.and_eq_true] at hfn
    rw [cgA] at h he hr ⊢
    by_cases hl : l.isEmpty = true
    · rw [if_pos hl] at h he hr ⊢
      obtain ⟨m, j, g1, g2, g3⟩ := cg_on D ns t a hfn.1 h n i r k hp hr
      exact ⟨m, j, g1, by simp only [MtA]; exact .inl g2, g3⟩
    · rw [if_neg hl] at h he hr ⊢
      rw [← he] at hr ⊢
      simp only [List.length_cons, List.length_append] at he
      have hf := h.head
      have hb := h.tail.left
      have hj := h.tail.right.head
      have hrr := h.tail.right.tail
      obtain ⟨n', q, j, rfl, hs, hp2⟩ := pt_inv hp (by omega)
      obtain ⟨rfl, hq⟩ := stp_fork hf hs
      rcases hq with rfl | ⟨_, rfl⟩
      · obtain ⟨m1, j1, g1, g2, g3⟩ := cg_on D ns t (a + 1) hfn.1 hb n' j r k hp2 (by omega)
        obtain ⟨n2, q2, j2, rfl, hs2, hp3⟩ := pt_inv g3 (by omega)
        obtain ⟨rfl, hq2⟩ := stp_fork hj hs2
        rcases hq2 with rfl | ⟨h0, _⟩
        · exact ⟨n2, j2, by omega, by simp only [MtA]; exact .inl g2, hp3⟩
        · omega
      · have hre : e = a + 1 + (cg t (a + 1)).length + 1 + (cgA l (a + 1 + (cg t (a + 1)).length + 1) e).length := by omega
        obtain ⟨m2, j2, k1, k2, k3⟩ := cgA_on D ns l _ e (by intro h0; rw [h0] at hl; exact hl rfl) hfn.2 hrr hre n' j r k hp2 (by omega)
        rw [← hre] at k3
        exact ⟨m2, j2, by omega, by simp only [MtA]; exact .inr k2, k3⟩
end
/-- the whole code -/
def whC (t : T) : List Sp := cg t 0 ++ [⟨none, 0, 0, true⟩]
theorem whC_has (t : T) : Has (whC t) 0 (cg t 0) := fun k s h => by
  unfold whC
  rw [Nat.zero_add, List.getElem?_append_left (List.getElem?_eq_some_iff.1 h).1]
  exact h
theorem whC_end (t : T) : (whC t)[(cg t 0).length]? = some ⟨none, 0, 0, true⟩ := by unfold whC; simp
theorem acc_iff {t : T} (hf : fine t = true) (ns : List (List UInt8)) (k : Nat) : (∃ n, Pt (whC t) ns n 0 0 (cg t 0).length k) ↔ Mt ns t 0 k := by
  constructor
  · rintro ⟨n, hp⟩
    obtain ⟨m, j, h1, h2, h3⟩ := cg_on (whC t) ns t 0 hf (whC_has t) n 0 _ k hp (.inr (by omega))
    rw [Nat.zero_add] at h3
    cases h3 with
    | nil => exact h2
    | cons n _ _ q j' _ _ hs hp2 =>
      obtain ⟨s, hs1, hs2⟩ := hs
      rw [whC_end] at hs1
      cases hs1
      rcases hs2 with ⟨t, x, h, _⟩ | ⟨_, h, _⟩
      · cases h
      · cases h
  · intro h
    have := (cg_lo (whC t) ns t 0 (whC_has t) 0 k h).pt
    rw [Nat.zero_add] at this
    exact this
/-! Where the code may lead; what is done. -/
mutual
theorem cg_tgt : (t : T) → (a : Nat) → ∀ s ∈ cg t a, s.nx ≤ a + (cg t a).length ∧ s.ot ≤ a + (cg t a).length ∧ s.dn = false
  | .leaf tx n p d, a => by
    intro s hs
    simp only [cg, List.mem_singleton] at hs
    subst hs
    exact ⟨Nat.zero_le _, Nat.zero_le _, rfl⟩
  | .seq l, a => by rw [cg]; exact cgS_tgt l a
  | .alt l, a => by
    rw [cg]
    have hl := cgA_len (a + (cgA l a 0).length) l a 0
    exact cgA_tgt l a _ (by rw [hl])
  | .suf t c, a => by
    intro s hs
    rw [cg] at hs ⊢
    by_cases h43 : c = 43
    · rw [if_pos h43] at hs ⊢
      by_cases h0 : (cg t a).length = 0
      · rw [if_pos h0] at hs; cases hs
      · rw [if_neg h0] at hs ⊢
        rw [List.length_append, List.length_cons, List.length_nil]
        rcases List.mem_append.1 hs with hs | hs
        · obtain ⟨h1, h2, h3⟩ := cg_tgt t a s hs
          exact ⟨by omega, by omega, h3⟩
        · rw [List.mem_singleton] at hs
          subst hs
          exact ⟨by dsimp only; omega, by dsimp only; omega, rfl⟩
    · rw [if_neg h43] at hs ⊢
      by_cases h42 : c = 42
      · rw [if_pos h42] at hs ⊢
        rw [List.length_cons, List.length_append, List.length_cons, List.length_nil]
        rcases List.mem_cons.1 hs with rfl | hs
        · exact ⟨by dsimp only; omega, by dsimp only; omega, rfl⟩
        rcases List.mem_append.1 hs with hs | hs
        · obtain ⟨h1, h2, h3⟩ := cg_tgt t (a + 1) s hs
          exact ⟨by omega, by omega, h3⟩
        · rw [List.mem_singleton] at hs
          subst hs
          exact ⟨by dsimp only; omega, by dsimp only; omega, rfl⟩
      · rw [if_neg h42] at hs ⊢
        rw [List.length_cons]
        rcases List.mem_cons.1 hs with rfl | hs
        · exact ⟨by dsimp only; omega, by dsimp only; omega, rfl⟩
        · obtain ⟨h1, h2, h3⟩ := cg_tgt t (a + 1) s hs
          exact ⟨by omega, by omega, h3⟩
theorem cgS_tgt : (l : List T) → (a : Nat) → ∀ s ∈ cgS l a, s.nx ≤ a + (cgS l a).length ∧ s.ot ≤ a + (cgS l a).length ∧ s.dn = false
  | [], a => by intro s hs; rw [cgS] at hs; cases hs
  | t :: l, a => by
    intro s hs
    rw [cgS] at hs ⊢
    rw [List.length_append]
    rcases List.mem_append.1 hs with hs | hs
    · obtain ⟨h1, h2, h3⟩ := cg_tgt t a s hs
      exact ⟨by omega, by omega, h3⟩
    · obtain ⟨h1, h2, h3⟩ := cgS_tgt l _ s hs
      exact ⟨by omega, by omega, h3⟩
theorem cgA_tgt : (l : List T) → (a e : Nat) → e = a + (cgA l a e).length → ∀ s ∈ cgA l a e, s.nx ≤ a + (cgA l a e).length ∧ s.ot ≤ a + (cgA l a e).length ∧ s.dn = false
  | [], a, e, he => by intro s hs; rw [cgA] at hs; cases hs
  | t :: l, a, e, he => by
    intro s hs
    rw [cgA] at hs he ⊢
    by_cases hl : l.isEmpty = true
    · rw [if_pos hl] at hs he ⊢
      exact cg_tgt t a s hs
    · rw [if_neg hl] at hs he ⊢
      rw [← he]
      simp only [List.length_cons, List.length_append] at he
      rcases List.mem_cons.1 hs with rfl | hs
      · exact ⟨by dsimp only; omega, by dsimp only; omega, rfl⟩
      rcases List.mem_append.1 hs with hs | hs
      · obtain ⟨h1, h2, h3⟩ := cg_tgt t (a + 1) s hs
        exact ⟨by omega, by omega, h3⟩
      rcases List.mem_cons.1 hs with rfl | hs
      · exact ⟨by dsimp only; omega, Nat.zero_le _, rfl⟩
      · have hre : e = a + 1 + (cg t (a + 1)).length + 1 + (cgA l (a + 1 + (cg t (a + 1)).length + 1) e).length := by omega
        obtain ⟨h1, h2, h3⟩ := cgA_tgt l _ e hre s hs
        exact ⟨by omega, by omega, h3⟩
end
end Go.Proofs.Ytlbkacabcfeaiaa.Tl
/- Patterns, plain law: the machine by sets of instructions; relations as rows of truths. No program. -/
namespace Go.Proofs.Ytlbkacabcfeaiaa.Tl
open Go.RowKit Mm
set_option linter.unusedVariables false
theorem Star.le {R : Nat → Nat → Prop} (hR : ∀ i j, R i j → i ≤ j) {i j : Nat} (h : Star R i j) : i ≤ j := by
  induction h with
  | nil i => exact Nat.le_refl i
  | cons i m j h1 _ ih => have := hR i m h1; omega
theorem Star.snoc {R : Nat → Nat → Prop} {i m j : Nat} (h : Star R i m) (g : R m j) : Star R i j := by
  induction h with
  | nil i => exact .cons i j j g (.nil j)
  | cons i m' m h1 _ ih => exact .cons i m' j h1 (ih g)
theorem Star.trans {R : Nat → Nat → Prop} {i m j : Nat} (h : Star R i m) (g : Star R m j) : Star R i j := by
  induction h with
  | nil i => exact g
  | cons i m' m h1 _ ih => exact .cons i m' j h1 (ih g)
mutual
theorem mt_le (ns : List (List UInt8)) : (t : T) → ∀ i j, Mt ns t i j → i ≤ j ∧ (j ≤ i ∨ j ≤ ns.length)
  | .leaf tx n p d, i, j, h => by
    simp only [Mt] at h
    obtain ⟨rfl, x, hx, _⟩ := h
    have := (List.getElem?_eq_some_iff.1 hx).1
    omega
  | .seq l, i, j, h => by simp only [Mt] at h; exact mtS_le ns l i j h
  | .alt l, i, j, h => by simp only [Mt] at h; exact mtA_le ns l i j h
  | .suf t s, i, j, h => by
    simp only [Mt] at h
    have ht := mt_le ns t
    have hs : ∀ i j, Star (Mt ns t) i j → i ≤ j ∧ (j ≤ i ∨ j ≤ ns.length) := fun i j h => by
      induction h with
      | nil i => omega
      | cons i m j h1 _ ih => have := ht i m h1; omega
    split at h
    · exact hs i j h
    · split at h
      · obtain ⟨m, h1, h2⟩ := h
        have := ht i m h1
        have := hs m j h2
        omega
      · rcases h with rfl | h
        · omega
        · exact ht i j h
theorem mtS_le (ns : List (List UInt8)) : (l : List T) → ∀ i j, MtS ns l i j → i ≤ j ∧ (j ≤ i ∨ j ≤ ns.length)
  | [], i, j, h => by simp only [MtS] at h; omega
  | t :: l, i, j, h => by
    simp only [MtS] at h
    obtain ⟨m, h1, h2⟩ := h
    have := mt_le ns t i m h1
    have := mtS_le ns l m j h2
    omega
theorem mtA_le (ns : List (List UInt8)) : (l : List T) → ∀ i j, MtA ns l i j → i ≤ j ∧ (j ≤ i ∨ j ≤ ns.length)
  | [], i, j, h => by simp only [MtA] at h
  | t :: l, i, j, h => by
    simp only [MtA] at h
    rcases h with h | h
    · exact mt_le ns t i j h
    · exact mtA_le ns l i j h
end
/-! Sets of instructions. -/
/-- an instruction that takes a name or is done -/
def isStop (s : Sp) : Bool := s.lk.isSome || s.dn
/-- from one instruction to another without a name -/
def ESt (D : List Sp) (p q : Nat) : Prop := ∃ s, D[p]? = some s ∧ isStop s = false ∧ (q = s.nx ∨ (0 < s.ot ∧ q = s.ot))
/-- the machine stands there behind i names -/
def At (D : List Sp) (ns : List (List UInt8)) (i p : Nat) : Prop := ∃ n, Pt D ns n 0 0 p i
theorem Pt.snoc {D : List Sp} {ns : List (List UInt8)} {n p i r k q j : Nat} (h : Pt D ns n p i r k) (g : Stp D ns r k q j) : Pt D ns (n + 1) p i q j := by
  induction h with
  | nil p i => exact .cons 0 p i q j q j g (.nil q j)
  | cons n p i q' j' r k h1 _ ih => exact .cons _ p i q' j' _ _ h1 (ih g)
theorem stp_two {D : List Sp} {ns : List (List UInt8)} {p i q j : Nat} (h : Stp D ns p i q j) : (j = i ∧ ESt D p q) ∨ (j = i + 1 ∧ q = p + 1 ∧ ∃ s t x, D[p]? = some s ∧ s.lk = some t ∧ ns[i]? = some x ∧ lkB t x = true) := by
  obtain ⟨s, hs, h⟩ := h
  rcases h with ⟨t, x, h1, h2, h3, h4, h5⟩ | ⟨h1, h2, h3, h4⟩
  · exact .inr ⟨h3, h2, s, t, x, hs, h1, h4, h5⟩
  · exact .inl ⟨h3, s, hs, by unfold isStop; rw [h1, h2]; rfl, h4⟩
theorem est_stp {D : List Sp} {ns : List (List UInt8)} {p i q : Nat} (h : ESt D p q) : Stp D ns p i q i := by
  obtain ⟨s, hs, h1, h2⟩ := h
  unfold isStop at h1
  rw [Bool.or_eq_false_iff] at h1
  have hn : s.lk = none := by
    cases hl : s.lk with
    | none => rfl
    | some t =>
      rw [hl] at h1
      cases h1.1
  exact ⟨s, hs, .inr ⟨hn, h1.2, rfl, h2⟩⟩
theorem at_start (D : List Sp) (ns : List (List UInt8)) : At D ns 0 0 := ⟨0, .nil 0 0⟩
theorem at_est {D : List Sp} {ns : List (List UInt8)} {i p q : Nat} (h : At D ns i p) (g : ESt D p q) : At D ns i q := by
  obtain ⟨n, hn⟩ := h
  exact ⟨n + 1, hn.snoc (est_stp g)⟩
theorem at_name {D : List Sp} {ns : List (List UInt8)} {i p : Nat} {s : Sp} {t : T} {x : List UInt8} (h : At D ns i p) (hs : D[p]? = some s) (hl : s.lk = some t) (hx : ns[i]? = some x) (hk : lkB t x = true) : At D ns (i + 1) (p + 1) := by
  obtain ⟨n, hn⟩ := h
  exact ⟨n + 1, hn.snoc ⟨s, hs, .inl ⟨t, x, hl, rfl, rfl, hx, hk⟩⟩⟩
/-- a set that holds what the machine can come to, and no more -/
structure Cls (D : List Sp) (start : Nat → Prop) (M : Nat → Prop) : Prop where
  has : ∀ p, start p → M p
  on : ∀ p q, M p → ESt D p q → M q
  no : ∀ p, M p → ∃ q, start q ∧ Star (ESt D) q p
theorem at_split {D : List Sp} {ns : List (List UInt8)} {n p i r k : Nat} (h : Pt D ns n p i r k) : (k = i ∧ Star (ESt D) p r) ∨ ∃ q s t x, i < k ∧ Star (ESt D) p q ∧ D[q]? = some s ∧ s.lk = some t ∧ ns[i]? = some x ∧ lkB t x = true ∧ ∃ m, Pt D ns m (q + 1) (i + 1) r k := by
  induction h with
  | nil p i => exact .inl ⟨rfl, .nil p⟩
  | cons n p i q j r k h1 h2 ih =>
    rcases stp_two h1 with ⟨rfl, he⟩ | ⟨rfl, rfl, s, t, x, hs, hl, hx, hk⟩
    · rcases ih with ⟨h3, h4⟩ | ⟨q', s, t, x, h3, h4, h5⟩
      · exact .inl ⟨h3, .cons p q r he h4⟩
      · exact .inr ⟨q', s, t, x, h3, .cons p q q' he h4, h5⟩
    · have hik : i < k := by
        rcases ih with ⟨h3, _⟩ | ⟨_, _, _, _, h3, _⟩ <;> omega
      exact .inr ⟨p, s, t, x, hik, .nil p, hs, hl, hx, hk, n, h2⟩
/-- the set ahead of the first name -/
theorem cls_zero {D : List Sp} {ns : List (List UInt8)} {M : Nat → Prop} (h : Cls D (fun p => p = 0) M) (p : Nat) : M p ↔ At D ns 0 p := by
  constructor
  · intro hm
    obtain ⟨q, rfl, hs⟩ := h.no p hm
    clear hm
    have : ∀ a b, Star (ESt D) a b → At D ns 0 a → At D ns 0 b := fun a b hab => by
      induction hab with
      | nil a => exact id
      | cons a m b h1 _ ih => exact fun ha => ih (at_est ha h1)
    exact this _ _ hs (at_start D ns)
  · rintro ⟨n, hn⟩
    rcases at_split hn with ⟨_, hs⟩ | ⟨q, s, t, x, h0, _⟩
    · have : ∀ a b, Star (ESt D) a b → M a → M b := fun a b hab => by
        induction hab with
        | nil a => exact id
        | cons a m b h1 _ ih => exact fun ha => ih (h.on _ _ ha h1)
      exact this _ _ hs (h.has 0 rfl)
    · omega
/-- where the machine goes on with a name -/
def Nxt (D : List Sp) (M : Nat → Prop) (x : List UInt8) (q : Nat) : Prop := ∃ p s t, q = p + 1 ∧ M p ∧ D[p]? = some s ∧ s.lk = some t ∧ lkB t x = true
theorem pt_last {D : List Sp} {ns : List (List UInt8)} : ∀ {n p i r k : Nat}, Pt D ns n p i r (k + 1) → i ≤ k → ∃ q s t x m, Pt D ns m p i q k ∧ D[q]? = some s ∧ s.lk = some t ∧ ns[k]? = some x ∧ lkB t x = true ∧ Star (ESt D) (q + 1) r := by
  intro n
  induction n using Nat.strongRecOn with
  | _ n ih =>
    intro p i r k h hik
    cases h with
    | nil => omega
    | cons n _ _ q j _ _ h1 h2 =>
      rcases stp_two h1 with ⟨rfl, he⟩ | ⟨rfl, rfl, s, t, x, hs, hl, hx, hk⟩
      · obtain ⟨q', s, t, x, m, g1, g2⟩ := ih n (by omega) h2 hik
        exact ⟨q', s, t, x, m + 1, .cons _ _ _ _ _ _ _ h1 g1, g2⟩
      · rcases Nat.lt_or_ge i k with hlt | hge
        · obtain ⟨q', s', t', x', m, g1, g2⟩ := ih n (by omega) h2 (by omega)
          exact ⟨q', s', t', x', m + 1, .cons _ _ _ _ _ _ _ h1 g1, g2⟩
        · obtain rfl : k = i := by omega
          rcases at_split h2 with ⟨_, hst⟩ | ⟨_, _, _, _, h0, _⟩
          · exact ⟨p, s, t, x, 0, .nil p k, hs, hl, hx, hk, hst⟩
          · omega
theorem cls_next {D : List Sp} {ns : List (List UInt8)} {M M' : Nat → Prop} {i : Nat} {x : List UInt8} (hM : ∀ p, M p ↔ At D ns i p) (hx : ns[i]? = some x) (h : Cls D (Nxt D M x) M') (p : Nat) : M' p ↔ At D ns (i + 1) p := by
  constructor
  · intro hm
    obtain ⟨q, ⟨p0, s, t, rfl, h1, h2, h3, h4⟩, hs⟩ := h.no p hm
    have : ∀ a b, Star (ESt D) a b → At D ns (i + 1) a → At D ns (i + 1) b := fun a b hab => by
      induction hab with
      | nil a => exact id
      | cons a m b h1 _ ih => exact fun ha => ih (at_est ha h1)
    exact this _ _ hs (at_name ((hM p0).1 h1) h2 h3 hx h4)
  · rintro ⟨n, hn⟩
    obtain ⟨q, s, t, y, m, g1, g2, g3, g4, g5, g6⟩ := pt_last hn (Nat.zero_le i)
    rw [hx] at g4
    cases g4
    have h0 : M' (q + 1) := h.has _ ⟨q, s, t, rfl, (hM q).2 ⟨m, g1⟩, g2, g3, g5⟩
    have : ∀ a b, Star (ESt D) a b → M' a → M' b := fun a b hab => by
      induction hab with
      | nil a => exact id
      | cons a m b h1 _ ih => exact fun ha => ih (h.on _ _ ha h1)
    exact this _ _ g6 h0
end Go.Proofs.Ytlbkacabcfeaiaa.Tl
/- Patterns, plain law: steps of the machine by bytes. No program. -/
namespace Go.Proofs.Ytlbkacabcfeaiaa.Tl
open Go.RowKit Mm
def Ok (n : Nat) (st : St) : Prop := st.pos ≤ n ∧ st.it ≤ 48 ∧ st.stk.length ≤ 32 ∧ bdS st ≤ 16 * st.pos
section
variable {x : List UInt8} {st st' : St}
theorem ok_of (h : stp x st = .inl st') (ok : Ok x.length st) : res x st = res x st' ∧ Ok x.length st' := by
  obtain ⟨h1, h2, h3, h4⟩ := ok
  have ha := stp_on h
  obtain ⟨b1, b2, b3⟩ := stp_bd h h2 h3
  exact ⟨res_inl h, ha.2, b2, b3, by omega⟩
variable {pos it : Nat} {stk : List (List T × List T)} {ch ps : List T}
theorem st_end (h : x[pos]? = none) : res x ⟨pos, it, stk, ch, ps⟩ = if stk = [] then .ok (whole ch ps) else .err pos := res_inr (by unfold stp; rw [h])
theorem st_32 (h : x[pos]? = some 32) : stp x ⟨pos, it, stk, ch, ps⟩ = .inl ⟨pos + 1, it, stk, ch, ps⟩ := by unfold stp; simp only [h]; rfl
theorem st_40 (h : x[pos]? = some 40) (hd : stk.length < 32) : stp x ⟨pos, it, stk, ch, ps⟩ = .inl ⟨pos + 1, it, stk ++ [(ch, ps)], [], []⟩ := by
  unfold stp; simp only [h]; rw [if_neg (by decide), if_pos trivial, if_neg (by omega)]
theorem st_40e (h : x[pos]? = some 40) (hd : 32 ≤ stk.length) : res x ⟨pos, it, stk, ch, ps⟩ = .err pos := res_inr (by
  unfold stp; simp only [h]; rw [if_neg (by decide), if_pos trivial, if_pos hd])
theorem st_41 {k : List (List T × List T)} {o : List T × List T} (h : x[pos]? = some 41) : stp x ⟨pos, it, k ++ [o], ch, ps⟩ = .inl ⟨pos + 1, it, k, o.1, o.2 ++ [whole ch ps]⟩ := by
  unfold stp; simp only [h]; rw [if_neg (by decide), if_neg (by decide), if_pos trivial, List.getLast?_concat, List.dropLast_concat]
theorem st_41e (h : x[pos]? = some 41) : res x ⟨pos, it, [], ch, ps⟩ = .err pos := res_inr (by
  unfold stp; simp only [h]; rw [if_neg (by decide), if_neg (by decide), if_pos trivial]; rfl)
theorem suf_ne {c : UInt8} (hc : c = 42 ∨ c = 43 ∨ c = 63) : c ≠ 32 ∧ c ≠ 40 ∧ c ≠ 41 := by rcases hc with rfl | rfl | rfl <;> decide
theorem st_42 {c : UInt8} {l : List T} {t : T} (hc : c = 42 ∨ c = 43 ∨ c = 63) (h : x[pos]? = some c) (hi : it < 48) : stp x ⟨pos, it, stk, ch, l ++ [t]⟩ = .inl ⟨pos + 1, it + 1, stk, ch, l ++ [.suf t c]⟩ := by
  obtain ⟨n1, n2, n3⟩ := suf_ne hc
  unfold stp; simp only [h]; rw [if_neg n1, if_neg n2, if_neg n3, if_pos hc, List.getLast?_concat, List.dropLast_concat]
  simp only
  rw [if_neg (by omega)]
theorem st_42e {c : UInt8} (hc : c = 42 ∨ c = 43 ∨ c = 63) (h : x[pos]? = some c) (hi : ps = [] ∨ 48 ≤ it) : res x ⟨pos, it, stk, ch, ps⟩ = .err pos := res_inr (by
  obtain ⟨n1, n2, n3⟩ := suf_ne hc
  unfold stp; simp only [h]; rw [if_neg n1, if_neg n2, if_neg n3, if_pos hc]
  rcases hi with rfl | hi
  · rfl
  · cases hl : ps.getLast? with
    | none => rfl
    | some t => simp only; rw [if_pos hi])
theorem st_124 (h : x[pos]? = some 124) (hi : it < 48) : stp x ⟨pos, it, stk, ch, ps⟩ = .inl ⟨pos + 1, it + 1, stk, ch ++ [mkSeq ps], []⟩ := by
  unfold stp; simp only [h]; rw [if_neg (by decide), if_neg (by decide), if_neg (by decide), if_neg (by decide), if_pos trivial, if_neg (by omega)]
theorem st_124e (h : x[pos]? = some 124) (hi : 48 ≤ it) : res x ⟨pos, it, stk, ch, ps⟩ = .err pos := res_inr (by
  unfold stp; simp only [h]; rw [if_neg (by decide), if_neg (by decide), if_neg (by decide), if_neg (by decide), if_pos trivial, if_pos hi])
theorem st_46 (h : x[pos]? = some 46) (hi : it < 48) : stp x ⟨pos, it, stk, ch, ps⟩ = .inl ⟨pos + 1, it + 1, stk, ch, ps ++ [.leaf [46] false false false]⟩ := by
  unfold stp; simp only [h]; rw [if_neg (by decide), if_neg (by decide), if_neg (by decide), if_neg (by decide), if_neg (by decide), if_pos trivial, if_neg (by omega)]
theorem st_46e (h : x[pos]? = some 46) (hi : 48 ≤ it) : res x ⟨pos, it, stk, ch, ps⟩ = .err pos := res_inr (by
  unfold stp; simp only [h]; rw [if_neg (by decide), if_neg (by decide), if_neg (by decide), if_neg (by decide), if_neg (by decide), if_pos trivial, if_pos hi])
/-- a name follows -/
def namR (x : List UInt8) (st : St) (deny : Bool) : Res := if nameLong x st.pos then .err st.pos else res x ⟨nameEnd x st.pos, st.it, st.stk, st.ch, st.ps ++ [nameT x st.pos deny]⟩
theorem res_named {s : St} {i : Nat} {deny : Bool} (h : stp x s = named x s i deny) : res x s = namR x ⟨i, s.it + 1, s.stk, s.ch, s.ps⟩ deny := by
  unfold namR
  unfold named at h
  dsimp only
  split
  · rename_i hl
    rw [if_pos hl] at h
    exact res_inr h
  · rename_i hl
    rw [if_neg hl] at h
    exact res_inl h
theorem st_33 (h : x[pos]? = some 33) (hi : it < 48) (hl : atB isLetter x (pos + 1) = true) : res x ⟨pos, it, stk, ch, ps⟩ = namR x ⟨pos + 1, it + 1, stk, ch, ps⟩ true := res_named (by
  unfold stp; simp only [h]; rw [if_neg (by decide), if_neg (by decide), if_neg (by decide), if_neg (by decide), if_neg (by decide), if_neg (by decide), if_pos trivial, if_neg (by omega), if_pos hl])
theorem st_33e (h : x[pos]? = some 33) (hi : 48 ≤ it) : res x ⟨pos, it, stk, ch, ps⟩ = .err pos := res_inr (by
  unfold stp; simp only [h]; rw [if_neg (by decide), if_neg (by decide), if_neg (by decide), if_neg (by decide), if_neg (by decide), if_neg (by decide), if_pos trivial, if_pos hi])
theorem st_33f (h : x[pos]? = some 33) (hi : it < 48) (hl : atB isLetter x (pos + 1) = false) : res x ⟨pos, it, stk, ch, ps⟩ = .err (pos + 1) := res_inr (by
  unfold stp; simp only [h]; rw [if_neg (by decide), if_neg (by decide), if_neg (by decide), if_neg (by decide), if_neg (by decide), if_neg (by decide), if_pos trivial, if_neg (by omega), if_neg (by rw [hl]; decide)])
def Other (c : UInt8) : Prop := c ≠ 32 ∧ c ≠ 40 ∧ c ≠ 41 ∧ c ≠ 42 ∧ c ≠ 43 ∧ c ≠ 63 ∧ c ≠ 124 ∧ c ≠ 46 ∧ c ≠ 33
theorem st_let {c : UInt8} (hc : Other c) (h : x[pos]? = some c) (hi : it < 48) (hl : isLetter c = true) : res x ⟨pos, it, stk, ch, ps⟩ = namR x ⟨pos, it + 1, stk, ch, ps⟩ false := res_named (by
  obtain ⟨n1, n2, n3, n4, n5, n6, n7, n8, n9⟩ := hc
  unfold stp; simp only [h]; rw [if_neg n1, if_neg n2, if_neg n3, if_neg (by rintro (h | h | h) <;> contradiction), if_neg n7, if_neg n8, if_neg n9, if_pos (by rw [hl]; simpa using hi)])
theorem st_lete {c : UInt8} (hc : Other c) (h : x[pos]? = some c) (hl : (isLetter c && decide (it < 48)) = false) : res x ⟨pos, it, stk, ch, ps⟩ = .err pos := res_inr (by
  obtain ⟨n1, n2, n3, n4, n5, n6, n7, n8, n9⟩ := hc
  unfold stp; simp only [h]; rw [if_neg n1, if_neg n2, if_neg n3, if_neg (by rintro (h | h | h) <;> contradiction), if_neg n7, if_neg n8, if_neg n9, if_neg (by rw [hl]; decide)])
theorem ok_named {deny : Bool} (ok : Ok x.length st) (hl : atB isLetter x st.pos = true) : Ok x.length ⟨nameEnd x st.pos, st.it, st.stk, st.ch, st.ps ++ [nameT x st.pos deny]⟩ := by
  obtain ⟨h1, h2, h3, h4⟩ := ok
  have hn := name_end hl
  refine ⟨hn.2, h2, h3, ?_⟩
  unfold bdS nameT at *
  dsimp only
  rw [bdL_app]
  simp only [bdL, bd, List.length_take, List.length_drop]
  omega
/-- what holds at a label of the reading -/
def Lab (x : List UInt8) (st0 : St) : Nat → Value → St → Prop
  | 0, _, st => res x st0 = res x st
  | 1, _, st => res x st0 = res x st ∧ x[st.pos]? = some 40
  | 2, _, st => res x st0 = res x st ∧ x[st.pos]? = some 41
  | 3, _, st => res x st0 = res x st ∧ ∃ c, (c = 42 ∨ c = 43 ∨ c = 63) ∧ x[st.pos]? = some c
  | 4, _, st => res x st0 = res x st ∧ x[st.pos]? = some 124
  | 5, _, st => res x st0 = res x st ∧ x[st.pos]? = some 46
  | 6, _, st => res x st0 = res x st ∧ x[st.pos]? = some 33
  | 7, d, st => ∃ deny, d = .bool deny ∧ atB isLetter x st.pos = true ∧ res x st0 = namR x st deny
  | _, _, _ => False
end
end Go.Proofs.Ytlbkacabcfeaiaa.Tl
/- Patterns, plain law: the signs of suffixes are *, +, ?. No program. -/
namespace Go.Proofs.Ytlbkacabcfeaiaa.Tl
open Go.RowKit Mm
mutual
def good : T → Bool
  | .leaf _ _ _ _ => true
  | .seq l => goodL l
  | .alt l => goodL l
  | .suf t s => good t && (s == 42 || s == 43 || s == 63)
def goodL : List T → Bool
  | [] => true
  | t :: l => good t && goodL l
end
theorem goodL_app (a b : List T) : goodL (a ++ b) = (goodL a && goodL b) := by
  induction a with
  | nil => rfl
  | cons x a ih => rw [List.cons_append, goodL, goodL, ih, Bool.and_assoc]
theorem goodL_mem {l : List T} (h : goodL l = true) {t : T} (ht : t ∈ l) : good t = true := by
  induction l with
  | nil => cases ht
  | cons x l ih =>
    rw [goodL, Bool.and_eq_true] at h
    rcases List.mem_cons.1 ht with rfl | ht
    · exact h.1
    · exact ih h.2 ht
theorem good_inSeq {t : T} (h : good t = true) : goodL (inSeq t) = true := by
  cases t <;> simp_all [inSeq, goodL, good]
theorem good_inAlt {t : T} (h : good t = true) : goodL (inAlt t) = true := by
  cases t <;> simp_all [inAlt, goodL, good]
theorem good_flat (g : T → List T) (hg : ∀ t, good t = true → goodL (g t) = true) {l : List T} (h : goodL l = true) : goodL (l.flatMap g) = true := by
  induction l with
  | nil => rfl
  | cons x l ih =>
    rw [goodL, Bool.and_eq_true] at h
    rw [List.flatMap_cons, goodL_app, hg x h.1, ih h.2]
    rfl
theorem good_oneOr (f : List T → T) (hf : ∀ l, good (f l) = goodL l) {l : List T} (h : goodL l = true) : good (oneOr f l) = true := by
  unfold oneOr
  split
  · rw [goodL, Bool.and_eq_true] at h
    exact h.1
  · rw [hf]; exact h
theorem good_mkSeq {l : List T} (h : goodL l = true) : good (mkSeq l) = true := good_oneOr .seq (fun _ => rfl) (good_flat inSeq (fun _ => good_inSeq) h)
theorem good_mkAlt {l : List T} (h : goodL l = true) : good (mkAlt l) = true := good_oneOr .alt (fun _ => rfl) (good_flat inAlt (fun _ => good_inAlt) h)
theorem good_whole {ch ps : List T} (h1 : goodL ch = true) (h2 : goodL ps = true) : good (whole ch ps) = true := by
  refine good_mkAlt ?_
  rw [goodL_app, h1]
  simp [goodL, good_mkSeq h2]
def goodS (s : St) : Prop := (∀ o ∈ s.stk, goodL o.1 = true ∧ goodL o.2 = true) ∧ goodL s.ch = true ∧ goodL s.ps = true
theorem good_named {x : List UInt8} {s s' : St} {i : Nat} {deny : Bool} (hg : goodS s) (h : named x s i deny = .inl s') : goodS s' := by
  unfold named at h
  split at h
  · cases h
  · cases h
    refine ⟨hg.1, hg.2.1, ?_⟩
    dsimp only
    rw [goodL_app, hg.2.2]
    rfl
theorem good_stp {x : List UInt8} {s s' : St} (hg : goodS s) (h : stp x s = .inl s') : goodS s' := by
  unfold stp at h
  cases hx : x[s.pos]? with
  | none => rw [hx] at h; cases h
  | some c =>
    rw [hx] at h
    dsimp only at h
    split at h
    · cases h; exact hg
    split at h
    · split at h
      · cases h
      · cases h
        refine ⟨fun o ho => ?_, rfl, rfl⟩
        rcases List.mem_append.1 ho with ho | ho
        · exact hg.1 o ho
        · rw [List.mem_singleton] at ho
          subst ho
          exact ⟨hg.2.1, hg.2.2⟩
    split at h
    · split at h
      · cases h
      · rename_i o ho
        cases h
        have hm : o ∈ s.stk := List.mem_of_getLast? ho
        refine ⟨fun o' ho' => hg.1 o' (List.dropLast_subset _ ho'), (hg.1 o hm).1, ?_⟩
        dsimp only
        rw [goodL_app, (hg.1 o hm).2]
        simp [goodL, good_whole hg.2.1 hg.2.2]
    split at h
    · rename_i hc
      split at h
      · cases h
      · rename_i t ht
        split at h
        · cases h
        · cases h
          refine ⟨hg.1, hg.2.1, ?_⟩
          have hps : s.ps = s.ps.dropLast ++ [t] := by
            obtain ⟨ys, hy⟩ := List.getLast?_eq_some_iff.1 ht
            rw [hy, List.dropLast_concat]
          have h2 := hg.2.2
          rw [hps, goodL_app, Bool.and_eq_true] at h2
          have h3 := h2.2
          simp only [goodL, Bool.and_true] at h3
          dsimp only
          rw [goodL_app, h2.1]
          simp only [goodL, good, h3, Bool.true_and, Bool.and_true, Bool.or_eq_true, beq_iff_eq]
          rcases hc with hc | hc | hc
          · exact .inl (.inl hc)
          · exact .inl (.inr hc)
          · exact .inr hc
    split at h
    · split at h
      · cases h
      · cases h
        refine ⟨hg.1, ?_, rfl⟩
        dsimp only
        rw [goodL_app, hg.2.1]
        simp [goodL, good_mkSeq hg.2.2]
    split at h
    · split at h
      · cases h
      · cases h
        refine ⟨hg.1, hg.2.1, ?_⟩
        dsimp only
        rw [goodL_app, hg.2.2]
        rfl
    split at h
    · split at h
      · cases h
      · split at h
        · exact good_named hg h
        · cases h
    split at h
    · exact good_named hg h
    · cases h
theorem good_run (x : List UInt8) : ∀ (n : Nat) (s : St) (t : T), goodS s → runM x n s = .ok t → good t = true := by
  intro n
  induction n with
  | zero => intro s t _ h; cases h
  | succ n ih =>
    intro s t hg h
    unfold runM at h
    cases hs : stp x s with
    | inl s' => rw [hs] at h; exact ih s' t (good_stp hg hs) h
    | inr r =>
      rw [hs] at h
      dsimp only at h
      subst h
      unfold stp at hs
      cases hx : x[s.pos]? with
      | none =>
        rw [hx] at hs
        simp only [Sum.inr.injEq] at hs
        split at hs
        · cases hs
          exact good_whole hg.2.1 hg.2.2
        · cases hs
      | some c =>
        exfalso
        rw [hx] at hs
        dsimp only [named] at hs
        repeat' split at hs
        all_goals cases hs
theorem good_res {x : List UInt8} {s : St} {t : T} (hg : goodS s) (h : res x s = .ok t) : good t = true := good_run x _ s t hg h
end Go.Proofs.Ytlbkacabcfeaiaa.Tl
/- Patterns, plain law: what is read holds no choice of nothing. No program. -/
namespace Go.Proofs.Ytlbkacabcfeaiaa.Tl
open Go.RowKit Mm
set_option linter.unusedVariables false
theorem fineL_app (a b : List T) : fineL (a ++ b) = (fineL a && fineL b) := by
  induction a with
  | nil => rfl
  | cons x a ih => rw [List.cons_append, fineL, fineL, ih, Bool.and_assoc]
theorem fineL_mem {l : List T} (h : fineL l = true) {t : T} (ht : t ∈ l) : fine t = true := by
  induction l with
  | nil => cases ht
  | cons x l ih =>
    rw [fineL, Bool.and_eq_true] at h
    rcases List.mem_cons.1 ht with rfl | ht
    · exact h.1
    · exact ih h.2 ht
theorem fine_inSeq {t : T} (h : fine t = true) : fineL (inSeq t) = true := by
  cases t <;> simp_all [inSeq, fineL, fine]
theorem fine_inAlt {t : T} (h : fine t = true) : fineL (inAlt t) = true := by
  cases t <;> simp_all [inAlt, fineL, fine]
theorem fine_flat (g : T → List T) (hg : ∀ t, fine t = true → fineL (g t) = true) {l : List T} (h : fineL l = true) : fineL (l.flatMap g) = true := by
  induction l with
  | nil => rfl
  | cons x l ih =>
    rw [fineL, Bool.and_eq_true] at h
    rw [List.flatMap_cons, fineL_app, hg x h.1, ih h.2]
    rfl
theorem fine_mkSeq {l : List T} (h : fineL l = true) : fine (mkSeq l) = true := by
  have h2 := fine_flat inSeq (fun _ => fine_inSeq) h
  unfold mkSeq oneOr
  split
  · rename_i x hx
    rw [hx, fineL, Bool.and_eq_true] at h2
    exact h2.1
  · rw [fine]; exact h2
theorem in_ne {t : T} (h : fine t = true) : inAlt t ≠ [] := by
  cases t with
  | alt l =>
    rw [fine, Bool.and_eq_true] at h
    intro e
    have h1 := h.1
    have e2 : l = [] := e
    rw [e2] at h1
    cases h1
  | leaf tx n p d => intro e; cases e
  | seq l => intro e; cases e
  | suf t s => intro e; cases e
theorem fine_mkAlt {l : List T} (h : fineL l = true) (hne : l ≠ []) : fine (mkAlt l) = true := by
  have h2 := fine_flat inAlt (fun _ => fine_inAlt) h
  have h3 : l.flatMap inAlt ≠ [] := by
    cases l with
    | nil => exact absurd rfl hne
    | cons x l =>
      rw [fineL, Bool.and_eq_true] at h
      rw [List.flatMap_cons]
      intro e
      exact in_ne h.1 (List.append_eq_nil_iff.1 e).1
  unfold mkAlt oneOr
  split
  · rename_i x hx
    rw [hx, fineL, Bool.and_eq_true] at h2
    exact h2.1
  · rw [fine, h2]
    cases hq : l.flatMap inAlt with
    | nil => exact absurd hq h3
    | cons a b => rfl
theorem fine_whole {ch ps : List T} (h1 : fineL ch = true) (h2 : fineL ps = true) : fine (whole ch ps) = true := by
  refine fine_mkAlt ?_ (by simp)
  rw [fineL_app, h1]
  simp [fineL, fine_mkSeq h2]
def fineS (s : St) : Prop := (∀ o ∈ s.stk, fineL o.1 = true ∧ fineL o.2 = true) ∧ fineL s.ch = true ∧ fineL s.ps = true
theorem fine_named {x : List UInt8} {s s' : St} {i : Nat} {deny : Bool} (hg : fineS s) (h : named x s i deny = .inl s') : fineS s' := by
  unfold named at h
  split at h
  · cases h
  · cases h
    refine ⟨hg.1, hg.2.1, ?_⟩
    dsimp only
    rw [fineL_app, hg.2.2]
    rfl
theorem fine_stp {x : List UInt8} {s s' : St} (hg : fineS s) (h : stp x s = .inl s') : fineS s' := by
  unfold stp at h
  cases hx : x[s.pos]? with
  | none => rw [hx] at h; cases h
  | some c =>
    rw [hx] at h
    dsimp only at h
    split at h
    · cases h; exact hg
    split at h
    · split at h
      · cases h
      · cases h
        refine ⟨fun o ho => ?_, rfl, rfl⟩
        rcases List.mem_append.1 ho with ho | ho
        · exact hg.1 o ho
        · rw [List.mem_singleton] at ho
          subst ho
          exact ⟨hg.2.1, hg.2.2⟩
    split at h
    · split at h
      · cases h
      · rename_i o ho
        cases h
        have hm : o ∈ s.stk := List.mem_of_getLast? ho
        refine ⟨fun o' ho' => hg.1 o' (List.dropLast_subset _ ho'), (hg.1 o hm).1, ?_⟩
        dsimp only
        rw [fineL_app, (hg.1 o hm).2]
        simp [fineL, fine_whole hg.2.1 hg.2.2]
    split at h
    · rename_i hc
      split at h
      · cases h
      · rename_i t ht
        split at h
        · cases h
        · cases h
          refine ⟨hg.1, hg.2.1, ?_⟩
          have hps : s.ps = s.ps.dropLast ++ [t] := by
            obtain ⟨ys, hy⟩ := List.getLast?_eq_some_iff.1 ht
            rw [hy, List.dropLast_concat]
          have h2 := hg.2.2
          rw [hps, fineL_app, Bool.and_eq_true] at h2
          have h3 := h2.2
          simp only [fineL, Bool.and_true] at h3
          dsimp only
          rw [fineL_app, h2.1]
          simp only [fineL, fine, h3, Bool.and_true]
    split at h
    · split at h
      · cases h
      · cases h
        refine ⟨hg.1, ?_, rfl⟩
        dsimp only
        rw [fineL_app, hg.2.1]
        simp [fineL, fine_mkSeq hg.2.2]
    split at h
    · split at h
      · cases h
      · cases h
        refine ⟨hg.1, hg.2.1, ?_⟩
        dsimp only
        rw [fineL_app, hg.2.2]
        rfl
    split at h
    · split at h
      · cases h
      · split at h
        · exact fine_named hg h
        · cases h
    split at h
    · exact fine_named hg h
    · cases h
theorem fine_run (x : List UInt8) : ∀ (n : Nat) (s : St) (t : T), fineS s → runM x n s = .ok t → fine t = true := by
  intro n
  induction n with
  | zero => intro s t _ h; cases h
  | succ n ih =>
    intro s t hg h
    unfold runM at h
    cases hs : stp x s with
    | inl s' => rw [hs] at h; exact ih s' t (fine_stp hg hs) h
    | inr r =>
      rw [hs] at h
      dsimp only at h
      subst h
      unfold stp at hs
      cases hx : x[s.pos]? with
      | none =>
        rw [hx] at hs
        simp only [Sum.inr.injEq] at hs
        split at hs
        · cases hs
          exact fine_whole hg.2.1 hg.2.2
        · cases hs
      | some c =>
        exfalso
        rw [hx] at hs
        dsimp only [named] at hs
        repeat' split at hs
        all_goals cases hs
theorem fine_res {x : List UInt8} {s : St} {t : T} (hg : fineS s) (h : res x s = .ok t) : fine t = true := fine_run x _ s t hg h
end Go.Proofs.Ytlbkacabcfeaiaa.Tl
