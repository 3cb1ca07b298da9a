/- Patterns, plain law: trees, their texts, and a machine that reads one byte after the other. No program. -/
import Derived.Test.YtlbkacabcfeaiaaMm
import Derived.Lib.Join
namespace Go.Proofs.Ytlbkacabcfeaiaa.Tl
open Go.RowKit Mm
inductive T where
  | leaf (tx : List UInt8) (named port deny : Bool)
  | seq (l : List T)
  | alt (l : List T)
  | suf (t : T) (s : UInt8)
instance : Inhabited T := ⟨.seq []⟩
/-! Trees without needless brackets. -/
def inSeq : T → List T
  | .seq l => l
  | t => [t]
def inAlt : T → List T
  | .alt l => l
  | t => [t]
def oneOr (f : List T → T) : List T → T
  | [x] => x
  | l => f l
def mkSeq (l : List T) : T := oneOr .seq (l.flatMap inSeq)
def mkAlt (l : List T) : T := oneOr .alt (l.flatMap inAlt)
def whole (ch ps : List T) : T := mkAlt (ch ++ [mkSeq ps])
/-! Weights: a bound of text and code. -/
mutual
def bd : T → Nat
  | .leaf tx _ _ _ => tx.length + 8
  | .seq l => bdL l + 8
  | .alt l => bdL l + 8
  | .suf t _ => bd t + 8
def bdL : List T → Nat
  | [] => 0
  | t :: l => bd t + bdL l
end
theorem bdL_app (a b : List T) : bdL (a ++ b) = bdL a + bdL b := by
  induction a with
  | nil => simp [bdL]
  | cons x a ih => simp only [List.cons_append, bdL, ih]; omega
theorem bd_ge (t : T) : 8 ≤ bd t := by cases t <;> simp only [bd] <;> omega
theorem bdL_mem {t : T} {l : List T} (h : t ∈ l) : bd t ≤ bdL l := by
  induction l with
  | nil => cases h
  | cons x l ih =>
    rw [bdL]
    rcases List.mem_cons.1 h with rfl | h
    · omega
    · have := ih h; omega
theorem bdL_len (l : List T) : l.length * 8 ≤ bdL l := by
  induction l with
  | nil => simp [bdL]
  | cons x l ih => have := bd_ge x; rw [bdL, List.length_cons]; omega
theorem bd_inSeq (t : T) : bdL (inSeq t) ≤ bd t := by
  cases t <;> simp only [inSeq, bdL, bd] <;> omega
theorem bd_inAlt (t : T) : bdL (inAlt t) ≤ bd t := by
  cases t <;> simp only [inAlt, bdL, bd] <;> omega
theorem bd_oneOr (f : List T → T) (hf : ∀ l, bd (f l) = bdL l + 8) (l : List T) : bd (oneOr f l) ≤ bdL l + 8 := by
  unfold oneOr
  split
  · simp only [bdL]; omega
  · rw [hf]; exact Nat.le_refl _
theorem bd_flat (g : T → List T) (hg : ∀ t, bdL (g t) ≤ bd t) (l : List T) : bdL (l.flatMap g) ≤ bdL l := by
  induction l with
  | nil => simp [bdL]
  | cons x l ih => rw [List.flatMap_cons, bdL_app, bdL]; have := hg x; omega
theorem bd_mkSeq (l : List T) : bd (mkSeq l) ≤ bdL l + 8 := by
  have h1 := bd_oneOr .seq (fun _ => rfl) (l.flatMap inSeq)
  have h2 := bd_flat inSeq bd_inSeq l
  unfold mkSeq
  omega
theorem bd_mkAlt (l : List T) : bd (mkAlt l) ≤ bdL l + 8 := by
  have h1 := bd_oneOr .alt (fun _ => rfl) (l.flatMap inAlt)
  have h2 := bd_flat inAlt bd_inAlt l
  unfold mkAlt
  omega
theorem bd_whole (ch ps : List T) : bd (whole ch ps) ≤ bdL ch + bdL ps + 16 := by
  have h1 := bd_mkAlt (ch ++ [mkSeq ps])
  have h2 := bd_mkSeq ps
  rw [bdL_app] at h1
  simp only [bdL] at h1
  unfold whole
  omega
/-! Bytes. -/
def isLetter (c : UInt8) : Bool := c == 95 || (97 ≤ c && c ≤ 122) || (65 ≤ c && c ≤ 90)
def isDigit (c : UInt8) : Bool := 48 ≤ c && c ≤ 57
def isWord (c : UInt8) : Bool := isLetter c || isDigit c
def atB (p : UInt8 → Bool) (x : List UInt8) (i : Nat) : Bool := (x[i]?.map p).getD false
def runEnd (x : List UInt8) (i : Nat) : Nat := i + ((x.drop i).takeWhile isWord).length
def portAt (x : List UInt8) (i : Nat) : Bool := x[runEnd x i]? == some 46 && atB isLetter x (runEnd x i + 1)
def nameEnd (x : List UInt8) (i : Nat) : Nat := if portAt x i then runEnd x (runEnd x i + 1) else runEnd x i
def nameLong (x : List UInt8) (i : Nat) : Bool := decide (24 < runEnd x i - i) || (portAt x i && decide (24 < runEnd x (runEnd x i + 1) - (runEnd x i + 1)))
def nameT (x : List UInt8) (i : Nat) (deny : Bool) : T := .leaf ((x.drop i).take (nameEnd x i - i)) true (portAt x i) deny
theorem run_ge (x : List UInt8) (i : Nat) : i ≤ runEnd x i := by unfold runEnd; omega
theorem take_while_le {p : UInt8 → Bool} (l : List UInt8) : (l.takeWhile p).length ≤ l.length := by
  induction l with
  | nil => simp
  | cons a l ih => rw [List.takeWhile_cons]; split <;> simp only [List.length_cons, List.length_nil] <;> omega
theorem run_le {x : List UInt8} {i : Nat} (h : i ≤ x.length) : runEnd x i ≤ x.length := by
  have := take_while_le (p := isWord) (x.drop i)
  rw [List.length_drop] at this
  unfold runEnd
  omega
theorem run_step {x : List UInt8} {i : Nat} (h : atB isWord x i = true) : runEnd x i = runEnd x (i + 1) := by
  unfold atB at h
  cases hx : x[i]? with
  | none => rw [hx] at h; simp at h
  | some c =>
    rw [hx] at h
    have hi : i < x.length := (List.getElem?_eq_some_iff.1 hx).1
    have hc : x[i] = c := (List.getElem?_eq_some_iff.1 hx).2
    unfold runEnd
    rw [List.drop_eq_getElem_cons hi, List.takeWhile_cons, hc, if_pos (by simpa using h)]
    simp only [List.length_cons]
    omega
theorem run_stop {x : List UInt8} {i : Nat} (h : atB isWord x i = false) : runEnd x i = i := by
  unfold atB at h
  cases hx : x[i]? with
  | none =>
    have hi : x.length ≤ i := List.getElem?_eq_none_iff.1 hx
    unfold runEnd
    rw [List.drop_eq_nil_of_le hi]
    rfl
  | some c =>
    rw [hx] at h
    have hi : i < x.length := (List.getElem?_eq_some_iff.1 hx).1
    have hc : x[i] = c := (List.getElem?_eq_some_iff.1 hx).2
    unfold runEnd
    rw [List.drop_eq_getElem_cons hi, List.takeWhile_cons, hc, if_neg (by simpa using h)]
    rfl
theorem letter_word {x : List UInt8} {i : Nat} (h : atB isLetter x i = true) : atB isWord x i = true := by
  unfold atB at *
  cases hx : x[i]? with
  | none => rw [hx] at h; simp at h
  | some c => rw [hx] at h; simp only [Option.map_some, Option.getD_some] at h ⊢; unfold isWord; rw [h]; rfl
theorem at_lt {p : UInt8 → Bool} {x : List UInt8} {i : Nat} (h : atB p x i = true) : i < x.length := by
  unfold atB at h
  cases hx : x[i]? with
  | none => rw [hx] at h; simp at h
  | some c => exact (List.getElem?_eq_some_iff.1 hx).1
theorem name_end {x : List UInt8} {i : Nat} (h : atB isLetter x i = true) : i < nameEnd x i ∧ nameEnd x i ≤ x.length := by
  have h1 := run_step (letter_word h)
  have h2 := run_ge x (i + 1)
  have h3 := run_le (x := x) (i := i) (by have := at_lt h; omega)
  unfold nameEnd
  split
  · rename_i hp
    have h4 : atB isLetter x (runEnd x i + 1) = true := by unfold portAt at hp; rw [Bool.and_eq_true] at hp; exact hp.2
    have h5 := run_ge x (runEnd x i + 1)
    have h6 := run_le (x := x) (i := runEnd x i + 1) (by have := at_lt h4; omega)
    omega
  · omega
/-! The machine. -/
structure St where
  pos : Nat
  it : Nat
  stk : List (List T × List T)
  ch : List T
  ps : List T
inductive Res where
  | ok (t : T)
  | err (e : Nat)
def named (x : List UInt8) (s : St) (i : Nat) (deny : Bool) : St ⊕ Res :=
  if nameLong x i then .inr (.err i) else .inl ⟨nameEnd x i, s.it + 1, s.stk, s.ch, s.ps ++ [nameT x i deny]⟩
def stp (x : List UInt8) (s : St) : St ⊕ Res :=
  match x[s.pos]? with
  | none => .inr (if s.stk = [] then .ok (whole s.ch s.ps) else .err s.pos)
  | some c =>
    if c = 32 then .inl { s with pos := s.pos + 1 }
    else if c = 40 then if 32 ≤ s.stk.length then .inr (.err s.pos) else .inl ⟨s.pos + 1, s.it, s.stk ++ [(s.ch, s.ps)], [], []⟩
    else if c = 41 then match s.stk.getLast? with
      | none => .inr (.err s.pos)
      | some o => .inl ⟨s.pos + 1, s.it, s.stk.dropLast, o.1, o.2 ++ [whole s.ch s.ps]⟩
    else if c = 42 ∨ c = 43 ∨ c = 63 then match s.ps.getLast? with
      | none => .inr (.err s.pos)
      | some t => if 48 ≤ s.it then .inr (.err s.pos) else .inl ⟨s.pos + 1, s.it + 1, s.stk, s.ch, s.ps.dropLast ++ [.suf t c]⟩
    else if c = 124 then if 48 ≤ s.it then .inr (.err s.pos) else .inl ⟨s.pos + 1, s.it + 1, s.stk, s.ch ++ [mkSeq s.ps], []⟩
    else if c = 46 then if 48 ≤ s.it then .inr (.err s.pos) else .inl ⟨s.pos + 1, s.it + 1, s.stk, s.ch, s.ps ++ [.leaf [46] false false false]⟩
    else if c = 33 then if 48 ≤ s.it then .inr (.err s.pos) else if atB isLetter x (s.pos + 1) then named x s (s.pos + 1) true else .inr (.err (s.pos + 1))
    else if isLetter c && decide (s.it < 48) then named x s s.pos false else .inr (.err s.pos)
theorem named_on {x : List UInt8} {s s' : St} {i : Nat} {deny : Bool} (hi : s.pos ≤ i) (hl : atB isLetter x i = true) (h : named x s i deny = .inl s') : s.pos < s'.pos ∧ s'.pos ≤ x.length := by
  unfold named at h
  have := name_end hl
  split at h
  · cases h
  · cases h
    dsimp only
    omega
theorem stp_on {x : List UInt8} {s s' : St} (h : stp x s = .inl s') : s.pos < s'.pos ∧ s'.pos ≤ x.length := by
  unfold stp at h
  cases hx : x[s.pos]? with
  | none => rw [hx] at h; cases h
  | some c =>
    have hi : s.pos < x.length := (List.getElem?_eq_some_iff.1 hx).1
    rw [hx] at h
    dsimp only at h
    split at h
    · cases h; dsimp only; omega
    split at h
    · split at h
      · cases h
      · cases h; dsimp only; omega
    split at h
    · split at h
      · cases h
      · cases h; dsimp only; omega
    split at h
    · split at h
      · cases h
      · split at h
        · cases h
        · cases h; dsimp only; omega
    split at h
    · split at h
      · cases h
      · cases h; dsimp only; omega
    split at h
    · split at h
      · cases h
      · cases h; dsimp only; omega
    split at h
    · split at h
      · cases h
      · split at h
        · rename_i hl
          exact named_on (by omega) hl h
        · cases h
    split at h
    · rename_i hl
      rw [Bool.and_eq_true] at hl
      exact named_on (Nat.le_refl _) (by unfold atB; rw [hx]; exact hl.1) h
    · cases h
def runM (x : List UInt8) : Nat → St → Res
  | 0, _ => .err 0
  | n + 1, s => match stp x s with
    | .inl s' => runM x n s'
    | .inr r => r
theorem run_more (x : List UInt8) : ∀ (n m : Nat) (s : St), x.length + 1 - s.pos ≤ n → x.length + 1 - s.pos ≤ m → s.pos ≤ x.length → runM x n s = runM x m s := by
  intro n
  induction n with
  | zero => intro m s h1 _ h3; omega
  | succ n ih =>
    intro m s h1 h2 h3
    cases m with
    | zero => omega
    | succ m =>
      unfold runM
      cases hs : stp x s with
      | inr r => rfl
      | inl s' =>
        have := stp_on hs
        exact ih m s' (by omega) (by omega) this.2
/-- what the machine says from a state on -/
def res (x : List UInt8) (s : St) : Res := runM x (x.length + 1) s
theorem res_inl {x : List UInt8} {s s' : St} (h : stp x s = .inl s') : res x s = res x s' := by
  have hp := stp_on h
  unfold res
  rw [show runM x (x.length + 1) s = runM x x.length s' from by conv => lhs; unfold runM; rw [h]]
  exact run_more x _ _ s' (by omega) (by omega) hp.2
theorem res_inr {x : List UInt8} {s : St} {r : Res} (h : stp x s = .inr r) : res x s = r := by
  unfold res runM
  rw [h]
/-- a bound of all that stands in a state -/
def bdS (s : St) : Nat := (s.stk.map fun o => bdL o.1 + bdL o.2).sum + bdL s.ch + bdL s.ps
end Go.Proofs.Ytlbkacabcfeaiaa.Tl
