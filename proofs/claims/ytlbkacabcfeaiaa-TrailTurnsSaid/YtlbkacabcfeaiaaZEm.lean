/- Patterns: the program's code of a tree: rows of steps; a leaf's and a sequence's code. -/
import Derived.Test.YtlbkacabcfeaiaaZWa
import Derived.Laws.OwnMore
namespace Go.Proofs.Ytlbkacabcfeaiaa.Tl
open Go.RowKit Mm
set_option linter.unusedVariables false
def lkV : Option T → Value
  | some (.leaf tx n p d) => .func (.func 72) #[.agg #[.string (str tx), .bool n, .bool p, .bool d]] #[]
  | _ => .nilFunc
def spV (s : Sp) : List Value := [lkV s.lk, .int .i64 (s.nx : Int), .int .i64 (s.ot : Int), .bool s.dn]
def spC (c : List Sp) : List Value := c.flatMap spV
theorem spC_cons (s : Sp) (c : List Sp) : spC (s :: c) = lkV s.lk :: .int .i64 (s.nx : Int) :: .int .i64 (s.ot : Int) :: .bool s.dn :: spC c := rfl
theorem spC_snoc (c : List Sp) (s : Sp) : spC (c ++ [s]) = spC c ++ spV s := by simp [spC]
theorem spC_len (c : List Sp) : (spC c).length = c.length * 4 := by
  induction c with
  | nil => rfl
  | cons s c ih => rw [spC_cons]; simp only [List.length_cons, ih]; omega
theorem spC_get {c : List Sp} {i : Nat} {s : Sp} (h : c[i]? = some s) : (spC c)[i * 4]? = some (lkV s.lk) ∧ (spC c)[i * 4 + 1]? = some (.int .i64 (s.nx : Int)) ∧ (spC c)[i * 4 + 2]? = some (.int .i64 (s.ot : Int)) ∧ (spC c)[i * 4 + 3]? = some (.bool s.dn) := by
  induction c generalizing i with
  | nil => simp at h
  | cons x c ih =>
    cases i with
    | zero =>
      simp only [List.getElem?_cons_zero, Option.some.injEq] at h
      subst h
      exact ⟨rfl, rfl, rfl, rfl⟩
    | succ i =>
      rw [List.getElem?_cons_succ] at h
      obtain ⟨h0, h1, h2, h3⟩ := ih h
      rw [spC_cons, show (i + 1) * 4 = i * 4 + 4 from by omega]
      exact ⟨h0, h1, h2, h3⟩
theorem spC_setOt : ∀ (c : List Sp) (i n : Nat), i < c.length → (spC c).set (i * 4 + 2) (.int .i64 (n : Int)) = spC (setOt c i n)
  | [], i, n, h => by simp at h
  | s :: c, 0, n, h => rfl
  | s :: c, i + 1, n, h => by
    have ih := spC_setOt c i n (by simpa using h)
    have e : setOt (s :: c) (i + 1) n = s :: setOt c i n := by simp [setOt]
    rw [e, spC_cons, spC_cons, ← ih, show (i + 1) * 4 + 2 = i * 4 + 2 + 4 from by omega]
    rfl
theorem spC_setNx : ∀ (c : List Sp) (i n : Nat), i < c.length → (spC c).set (i * 4 + 1) (.int .i64 (n : Int)) = spC (setNx c i n)
  | [], i, n, h => by simp at h
  | s :: c, 0, n, h => rfl
  | s :: c, i + 1, n, h => by
    have ih := spC_setNx c i n (by simpa using h)
    have e : setNx (s :: c) (i + 1) n = s :: setNx c i n := by simp [setNx]
    rw [e, spC_cons, spC_cons, ← ih, show (i + 1) * 4 + 1 = i * 4 + 1 + 4 from by omega]
    rfl
theorem spV_one (s : Sp) : ∀ u ∈ spV s, u.oneCell' = true := by
  intro u hu
  unfold spV at hu
  simp only [List.mem_cons, List.not_mem_nil, or_false] at hu
  rcases hu with rfl | rfl | rfl | rfl
  · unfold lkV; split <;> rfl
  · rfl
  · rfl
  · rfl
theorem info_step : (Try.prog.info? 64).map (fun i => (i.zero, i.size, i.bytes)) = some (some (.agg #[.nilFunc, .int .i64 0, .int .i64 0, .bool false]), 4, 32) := by kernel_rfl
/-- the row of steps, from one world to another -/
structure EmW (w : World) (B : Nat) (v : Value) (c : List Sp) (v' : Value) (w' : World) : Prop where
  row : w'.ownsRow B 64 4 v' c.length (spC c)
  grow : w.grownBy w' v.ownBlock
  new : v'.ownBlock = v.ownBlock ∨ ∀ g, v'.ownBlock = some g → w.heap.size ≤ g
theorem EmW.start {w : World} {B : Nat} {v : Value} {c : List Sp} (h : w.ownsRow B 64 4 v c.length (spC c)) : EmW w B v c v w := ⟨h, grefl _ _, .inl rfl⟩
theorem grown_alloc (w : World) (o : Obj) (row : Option Nat) : w.grownBy (w.alloc o) row := ⟨rfl, rfl, rfl, by simp, fun k hk _ => heap_alloc_old w o hk⟩
theorem EmW.alloc {w X : World} {B : Nat} {v v' : Value} {c : List Sp} (h : EmW w B v c v' X) (o : Obj) : EmW w B v c v' (X.alloc o) := ⟨h.row.alloc _, gtrans h.grow (grown_alloc X o _), h.new⟩
theorem EmW.drewN {w X : World} {B : Nat} {v v' : Value} {c : List Sp} (h : EmW w B v c v' X) (n : Nat) : EmW w B v c v' (X.drewN n) := ⟨h.row, ⟨h.grow.os, h.grow.tape, h.grow.output, h.grow.size, h.grow.block⟩, h.new⟩
theorem EmW.trans {w X Y : World} {B : Nat} {v v1 v2 : Value} {c1 c2 : List Sp} (h : EmW w B v c1 v1 X) (k : EmW X B v1 c2 v2 Y) : EmW w B v c2 v2 Y := by
  refine ⟨k.row, ⟨k.grow.os.trans h.grow.os, k.grow.tape.trans h.grow.tape, k.grow.output.trans h.grow.output, Nat.le_trans h.grow.size k.grow.size, fun g hg hne => ?_⟩, ?_⟩
  · rw [k.grow.block g (Nat.lt_of_lt_of_le hg h.grow.size) ?_, h.grow.block g hg hne]
    rcases h.new with e | e
    · rw [e]; exact hne
    · intro e2
      have := e g e2.symm
      omega
  · rcases k.new with e | e
    · rw [e]; exact h.new
    · exact .inr fun g hg => Nat.le_trans h.grow.size (e g hg)
theorem EmW.below {w X : World} {B : Nat} {v v' : Value} {c c0 : List Sp} (h : EmW w B v c v' X) (h0 : w.ownsRow B 64 4 v c0.length (spC c0)) (hB : B ≤ w.heap.size) : Below B w X := below_grown h0 h.grow hB
theorem EmW.push {w X : World} {B : Nat} {v v' : Value} {c : List Sp} {cs : Array Value} (s : Sp) (hcs : cs = (spV s).toArray) (h : EmW w B v c v' X) (hB : B ≤ w.heap.size) (hl : c.length ≤ 100000) {ops : Array Oper} {rest : List Oper} {o : Oper} {a : Act} {Q : Exit → Act → World → Prop} {x y : Operand}
    (hgd : o.guard = none) (ho : o.op = .call { callee := .builtin .append, args := #[x, y], argTypes := #[59, 59] })
    {g : Nat} (hs : a.eval x = v') (hx : a.eval y = .slice (some ⟨g, 0, none⟩) 1 1) (hg : g = X.heap.size)
    (k : ∀ g2 cap2 w2, EmW w B v (c ++ [s]) (.slice (some ⟨g2, 0, none⟩) (c.length + 1) cap2) w2 → wpList Try.prog ops Q rest (a.put o.dst (.slice (some ⟨g2, 0, none⟩) (c.length + 1) cap2)) w2) : wpList Try.prog ops Q (o :: rest) a (X.alloc (.cells cs 64)) := by
  subst hcs hg
  obtain ⟨i0, hi, hz0, hz1, hz2⟩ := info_parts info_step
  have hS : B ≤ X.heap.size := Nat.le_trans hB h.grow.size
  have h1 := h.alloc (.cells (spV s).toArray 64)
  refine wpList_append_keep _ hgd x y 59 ho B 64 i0 _ 4 32 Try.underlying59 hi hz0 hz1 hz2 rfl (by decide) v' c.length _ hs h1.row ⟨X.heap.size, 0, none⟩ 1 1 (spV s) hx rfl (by have := cells_new X (spV s).toArray 64; simpa using this)
    (spV_one s) (by decide) (by simp only [maxLen]; omega) (by omega) (by simp; omega) ?_
  intro v2 w2 h2 h3
  have h4 : EmW (X.alloc (.cells (spV s).toArray 64)) B v' (c ++ [s]) v2 w2 := by
    refine ⟨?_, ?_, ?_⟩
    · rw [spC_snoc, List.length_append]; exact h2
    · rcases h3 with ⟨_, h3⟩ | ⟨_, h3⟩
      · exact h3
      · exact ⟨h3.os, h3.tape, h3.output, h3.size, fun g hg _ => h3.block g hg (by simp)⟩
    · rcases h3 with ⟨h3, _⟩ | ⟨h3, _⟩
      · exact .inl h3
      · refine .inr fun g hg => ?_
        rw [h3] at hg
        cases hg
        exact Nat.le_refl _
  obtain ⟨g2, cap2, rfl, _⟩ := own_form h2 (by omega)
  exact k g2 cap2 w2 (h1.trans h4)
theorem EmW.len {w X : World} {B : Nat} {v v' : Value} {c : List Sp} (h : EmW w B v c v' X) : ∃ a cap, v' = .slice a c.length cap := own_len h.row
/-- a step's cells -/
theorem EmW.cell {w X : World} {B g n cap i : Nat} {v : Value} {c : List Sp} (h : EmW w B v c (.slice (some ⟨g, 0, none⟩) n cap) X) (hi : i < c.length) : (∃ x, X.cell? ⟨g, i * 4 + 2, none⟩ = some (.int .i64 x)) ∧ (∃ x, X.cell? ⟨g, i * 4 + 1, none⟩ = some (.int .i64 x)) ∧ X.frozen? ⟨g, i * 4 + 2, none⟩ = false ∧ X.frozen? ⟨g, i * 4 + 1, none⟩ = false := by
  obtain ⟨_, h1, h2, _⟩ := spC_get (List.getElem?_eq_getElem hi)
  have hr := h.row
  obtain ⟨a1, cap1, he⟩ := own_len hr
  cases he
  have q := fun j u hj => hr.cells (g := g) rfl j u hj
  refine ⟨⟨_, by rw [← add_off]; exact q _ _ h2⟩, ⟨_, by rw [← add_off]; exact q _ _ h1⟩, hr.frozenAt _, hr.frozenAt _⟩
/-- a store into a step -/
theorem EmW.storeOt {w X : World} {B g n cap i k : Nat} {v : Value} {c : List Sp} (h : EmW w B v c (.slice (some ⟨g, 0, none⟩) n cap) X) (hn : n = c.length) (hi : i < c.length) : EmW w B v (setOt c i k) (.slice (some ⟨g, 0, none⟩) n cap) (X.setCell ⟨g, i * 4 + 2, none⟩ (.int .i64 (k : Int))) := by
  subst hn
  obtain ⟨h1, h2⟩ := h.row.stored (i * 4 + 2) (.int .i64 (k : Int))
  refine h.trans ⟨?_, h2, .inl rfl⟩
  rw [spC_setOt c i k hi] at h1
  rw [setOt_len]
  exact h1
theorem EmW.storeNx {w X : World} {B g n cap i k : Nat} {v : Value} {c : List Sp} (h : EmW w B v c (.slice (some ⟨g, 0, none⟩) n cap) X) (hn : n = c.length) (hi : i < c.length) : EmW w B v (setNx c i k) (.slice (some ⟨g, 0, none⟩) n cap) (X.setCell ⟨g, i * 4 + 1, none⟩ (.int .i64 (k : Int))) := by
  subst hn
  obtain ⟨h1, h2⟩ := h.row.stored (i * 4 + 1) (.int .i64 (k : Int))
  refine h.trans ⟨?_, h2, .inl rfl⟩
  rw [spC_setNx c i k hi] at h1
  rw [setNx_len]
  exact h1
def emF : T → FuncId
  | .leaf _ _ _ _ => 70
  | .seq _ => 75
  | .alt _ => 85
  | .suf _ _ => 67
/-- a tree's code -/
def EmC (t : T) : Prop := ∀ (w : World) (S : Nat → Prop) (ty : TypeId) (pay : Value) (B : Nat) (v : Value) (c : List Sp), IsT w S (.iface ty pay) t → (∀ g, S g → g < B) → B ≤ w.heap.size → w.ownsRow B 64 4 v c.length (spC c) → c.length + bd t ≤ 90000 →
    Calls Try.prog (emF t) #[pay, v] w fun e w' => ∃ v', e = .returned v' ∧ EmW w B v (em t c) v' w'
set_option maxRecDepth 100000 in
set_option maxHeartbeats 4000000 in
theorem leaf_emit (w : World) (tx : List UInt8) (n p d : Bool) (B : Nat) (v : Value) (c : List Sp) (hB : B ≤ w.heap.size) (hrow : w.ownsRow B 64 4 v c.length (spC c)) (hl : c.length ≤ 90000) :
    Calls Try.prog 70 #[.agg #[.string (str tx), .bool n, .bool p, .bool d], v] w fun e w' => ∃ v', e = .returned v' ∧ EmW w B v (c ++ [⟨some (.leaf tx n p d), 0, 0, false⟩]) v' w' := by
  have hc1 := (Blk.new w 87 #[.string (str tx), .bool n, .bool p, .bool d]).cell 0
  have hc2 := (Blk.new w 87 #[.string (str tx), .bool n, .bool p, .bool d]).cell 1
  have hc3 := (Blk.new w 87 #[.string (str tx), .bool n, .bool p, .bool d]).cell 2
  have hc4 := (Blk.new w 87 #[.string (str tx), .bool n, .bool p, .bool d]).cell 3
  have HE := Lib.hid ((EmW.start hrow).alloc (.cells #[.string (str tx), .bool n, .bool p, .bool d] 87))
  obtain ⟨a0, cap, rfl⟩ := own_len hrow
  clear hrow
  have HX := Lib.hid (rfl : str tx = str tx)
  generalize hx : str tx = x at hc1 hc2 hc3 hc4 HE HX ⊢
  go_enter Try.func70, Try.ntmps70
  go_wp2_with (at_builtin; refine EmW.push ⟨some (.leaf tx n p d), 0, 0, false⟩ (by rw [← hx]; rfl) HE.out hB (by omega) rfl rfl rfl rfl (by simp) (fun g2 cap2 w2 HF => ?_))
  go_ret
  exact ⟨_, rfl, HF⟩
end Go.Proofs.Ytlbkacabcfeaiaa.Tl
