/- Patterns in memory: trees as values, rows of trees. -/
import Derived.Test.YtlbkacabcfeaiaaZPA
import Derived.Test.YtlbkacabcfeaiaaSs
import Derived.Test.YtlbkacabcfeaiaaGw
import Derived.Test.YtlbkacabcfeaiaaRows
import Derived.BigQuiet
import Derived.Deep.QuietTactic
import Derived.Handy
import Derived.Deep.DeepCutAuto
namespace Go.Proofs.Ytlbkacabcfeaiaa.Tl
open Go.RowKit Mm
set_option linter.unusedVariables false
def leafV (tx : List UInt8) (n p d : Bool) : Value := .iface 87 (.agg #[.string (str tx), .bool n, .bool p, .bool d])
/-- a value is that tree; S: the blocks that its lists lie in -/
inductive IsT (w : World) (S : Nat → Prop) : Value → T → Prop where
  | leaf (tx : List UInt8) (n p d : Bool) : IsT w S (leafV tx n p d) (.leaf tx n p d)
  | suf (v : Value) (t : T) (s : UInt8) : IsT w S v t → IsT w S (.iface 84 (.agg #[v, bv s])) (.suf t s)
  | seq (u : Value) (vs : List Value) (ts : List T) : Fz w 57 1 u ts.length vs → (∀ g, u.ownBlock = some g → S g) → (∀ (i : Nat) (v : Value) (t : T), vs[i]? = some v → ts[i]? = some t → IsT w S v t) → IsT w S (.iface 98 u) (.seq ts)
  | alt (u : Value) (vs : List Value) (ts : List T) : Fz w 57 1 u ts.length vs → (∀ g, u.ownBlock = some g → S g) → (∀ (i : Nat) (v : Value) (t : T), vs[i]? = some v → ts[i]? = some t → IsT w S v t) → IsT w S (.iface 99 u) (.alt ts)
theorem Fz.keep {X Y : World} {e : TypeId} {s n : Nat} {v : Value} {xs : List Value} (h : Fz X e s v n xs) (hk : ∀ g, v.ownBlock = some g → Y.heap[g]? = X.heap[g]?) : Fz Y e s v n xs := by
  obtain ⟨a, cap, rfl, hc, hm, hl, hx⟩ := h
  refine ⟨a, cap, rfl, hc, hm, hl, hx.imp id ?_⟩
  rintro ⟨g, cur, rfl, hg, hx⟩
  exact ⟨g, cur, rfl, (hk g rfl).trans hg, hx⟩
theorem IsT.keep {w w' : World} {S S' : Nat → Prop} {v : Value} {t : T} (h : IsT w S v t) (hS : ∀ g, S g → S' g) (hk : ∀ g, S g → g < w.heap.size → w'.heap[g]? = w.heap[g]?) : IsT w' S' v t := by
  induction h with
  | leaf tx n p d => exact .leaf tx n p d
  | suf v t s _ ih => exact .suf v t s ih
  | seq u vs ts hf hs _ ih => exact .seq u vs ts (Fz.keep hf fun g hg => hk g (hs g hg) (hf.lt g hg)) (fun g hg => hS g (hs g hg)) ih
  | alt u vs ts hf hs _ ih => exact .alt u vs ts (Fz.keep hf fun g hg => hk g (hs g hg) (hf.lt g hg)) (fun g hg => hS g (hs g hg)) ih
theorem IsT.low {w w' : World} {S : Nat → Prop} {v : Value} {t : T} (h : IsT w S v t) (hb : Below w.heap.size w w') : IsT w' S v t := h.keep (fun _ h => h) fun g _ hg => hb.block g hg
theorem IsT.one {w : World} {S : Nat → Prop} {v : Value} {t : T} (h : IsT w S v t) : v.oneCell' = true := by
  cases h <;> rfl
/-- lists of trees -/
def AllT (w : World) (S : Nat → Prop) (vs : List Value) (ts : List T) : Prop := vs.length = ts.length ∧ ∀ (i : Nat) (v : Value) (t : T), vs[i]? = some v → ts[i]? = some t → IsT w S v t
section
variable {w w' : World} {S S' : Nat → Prop} {vs us : List Value} {ts rs : List T} {v : Value} {t : T}
theorem AllT.nil : AllT w S [] [] := ⟨rfl, fun i v t h => by simp at h⟩
theorem AllT.keep (h : AllT w S vs ts) (hS : ∀ g, S g → S' g) (hk : ∀ g, S g → g < w.heap.size → w'.heap[g]? = w.heap[g]?) : AllT w' S' vs ts := ⟨h.1, fun i v t h1 h2 => (h.2 i v t h1 h2).keep hS hk⟩
theorem AllT.below (h : AllT w S vs ts) (hb : Below w.heap.size w w') : AllT w' S vs ts := h.keep (fun _ h => h) fun g _ hg => hb.block g hg
theorem AllT.app (h : AllT w S vs ts) (k : AllT w S us rs) : AllT w S (vs ++ us) (ts ++ rs) := by
  refine ⟨by rw [List.length_append, List.length_append, h.1, k.1], fun i v t h1 h2 => ?_⟩
  rcases Nat.lt_or_ge i vs.length with hi | hi
  · rw [List.getElem?_append_left hi] at h1
    rw [List.getElem?_append_left (by rw [← h.1]; exact hi)] at h2
    exact h.2 i v t h1 h2
  · rw [List.getElem?_append_right hi] at h1
    rw [List.getElem?_append_right (by rw [← h.1]; exact hi), ← h.1] at h2
    exact k.2 _ v t h1 h2
theorem AllT.single (h : IsT w S v t) : AllT w S [v] [t] := by
  refine ⟨rfl, fun i u r h1 h2 => ?_⟩
  cases i with
  | zero =>
    simp only [List.getElem?_cons_zero, Option.some.injEq] at h1 h2
    subst h1
    subst h2
    exact h
  | succ i => simp at h1
theorem AllT.at (h : AllT w S vs ts) {i : Nat} (hi : i < ts.length) : ∃ v, vs[i]? = some v ∧ IsT w S v ts[i] := by
  have hv : i < vs.length := by rw [h.1]; exact hi
  exact ⟨vs[i], List.getElem?_eq_getElem hv, h.2 i _ _ (List.getElem?_eq_getElem hv) (List.getElem?_eq_getElem hi)⟩
theorem AllT.one (h : AllT w S vs ts) : ∀ u ∈ vs, u.oneCell' = true := by
  intro u hu
  obtain ⟨i, hi, rfl⟩ := List.mem_iff_getElem.1 hu
  exact (h.2 i _ _ (List.getElem?_eq_getElem hi) (List.getElem?_eq_getElem (by rw [← h.1]; exact hi))).one
theorem AllT.take (h : AllT w S vs ts) (k : Nat) : AllT w S (vs.take k) (ts.take k) := by
  refine ⟨by rw [List.length_take, List.length_take, h.1], fun i v t h1 h2 => ?_⟩
  rw [List.getElem?_take] at h1 h2
  split at h1
  · rename_i hi
    rw [if_pos hi] at h2
    exact h.2 i v t h1 h2
  · cases h1
end
theorem info_tree : (Try.prog.info? 57).map (fun i => (i.zero, i.size, i.bytes)) = some (some .nilIface, 1, 16) := by kernel_rfl
/-- append of a list of trees, of one tree -/
theorem app_trees {B st : Nat} {v : Value} {n : Nat} {xs ys : List Value} {w : World} {sv : Value} {ops : Array Oper} {rest : List Oper} {op : Oper} {a : Act} {Q : Exit → Act → World → Prop} {s x : Operand}
    (ht : Try.prog.underlying st = some (.slice 57)) (hown : w.ownsRow B 57 1 v n xs) (hS : Sees w sv ys) (h1 : ∀ u ∈ ys, u.oneCell' = true) (hgd : op.guard = none) (ho : op.op = .call { callee := .builtin .append, args := #[s, x], argTypes := #[st, st] })
    (hs : a.eval s = v) (hx : a.eval x = sv) (hn : n + ys.length ≤ 1000000) (hB : B ≤ w.heap.size)
    (h : ∀ v' w', w'.ownsRow B 57 1 v' (n + ys.length) (xs ++ ys) → w.grownBy w' v.ownBlock → wpList Try.prog ops Q rest (a.put op.dst v') w') : wpList Try.prog ops Q (op :: rest) a w :=
  app_sees st ht info_tree rfl hown hS hgd ho hs hx h1 (by simp only [maxLen]; omega) (by omega) hB h
theorem app_tree {B st : Nat} {v : Value} {n : Nat} {xs : List Value} {w : World} {t : Value} (ht : Try.prog.underlying st = some (.slice 57)) {ops : Array Oper} {rest : List Oper} {o : Oper} {a : Act} {Q : Exit → Act → World → Prop} {s x : Operand}
    (h1 : t.oneCell' = true) (hown : w.ownsRow B 57 1 v n xs) (hgd : o.guard = none) (ho : o.op = .call { callee := .builtin .append, args := #[s, x], argTypes := #[st, st] })
    (hs : a.eval s = v) (hx : a.eval x = .slice (some ⟨w.heap.size, 0, none⟩) 1 1) (hn : n ≤ 1000000) (hB : B ≤ w.heap.size)
    (h : ∀ v' w', w'.ownsRow B 57 1 v' (n + 1) (xs ++ [t]) → Keeps (w.alloc (.cells #[t] 57)) v v' w' → wpList Try.prog ops Q rest (a.put o.dst v') w') : wpList Try.prog ops Q (o :: rest) a (w.alloc (.cells #[t] 57)) := by
  obtain ⟨i0, hi, hz0, hz1, hz2⟩ := info_parts info_tree
  exact wpList_append_keep _ hgd s x st ho B 57 i0 _ 1 16 ht hi hz0 hz1 hz2 rfl (by decide) v n _ hs (hown.alloc _) ⟨w.heap.size, 0, none⟩ 1 1 [t] hx rfl (cells_new _ #[t] _)
    (by simpa using h1) (by decide) (by simp only [maxLen]; omega) (by omega) (by simp; omega) h
end Go.Proofs.Ytlbkacabcfeaiaa.Tl
