/- RunRenders: replies in memory: lists of texts, replies by their cells; appends of texts. -/
import Derived.Test.YtmcijdpbjhcimaaDoorRl
import Derived.Test.YtmcijdpbjhcimaaDoorSs
import Derived.Test.YtmcijdpbjhcimaaDoorFm
import Derived.Test.YtmcijdpbjhcimaaDoorRows
import Derived.BigQuiet
import Derived.Deep.QuietTactic
import Derived.Handy
import Derived.Deep.DeepCutAuto
namespace Go.Proofs.YtmcijdpbjhcimaaDoor.Rn
open Go.RowKit Mm
def ss (l : List ByteArray) : List Value := l.map Value.string
theorem ss_len (l : List ByteArray) : (ss l).length = l.length := by simp [ss]
theorem ss_app (a b : List ByteArray) : ss (a ++ b) = ss a ++ ss b := by simp [ss]
theorem ss_at {l : List ByteArray} {k : Nat} (h : k < l.length) : (ss l)[k]? = some (.string l[k]) := by simp [ss, h]
theorem ss_one (l : List ByteArray) : ∀ u ∈ ss l, u.oneCell' = true := by
  intro u hu
  simp only [ss, List.mem_map] at hu
  obtain ⟨s, _, rfl⟩ := hu
  rfl
/-- the values of a reply's three lists -/
structure Vs where
  p : Value
  e : Value
  l : Value
def yC (y : Rep) (u : Vs) : List Value := [.int .i64 y.kd, .bool y.fd, .string y.sp, .string y.wi, u.p, u.e, .string y.fi, u.l, .bool y.mo]
def rC (R : List Rep) (V : List Vs) : List Value := (R.zip V).flatMap fun x => yC x.1 x.2
theorem rC_len : ∀ (R : List Rep) (V : List Vs), V.length = R.length → (rC R V).length = R.length * 9
  | [], _, _ => by simp [rC]
  | x :: R, [], h => by simp at h
  | x :: R, u :: V, h => by
    have := rC_len R V (by simpa using h)
    simp only [rC, List.zip_cons_cons, List.flatMap_cons, List.length_append, List.length_cons] at this ⊢
    rw [this]
    simp only [yC, List.length_cons, List.length_nil]
    omega
theorem rC_nil (V : List Vs) : rC [] V = [] := by simp [rC]
theorem rC_at : ∀ (R : List Rep) (V : List Vs) (k : Nat) (y : Rep) (u : Vs) (j : Nat), R[k]? = some y → V[k]? = some u → j < 9 → (rC R V)[k * 9 + j]? = (yC y u)[j]?
  | [], _, _, _, _, _, h, _, _ => by simp at h
  | _ :: _, [], _, _, _, _, _, h, _ => by simp at h
  | x :: R, v :: V, 0, y, u, j, h1, h2, hj => by
    simp only [List.getElem?_cons_zero, Option.some.injEq] at h1 h2
    subst h1
    subst h2
    simp only [rC, List.zip_cons_cons, List.flatMap_cons, Nat.zero_mul, Nat.zero_add]
    rw [List.getElem?_append_left (by simpa [yC] using hj)]
  | x :: R, v :: V, k + 1, y, u, j, h1, h2, hj => by
    simp only [List.getElem?_cons_succ] at h1 h2
    have := rC_at R V k y u j h1 h2 hj
    simp only [rC, List.zip_cons_cons, List.flatMap_cons] at this ⊢
    rw [List.getElem?_append_right (by simp only [yC, List.length_cons, List.length_nil]; omega)]
    rw [show (k + 1) * 9 + j - (yC x v).length = k * 9 + j by simp only [yC, List.length_cons, List.length_nil]; omega]
    exact this
theorem rC_snoc : ∀ (R : List Rep) (V : List Vs) (y : Rep) (u : Vs), V.length = R.length → rC (R ++ [y]) (V ++ [u]) = rC R V ++ yC y u
  | [], [], y, u, _ => by simp [rC]
  | [], _ :: _, _, _, h => by simp at h
  | _ :: _, [], _, _, h => by simp at h
  | x :: R, v :: V, y, u, h => by
    have := rC_snoc R V y u (by simpa using h)
    simp only [rC, List.cons_append, List.zip_cons_cons, List.flatMap_cons, List.append_assoc] at this ⊢
    rw [this]
/-- a reply's lists, read -/
structure RepW (w : World) (u : Vs) (y : Rep) : Prop where
  p : Sees w u.p (ss y.po)
  e : Sees w u.e (ss y.en)
  l : Sees w u.l (ss y.li)
theorem RepW.below {w w' : World} {u : Vs} {y : Rep} (h : RepW w u y) (hb : Below w.heap.size w w') : RepW w' u y := ⟨h.p.below hb, h.e.below hb, h.l.below hb⟩
/-- a list of replies, read -/
structure RepsW (w : World) (v : Value) (R : List Rep) (V : List Vs) : Prop where
  n : V.length = R.length
  s : SeesS w v 9 R.length (rC R V)
  y : ∀ (k : Nat) (y : Rep) (u : Vs), R[k]? = some y → V[k]? = some u → RepW w u y
theorem RepsW.below {w w' : World} {v : Value} {R : List Rep} {V : List Vs} (h : RepsW w v R V) (hb : Below w.heap.size w w') : RepsW w' v R V := ⟨h.n, h.s.below hb, fun k y u h1 h2 => (h.y k y u h1 h2).below hb⟩
theorem info_str : (Tryd.prog.info? 9).map (fun i => (i.zero, i.size, i.bytes)) = some (some (.string .empty), 1, 16) := by kernel_rfl
def zRep : Array Value := #[.int .i64 0, .bool false, .string .empty, .string .empty, .slice none 0 0, .slice none 0 0, .string .empty, .slice none 0 0, .bool false]
theorem info_reply : (Tryd.prog.info? 30).map (fun i => (i.zero, i.size, i.bytes)) = some (some (.agg zRep), 9, 144) := by kernel_rfl
/-- append of a list of texts -/
theorem app_strs {B : Nat} {v : Value} {n : Nat} {xs : List Value} {l : List ByteArray} {w : World} {sv : Value} {ops : Array Oper} {rest : List Oper} {op : Oper} {a : Act} {Q : Exit → Act → World → Prop} {s x : Operand}
    (hown : w.ownsRow B 9 1 v n xs) (hS : Sees w sv (ss l)) (hgd : op.guard = none) (ho : op.op = .call { callee := .builtin .append, args := #[s, x], argTypes := #[28, 28] })
    (hs : a.eval s = v) (hx : a.eval x = sv) (hn : (n + l.length) * 16 ≤ 140737488355328) (hB : B ≤ w.heap.size)
    (h : ∀ v' w', w'.ownsRow B 9 1 v' (n + l.length) (xs ++ ss l) → w.grownBy w' v.ownBlock → wpList Tryd.prog ops Q rest (a.put op.dst v') w') : wpList Tryd.prog ops Q (op :: rest) a w := by
  refine app_sees 28 Tryd.underlying28 info_str rfl hown hS hgd ho hs hx (ss_one l) (by rw [ss_len]; simp only [maxLen]; omega) (by rw [ss_len]; omega) hB ?_
  intro v' w' h1 h2
  rw [ss_len] at h1
  exact h v' w' h1 h2
/-- append of one text -/
theorem app_str {B : Nat} {v : Value} {n : Nat} {xs : List Value} {w : World} (t : ByteArray) {ops : Array Oper} {rest : List Oper} {o : Oper} {a : Act} {Q : Exit → Act → World → Prop} {s x : Operand}
    (hown : w.ownsRow B 9 1 v n xs) (hgd : o.guard = none) (ho : o.op = .call { callee := .builtin .append, args := #[s, x], argTypes := #[28, 28] })
    (hs : a.eval s = v) (hx : a.eval x = .slice (some ⟨w.heap.size, 0, none⟩) 1 1) (hn : n ≤ 8589934592) (hB : B ≤ w.heap.size)
    (h : ∀ v' w', w'.ownsRow B 9 1 v' (n + 1) (xs ++ [.string t]) → Below B w w' → wpList Tryd.prog ops Q rest (a.put o.dst v') w') : wpList Tryd.prog ops Q (o :: rest) a (w.alloc (.cells #[.string t] 9)) := by
  obtain ⟨i0, hi, hz0, hz1, hz2⟩ := info_parts info_str
  refine wpList_append_own _ hgd s x 28 ho B 9 i0 _ 1 16 Tryd.underlying28 hi hz0 hz1 hz2 rfl (by decide) v n _ hs (hown.alloc _) ⟨w.heap.size, 0, none⟩ 1 1 [.string t] hx rfl (cell_one_new _ _ _)
    (by simp [Value.oneCell']) (by simp only [maxLen]; omega) (by omega) (by simp; omega) ?_
  intro v' w1 hown' hg _
  refine h v' w1 hown' ?_
  have h1 : Below B w (w.alloc (.cells #[.string t] 9)) := (Below.refl _ _).alloc hB _
  exact h1.grown hg (by simp; omega) (fun k hk => (hown.lt k hk).1)
theorem own_empty (w : World) (t : TypeId) {B : Nat} (hB : B ≤ w.heap.size) : (w.alloc (.cells #[] t)).ownsRow B t 1 (.slice (some ⟨w.heap.size, 0, none⟩) 0 0) 0 [] := by
  refine ⟨rfl, .inr ⟨_, 0, #[], rfl, hB, heap_alloc_new w _, Nat.le_refl _, by decide, by simp, ?_⟩⟩
  simp
theorem own_cap {w : World} {B : Nat} {e : TypeId} {s n : Nat} {v : Value} {xs : List Value} (h : w.ownsRow B e s v n xs) (hn : 0 < n) : ∃ g cap, v = .slice (some ⟨g, 0, none⟩) n cap ∧ n ≤ cap ∧ cap ≤ maxLen := by
  rcases h.2 with ⟨_, h0⟩ | ⟨g, cap, cur, hv, _, hg, hc, hm, _, _⟩
  · omega
  · exact ⟨g, cap, hv, hc, hm⟩
end Go.Proofs.YtmcijdpbjhcimaaDoor.Rn
