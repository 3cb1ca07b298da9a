/- Texts of one kind, put together: Oa, Ob, Oc, Od, Oe. -/
import Derived.Test.YtlbkacabcfeaiaaZPA
import Derived.Test.YtlbkacabcfeaiaaZNA
import Derived.Test.YtlbkacabcfeaiaaZEo
import Derived.Test.YtlbkacabcfeaiaaZJm
import Derived.Test.YtlbkacabcfeaiaaZCo
import Derived.Maps.OwnOps
import Derived.Maps.Views
import Derived.Test.YtlbkacabcfeaiaaZRu
/- Patterns: what the program's machine holds: its set of instructions (a map), its row. -/
namespace Go.Proofs.Ytlbkacabcfeaiaa.Tl
open Go.RowKit Mm
open Go.Maps (Keyed)
set_option linter.unusedVariables false
/-- a scope with several labels whose measure is told by what holds -/
theorem wp_scope_ghost {P : Program} {a : Act} {w : World} {Q : Exit → Act → World → Prop} {c : Code} (J : Nat → Nat → Act → World → Prop)
    (first : c.wp P (jumps c (fun l a w => ∃ n, J n l a w) Q) a w)
    (pass : ∀ n l rest a w, findLabel c l = some rest → J n l a w → rest.wp P (jumps c (fun l' a' w' => ∃ m, m < n ∧ J m l' a' w') Q) a w) : (Code.scope c).wp P Q a w := by
  classical
  have hmin : ∀ l a w, (∃ n, J n l a w) → ∃ n, J n l a w ∧ ∀ m, J m l a w → n ≤ m := by
    intro l a w ⟨n, hn⟩
    induction n using Nat.strongRecOn with
    | _ n ih =>
      by_cases h : ∃ m, m < n ∧ J m l a w
      · obtain ⟨m, h1, h2⟩ := h
        exact ih m h1 h2
      · exact ⟨n, hn, fun m hm => Nat.le_of_not_lt fun hlt => h ⟨m, hlt, hm⟩⟩
  refine wp_scope_many (fun l a w => ∃ n, J n l a w) (fun l a w => if h : ∃ n, J n l a w then Classical.choose (hmin l a w h) else 0) first ?_
  intro l rest a w hf hJ
  have hc := Classical.choose_spec (hmin l a w hJ)
  have hp := pass _ l rest a w hf hc.1
  refine Code.wp_mono (fun e a' w' hq => ?_) hp
  cases e with
  | goto l' =>
    obtain ⟨h1, m, hm, hJ'⟩ := hq
    refine ⟨h1, ⟨m, hJ'⟩, ?_⟩
    have he : ∃ n, J n l' a' w' := ⟨m, hJ'⟩
    rw [dif_pos he, dif_pos hJ]
    exact Nat.lt_of_le_of_lt ((Classical.choose_spec (hmin l' a' w' he)).2 m hJ') hm
  | normal => exact hq
  | exit id => exact hq
  | ret => exact hq
  | panic ch => exact hq
  | outgrown => exact hq
/-! The map of marks. -/
theorem int_law : Keyed Try.prog 3 := Maps.int_keyed Try.underlying3
theorem zero_int (w : World) : (zeroValue 3).run Try.prog w = .ok (.int .i64 0) w := by kernel_rfl
theorem key_ok {q : Nat} (h : q ≤ 1000000) : (Lit.int .i64 (q : Int)).wf = true := by
  simp [Lit.wf, IntKind.min, IntKind.max, IntKind.signed, IntKind.bits]
  omega
def Mk (D : DataW Unit) (f : Nat → Bool) : Prop := Maps.IsMap D ∧ ∀ q : Nat, D.atKey (.int .i64 (q : Int)) (.lit (.int .i64 0)) = .lit (.int .i64 (if f q = true then 1 else 0))
def put1 (f : Nat → Bool) (p : Nat) : Nat → Bool := fun q => f q || q == p
theorem mk_nil : Mk (.map []) (fun _ => false) := ⟨Maps.isMap_empty, fun q => rfl⟩
theorem mk_put {D : DataW Unit} {f : Nat → Bool} (h : Mk D f) (p : Nat) : Mk (D.put (.int .i64 (p : Int)) (.lit (.int .i64 1))) (put1 f p) := by
  refine ⟨h.1.put _ _, fun q => ?_⟩
  unfold put1
  by_cases e : q = p
  · subst e
    rw [Maps.atKey_put_same h.1 (by trivial)]
    simp
  · rw [Maps.atKey_put_other (by simp; omega), h.2 q]
    simp [e]
theorem clear_run {H : Type} {P : Program} (w : World) {k e t ty : TypeId} (ht : P.underlying t = some (.map k e)) {R : Value → Option (DataW H × List MemPlace)} {b n : Nat} {D : DataW H} (hown : w.ownsMap P k R b n D) :
    ∃ w', (Builtin.clear_ #[t] ty #[.map (some b)]).run P w = .ok (.tuple #[]) w' ∧ w'.ownsMap P k R b 0 (.map []) ∧ w.grownBy w' (some b) := by
  obtain ⟨es, clock, hb, F, hs, rfl⟩ := hown
  have hrun : (Builtin.clear_ #[t] ty #[.map (some b)]).run P w = .ok (.tuple #[]) (ChangeMaps.setBlock w b (.map #[] clock)) := by
    simp [Builtin.clear_, run_underlying ht, MapKept.run_getObj_map hb, MapKept.run_setObj_map _ hb, Result.andThen_ok, ChangeMaps.setBlock]
  exact ⟨_, hrun, ⟨#[], clock, ChangeMaps.heap_setBlock_same hb _, ⟨by simp, MapKept.stamped_empty clock, by simp⟩, Nat.le_refl _, rfl⟩, ⟨rfl, rfl, rfl, by simp [ChangeMaps.setBlock], fun i _ hi => ChangeMaps.heap_setBlock_other hb _ (fun e => hi (by rw [e]))⟩⟩
/-! Numbers that are not yet marked. -/
def unm (n : Nat) (f : Nat → Bool) : Nat := ((List.range n).filter fun q => !f q).length
theorem filt_le {f g : Nat → Bool} (h : ∀ q, f q = true → g q = true) : ∀ l : List Nat, (l.filter fun q => !g q).length ≤ (l.filter fun q => !f q).length
  | [] => Nat.le_refl _
  | x :: l => by
    have ih := filt_le h l
    have hx := h x
    simp only [List.filter_cons]
    cases hf : f x <;> cases hg : g x <;> simp_all <;> omega
theorem filt_lt {f g : Nat → Bool} (h : ∀ q, f q = true → g q = true) {p : Nat} (hf : f p = false) (hgp : g p = true) : ∀ l : List Nat, p ∈ l → (l.filter fun q => !g q).length < (l.filter fun q => !f q).length
  | [], h0 => by cases h0
  | x :: l, h0 => by
    have h1 := filt_le h l
    by_cases he : x = p
    · subst he
      simp only [List.filter_cons, hf, hgp, Bool.not_false, Bool.not_true, if_true, Bool.false_eq_true, if_false, List.length_cons]
      omega
    · have ih := filt_lt h hf hgp l ((List.mem_cons.1 h0).resolve_left fun e => he e.symm)
      have hx := h x
      simp only [List.filter_cons]
      cases hf1 : f x <;> cases hg : g x <;> simp only [Bool.not_false, Bool.not_true, if_true, Bool.false_eq_true, if_false, List.length_cons]
      · omega
      · omega
      · rw [hf1, hg] at hx; cases hx rfl
      · omega
theorem put_up {f : Nat → Bool} {p : Nat} (q : Nat) (h : f q = true) : put1 f p q = true := by unfold put1; rw [h]; rfl
theorem put_at (f : Nat → Bool) (p : Nat) : put1 f p p = true := by unfold put1; simp
theorem put_inv {f : Nat → Bool} {p q : Nat} (h : put1 f p q = true) : f q = true ∨ q = p := by unfold put1 at h; simpa using h
theorem unm_put {n p : Nat} {f : Nat → Bool} (hf : f p = false) (hp : p < n) : unm n (put1 f p) < unm n f := filt_lt put_up hf (put_at f p) _ (List.mem_range.2 hp)
theorem unm_le (n : Nat) (f : Nat → Bool) : unm n f ≤ n := by
  have := List.length_filter_le (fun q => !f q) (List.range n)
  rw [List.length_range] at this
  exact this
/-! The code that stands. -/
structure CodeOk (D : List Sp) : Prop where
  len : D.length ≤ 20000
  tgt : ∀ (p : Nat) (s : Sp), D[p]? = some s → isStop s = false → s.nx < D.length ∧ s.ot < D.length
  lk : ∀ (p : Nat) (s : Sp), D[p]? = some s → s.lk = none ∨ ∃ tx n po d, s.lk = some (.leaf tx n po d) ∧ tx.length ≤ 100000
  nxt : ∀ (p : Nat) (s : Sp), D[p]? = some s → s.lk.isSome = true → p + 1 < D.length
structure Th (w0 : World) (b bm : Nat) (X : World) (f : Nat → Bool) (L : List Nat) (av : Value) (n : Nat) : Prop where
  bel : Below w0.heap.size w0 X
  blk : Blk X b 74 #[av, .map (some bm)]
  row : X.ownsRow w0.heap.size 3 1 av L.length (iv L)
  map : ∃ D : DataW Unit, X.ownsMap Try.prog 3 (plainElem Try.prog 3) bm n D ∧ Mk D f
  lb : w0.heap.size ≤ b
  lm : w0.heap.size ≤ bm
theorem cells_map {X : World} {b bm n : Nat} {t : TypeId} {cs : Array Value} {k : TypeId} {R : Value → Option (DataW Unit × List MemPlace)} {D : DataW Unit} (h : Blk X b t cs) (hm : X.ownsMap Try.prog k R bm n D) : b ≠ bm := by
  rintro rfl
  obtain ⟨es, clock, hb, _⟩ := hm
  have h1 : X.heap[b]? = some (.cells cs t (0, 0)) := h
  rw [h1] at hb
  cases hb
theorem row_map {X : World} {B s l bm n : Nat} {e : TypeId} {v : Value} {xs : List Value} {k : TypeId} {R : Value → Option (DataW Unit × List MemPlace)} {D : DataW Unit} (h : X.ownsRow B e s v l xs) (hm : X.ownsMap Try.prog k R bm n D) : v.ownBlock ≠ some bm := by
  intro hv
  obtain ⟨_, _, cur, hc⟩ := own_ty h hv
  obtain ⟨es, clock, hb, _⟩ := hm
  rw [hc] at hb
  cases hb
theorem row_blk {X : World} {B s l b : Nat} {e t : TypeId} {v : Value} {xs : List Value} {cs : Array Value} (h : X.ownsRow B e s v l xs) (hb : Blk X b t cs) (hne : e ≠ t) : v.ownBlock ≠ some b := by
  intro hv
  obtain ⟨_, _, cur, hc⟩ := own_ty h hv
  have h1 : X.heap[b]? = some (.cells cs t (0, 0)) := hb
  rw [hc] at h1
  cases h1
  exact hne rfl
theorem own_not {w w' : World} {B s n : Nat} {e : TypeId} {v : Value} {xs : List Value} {k : Nat} (h : w.ownsRow B e s v n xs) (hg : w.grownBy w' (some k)) (hr : v.ownBlock ≠ some k) : w'.ownsRow B e s v n xs := own_grown h hg (.inr hr)
section
variable {w0 X Y : World} {b bm n p : Nat} {f : Nat → Bool} {L : List Nat} {av v' : Value}
theorem bel_by {B k : Nat} (h : Below B w0 X) (hg : X.grownBy Y (some k)) (hk : B ≤ k) (hs : B ≤ X.heap.size) : Below B w0 Y := h.grown hg hs (fun z hz => by cases hz; exact hk)
theorem Th.mark (h : Th w0 b bm X f L av n) {D : DataW Unit} (hD : Mk D f) (hm : X.ownsMap Try.prog 3 (plainElem Try.prog 3) bm n D) (hm' : Y.ownsMap Try.prog 3 (plainElem Try.prog 3) bm (n + 1) (D.put (.int .i64 (p : Int)) (.lit (.int .i64 1)))) (hg : X.grownBy Y (some bm)) : Th w0 b bm Y (put1 f p) L av (n + 1) :=
  ⟨bel_by h.bel hg h.lm h.bel.size, h.blk.grown hg (fun e => cells_map h.blk hm (Option.some.inj e)), own_not h.row hg (row_map h.row hm), ⟨_, hm', mk_put hD p⟩, h.lb, h.lm⟩
theorem Th.app (h : Th w0 b bm X f L av n) {o : Obj} (hr : Y.ownsRow w0.heap.size 3 1 v' (L ++ [p]).length (iv (L ++ [p]))) (hk : Keeps (X.alloc o) av v' Y) : Th w0 b bm (Y.setCell ⟨b, 0, none⟩ v') f (L ++ [p]) v' n := by
  obtain ⟨D, hm, hD⟩ := h.map
  have hg : X.grownBy Y av.ownBlock := gtrans (World.grownBy_alloc X o _) hk.by
  have hbk : Blk Y b 74 #[av, .map (some bm)] := h.blk.grown hg (fun e => row_blk h.row h.blk (by decide) e.symm)
  have hbel : Below w0.heap.size w0 Y := h.bel.grown hg h.bel.size (fun z hz => (own_ty h.row hz).1)
  have hmY : Y.ownsMap Try.prog 3 (plainElem Try.prog 3) bm n D := hm.kept hg (fun e => row_map h.row hm e.symm)
  have hs := only_set Y b 0 v'
  exact ⟨bel_by hbel hs h.lb hbel.size, hbk.set_ 0 v', own_not hr hs (row_blk hr hbk (by decide)), ⟨D, hmY.kept hs (fun e => cells_map hbk hmY (Option.some.inj e).symm), hD⟩, h.lb, h.lm⟩
theorem Th.on (h : Th w0 b bm X f L av n) (hb : Below X.heap.size X Y) : Th w0 b bm Y f L av n := by
  obtain ⟨D, hm, hD⟩ := h.map
  refine ⟨bnx h.bel hb, h.blk.below hb h.blk.lt, own_below h.row hb (Nat.le_refl _), ⟨D, ?_, hD⟩, h.lb, h.lm⟩
  obtain ⟨es, clock, h1, h2⟩ := hm
  exact ⟨es, clock, (hb.block bm ((Array.getElem?_eq_some_iff.1 h1).1)).trans h1, h2⟩
end
end Go.Proofs.Ytlbkacabcfeaiaa.Tl
/- Patterns: a thread is followed: what is held, without the code. -/
namespace Go.Proofs.Ytlbkacabcfeaiaa.Tl
open Go.RowKit Mm
set_option linter.unusedVariables false
/-- nothing leads out of the set -/
def Clo (D : List Sp) (f : Nat → Bool) : Prop := ∀ x y, f x = true → ESt D x y → f y = true
/-- the row holds the stops of the set -/
structure Ms (D : List Sp) (f : Nat → Bool) (L : List Nat) (n : Nat) : Prop where
  clo : Clo D f
  st : ∀ y, y ∈ L ↔ f y = true ∧ ∃ s, D[y]? = some s ∧ isStop s = true
  bl : L.length + unm D.length f ≤ D.length
  bn : n + unm D.length f ≤ D.length
/-- on the way -/
structure Fp (D : List Sp) (f0 : Nat → Bool) (a0 : Nat) (f : Nat → Bool) (L S : List Nat) (n : Nat) (P : Nat → Prop) : Prop where
  up : ∀ x, f0 x = true → f x = true
  re : ∀ x, f x = true → f0 x = true ∨ Star (ESt D) a0 x
  cl : ∀ x y, f x = true → ESt D x y → f y = true ∨ P y
  at0 : f a0 = true ∨ P a0
  pr : ∀ y, P y → y < D.length ∧ Star (ESt D) a0 y
  st : ∀ y, y ∈ L ↔ f y = true ∧ ∃ s, D[y]? = some s ∧ isStop s = true
  bl : L.length + unm D.length f ≤ D.length
  bs : S.length + unm D.length f ≤ D.length
  bn : n + unm D.length f ≤ D.length
def Pd (l p : Nat) (S : List Nat) (y : Nat) : Prop := (l = 1 ∧ y = p) ∨ y ∈ S
theorem star_snoc {R : Nat → Nat → Prop} {a x y : Nat} (h : Star R a x) (g : R x y) : Star R a y := by
  induction h with
  | nil i => exact .cons i y y g (.nil y)
  | cons i m j h1 _ ih => exact .cons i m y h1 (ih g)
section
variable {D : List Sp} {f0 f : Nat → Bool} {a0 p n : Nat} {L S : List Nat} {s : Sp}
theorem fp_start (h : Ms D f0 L n) (ha : a0 < D.length) : Fp D f0 a0 f0 L [] n (Pd 1 a0 []) := by
  refine ⟨fun x h => h, fun x h => .inl h, fun x y h1 h2 => .inl (h.clo x y h1 h2), .inr (.inl ⟨rfl, rfl⟩), fun y hy => ?_, h.st, h.bl, ?_, h.bn⟩
  · rcases hy with ⟨_, rfl⟩ | hy
    · exact ⟨ha, .nil _⟩
    · cases hy
  · have := unm_le D.length f0
    rw [List.length_nil, Nat.zero_add]
    exact this
theorem fp_seen (h : Fp D f0 a0 f L S n (Pd 1 p S)) (hp : f p = true) : Fp D f0 a0 f L S n (Pd 0 p S) := by
  have hd : ∀ y, Pd 1 p S y → f y = true ∨ Pd 0 p S y := fun y hy => by
    rcases hy with ⟨_, rfl⟩ | hy
    · exact .inl hp
    · exact .inr (.inr hy)
  refine ⟨h.up, h.re, fun x y h1 h2 => ?_, ?_, fun y hy => h.pr y (.inr ?_), h.st, h.bl, h.bs, h.bn⟩
  · rcases h.cl x y h1 h2 with h3 | h3
    · exact .inl h3
    · exact hd y h3
  · rcases h.at0 with h3 | h3
    · exact .inl h3
    · exact hd a0 h3
  · rcases hy with ⟨h0, _⟩ | hy
    · cases h0
    · exact hy
theorem unm_one (hf : f p = false) (hp : p < D.length) : unm D.length (put1 f p) + 1 ≤ unm D.length f := unm_put hf hp
/-- an instruction is marked -/
theorem fp_mark (h : Fp D f0 a0 f L S n (Pd 1 p S)) (hf : f p = false) {L' S' : List Nat} {P : Nat → Prop} (hS : ∀ y, y ∈ S → P y) (hP : ∀ y, ESt D p y → P y) (hpr : ∀ y, P y → y ∈ S ∨ ESt D p y) (hlt : ∀ y, ESt D p y → y < D.length)
    (hst : ∀ y, y ∈ L' ↔ y ∈ L ∨ (y = p ∧ ∃ s, D[y]? = some s ∧ isStop s = true)) (hL : L'.length ≤ L.length + 1) (hSl : S'.length ≤ S.length + 1) : Fp D f0 a0 (put1 f p) L' S' (n + 1) P := by
  obtain ⟨hp, hsr⟩ := h.pr p (.inl ⟨rfl, rfl⟩)
  have hu := unm_one (D := D) hf hp
  have h1 := h.bl
  have h2 := h.bs
  have h3 := h.bn
  refine ⟨fun x hx => put_up x (h.up x hx), fun x hx => ?_, fun x y hx hy => ?_, ?_, fun y hy => ?_, fun y => ?_, by omega, by omega, by omega⟩
  · rcases put_inv hx with hx | rfl
    · exact h.re x hx
    · exact .inr hsr
  · rcases put_inv hx with hx | rfl
    · rcases h.cl x y hx hy with h4 | ⟨_, rfl⟩ | h4
      · exact .inl (put_up y h4)
      · exact .inl (put_at f y)
      · exact .inr (hS y h4)
    · exact .inr (hP y hy)
  · rcases h.at0 with h4 | ⟨_, rfl⟩ | h4
    · exact .inl (put_up a0 h4)
    · exact .inl (put_at f a0)
    · exact .inr (hS a0 h4)
  · rcases hpr y hy with h4 | h4
    · exact h.pr y (.inr h4)
    · exact ⟨hlt y h4, star_snoc hsr h4⟩
  · rw [hst, h.st]
    constructor
    · rintro (⟨h4, h5⟩ | ⟨rfl, h5⟩)
      · exact ⟨put_up y h4, h5⟩
      · exact ⟨put_at f y, h5⟩
    · rintro ⟨h4, h5⟩
      rcases put_inv h4 with h4 | rfl
      · exact .inl ⟨h4, h5⟩
      · exact .inr ⟨rfl, h5⟩
theorem est_of (hs : D[p]? = some s) {y : Nat} (h : ESt D p y) : isStop s = false ∧ (y = s.nx ∨ (0 < s.ot ∧ y = s.ot)) := by
  obtain ⟨s', h1, h2⟩ := h
  rw [hs] at h1
  cases h1
  exact h2
theorem fp_stop (h : Fp D f0 a0 f L S n (Pd 1 p S)) (hf : f p = false) (hs : D[p]? = some s) (hk : isStop s = true) : Fp D f0 a0 (put1 f p) (L ++ [p]) S (n + 1) (Pd 0 p S) := by
  have hno : ∀ y, ¬ ESt D p y := fun y hy => by have := (est_of hs hy).1; rw [hk] at this; cases this
  refine fp_mark h hf (fun y hy => .inr hy) (fun y hy => (hno y hy).elim) (fun y hy => ?_) (fun y hy => (hno y hy).elim) (fun y => ?_) (by simp) (by omega)
  · rcases hy with ⟨h0, _⟩ | hy
    · cases h0
    · exact .inl hy
  · rw [List.mem_append, List.mem_singleton]
    constructor
    · rintro (h1 | rfl)
      · exact .inl h1
      · exact .inr ⟨rfl, s, hs, hk⟩
    · rintro (h1 | ⟨h1, _⟩)
      · exact .inl h1
      · exact .inr h1
theorem fp_go (hD : CodeOk D) (h : Fp D f0 a0 f L S n (Pd 1 p S)) (hf : f p = false) (hs : D[p]? = some s) (hk : isStop s = false) (ho : ¬ 0 < s.ot) : Fp D f0 a0 (put1 f p) L S (n + 1) (Pd 1 s.nx S) := by
  have ht := hD.tgt p s hs hk
  refine fp_mark h hf (fun y hy => .inr hy) (fun y hy => ?_) (fun y hy => ?_) (fun y hy => ?_) (fun y => ?_) (by omega) (by omega)
  · rcases (est_of hs hy).2 with h1 | ⟨h1, _⟩
    · exact .inl ⟨rfl, h1⟩
    · exact absurd h1 ho
  · rcases hy with ⟨_, rfl⟩ | hy
    · exact .inr ⟨s, hs, hk, .inl rfl⟩
    · exact .inl hy
  · rcases (est_of hs hy).2 with rfl | ⟨_, rfl⟩
    · exact ht.1
    · exact ht.2
  · constructor
    · exact .inl
    · rintro (h1 | ⟨rfl, s', h1, h2⟩)
      · exact h1
      · rw [hs] at h1
        cases h1
        rw [hk] at h2
        cases h2
theorem fp_two (hD : CodeOk D) (h : Fp D f0 a0 f L S n (Pd 1 p S)) (hf : f p = false) (hs : D[p]? = some s) (hk : isStop s = false) (ho : 0 < s.ot) : Fp D f0 a0 (put1 f p) L (S ++ [s.ot]) (n + 1) (Pd 1 s.nx (S ++ [s.ot])) := by
  have ht := hD.tgt p s hs hk
  refine fp_mark h hf (fun y hy => .inr (List.mem_append_left _ hy)) (fun y hy => ?_) (fun y hy => ?_) (fun y hy => ?_) (fun y => ?_) (by omega) (by simp)
  · rcases (est_of hs hy).2 with h1 | ⟨_, rfl⟩
    · exact .inl ⟨rfl, h1⟩
    · exact .inr (by simp)
  · rcases hy with ⟨_, rfl⟩ | hy
    · exact .inr ⟨s, hs, hk, .inl rfl⟩
    · rcases List.mem_append.1 hy with hy | hy
      · exact .inl hy
      · rw [List.mem_singleton] at hy
        exact .inr ⟨s, hs, hk, .inr ⟨ho, hy⟩⟩
  · rcases (est_of hs hy).2 with rfl | ⟨_, rfl⟩
    · exact ht.1
    · exact ht.2
  · constructor
    · exact .inl
    · rintro (h1 | ⟨rfl, s', h1, h2⟩)
      · exact h1
      · rw [hs] at h1
        cases h1
        rw [hk] at h2
        cases h2
theorem fp_pop {q : Nat} (h : Fp D f0 a0 f L (S ++ [q]) n (Pd 0 p (S ++ [q]))) : Fp D f0 a0 f L S n (Pd 1 q S) := by
  have hb := h.bs
  rw [List.length_append] at hb
  have hpd : ∀ y, Pd 0 p (S ++ [q]) y ↔ Pd 1 q S y := fun y => by
    unfold Pd
    rw [List.mem_append, List.mem_singleton]
    constructor
    · rintro (⟨h0, _⟩ | h1 | h1)
      · cases h0
      · exact .inr h1
      · exact .inl ⟨rfl, h1⟩
    · rintro (⟨_, h1⟩ | h1)
      · exact .inr (.inr h1)
      · exact .inr (.inl h1)
  exact ⟨h.up, h.re, fun x y h1 h2 => (h.cl x y h1 h2).imp id (hpd y).1, h.at0.imp id (hpd a0).1, fun y hy => h.pr y ((hpd y).2 hy), h.st, h.bl, by omega, h.bn⟩
theorem fp_end (h : Fp D f0 a0 f L [] n (Pd 0 p [])) : Ms D f L n ∧ (∀ x, f0 x = true → f x = true) ∧ f a0 = true ∧ ∀ x, f x = true → f0 x = true ∨ Star (ESt D) a0 x := by
  have hno : ∀ y, ¬ Pd 0 p [] y := fun y hy => by
    rcases hy with ⟨h0, _⟩ | h0
    · cases h0
    · cases h0
  exact ⟨⟨fun x y h1 h2 => (h.cl x y h1 h2).resolve_right (hno y), h.st, h.bl, h.bn⟩, h.up, h.at0.resolve_right (hno a0), h.re⟩
end
/-! What other blocks see of it. -/
structure Fo (W : World) (b bm : Nat) (av0 : Value) (X : World) (av : Value) : Prop where
  sz : W.heap.size ≤ X.heap.size
  same : ∀ k, k < W.heap.size → k ≠ b → k ≠ bm → av0.ownBlock ≠ some k → X.heap[k]? = W.heap[k]?
  avb : ∀ k, av.ownBlock = some k → av0.ownBlock = some k ∨ W.heap.size ≤ k
section
variable {W X Y : World} {b bm : Nat} {av0 av av' : Value}
theorem Fo.start (W : World) (b bm : Nat) (av0 : Value) : Fo W b bm av0 W av0 := ⟨Nat.le_refl _, fun _ _ _ _ _ => rfl, fun k h => .inl h⟩
theorem Fo.step (h : Fo W b bm av0 X av) {row : Option Nat} (hg : X.grownBy Y row) (hr : ∀ k, row = some k → k = b ∨ k = bm ∨ av0.ownBlock = some k ∨ W.heap.size ≤ k) : Fo W b bm av0 Y av := by
  refine ⟨Nat.le_trans h.sz hg.size, fun k h1 h2 h3 h4 => ?_, h.avb⟩
  rw [hg.block k (Nat.lt_of_lt_of_le h1 h.sz) ?_]
  · exact h.same k h1 h2 h3 h4
  · intro e
    rcases hr k e.symm with h5 | h5 | h5 | h5
    · exact h2 h5
    · exact h3 h5
    · exact h4 h5
    · omega
theorem Fo.app (h : Fo W b bm av0 X av) {o : Obj} (hk : Keeps (X.alloc o) av av' Y) : Fo W b bm av0 Y av' := by
  have h1 := h.step (gtrans (World.grownBy_alloc X o _) hk.by) (fun k hk => by
    rcases h.avb k hk with h2 | h2
    · exact .inr (.inr (.inl h2))
    · exact .inr (.inr (.inr h2)))
  refine ⟨h1.sz, h1.same, fun k hk2 => ?_⟩
  rcases hk with hk | hk
  · exact h.avb k (by rw [← hk.1]; exact hk2)
  · rw [hk.1] at hk2
    cases hk2
    have := h.sz
    simp only [World.size_alloc]
    exact .inr (by omega)
theorem Fo.blk (h : Fo W b bm av0 X av) {k : Nat} {t : TypeId} {cs : Array Value} (hb : Blk W k t cs) (h1 : k ≠ b) (h2 : k ≠ bm) (h3 : av0.ownBlock ≠ some k) : Blk X k t cs := (h.same k hb.lt h1 h2 h3).trans hb
end
end Go.Proofs.Ytlbkacabcfeaiaa.Tl
/- Patterns: the program follows a thread. -/
namespace Go.Proofs.Ytlbkacabcfeaiaa.Tl
open Go.RowKit Mm
open Go.Maps (Keyed)
set_option linter.unusedVariables false
/-- the code of a pattern, in memory -/
structure Cod (w0 : World) (g gc cc : Nat) (z : ByteArray) (D : List Sp) : Prop where
  blk : Blk w0 g 61 #[.string z, .slice (some ⟨gc, 0, none⟩) D.length cc]
  lt : gc < w0.heap.size
  get : ∀ (p : Nat) (s : Sp), D[p]? = some s → w0.cell? ⟨gc, p * 4, none⟩ = some (lkV s.lk) ∧ w0.cell? ⟨gc, p * 4 + 1, none⟩ = some (.int .i64 (s.nx : Int)) ∧ w0.cell? ⟨gc, p * 4 + 2, none⟩ = some (.int .i64 (s.ot : Int)) ∧ w0.cell? ⟨gc, p * 4 + 3, none⟩ = some (.bool s.dn)
theorem Cod.at {w0 X : World} {g gc cc p : Nat} {z : ByteArray} {D : List Sp} {s : Sp} (h : Cod w0 g gc cc z D) (hb : Below w0.heap.size w0 X) (hs : D[p]? = some s) :
    X.cell? ⟨g, 1, none⟩ = some (.slice (some ⟨gc, 0, none⟩) D.length cc) ∧ X.cell? ⟨gc, p * 4, none⟩ = some (lkV s.lk) ∧ X.cell? ⟨gc, p * 4 + 1, none⟩ = some (.int .i64 (s.nx : Int)) ∧ X.cell? ⟨gc, p * 4 + 2, none⟩ = some (.int .i64 (s.ot : Int)) ∧ X.cell? ⟨gc, p * 4 + 3, none⟩ = some (.bool s.dn) := by
  obtain ⟨h1, h2, h3, h4⟩ := h.get p s hs
  exact ⟨(Below.cell hb (p := ⟨g, 1, none⟩) h.blk.lt).trans (h.blk.cell 1), (Below.cell hb (p := ⟨gc, p * 4, none⟩) h.lt).trans h1, (Below.cell hb (p := ⟨gc, p * 4 + 1, none⟩) h.lt).trans h2, (Below.cell hb (p := ⟨gc, p * 4 + 2, none⟩) h.lt).trans h3, (Below.cell hb (p := ⟨gc, p * 4 + 3, none⟩) h.lt).trans h4⟩
/-- what a call stands in -/
structure FCtx where
  D : List Sp
  w0 : World
  W : World
  g : Nat
  gc : Nat
  cc : Nat
  z : ByteArray
  b : Nat
  bm : Nat
  av0 : Value
  f0 : Nat → Bool
  a0 : Nat
structure FOk (c : FCtx) : Prop where
  code : CodeOk c.D
  cod : Cod c.w0 c.g c.gc c.cc c.z c.D
  w : c.w0.heap.size ≤ c.W.heap.size
  b : c.b < c.W.heap.size
  m : c.bm < c.W.heap.size
structure FdS (c : FCtx) (X : World) (f : Nat → Bool) (L S : List Nat) (av lv : Value) (m : Nat) : Prop where
  th : Th c.w0 c.b c.bm X f L av m
  fo : Fo c.W c.b c.bm c.av0 X av
  lr : X.ownsRow c.W.heap.size 3 1 lv S.length (iv S)
  ap : Apart av lv
section
variable {c : FCtx} {X Y : World} {f : Nat → Bool} {L S : List Nat} {av lv v' : Value} {m p : Nat}
theorem FdS.mark (h : FdS c X f L S av lv m) {D : DataW Unit} (hD : Mk D f) (hm : X.ownsMap Try.prog 3 (plainElem Try.prog 3) c.bm m D) (hm' : Y.ownsMap Try.prog 3 (plainElem Try.prog 3) c.bm (m + 1) (D.put (.int .i64 (p : Int)) (.lit (.int .i64 1)))) (hg : X.grownBy Y (some c.bm)) : FdS c Y (put1 f p) L S av lv (m + 1) :=
  ⟨h.th.mark hD hm hm' hg, h.fo.step hg (fun k hk => by cases hk; exact .inr (.inl rfl)), own_not h.lr hg (row_map h.lr hm), h.ap⟩
theorem FdS.push (hk0 : FOk c) (h : FdS c X f L S av lv m) {o : Obj} (hr : Y.ownsRow c.w0.heap.size 3 1 v' (L ++ [p]).length (iv (L ++ [p]))) (hk : Keeps (X.alloc o) av v' Y) : FdS c (Y.setCell ⟨c.b, 0, none⟩ v') f (L ++ [p]) S v' lv m := by
  have hl : Y.ownsRow c.W.heap.size 3 1 lv S.length (iv S) := own_keeps (h.lr.alloc o) hk h.ap.symm
  have hb : Blk Y c.b 74 #[av, .map (some c.bm)] := h.th.blk.grown (gtrans (World.grownBy_alloc X o _) hk.by) (fun e => row_blk h.th.row h.th.blk (by decide) e.symm)
  exact ⟨h.th.app hr hk, (h.fo.app hk).step (only_set Y c.b 0 v') (fun k hk => by cases hk; exact .inl rfl), own_not hl (only_set Y c.b 0 v') (row_blk hl hb (by decide)), (Apart.keeps (h.lr.alloc o) hk h.ap.symm).symm⟩
theorem FdS.later (hk0 : FOk c) (h : FdS c X f L S av lv m) {o : Obj} {lv' : Value} {q : Nat} (hr : Y.ownsRow c.W.heap.size 3 1 lv' (S ++ [q]).length (iv (S ++ [q]))) (hk : Keeps (X.alloc o) lv lv' Y) : FdS c Y f L (S ++ [q]) av lv' m := by
  have hg : X.grownBy Y lv.ownBlock := gtrans (World.grownBy_alloc X o _) hk.by
  obtain ⟨D, hm, hD⟩ := h.th.map
  have h0 := hk0.w
  exact ⟨⟨h.th.bel.grown hg h.th.bel.size (fun z hz => Nat.le_trans h0 (own_ty h.lr hz).1), h.th.blk.grown hg (fun e => row_blk h.lr h.th.blk (by decide) e.symm), own_keeps (h.th.row.alloc o) hk h.ap, ⟨D, hm.kept hg (fun e => row_map h.lr hm e.symm), hD⟩, h.th.lb, h.th.lm⟩,
    h.fo.step hg (fun k hk => .inr (.inr (.inr (own_ty h.lr hk).1))), hr, Apart.keeps (h.th.row.alloc o) hk h.ap⟩
theorem FdS.pop {a : Option Addr} {cap q : Nat} (h : FdS c X f L (S ++ [q]) av (.slice a (S ++ [q]).length cap) m) : FdS c X f L S av (.slice a S.length cap) m := by
  have h1 := own_fewer h.lr (k := S.length) (by simp) (by simp)
  have e : (iv (S ++ [q])).take (S.length * 1) = iv S := by simp [iv]
  rw [e] at h1
  refine ⟨h.th, h.fo, h1, ?_⟩
  have h2 := h.ap
  cases a <;> exact h2
end
noncomputable def folC : Code := match Try.f22.body with
  | some (.scope c) => c
  | _ => .skip
def JF (c : FCtx) (n l : Nat) (a : Act) (X : World) : Prop :=
  ∃ (u3 u4 u5 lv av : Value) (us : List Value) (p : Nat) (f : Nat → Bool) (L S : List Nat) (m : Nat), us.length = 83 ∧ a = ⟨(.pointer (some ⟨c.g, 0, none⟩) :: .pointer (some ⟨c.b, 0, none⟩) :: .int .i64 (p : Int) :: u3 :: u4 :: u5 :: lv :: us).toArray, []⟩ ∧
    FdS c X f L S av lv m ∧ Fp c.D c.f0 c.a0 f L S m (Pd l p S) ∧ n = 4 * unm c.D.length f + 2 * S.length + (if l = 1 then 1 else 0)
def FPost (c : FCtx) (e : Ending) (X : World) : Prop := e = .returned (.tuple #[]) ∧ ∃ f L av m, Th c.w0 c.b c.bm X f L av m ∧ Ms c.D f L m ∧ Fo c.W c.b c.bm c.av0 X av ∧ (∀ x, c.f0 x = true → f x = true) ∧ f c.a0 = true ∧ ∀ x, f x = true → c.f0 x = true ∨ Star (ESt c.D) c.a0 x
def FQ (c : FCtx) (n : Nat) : Exit → Act → World → Prop := jumps folC (fun l' a' X' => ∃ m, m < n ∧ JF c m l' a' X') (bodyPost Try.prog Try.f22 (FPost c))
theorem FQ.go {c : FCtx} {X : World} {n l p m : Nat} {u3 u4 u5 lv av : Value} {us : List Value} {f : Nat → Bool} {L S : List Nat} (hl : us.length = 83) (hf : ∃ r, findLabel folC l = some r) (h : FdS c X f L S av lv m) (hp : Fp c.D c.f0 c.a0 f L S m (Pd l p S)) (hn : 4 * unm c.D.length f + 2 * S.length + (if l = 1 then 1 else 0) < n) :
    FQ c n (.goto l) ⟨(.pointer (some ⟨c.g, 0, none⟩) :: .pointer (some ⟨c.b, 0, none⟩) :: .int .i64 (p : Int) :: u3 :: u4 :: u5 :: lv :: us).toArray, []⟩ X :=
  ⟨hf, _, hn, u3, u4, u5, lv, av, us, p, f, L, S, m, hl, rfl, h, hp, rfl⟩
end Go.Proofs.Ytlbkacabcfeaiaa.Tl
/- Patterns: the program follows a thread: the walk. Printed by mkfol.py. -/
namespace Go.Proofs.Ytlbkacabcfeaiaa.Tl
open Go.RowKit Mm
open Go.Maps (Keyed)
set_option linter.unusedVariables false
theorem bn_nil (w : World) : (binOp .neq 34 .nilFunc .nilFunc).run Try.prog w = .ok (.bool false) w := by kernel_rfl
theorem bn_fun (w : World) (f : Fn) (l h : Array Value) : (binOp .neq 34 (.func f l h) .nilFunc).run Try.prog w = .ok (.bool true) w := by kernel_rfl
/-- what a store of the grown row finds -/
theorem fs_store {c : FCtx} {X Y : World} {f : Nat → Bool} {L S : List Nat} {av lv v' : Value} {m : Nat} {o : Obj} (h : FdS c X f L S av lv m) (hk : Keeps (X.alloc o) av v' Y) : Y.cell? ⟨c.b, 0, none⟩ = some av ∧ Y.frozen? ⟨c.b, 0, none⟩ = false := by
  have hb : Blk Y c.b 74 #[av, .map (some c.bm)] := h.th.blk.grown (gtrans (World.grownBy_alloc X o _) hk.by) (fun e => row_blk h.th.row h.th.blk (by decide) e.symm)
  exact ⟨hb.cell 0, hb.frozen 0⟩
set_option maxRecDepth 100000 in
set_option maxHeartbeats 8000000 in
theorem fpass1b {c : FCtx} (hc : FOk c) {n : Nat} (a : Act) (X : World) (hJ : JF c n 1 a X) (rest : Code) (hr : findLabel folC 1 = some (.seq .skip rest)) : rest.wp Try.prog (FQ c n) a X := by
  obtain ⟨u3, u4, u5, lv, av, us, p, f, L, S, m, hl, rfl, hfs, hfp, hn⟩ := hJ
  obtain ⟨u7, u8, u9, u10, u11, u12, u13, u14, u15, u16, u17, u18, u19, u20, u21, u22, t23, rfl, h23⟩ := list16 hl
  obtain ⟨u23, u24, u25, u26, u27, u28, u29, u30, u31, u32, u33, u34, u35, u36, u37, u38, t39, rfl, h39⟩ := list16 h23
  obtain ⟨u39, u40, u41, u42, u43, u44, u45, u46, u47, u48, u49, u50, u51, u52, u53, u54, t55, rfl, h55⟩ := list16 h39
  obtain ⟨u55, u56, u57, u58, u59, u60, u61, u62, u63, u64, u65, u66, u67, u68, u69, u70, t71, rfl, h71⟩ := list16 h55
  obtain ⟨u71, u72, u73, u74, u75, u76, u77, u78, u79, u80, u81, u82, u83, u84, u85, u86, t87, rfl, h87⟩ := list16 h71
  obtain ⟨u87, t88, rfl, h88⟩ := cons_len h87
  obtain ⟨u88, t89, rfl, h89⟩ := cons_len h88
  obtain ⟨u89, t90, rfl, h90⟩ := cons_len h89
  obtain rfl := nil_len h90
  obtain rfl := (Code.seq.inj (Option.some.inj (hr.symm.trans (rfl : findLabel folC 1 = some (.seq .skip _))))).2
  obtain ⟨D, w0, W, g, gc, cc, z, b, bm, av0, f0, a0⟩ := c
  obtain ⟨hp, _⟩ := hfp.pr p (.inl ⟨rfl, rfl⟩)
  obtain ⟨s, hs⟩ : ∃ s, D[p]? = some s := ⟨_, List.getElem?_eq_getElem hp⟩
  obtain ⟨Dm, hm, hD⟩ := hfs.th.map
  have hlen := hc.code.len
  rw [if_pos rfl] at hn
  dsimp only at hp hm hD hlen hn
  obtain ⟨q1, q2, q3, q4, q5⟩ := hc.cod.at hfs.th.bel hs
  have b0 := hfs.th.blk.cell 0
  have b1 := hfs.th.blk.cell 1
  dsimp only at q1 q2 q3 q4 q5 b0 b1
  have hat0 := hD.2 p
  have hkey := Maps.keyOf_int_mk (P := Try.prog) (k := 3) Try.underlying3 (key_ok (q := p) (by omega))
  have HM := Lib.hid hm
  have HD := Lib.hid hD
  have HC := Lib.hid hc
  have HFS := Lib.hid hfs
  have HFP := Lib.hid hfp
  have HNM := Lib.hid hn
  obtain ⟨aL, cL, hav⟩ := own_len hfs.th.row
  obtain ⟨aS, cS, hlv⟩ := own_len hfs.lr
  subst hav hlv
  have hpI : (0 : Int) ≤ (p : Int) := by omega
  have hpD : (p : Int) < (D.length : Int) := by omega
  have hpw : IntKind.i64.wrap (p : Int) = (p : Int) := IntWalk.i64_in _ (by omega)
  have hmb := hfp.bn
  dsimp only at hmb
  have hmx : m < maxLen := by simp only [maxLen]; omega
  have hLb : L.length ≤ 100000 := by have := hfp.bl; dsimp only at this; omega
  have hSb : S.length ≤ 100000 := by have := hfp.bs; dsimp only at this; omega
  have HST := Lib.hid (fun (Y Z : World) (v' : Value) (o : Obj) (h : FdS ⟨D, w0, W, g, gc, cc, z, b, bm, av0, f0, a0⟩ Y (put1 f p) L S (.slice aL L.length cL) (.slice aS S.length cS) (m + 1)) (hk : Keeps (Y.alloc o) (.slice aL L.length cL) v' Z) => fs_store h hk)
  have HLA := Lib.hid (fun (Y Z : World) (v' : Value) (o : Obj) (h : FdS ⟨D, w0, W, g, gc, cc, z, b, bm, av0, f0, a0⟩ Y (put1 f p) L S (.slice aL L.length cL) (.slice aS S.length cS) (m + 1)) (hr : Z.ownsRow W.heap.size 3 1 v' (S ++ [s.ot]).length (iv (S ++ [s.ot]))) (hk : Keeps (Y.alloc o) (.slice aS S.length cS) v' Z) => (show Hid (FdS ⟨D, w0, W, g, gc, cc, z, b, bm, av0, f0, a0⟩ Z (put1 f p) L (S ++ [s.ot]) (.slice aL L.length cL) v' (m + 1)) ∧ Z.cell? ⟨g, 1, none⟩ = some (.slice (some ⟨gc, 0, none⟩) D.length cc) ∧ Z.cell? ⟨gc, p * 4, none⟩ = some (lkV s.lk) ∧ Z.cell? ⟨gc, p * 4 + 1, none⟩ = some (.int .i64 (s.nx : Int)) ∧ Z.cell? ⟨gc, p * 4 + 2, none⟩ = some (.int .i64 (s.ot : Int)) ∧ Z.cell? ⟨gc, p * 4 + 3, none⟩ = some (.bool s.dn) from by
    have h2 := FdS.later HC.out h hr hk
    exact ⟨Lib.hid h2, HC.out.cod.at h2.th.bel hs⟩))
  clear hr hl hfs hfp hn hm hD hmb hlen h23 h39 h55 h71 h87 h88 h89 h90 q1 q2 q3 q4 q5
  cases hfq : f p with
  | true =>
    rw [hfq, if_pos rfl] at hat0
    have HSE := Lib.hid (fp_seen HFP.out hfq)
    clear HST HLA hc hs
    go_wp2_with (first | (at_lookup; refine wpList_lookup_own_int _ rfl _ _ 71 rfl 3 3 .i64 int_law Try.underlying71 Try.underlying3 (zero_int _) bm m Dm rfl HM.out _ _ rfl hkey ?_; intro cc0 hat hwc; obtain rfl : cc0 = 1 := (by rw [hat0] at hat; cases hat; rfl); clear hat hwc) | go_in)
    go_step3
    exact FQ.go (c := ⟨D, w0, W, g, gc, cc, z, b, bm, av0, f0, a0⟩) (l := 0) (p := p) rfl ⟨_, rfl⟩ HFS.out HSE.out (by have := HNM.out; simp; omega)
  | false =>
    rw [hfq, if_neg (by decide)] at hat0
    have hu := unm_one (D := D) hfq hp
    have HU := Lib.hid hu
    clear hu
    rcases hc.code.lk p s hs with hlk | ⟨tx, nn, po, d, hlk, _⟩
    · have HN := Lib.hid (show ∀ w1 : World, w1.ownsMap Try.prog 3 (plainElem Try.prog 3) bm (m + 1) (Dm.put (.int .i64 (p : Int)) (.lit (.int .i64 1))) → X.grownBy w1 (some bm) → Hid (FdS ⟨D, w0, W, g, gc, cc, z, b, bm, av0, f0, a0⟩ w1 (put1 f p) L S (.slice aL L.length cL) (.slice aS S.length cS) (m + 1)) ∧ w1.cell? ⟨g, 1, none⟩ = some (.slice (some ⟨gc, 0, none⟩) D.length cc) ∧ w1.cell? ⟨gc, p * 4, none⟩ = some (.nilFunc) ∧ w1.cell? ⟨gc, p * 4 + 1, none⟩ = some (.int .i64 (s.nx : Int)) ∧ w1.cell? ⟨gc, p * 4 + 2, none⟩ = some (.int .i64 (s.ot : Int)) ∧ w1.cell? ⟨gc, p * 4 + 3, none⟩ = some (.bool s.dn) ∧ w1.cell? ⟨b, 0, none⟩ = some (.slice aL L.length cL) from fun w1 hm1 hg1 => by
      have h := HFS.out.mark HD.out HM.out hm1 hg1
      obtain ⟨e1, e2, e3, e4, e5⟩ := HC.out.cod.at h.th.bel hs
      rw [hlk] at e2
      exact ⟨Lib.hid h, e1, e2, e3, e4, e5, h.th.blk.cell 0⟩)
      cases hdn : s.dn with
      | true =>
        rw [hdn] at HN
        have HGO := Lib.hid (fp_stop HFP.out hfq hs (by unfold isStop; rw [hdn, Bool.or_true]))
        clear HLA hc hs
        go_wp2_with (first | (at_lookup; refine wpList_lookup_own_int _ rfl _ _ 71 rfl 3 3 .i64 int_law Try.underlying71 Try.underlying3 (zero_int _) bm m Dm rfl HM.out _ _ rfl hkey ?_; intro cc0 hat hwc; obtain rfl : cc0 = 0 := (by rw [hat0] at hat; cases hat; rfl); clear hat hwc) | (at_mapUpdate; refine wpList_mapUpdate_own _ rfl _ _ _ 71 rfl 3 3 int_law Try.underlying71 (plainElem Try.prog 3) bm m Dm rfl HM.out hmx _ _ (.int .i64 (p : Int)) rfl rfl hkey (.lit (.int .i64 1)) [] (plainElem_int Try.underlying3 (by decide)) ?_; intro w1 hm1 hg1; obtain ⟨HF1, r0, r1, r2, r3, r4, r5⟩ := HN.out w1 hm1 hg1; have hbn := bn_nil w1; clear b0 b1) | (at_builtin; refine app_int (k := p) rfl HF1.out.th.row rfl rfl rfl rfl (by rfl) hLb HF1.out.th.bel.size ?_; intro v' w2 hr2 hk2; obtain ⟨av2, cv2, rfl⟩ := own_len hr2; obtain ⟨s0, s1⟩ := HST.out _ _ _ _ HF1.out hk2; dsimp only at s0 s1) | go_in)
        go_step3
        have HP := FdS.push HC.out HF1.out hr2 hk2
        rw [show (L ++ [p]).length = L.length + 1 from by simp] at HP
        exact FQ.go (c := ⟨D, w0, W, g, gc, cc, z, b, bm, av0, f0, a0⟩) (l := 0) (p := p) rfl ⟨_, rfl⟩ HP HGO.out (by have := HNM.out; have := HU.out; simp; omega)
      | false =>
        have hst : isStop s = false := by unfold isStop; rw [hdn, hlk]; rfl
        obtain ⟨ht1, ht2⟩ := hc.code.tgt p s hs hst
        have hlen := hc.code.len
        dsimp only at ht1 ht2 hlen
        rw [hdn] at HN HLA
        have hnxw : IntKind.i64.wrap (s.nx : Int) = (s.nx : Int) := IntWalk.i64_in _ (by omega)
        by_cases ho : 0 < s.ot
        · have hoI : (0 : Int) < (s.ot : Int) := by omega
          have HGO := Lib.hid (fp_two HC.out.code HFP.out hfq hs hst ho)
          clear hc hs hlen
          go_wp2_with (first | (at_lookup; refine wpList_lookup_own_int _ rfl _ _ 71 rfl 3 3 .i64 int_law Try.underlying71 Try.underlying3 (zero_int _) bm m Dm rfl HM.out _ _ rfl hkey ?_; intro cc0 hat hwc; obtain rfl : cc0 = 0 := (by rw [hat0] at hat; cases hat; rfl); clear hat hwc) | (at_mapUpdate; refine wpList_mapUpdate_own _ rfl _ _ _ 71 rfl 3 3 int_law Try.underlying71 (plainElem Try.prog 3) bm m Dm rfl HM.out hmx _ _ (.int .i64 (p : Int)) rfl rfl hkey (.lit (.int .i64 1)) [] (plainElem_int Try.underlying3 (by decide)) ?_; intro w1 hm1 hg1; obtain ⟨HF1, r0, r1, r2, r3, r4, r5⟩ := HN.out w1 hm1 hg1; have hbn := bn_nil w1; clear b0 b1) | (at_builtin; refine app_int (k := s.ot) rfl HF1.out.lr rfl rfl rfl rfl (by rfl) hSb HF1.out.fo.sz ?_; intro v' w2 hr2 hk2; obtain ⟨av2, cv2, rfl⟩ := own_len hr2; obtain ⟨HL, e1, e2, e3, e4, e5⟩ := HLA.out _ _ _ _ HF1.out hr2 hk2) | go_in)
          go_step3
          have HP := HL.out
          rw [show (S ++ [s.ot]).length = S.length + 1 from by simp] at HP
          exact FQ.go (c := ⟨D, w0, W, g, gc, cc, z, b, bm, av0, f0, a0⟩) (l := 1) (p := s.nx) rfl ⟨_, rfl⟩ HP HGO.out (by have := HNM.out; have := HU.out; simp; omega)
        · have hoI : ¬ (0 : Int) < (s.ot : Int) := by omega
          have HGO := Lib.hid (fp_go HC.out.code HFP.out hfq hs hst ho)
          clear hc hs hlen HLA
          go_wp2_with (first | (at_lookup; refine wpList_lookup_own_int _ rfl _ _ 71 rfl 3 3 .i64 int_law Try.underlying71 Try.underlying3 (zero_int _) bm m Dm rfl HM.out _ _ rfl hkey ?_; intro cc0 hat hwc; obtain rfl : cc0 = 0 := (by rw [hat0] at hat; cases hat; rfl); clear hat hwc) | (at_mapUpdate; refine wpList_mapUpdate_own _ rfl _ _ _ 71 rfl 3 3 int_law Try.underlying71 (plainElem Try.prog 3) bm m Dm rfl HM.out hmx _ _ (.int .i64 (p : Int)) rfl rfl hkey (.lit (.int .i64 1)) [] (plainElem_int Try.underlying3 (by decide)) ?_; intro w1 hm1 hg1; obtain ⟨HF1, r0, r1, r2, r3, r4, r5⟩ := HN.out w1 hm1 hg1; have hbn := bn_nil w1; clear b0 b1) | go_in)
          go_step3
          exact FQ.go (c := ⟨D, w0, W, g, gc, cc, z, b, bm, av0, f0, a0⟩) (l := 1) (p := s.nx) rfl ⟨_, rfl⟩ HF1.out HGO.out (by have := HNM.out; have := HU.out; simp; omega)
    · have HN := Lib.hid (show ∀ w1 : World, w1.ownsMap Try.prog 3 (plainElem Try.prog 3) bm (m + 1) (Dm.put (.int .i64 (p : Int)) (.lit (.int .i64 1))) → X.grownBy w1 (some bm) → Hid (FdS ⟨D, w0, W, g, gc, cc, z, b, bm, av0, f0, a0⟩ w1 (put1 f p) L S (.slice aL L.length cL) (.slice aS S.length cS) (m + 1)) ∧ w1.cell? ⟨g, 1, none⟩ = some (.slice (some ⟨gc, 0, none⟩) D.length cc) ∧ w1.cell? ⟨gc, p * 4, none⟩ = some (.func (.func 72) #[.agg #[.string (str tx), .bool nn, .bool po, .bool d]] #[]) ∧ w1.cell? ⟨gc, p * 4 + 1, none⟩ = some (.int .i64 (s.nx : Int)) ∧ w1.cell? ⟨gc, p * 4 + 2, none⟩ = some (.int .i64 (s.ot : Int)) ∧ w1.cell? ⟨gc, p * 4 + 3, none⟩ = some (.bool s.dn) ∧ w1.cell? ⟨b, 0, none⟩ = some (.slice aL L.length cL) from fun w1 hm1 hg1 => by
      have h := HFS.out.mark HD.out HM.out hm1 hg1
      obtain ⟨e1, e2, e3, e4, e5⟩ := HC.out.cod.at h.th.bel hs
      rw [hlk] at e2
      exact ⟨Lib.hid h, e1, e2, e3, e4, e5, h.th.blk.cell 0⟩)
      have HGO := Lib.hid (fp_stop HFP.out hfq hs (by unfold isStop; rw [hlk]; rfl))
      clear HLA hc hs
      go_wp2_with (first | (at_lookup; refine wpList_lookup_own_int _ rfl _ _ 71 rfl 3 3 .i64 int_law Try.underlying71 Try.underlying3 (zero_int _) bm m Dm rfl HM.out _ _ rfl hkey ?_; intro cc0 hat hwc; obtain rfl : cc0 = 0 := (by rw [hat0] at hat; cases hat; rfl); clear hat hwc) | (at_mapUpdate; refine wpList_mapUpdate_own _ rfl _ _ _ 71 rfl 3 3 int_law Try.underlying71 (plainElem Try.prog 3) bm m Dm rfl HM.out hmx _ _ (.int .i64 (p : Int)) rfl rfl hkey (.lit (.int .i64 1)) [] (plainElem_int Try.underlying3 (by decide)) ?_; intro w1 hm1 hg1; obtain ⟨HF1, r0, r1, r2, r3, r4, r5⟩ := HN.out w1 hm1 hg1; have hbn := bn_fun w1 (.func 72) #[.agg #[.string (str tx), .bool nn, .bool po, .bool d]] #[]; clear b0 b1) | (at_builtin; refine app_int (k := p) rfl HF1.out.th.row rfl rfl rfl rfl (by rfl) hLb HF1.out.th.bel.size ?_; intro v' w2 hr2 hk2; obtain ⟨av2, cv2, rfl⟩ := own_len hr2; obtain ⟨s0, s1⟩ := HST.out _ _ _ _ HF1.out hk2; dsimp only at s0 s1) | go_in)
      go_step3
      have HP := FdS.push HC.out HF1.out hr2 hk2
      rw [show (L ++ [p]).length = L.length + 1 from by simp] at HP
      exact FQ.go (c := ⟨D, w0, W, g, gc, cc, z, b, bm, av0, f0, a0⟩) (l := 0) (p := p) rfl ⟨_, rfl⟩ HP HGO.out (by have := HNM.out; have := HU.out; simp; omega)
end Go.Proofs.Ytlbkacabcfeaiaa.Tl
/- Patterns: the program follows a thread: the walk. Printed by mkfol.py. -/
namespace Go.Proofs.Ytlbkacabcfeaiaa.Tl
open Go.RowKit Mm
open Go.Maps (Keyed)
set_option linter.unusedVariables false
set_option maxRecDepth 100000 in
set_option maxHeartbeats 8000000 in
theorem fpass0 {c : FCtx} (hc : FOk c) {n : Nat} (a : Act) (X : World) (hJ : JF c n 0 a X) (rest : Code) (hr : findLabel folC 0 = some rest) : rest.wp Try.prog (FQ c n) a X := by
  obtain ⟨u3, u4, u5, lv, av, us, p, f, L, S, m, hl, rfl, hfs, hfp, hn⟩ := hJ
  obtain ⟨u7, u8, u9, u10, u11, u12, u13, u14, u15, u16, u17, u18, u19, u20, u21, u22, t23, rfl, h23⟩ := list16 hl
  obtain ⟨u23, u24, u25, u26, u27, u28, u29, u30, u31, u32, u33, u34, u35, u36, u37, u38, t39, rfl, h39⟩ := list16 h23
  obtain ⟨u39, u40, u41, u42, u43, u44, u45, u46, u47, u48, u49, u50, u51, u52, u53, u54, t55, rfl, h55⟩ := list16 h39
  obtain ⟨u55, u56, u57, u58, u59, u60, u61, u62, u63, u64, u65, u66, u67, u68, u69, u70, t71, rfl, h71⟩ := list16 h55
  obtain ⟨u71, u72, u73, u74, u75, u76, u77, u78, u79, u80, u81, u82, u83, u84, u85, u86, t87, rfl, h87⟩ := list16 h71
  obtain ⟨u87, t88, rfl, h88⟩ := cons_len h87
  obtain ⟨u88, t89, rfl, h89⟩ := cons_len h88
  obtain ⟨u89, t90, rfl, h90⟩ := cons_len h89
  obtain rfl := nil_len h90
  obtain rfl := Option.some.inj (hr.symm.trans (rfl : findLabel folC 0 = some _))
  obtain ⟨D, w0, W, g, gc, cc, z, b, bm, av0, f0, a0⟩ := c
  rw [if_neg (by decide)] at hn
  have hlen := hc.code.len
  have hbs := hfp.bs
  dsimp only at hn hlen hbs
  have HNM := Lib.hid hn
  clear hr hl hn hc h23 h39 h55 h71 h87 h88 h89 h90
  rcases List.eq_nil_or_concat S with rfl | ⟨S', q, rfl⟩
  · obtain ⟨aS, cS, hlv⟩ := own_len hfs.lr
    subst hlv
    have HE := Lib.hid (fp_end hfp)
    have HFS := Lib.hid hfs
    clear hfs hfp
    go_wp2_with fail
    refine bodyPost_ret (v := .tuple #[]) (by simp [results, Try.results22, go_sem]) rfl ?_
    exact ⟨rfl, f, L, av, m, HFS.out.th, HE.out.1, HFS.out.fo, HE.out.2.1, HE.out.2.2.1, HE.out.2.2.2⟩
  · rw [List.concat_eq_append] at *
    obtain ⟨hqD, _⟩ := hfp.pr q (.inr (by simp))
    have hsl : (S' ++ [q]).length = S'.length + 1 := by simp
    obtain ⟨gS, cS, hlv, hcap, _, hgl, hcell⟩ := own_at hfs.lr (by rw [hsl]; omega)
    have cq : X.cell? ⟨gS, S'.length, none⟩ = some (.int .i64 (q : Int)) := hcell _ _ (by simp [iv])
    subst hlv
    have HPO := Lib.hid (FdS.pop hfs)
    have HFP := Lib.hid (fp_pop hfp)
    dsimp only at hqD
    have hqw : IntKind.i64.wrap (q : Int) = (q : Int) := IntWalk.i64_in _ (by omega)
    have hnz : ¬ ((S' ++ [q]).length : Int) = 0 := by rw [hsl]; omega
    rw [hsl] at hbs hnz HNM ⊢
    have hq1 : (((S'.length + 1 : Nat) : Int)) - 1 = (S'.length : Int) := by omega
    have hq0 : (0 : Int) ≤ (S'.length : Int) := by omega
    obtain ⟨k, hk⟩ : ∃ k, k = S'.length + 1 := ⟨_, rfl⟩
    have hqk : (S'.length : Int) < (k : Int) := by omega
    have hqk2 : (S'.length : Int) ≤ (k : Int) := by omega
    have hkw : IntKind.i64.wrap (S'.length : Int) = (S'.length : Int) := IntWalk.i64_in _ (by omega)
    have HK := Lib.hid hk
    rw [hsl] at hcap
    have hqc : (S'.length : Int) ≤ (cS : Int) := by omega
    rw [← hk] at hnz hq1 ⊢
    clear hfs hfp hcell hlen hbs hsl hk hcap
    go_wp2_with fail
    go_step3
    exact FQ.go (c := ⟨D, w0, W, g, gc, cc, z, b, bm, av0, f0, a0⟩) (l := 1) (p := q) rfl ⟨_, rfl⟩ HPO.out HFP.out (by have h0 := HNM.out; simp at h0; simp; omega)
set_option maxRecDepth 100000 in
set_option maxHeartbeats 8000000 in
theorem follow_any {D : List Sp} {w0 W : World} {g gc cc b bm a0 : Nat} {z : ByteArray} {av0 : Value} {f0 : Nat → Bool} {L0 : List Nat} {n0 : Nat} (hD : CodeOk D) (hC : Cod w0 g gc cc z D) (h : Th w0 b bm W f0 L0 av0 n0) (hm : Ms D f0 L0 n0) (ha : a0 < D.length) :
    Calls Try.prog 22 #[.pointer (some ⟨g, 0, none⟩), .pointer (some ⟨b, 0, none⟩), .int .i64 (a0 : Int)] W fun e w' => e = .returned (.tuple #[]) ∧ ∃ f L av m, Th w0 b bm w' f L av m ∧ Ms D f L m ∧ Fo W b bm av0 w' av ∧ (∀ x, f0 x = true → f x = true) ∧ f a0 = true ∧ ∀ x, f x = true → f0 x = true ∨ Star (ESt D) a0 x := by
  obtain ⟨Dm, hmm, hDm⟩ := h.map
  have hc : FOk ⟨D, w0, W, g, gc, cc, z, b, bm, av0, f0, a0⟩ := ⟨hD, hC, h.bel.size, h.blk.lt, hmm.lt⟩
  have HFS := Lib.hid (show FdS ⟨D, w0, W, g, gc, cc, z, b, bm, av0, f0, a0⟩ W f0 L0 [] av0 (.slice none 0 0) n0 from ⟨h, Fo.start W b bm av0, World.ownsRow_nil _ _ _ _, by
    unfold Apart
    cases h0 : av0.ownBlock with
    | none => exact .inl rfl
    | some g0 => exact .inr (by simp [Value.ownBlock])⟩)
  have HFP := Lib.hid (fp_start hm ha)
  clear hmm hDm
  go_enter Try.func22, Try.ntmps22
  refine wp_scope_ghost (JF ⟨D, w0, W, g, gc, cc, z, b, bm, av0, f0, a0⟩) ?_ ?_
  · have hJ : JF ⟨D, w0, W, g, gc, cc, z, b, bm, av0, f0, a0⟩ _ 1 _ W := ⟨undef, undef, undef, .slice none 0 0, av0, List.replicate 83 undef, a0, f0, L0, [], n0, by simp, rfl, HFS.out, HFP.out, rfl⟩
    go_wp2_with fail
    go_step3
    rename_i K hK
    refine hK _ _ ?_
    refine Code.wp_mono (fun e a w hq => ?_) (fpass1b hc _ W hJ _ rfl)
    cases e with
    | goto l =>
      obtain ⟨h1, m, _, h2⟩ := hq
      exact ⟨h1, m, h2⟩
    | normal => exact hq
    | exit id => exact hq
    | ret => exact hq
    | panic ch => exact hq
    | outgrown => exact hq
  · intro n l rest a w hf hJ
    match l, hf, hJ with
    | 0, hf, hJ => exact fpass0 hc a w hJ rest hf
    | 1, hf, hJ =>
      obtain rfl := Option.some.inj (hf.symm.trans (rfl : findLabel folC 1 = some (.seq .skip _)))
      exact wp_seq (wp_skip (fpass1b hc a w hJ _ rfl))
    | l + 2, hf, hJ => cases hf
end Go.Proofs.Ytlbkacabcfeaiaa.Tl
