/- The state of a function with ranges over functions: blocks known whole, what lay below as it lay, the marks of deferred calls. -/
import Derived.Test.YtdiijannpfogdaaRg
import Derived.Test.YtdiijannpfogdaaMm
namespace Go.Proofs.Ytdiijannpfogdaa.Mm
open Go.RowKit
abbrev BL := List (Nat × TypeId × Array Value)
def Blks (L : BL) (X : World) : Prop := ∀ p ∈ L, Blk X p.1 p.2.1 p.2.2
def MarksD (Ds : List Nat) (W : World) : Prop := ∀ D ∈ Ds, W.heap[D]? = some (.deferred (some []))
structure St (w : World) (L : BL) (Ds : List Nat) (X : World) : Prop where
  blks : Blks L X
  bel : Below w.heap.size w X
  marks : MarksD Ds X
section
variable {w X Y : World} {L L' : BL} {Ds : List Nat}
theorem grown_of_below {A B : World} (h : Below A.heap.size A B) : A.grownBy B none := ⟨h.os, h.tape, h.output, h.size, fun k hk _ => h.block k hk⟩
theorem below_below {β : Type} {N : Nat} {J : β → World → Prop} (hJ : AbidesFrom N J) {s : β} {A B : World} (h : J s A) (hb : Below A.heap.size A B) : J s B := hJ s A B none h (grown_of_below hb) (fun r e => by cases e)
theorem own_below_at {β : Type} {N : Nat} {J : β → World → Prop} (hJ : OwnFrom N J) {s : β} {A B : World} (h : J s A) (hb : Below A.heap.size A B) : J s B := hJ s A B none h (grown_of_below hb) (fun r e => by cases e)
theorem blks_own {β : Type} (f : β → BL) : Own (fun (b : β) X => Blks (f b) X) := fun s X Y row hs hg hr p hp =>
  (hg.block p.1 (hs p hp).lt (fun e' => by obtain ⟨o, ho, hc⟩ := hr p.1 e'.symm; rw [show X.heap[p.1]? = _ from hs p hp] at ho; cases ho; cases hc)).trans (hs p hp)
theorem marksD_own {β : Type} {B : Nat} (hB : ∀ D ∈ Ds, D < B) : OwnFrom B (fun (_ : β) W => MarksD Ds W) := fun s X Y row hs hg hr D hD =>
  (hg.block D (Array.getElem?_eq_some_iff.1 (hs D hD)).1 (fun e => by obtain ⟨h1, _⟩ := hr D e.symm; have := hB D hD; omega)).trans (hs D hD)
theorem St.own {β : Type} (f : β → BL) {M : Nat} (hM : w.heap.size ≤ M) (hD : ∀ D ∈ Ds, D < M) : OwnFrom M (fun (b : β) X => St w (f b) Ds X) := fun s X Y row hs hg hr =>
  ⟨blks_own f s X Y row hs.blks hg (fun r e => (hr r e).2), ownFrom_below (β := Unit) (Nat.le_refl _) hM () X Y row hs.bel hg hr, marksD_own (β := Unit) hD () X Y row hs.marks hg hr⟩
theorem St.below (h : St w L Ds X) (hb : Below X.heap.size X Y) : St w L Ds Y :=
  ⟨fun p hp => (h.blks p hp).below hb (h.blks p hp).lt, h.bel.trans (hb.mono h.bel.size), fun D hD => (hb.block D (Array.getElem?_eq_some_iff.1 (h.marks D hD)).1).trans (h.marks D hD)⟩
theorem St.alloc (h : St w L Ds X) (o : Obj) : St w L Ds (X.alloc o) := h.below ((Below.refl _ _).alloc (Nat.le_refl _) o)
theorem St.drewN (h : St w L Ds X) (n : Nat) : St w L Ds (X.drewN n) := h.below (below_drewN (Below.refl _ _) n)
theorem St.new (h : St w L Ds X) (t : TypeId) (cs : Array Value) : St w ((X.heap.size, t, cs) :: L) Ds (X.alloc (.cells cs t)) :=
  ⟨fun p hp => by
    rcases List.mem_cons.1 hp with rfl | hp
    · exact Blk.new X _ _
    · exact (h.blks p hp).alloc _, (h.alloc _).bel, (h.alloc _).marks⟩
theorem St.weak (h : St w L Ds X) (hL : ∀ p ∈ L', p ∈ L) : St w L' Ds X := ⟨fun p hp => h.blks p (hL p hp), h.bel, h.marks⟩
theorem St.tail {p : Nat × TypeId × Array Value} (h : St w (p :: L) Ds X) : St w L Ds X := h.weak fun q hq => List.mem_cons_of_mem _ hq
theorem St.head {p : Nat × TypeId × Array Value} (h : St w (p :: L) Ds X) : Blk X p.1 p.2.1 p.2.2 := h.blks p List.mem_cons_self
theorem St.lt (h : St w L Ds X) {p : Nat × TypeId × Array Value} (hp : p ∈ L) : p.1 < X.heap.size := (h.blks p hp).lt
theorem St.set {g : Nat} {t : TypeId} {cs : Array Value} (h : St w ((g, t, cs) :: L) Ds X) (hn : ∀ p ∈ L, p.1 ≠ g) (hw : w.heap.size ≤ g) (i : Nat) (u : Value) : St w ((g, t, cs.setIfInBounds i u) :: L) Ds (X.setCell ⟨g, i, none⟩ u) :=
  ⟨fun p hp => by
    rcases List.mem_cons.1 hp with rfl | hp
    · exact h.head.set_ i u
    · exact (h.tail.blks p hp).far (fun e => hn p hp e) u, h.bel.setCell (by simpa using hw) u, fun D hD => (Below.heap_setCell _ _ _ _ (fun e => by
      have h1 := h.marks D hD
      have h2 : X.heap[g]? = _ := h.head
      simp at e
      rw [e, h2] at h1
      cases h1)).trans (h.marks D hD)⟩
theorem St.mark {D : Nat} (h : St w L Ds X) (hD : X.heap[D]? = some (.deferred (some []))) : St w L (D :: Ds) X := ⟨h.blks, h.bel, fun E hE => by
  rcases List.mem_cons.1 hE with rfl | hE
  · exact hD
  · exact h.marks E hE⟩
theorem St.push {p : Nat × TypeId × Array Value} (h : St w L Ds X) (hp : Blk X p.1 p.2.1 p.2.2) : St w (p :: L) Ds X := ⟨fun q hq => by
  rcases List.mem_cons.1 hq with rfl | hq
  · exact hp
  · exact h.blks q hq, h.bel, h.marks⟩
theorem St.pushes (h : St w L Ds X) {RL : BL} (hp : Blks RL X) : St w (RL ++ L) Ds X := ⟨fun q hq => by
  rcases List.mem_append.1 hq with hq | hq
  · exact hp q hq
  · exact h.blks q hq, h.bel, h.marks⟩
theorem St.grown {row : Option Nat} (h : St w L Ds X) (hg : X.grownBy Y row) (hr : ∀ r, row = some r → w.heap.size ≤ r ∧ (∀ p ∈ L, p.1 ≠ r) ∧ (∀ D ∈ Ds, D ≠ r)) : St w L Ds Y :=
  ⟨fun p hp => (h.blks p hp).grown hg (fun e => (hr p.1 e.symm).2.1 p hp rfl), h.bel.grown hg h.bel.size (fun k e => (hr k e).1),
    fun D hD => (hg.block D (Array.getElem?_eq_some_iff.1 (h.marks D hD)).1 (fun e => (hr D e.symm).2.2 D hD rfl)).trans (h.marks D hD)⟩
/-- a mark and a block of cells are two -/
theorem St.mark_ne (h : St w L Ds X) {D : Nat} (hD : X.heap[D]? = some (.deferred (some []))) {p : Nat × TypeId × Array Value} (hp : p ∈ L) : D ≠ p.1 := fun e => by
  have h2 : X.heap[p.1]? = _ := h.blks p hp
  rw [e, h2] at hD
  cases hD
theorem Blk.unput {g D : Nat} {t : TypeId} {cs : Array Value} {o : Obj} (h : Blk X g t cs) (hn : D ≠ g) : Blk (X.putObj D o) g t cs := (World.putObj_heap_other (Ne.symm hn)).trans h
theorem St.abd {β : Type} (f : β → BL) {s m : Nat} (hL : ∀ b p, p ∈ f b → p.1 < s) (hD : ∀ D ∈ Ds, D < s) (hw : w.heap.size ≤ s) : Abd s m (fun (b : β) X => St w (f b) Ds X) := fun b A B r h hg h1 _ =>
  ⟨fun p hp => (h.blks p hp).grown hg (fun e => by cases e; have := hL b p hp; omega), h.bel.grown hg h.bel.size (fun k e => by cases e; omega),
    fun D hD' => (hg.block D (Array.getElem?_eq_some_iff.1 (h.marks D hD')).1 (fun e => by have e2 : D = r := Option.some.inj e; have := hD D hD'; omega)).trans (h.marks D hD')⟩
/-! One block may turn. -/
theorem turn_own {β : Type} {W0 : World} {g M : Nat} (hM : W0.heap.size ≤ M) : OwnFrom M (fun (_ : β) X => W0.grownBy X (some g)) := fun _ X Y row hs hg hr =>
  ⟨hg.os.trans hs.os, hg.tape.trans hs.tape, hg.output.trans hs.output, Nat.le_trans hs.size hg.size, fun k hk hn => (hg.block k (Nat.lt_of_lt_of_le hk hs.size) (fun e => by have := (hr k e.symm).1; omega)).trans (hs.block k hk hn)⟩
theorem turn_abd {β : Type} {W0 : World} {g s m : Nat} (hs : W0.heap.size ≤ s) : Abd s m (fun (_ : β) X => W0.grownBy X (some g)) := fun _ A B r h hg h1 _ =>
  ⟨hg.os.trans h.os, hg.tape.trans h.tape, hg.output.trans h.output, Nat.le_trans h.size hg.size, fun k hk hn => (hg.block k (Nat.lt_of_lt_of_le hk h.size) (fun e => by cases e; omega)).trans (h.block k hk hn)⟩
theorem turn_refl (W0 : World) (g : Nat) : W0.grownBy W0 (some g) := grefl W0 _
theorem turn_below {W0 X Y : World} {g : Nat} (h : W0.grownBy X (some g)) (hb : Below X.heap.size X Y) : W0.grownBy Y (some g) :=
  ⟨hb.os.trans h.os, hb.tape.trans h.tape, hb.output.trans h.output, Nat.le_trans h.size hb.size, fun k hk hn => (hb.block k (Nat.lt_of_lt_of_le hk h.size)).trans (h.block k hk hn)⟩
theorem turn_keeps {W0 X : World} {g : Nat} {t : TypeId} {cs : Array Value} (h : W0.grownBy X (some g)) (hb : Blk W0 g t cs) : KeepsOthers W0 X := KeepsOthers.of_grownBy h (fun j o e ho => by
  have e2 : g = j := Option.some.inj e
  subst e2
  rw [show W0.heap[g]? = _ from hb] at ho
  cases ho; rfl)
theorem turn_kept {W0 X : World} {g s m : Nat} (h : W0.grownBy X (some g)) (hg : g < s) (hs : s + m ≤ W0.heap.size) : Kept s m W0 X := ⟨h.size, fun r h1 h2 => h.block r (by omega) (fun e => by cases e; omega)⟩
/-- a row of the call's own by its block -/
theorem own_blks {X : World} {B : Nat} {e : TypeId} {s n : Nat} {v : Value} {xs : List Value} (h : X.ownsRow B e s v n xs) : ∃ (RL : BL) (a : Option Addr) (cap : Nat), v = .slice a n cap ∧ n ≤ cap ∧ cap ≤ maxLen ∧ Blks RL X ∧ (∀ p ∈ RL, p.2.1 = e ∧ B ≤ p.1) ∧ (∀ Y, Blks RL Y → 0 < n → ∃ g, a = some ⟨g, 0, none⟩ ∧ ∀ j u, xs[j]? = some u → Y.cell? ⟨g, j, none⟩ = some u) := by
  rcases h.2 with ⟨hv, h0⟩ | ⟨g, cap, cur, hv, hb, hg, hc, hm, hsz, ht⟩
  · subst h0
    exact ⟨[], none, 0, hv, Nat.le_refl _, Nat.zero_le _, (fun p hp => by simp at hp), (fun p hp => by simp at hp), fun Y _ h => absurd h (by omega)⟩
  · refine ⟨[(g, e, cur)], some ⟨g, 0, none⟩, cap, hv, hc, hm, fun p hp => ?_, fun p hp => ?_, fun Y hY _ => ⟨g, rfl, fun j u hj => ?_⟩⟩
    · obtain rfl : p = (g, e, cur) := by simpa using hp
      exact hg
    · obtain rfl : p = (g, e, cur) := by simpa using hp
      exact ⟨rfl, hb⟩
    · have hb : Blk Y g e cur := hY (g, e, cur) (by simp)
      rw [hb.cell, ← Array.getElem?_toList]
      rw [← ht] at hj
      rw [List.getElem?_take] at hj
      split at hj <;> simp_all
/-! The ranges over functions of a body. -/
def rangesOf : Code → List Code
  | .rangeFunc g ps s b => [.rangeFunc g ps s b]
  | .seq a b => rangesOf a ++ rangesOf b
  | .block _ c => rangesOf c
  | .scope c => rangesOf c
  | .cond _ a b => rangesOf a ++ rangesOf b
  | .loop c => rangesOf c
  | _ => []
def rangeAt (f : Func) (i : Nat) : Code := ((f.body.map rangesOf).getD [])[i]?.getD .skip
def rangeBody : Code → Code
  | .rangeFunc _ _ _ b => b
  | _ => .skip
def innerAt (f : Func) (i j : Nat) : Code := (rangesOf (rangeBody (rangeAt f i)))[j]?.getD .skip
theorem pre_next {α : Type} {xs pre : List α} {x : α} (h : pre ++ [x] <+: xs) : xs[pre.length]? = some x ∧ pre.length < xs.length := by
  obtain ⟨r, rfl⟩ := h
  simp
/-- what a round keeps: what lay below, and one block -/
def KpB (n₀ g : Nat) (A B : World) : Prop := Below n₀ A B ∧ B.heap[g]? = A.heap[g]?
theorem KpB.t {n₀ g : Nat} {A B C : World} (h : KpB n₀ g A B) (k : KpB n₀ g B C) : KpB n₀ g A C := ⟨h.1.trans k.1, k.2.trans h.2⟩
theorem KpB.b {n₀ g : Nat} {w : World} (hn : n₀ ≤ w.heap.size) (hB : g < w.heap.size) (W : World) (l : Nat) (o o' : Obj) (hl : w.heap.size ≤ l) (h : W.heap[l]? = some o) (hc : o.isCells = false) (hw : o.isWalk = false) : KpB n₀ g W (W.putObj l o') :=
  ⟨belowK_b hn W l o o' hl h hc hw, World.putObj_heap_other (by omega)⟩
theorem KpB.grown {n₀ g : Nat} {A B : World} {row : Option Nat} (hg : A.grownBy B row) (hn : n₀ ≤ A.heap.size) (hgl : g < A.heap.size) (hr : ∀ r, row = some r → n₀ ≤ r ∧ r ≠ g) : KpB n₀ g A B :=
  ⟨(Below.refl _ _).grown hg hn (fun k e => (hr k e).1), hg.block g hgl (fun e => (hr g e.symm).2 rfl)⟩
end
end Go.Proofs.Ytdiijannpfogdaa.Mm
