/- The boxes of the laws that range over Walk: what holds of them, and how it goes on. -/
import Derived.Test.YtcofndegcleicaaWy
import Derived.Test.YtcofndegcleicaaQr
import Derived.Test.YtcofndegcleicaaRc
namespace Go.Proofs.Ytcofndegcleicaa.Lg
open Go.RowKit Mm Go.Shelf
/-- what is no cells may turn -/
theorem blk_own2 {β : Type} {g : Nat} {t : TypeId} {cs : Array Value} : Own (fun (_ : β) W => Blk W g t cs) := fun s X Y row hs hg hrow =>
  (hg.block g hs.lt (fun e' => by obtain ⟨o, ho, hc⟩ := hrow g e'.symm; rw [show X.heap[g]? = _ from hs] at ho; cases ho; cases hc)).trans hs
/-- the box of the answer (false so far), of a number that came in, of the document's records, of the bytes; the records themselves; what lay below lies as it lay -/
def Env (w : World) (Bs Br Bw Bd : Nat) (sv uw v0 : Value) (B : Nat) (ks : List Ky) (X : World) : Prop :=
  Blk X Bs 3 #[sv] ∧ Blk X Br 4 #[.bool false] ∧ Blk X Bw 43 #[uw] ∧ Blk X Bd 22 #[v0] ∧ X.ownsRow B 27 3 uw ks.length (ksC ks) ∧ Below w.heap.size w X
section
variable {w X Y : World} {Bs Br Bw Bd B : Nat} {sv uw v0 : Value} {ks : List Ky}
theorem Env.kept {row : Option Nat} (h : Env w Bs Br Bw Bd sv uw v0 B ks X) (hg : X.grownBy Y row) (h1 : ∀ r, row = some r → w.heap.size ≤ r ∧ r ≠ Bs ∧ r ≠ Br ∧ r ≠ Bw ∧ r ≠ Bd ∧ ∃ o, X.heap[r]? = some o ∧ ∀ cs, o ≠ .cells cs 27 (0, 0)) : Env w Bs Br Bw Bd sv uw v0 B ks Y := by
  obtain ⟨a, b, c, d, e, f⟩ := h
  have ne : ∀ g, (∀ r, row = some r → r ≠ g) → some g ≠ row := fun g hh e => hh g e.symm rfl
  refine ⟨a.grown hg (ne _ fun r e => (h1 r e).2.1), b.grown hg (ne _ fun r e => (h1 r e).2.2.1), c.grown hg (ne _ fun r e => (h1 r e).2.2.2.1), d.grown hg (ne _ fun r e => (h1 r e).2.2.2.2.1), e.kept hg ?_, f.grown hg f.size (fun r e => (h1 r e).1)⟩
  rcases e.2 with ⟨h0, _⟩ | ⟨g, cap, cur, hv, _, hgb, _⟩
  · left; rw [h0]; rfl
  · right
    rw [hv]
    intro e'
    obtain ⟨_, _, _, _, _, o, ho, hn⟩ := h1 g e'.symm
    rw [hgb] at ho
    cases ho
    exact hn _ rfl
theorem Env.own {β : Type} (M : Nat) (hM : w.heap.size ≤ M) : OwnFrom M (fun (_ : β) X => Env w Bs Br Bw Bd sv uw v0 B ks X) := fun s X Y row hs hg hr =>
  hs.kept hg (fun r e => by
    obtain ⟨hB, o, ho, hc⟩ := hr r e
    have no : ∀ {g t cs}, Blk X g t cs → r ≠ g := fun {g t cs} hb e => by subst e; rw [show X.heap[r]? = _ from hb] at ho; cases ho; cases hc
    exact ⟨by omega, no hs.1, no hs.2.1, no hs.2.2.1, no hs.2.2.2.1, o, ho, fun cs e => by subst e; cases hc⟩)
theorem Env.alloc (h : Env w Bs Br Bw Bd sv uw v0 B ks X) (o : Obj) : Env w Bs Br Bw Bd sv uw v0 B ks (X.alloc o) := h.kept (World.grownBy_alloc X o none) (fun r e => by cases e)
theorem Env.below (h : Env w Bs Br Bw Bd sv uw v0 B ks X) (hb : Below X.heap.size X Y) : Env w Bs Br Bw Bd sv uw v0 B ks Y := h.kept (below_grown0 hb) (fun r e => by cases e)
theorem Env.drewN (h : Env w Bs Br Bw Bd sv uw v0 B ks X) (n : Nat) : Env w Bs Br Bw Bd sv uw v0 B ks (X.drewN n) := h.below (below_drewN (Below.refl _ _) n)
theorem Env.set (h : Env w Bs Br Bw Bd sv uw v0 B ks X) {g : Nat} {t : TypeId} {cs : Array Value} (hg : Blk X g t cs) (ht : t ≠ 27) (i : Nat) (u : Value) (hw : w.heap.size ≤ g) (h1 : g ≠ Bs) (h2 : g ≠ Br) (h3 : g ≠ Bw) (h4 : g ≠ Bd) : Env w Bs Br Bw Bd sv uw v0 B ks (X.setCell ⟨g, i, none⟩ u) :=
  h.kept (only_set X g i u) (fun r e => by cases e; exact ⟨hw, h1, h2, h3, h4, _, hg, fun cs e => by cases e; exact ht rfl⟩)
end
theorem fn_nil (g : Nat) (cs : Array Value) (w : World) : (binOp BinOp.eql 50 (Value.func (Fn.func g) #[] cs) Value.nilFunc).run Try.prog w = .ok (.bool false) w := rfl
end Go.Proofs.Ytcofndegcleicaa.Lg
