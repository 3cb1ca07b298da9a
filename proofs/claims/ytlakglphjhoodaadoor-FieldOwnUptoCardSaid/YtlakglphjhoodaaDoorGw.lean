/- Slices that stand as they came while others are gone on from: the block is typed, the cells are its first; families of rows gone on from. -/
import Derived.Test.YtlakglphjhoodaaDoorFm
import Derived.Test.YtlakglphjhoodaaDoorSs
import Derived.Laws.OwnMore
namespace Go.Proofs.YtlakglphjhoodaaDoor.Mm
open Go.RowKit
set_option linter.unusedSimpArgs false
set_option linter.unusedSectionVars false
set_option linter.unusedVariables false
/-- a list that nobody writes into any more -/
def Fz (X : World) (e : TypeId) (s : Nat) (v : Value) (n : Nat) (xs : List Value) : Prop :=
  ∃ a cap, v = .slice a n cap ∧ n ≤ cap ∧ cap ≤ maxLen ∧ xs.length = n * s ∧ ((a = none ∧ n = 0 ∧ cap = 0) ∨ ∃ (g : Nat) (cur : Array Value), a = some ⟨g, 0, none⟩ ∧ X.heap[g]? = some (.cells cur e (0, 0)) ∧ ∀ (j : Nat) (u : Value), xs[j]? = some u → cur[j]? = some u)
/-- outside of one block nothing turns -/
def Bf (w w' : World) (row : Option Nat) : Prop := ∀ g, g < w.heap.size → some g ≠ row → w'.heap[g]? = w.heap[g]?
theorem Bf.of_below {w w' : World} (h : Below w.heap.size w w') : Bf w w' none := fun g hg _ => h.block g hg
theorem Keeps.bf {X Y : World} {v v' : Value} (h : Keeps X v v' Y) : Bf X Y v.ownBlock := fun g hg hne => h.by.block g hg hne
theorem Bf.set (X : World) (g k : Nat) (u : Value) : Bf X (X.setCell ⟨g, k, none⟩ u) (some g) := fun g' _ hne => Below.heap_setCell X ⟨g, k, none⟩ u g' (fun e => hne (by rw [e]))
section
variable {X Y : World} {B s n N : Nat} {e : TypeId} {v u u' : Value} {xs ys zs : List Value} {row : Option Nat}
theorem Fz.of_own (h : X.ownsRow B e s v n xs) : Fz X e s v n xs := by
  rcases h.2 with ⟨hv, h0⟩ | ⟨g, cap, cur, hv, _, hg, hc, hm, _, htk⟩
  · exact ⟨none, 0, by rw [hv, h0], by omega, Nat.zero_le _, h.1, .inl ⟨rfl, h0, rfl⟩⟩
  · refine ⟨_, cap, hv, hc, hm, h.1, .inr ⟨g, cur, rfl, hg, fun j u hj => ?_⟩⟩
    have hl := (List.getElem?_eq_some_iff.1 hj).1
    rw [h.1] at hl
    rw [← htk, List.getElem?_take_of_lt hl, Array.getElem?_toList] at hj
    exact hj
theorem Fz.bf (h : Fz X e s v n xs) (hb : Bf X Y row) (hr : v.ownBlock = none ∨ v.ownBlock ≠ row) : Fz Y e s v n xs := by
  obtain ⟨a, cap, hv, hc, hm, hl, hx⟩ := h
  refine ⟨a, cap, hv, hc, hm, hl, hx.imp id ?_⟩
  rintro ⟨g, cur, rfl, hg, hx⟩
  have hne : some g ≠ row := by
    subst hv
    rcases hr with hr | hr
    · cases hr
    · exact hr
  exact ⟨g, cur, rfl, (hb g (Array.getElem?_eq_some_iff.1 hg).1 hne).trans hg, hx⟩
theorem Fz.below (h : Fz X e s v n xs) (hb : Below X.heap.size X Y) : Fz Y e s v n xs := h.bf (Bf.of_below hb) (Decidable.em _)
theorem own_bf (h : X.ownsRow B e s v n xs) (hb : Bf X Y row) (hr : v.ownBlock = none ∨ v.ownBlock ≠ row) : Y.ownsRow B e s v n xs := by
  refine ⟨h.1, ?_⟩
  rcases h.2 with h0 | ⟨g, cap, cur, hv, hb', hg, rest⟩
  · exact .inl h0
  · have hne : some g ≠ row := by
      subst hv
      rcases hr with hr | hr
      · cases hr
      · exact hr
    exact .inr ⟨g, cap, cur, hv, hb', (hb g (Array.getElem?_eq_some_iff.1 hg).1 hne).trans hg, rest⟩
theorem Fz.lt (h : Fz X e s v n xs) : ∀ g, v.ownBlock = some g → g < X.heap.size := by
  obtain ⟨a, cap, rfl, _, _, _, hx⟩ := h
  intro g hg
  rcases hx with ⟨rfl, _⟩ | ⟨g', cur, rfl, hc, _⟩
  · cases hg
  · obtain rfl : g' = g := by simpa [Value.ownBlock] using hg
    exact (Array.getElem?_eq_some_iff.1 hc).1
theorem fz_apart {B' s' : Nat} {e' : TypeId} (h : Fz X e s v n xs) (hu : X.ownsRow B' e' s' u N ys) (hne : e ≠ e') : Apart v u := by
  obtain ⟨a, cap, rfl, _, _, _, hx⟩ := h
  rcases hx with ⟨rfl, _⟩ | ⟨g, cur, rfl, hg, _⟩
  · exact .inl rfl
  · refine .inr (fun e0 => ?_)
    obtain ⟨_, _, cur', hc⟩ := own_ty hu e0.symm
    rw [hg] at hc
    exact hne (Obj.cells.inj (Option.some.inj hc)).2.1
/-- a row's first while the row is gone on from -/
theorem Fz.self (h : Fz X e s v n xs) (hk : Keeps X u u' Y) (ho : Y.ownsRow B e s u' N (xs ++ zs)) : Fz Y e s v n xs := by
  obtain ⟨a, cap, hv, hc, hm, hl, hx⟩ := h
  rcases hx with ⟨rfl, h0⟩ | ⟨g, cur, rfl, hg, hx⟩
  · exact ⟨none, cap, hv, hc, hm, hl, .inl ⟨rfl, h0⟩⟩
  · have h1 : Fz X e s v n xs := ⟨_, cap, hv, hc, hm, hl, .inr ⟨g, cur, rfl, hg, hx⟩⟩
    have hvb : v.ownBlock = some g := by rw [hv]; rfl
    rcases hk with ⟨hk1, hk2⟩ | ⟨_, hk2⟩
    · by_cases hub : u.ownBlock = some g
      · have hub' : u'.ownBlock = some g := hk1.trans hub
        refine ⟨_, cap, hv, hc, hm, hl, .inr ?_⟩
        rcases ho.2 with ⟨hw, _⟩ | ⟨g', cap', cur', hw, _, hg', _, _, _, htk⟩
        · rw [hw] at hub'; cases hub'
        · rw [hw] at hub'
          obtain rfl : g' = g := by simpa [Value.ownBlock] using hub'
          refine ⟨g', cur', rfl, hg', fun j x hj => ?_⟩
          have hjl := (List.getElem?_eq_some_iff.1 hj).1
          have hj2 : (xs ++ zs)[j]? = some x := by rw [List.getElem?_append_left hjl]; exact hj
          have hl2 := (List.getElem?_eq_some_iff.1 hj2).1
          rw [ho.1] at hl2
          rw [← htk, List.getElem?_take_of_lt hl2, Array.getElem?_toList] at hj2
          exact hj2
      · exact h1.bf (fun g' hg' hne => hk2.block g' hg' hne) (.inr (by rw [hvb]; exact Ne.symm hub))
    · exact h1.bf (row := none) (fun g' hg' _ => hk2.block g' hg' (by simp)) (Decidable.em _)
theorem Fz.keepsA (h : Fz X e s v n xs) (hk : Keeps X u u' Y) (hr : Apart v u) : Apart v u' := by
  rcases hk with hk | hk
  · unfold Apart; rw [hk.1]; exact hr
  · unfold Apart
    rw [hk.1]
    cases hv : v.ownBlock with
    | none => exact .inl rfl
    | some g => exact .inr (fun e0 => by have := h.lt g hv; have e1 := Option.some.inj e0; omega)
theorem Fz.cells {a : Option Addr} {cap : Nat} (h : Fz X e s (.slice a n cap) n xs) (hn : 0 < n) : ∃ g, a = some ⟨g, 0, none⟩ ∧ g < X.heap.size ∧ ∀ j u, xs[j]? = some u → X.cell? ⟨g, j, none⟩ = some u := by
  obtain ⟨a', cap', e0, _, _, _, hx⟩ := h
  cases e0
  rcases hx with ⟨_, h0, _⟩ | ⟨g, cur, rfl, hg, hx⟩
  · omega
  · refine ⟨g, rfl, (Array.getElem?_eq_some_iff.1 hg).1, fun j u hj => ?_⟩
    have hB : Blk X g e cur := hg
    rw [hB.cell]
    exact hx j u hj
theorem Fz.form (h : Fz X e s v n xs) : ∃ a cap, v = .slice a n cap ∧ n ≤ cap ∧ cap ≤ maxLen := by
  obtain ⟨a, cap, hv, hc, hm, _⟩ := h
  exact ⟨a, cap, hv, hc, hm⟩
theorem Fz.sees (h : Fz X e s v n xs) : SeesS X v s n xs := by
  obtain ⟨a, cap, hv, hc, hm, hl, hx⟩ := h
  refine ⟨a, cap, hv, fun h0 => ?_, hc, hm, hl, ?_⟩
  · rcases hx with ⟨_, _, h1⟩ | ⟨g, cur, h1, _⟩
    · exact h1
    · rw [h0] at h1; cases h1
  · rcases hx with ⟨_, h1, _⟩ | ⟨g, cur, rfl, hg, hx⟩
    · exact .inl h1
    · refine .inr ⟨g, 0, rfl, (Array.getElem?_eq_some_iff.1 hg).1, fun j u hj => ?_⟩
      have hB : Blk X g e cur := hg
      rw [hB.cell, Nat.zero_add]
      exact hx j u hj
end
/-- rows, and the rows gone on from them -/
structure Grow (B : Nat) (e : TypeId) (s : Nat) (rows gs : List Rw) (X : World) : Prop where
  fz : ∀ (i : Nat) (r : Rw), rows[i]? = some r → Fz X e s r.v r.n r.xs
  fam : Fam B e s gs X
  ap : ∀ (i j : Nat) (r q : Rw), i ≠ j → rows[i]? = some r → gs[j]? = some q → Apart r.v q.v
  pf : ∀ (i : Nat) (r q : Rw), rows[i]? = some r → gs[i]? = some q → ∃ zs, q.xs = r.xs ++ zs
section
variable {X Y : World} {B s : Nat} {e : TypeId} {rows gs : List Rw}
theorem Grow.start (h : Fam B e s rows X) : Grow B e s rows rows X :=
  ⟨fun i r hr => Fz.of_own (h.1 i r hr), h, fun i j r q hij hr hq => h.2 i j r q hij hr hq, fun i r q hr hq => ⟨[], by rw [hr] at hq; cases hq; simp⟩⟩
theorem Grow.below (h : Grow B e s rows gs X) (hb : Below X.heap.size X Y) : Grow B e s rows gs Y :=
  ⟨fun i r hr => (h.fz i r hr).below hb, h.fam.below hb (Nat.le_refl _), h.ap, h.pf⟩
/-- a row of another type is appended to -/
theorem Grow.other {B' s' N : Nat} {e' : TypeId} {u u' : Value} {ys : List Value} (h : Grow B e s rows gs X) (ho : X.ownsRow B' e' s' u N ys) (hne : e ≠ e') (hk : Keeps X u u' Y) : Grow B e s rows gs Y :=
  ⟨fun i r hr => (h.fz i r hr).bf hk.bf (fz_apart (h.fz i r hr) ho hne), h.fam.keeps hk fun i r hr => apart_ty (h.fam.1 i r hr) ho hne, h.ap, h.pf⟩
/-- a row is gone on from -/
theorem Grow.step (h : Grow B e s rows gs X) {i m : Nat} {r q : Rw} {u' : Value} {news : List Value} (hr : rows[i]? = some r) (hq : gs[i]? = some q) (ho : Y.ownsRow B e s u' m (q.xs ++ news)) (hk : Keeps X q.v u' Y) :
    Grow B e s rows (gs.set i ⟨u', m, q.xs ++ news⟩) Y := by
  obtain ⟨zs, hz⟩ := h.pf i r q hr hq
  have hil := (List.getElem?_eq_some_iff.1 hq).1
  refine ⟨fun j p hp => ?_, h.fam.set hq ho hk.by (fun j a hj ha => Apart.keeps (h.fam.1 j a ha) hk (h.fam.2 j i a q hj ha hq)), fun j k p c hjk hp hc => ?_, fun j p c hp hc => ?_⟩
  · by_cases hj : j = i
    · subst hj
      rw [hr] at hp
      cases hp
      exact (h.fz j r hr).self hk (zs := zs ++ news) (by rw [← List.append_assoc, ← hz]; exact ho)
    · exact (h.fz j p hp).bf hk.bf (h.ap j i p q hj hp hq)
  · by_cases hk' : k = i
    · subst hk'
      rw [List.getElem?_set_self hil] at hc
      cases hc
      exact (h.fz j p hp).keepsA hk (h.ap j k p q hjk hp hq)
    · rw [List.getElem?_set_ne (Ne.symm hk')] at hc
      exact h.ap j k p c hjk hp hc
  · by_cases hj : j = i
    · subst hj
      rw [List.getElem?_set_self hil] at hc
      cases hc
      rw [hr] at hp
      cases hp
      exact ⟨zs ++ news, by simp only; rw [hz, List.append_assoc]⟩
    · rw [List.getElem?_set_ne (Ne.symm hj)] at hc
      exact h.pf j p c hp hc
end
/-- a row of a family is written into -/
theorem Fam.put {B s : Nat} {e : TypeId} {rows : List Rw} {X : World} {i g n cap : Nat} {xs : List Value} (h : Fam B e s rows X) (hi : rows[i]? = some ⟨.slice (some ⟨g, 0, none⟩) n cap, n, xs⟩) (k : Nat) (u : Value) :
    Fam B e s (rows.set i ⟨.slice (some ⟨g, 0, none⟩) n cap, n, xs.set k u⟩) (X.setCell ⟨g, k, none⟩ u) :=
  h.set hi ((h.1 i _ hi).stored k u).1 (only_set X g k u) (fun j a hj ha => by have := h.2 j i a _ hj ha hi; exact this)
theorem map_v_set {rows : List Rw} {i : Nat} {v : Value} {n : Nat} {xs ys : List Value} (hi : rows[i]? = some ⟨v, n, xs⟩) : (rows.set i ⟨v, n, ys⟩).map Rw.v = rows.map Rw.v := by
  have hil := (List.getElem?_eq_some_iff.1 hi).1
  rw [List.map_set]
  apply List.ext_getElem?
  intro j
  by_cases hj : j = i
  · subst hj
    rw [List.getElem?_set_self (by simpa using hil), List.getElem?_map, hi]
    rfl
  · rw [List.getElem?_set_ne (Ne.symm hj)]
end Go.Proofs.YtlakglphjhoodaaDoor.Mm
