/- TernOwn: kept. -/
import Derived.Test.YtoglcocplpdlhaaKc
import Derived.Test.YtoglcocplpdlhaaFm
import Derived.Laws.OwnMore
namespace Go.Proofs.Ytoglcocplpdlhaa.Tn
open Go.RowKit
attribute [local go_sem] cv cs wv
/-- a list of cubes that nobody writes into any more -/
def Fz (X : World) (v : Value) (n : Nat) (xs : List Value) : Prop :=
  ∃ a cap, v = .slice a n cap ∧ n ≤ cap ∧ ((a = none ∧ n = 0) ∨ ∃ (g : Nat) (cur : Array Value), a = some ⟨g, 0, none⟩ ∧ X.heap[g]? = some (.cells cur 27 (0, 0)) ∧ ∀ (j : Nat) (u : Value), xs[j]? = some u → cur[j]? = some u)
/-- outside of one block nothing turns -/
def Bf (w w' : World) (row : Option Nat) : Prop := ∀ g, g < w.heap.size → some g ≠ row → w'.heap[g]? = w.heap[g]?
theorem Bf.of_below {w w' : World} (h : Below w.heap.size w w') : Bf w w' none := fun g hg _ => h.block g hg
theorem Fz.of_own {X : World} {B n : Nat} {v : Value} {xs : List Value} (h : X.ownsRow B 27 9 v n xs) : Fz X v n xs := by
  rcases h.2 with ⟨hv, h0⟩ | ⟨g, cap, cur, hv, _, hg, hc, _, _, htk⟩
  · exact ⟨none, 0, by rw [hv, h0], by omega, .inl ⟨rfl, h0⟩⟩
  · refine ⟨_, cap, hv, hc, .inr ⟨g, cur, rfl, hg, fun j u hj => ?_⟩⟩
    have hl := (List.getElem?_eq_some_iff.1 hj).1
    rw [h.1] at hl
    rw [← htk, List.getElem?_take_of_lt hl, Array.getElem?_toList] at hj
    exact hj
theorem Fz.bf {X Y : World} {v : Value} {n : Nat} {xs : List Value} {row : Option Nat} (h : Fz X v n xs) (hb : Bf X Y row) (hr : v.ownBlock = none ∨ v.ownBlock ≠ row) : Fz Y v n xs := by
  obtain ⟨a, cap, hv, hc, hx⟩ := h
  refine ⟨a, cap, hv, hc, hx.imp id ?_⟩
  rintro ⟨g, cur, rfl, hg, hx⟩
  have hne : some g ≠ row := by
    subst hv
    rcases hr with hr | hr
    · cases hr
    · exact hr
  exact ⟨g, cur, rfl, (hb g (Array.getElem?_eq_some_iff.1 hg).1 hne).trans hg, hx⟩
theorem own_bf {w w' : World} {B s n : Nat} {e : TypeId} {v : Value} {xs : List Value} {row : Option Nat} (h : w.ownsRow B e s v n xs) (hb : Bf w w' row) (hr : v.ownBlock = none ∨ v.ownBlock ≠ row) : w'.ownsRow B e s v n xs := by
  refine ⟨h.1, ?_⟩
  rcases h.2 with h0 | ⟨g, cap, cur, hv, hb', hg, rest⟩
  · exact .inl h0
  · have hne : some g ≠ row := by
      subst hv
      rcases hr with hr | hr
      · cases hr
      · exact hr
    exact .inr ⟨g, cap, cur, hv, hb', (hb g (Array.getElem?_eq_some_iff.1 hg).1 hne).trans hg, rest⟩
/-- a prefix of an own row in the same block -/
theorem Fz.pre {X : World} {B N n g cap : Nat} {u : Value} {xs zs : List Value} (hc : n ≤ cap) (hu : X.ownsRow B 27 9 u N (xs ++ zs)) (hb : u.ownBlock = some g) : Fz X (.slice (some ⟨g, 0, none⟩) n cap) n xs := by
  refine ⟨_, cap, rfl, hc, .inr ?_⟩
  rcases hu.2 with ⟨hv, _⟩ | ⟨g', cap', cur, hv, _, hg', _, _, _, htk⟩
  · subst hv; cases hb
  · subst hv
    obtain rfl : g' = g := by simpa [Value.ownBlock] using hb
    refine ⟨g', cur, rfl, hg', fun j x hj => ?_⟩
    have hl := (List.getElem?_eq_some_iff.1 hj).1
    have hj2 : (xs ++ zs)[j]? = some x := by rw [List.getElem?_append_left hl]; exact hj
    have hl2 := (List.getElem?_eq_some_iff.1 hj2).1
    rw [hu.1] at hl2
    rw [← htk, List.getElem?_take_of_lt hl2, Array.getElem?_toList] at hj2
    exact hj2
/-- the row while it is written full -/
structure K1 (w : World) (B n : Nat) (v : Value) (g2 : Nat) (kz cm : Array Value) (xs : List Value) (X : World) : Prop where
  own : X.ownsRow B 27 9 v n xs
  rb : Blk X w.heap.size 37 kz
  mb : Blk X g2 27 cm
  bel : Below B w X
  bf : Bf w X v.ownBlock
  lt : w.heap.size < g2
  vl : ∀ g, v.ownBlock = some g → g < w.heap.size
theorem K1.put {w X : World} {B n g cap g2 : Nat} {kz cm : Array Value} {xs : List Value} (h : K1 w B n (.slice (some ⟨g, 0, none⟩) n cap) g2 kz cm xs X) (j : Nat) (u : Value) :
    K1 w B n (.slice (some ⟨g, 0, none⟩) n cap) g2 kz cm (xs.set j u) (X.setCell ⟨g, j, none⟩ u) := by
  have hg := h.vl g rfl
  have hl := h.lt
  have hB := (h.own.lt g rfl).1
  refine ⟨(h.own.stored j u).1, h.rb.far (by simp; omega) u, h.mb.far (by simp; omega) u, h.bel.setCell (p := ⟨g, j, none⟩) hB u, fun g' hg' hne => ?_, h.lt, h.vl⟩
  rw [Below.heap_setCell X ⟨g, j, none⟩ u g' (fun e => hne (by rw [e]; rfl))]
  exact h.bf g' hg' hne
theorem rep_crow (n : Nat) (t : List UInt8) : crow (List.replicate (n + 1) t) = crow (List.replicate n t) ++ ccells t := by rw [List.replicate_succ', crow_snoc]
theorem ccells_len9 {t : List UInt8} {n : Nat} {c o : Nat → Bool} (h : Cub t n c o) : (ccells t).length = 9 := by rw [← h.cells]; rfl
/-- nine cells more are the mark's -/
theorem take9 {xs : List Value} {k N : Nat} (hl : xs.length = N * 9) (hk : k < N) {p : List Value} (h : xs.take (k * 9) = p) (a0 a1 a2 a3 a4 a5 a6 a7 a8 : Value) :
    (((((((((xs.set (k * 9) a0).set (k * 9 + 1) a1).set (k * 9 + 2) a2).set (k * 9 + 3) a3).set (k * 9 + 4) a4).set (k * 9 + 5) a5).set (k * 9 + 6) a6).set (k * 9 + 7) a7).set (k * 9 + 8) a8).take ((k + 1) * 9) = p ++ [a0, a1, a2, a3, a4, a5, a6, a7, a8] := by
  have one : ∀ (ys : List Value) (m : Nat) (q : List Value) (u : Value), m < ys.length → ys.take m = q → (ys.set m u).take (m + 1) = q ++ [u] := by
    intro ys m q u hm hq
    rw [List.take_add_one, List.take_set_of_le (Nat.le_refl m), hq, List.getElem?_set_self hm]
    rfl
  have h0 := one xs (k * 9) p a0 (by omega) h
  have h1 := one _ _ _ a1 (by simp; omega) h0
  have h2 := one _ _ _ a2 (by simp; omega) h1
  have h3 := one _ _ _ a3 (by simp; omega) h2
  have h4 := one _ _ _ a4 (by simp; omega) h3
  have h5 := one _ _ _ a5 (by simp; omega) h4
  have h6 := one _ _ _ a6 (by simp; omega) h5
  have h7 := one _ _ _ a7 (by simp; omega) h6
  have h8 := one _ _ _ a8 (by simp; omega) h7
  rw [show (k + 1) * 9 = k * 9 + 8 + 1 by omega]
  simpa using h8
end Go.Proofs.Ytoglcocplpdlhaa.Tn
