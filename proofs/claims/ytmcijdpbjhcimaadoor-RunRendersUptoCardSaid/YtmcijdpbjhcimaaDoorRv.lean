/- RunRenders: the second half's states: the lists written over, reply by reply. -/
import Derived.Test.YtmcijdpbjhcimaaDoorRy
namespace Go.Proofs.YtmcijdpbjhcimaaDoor.Rn
open Go.RowKit Go.Shelf Mm
set_option linter.unusedVariables false
structure Gv (w : World) (n4 B g n cap : Nat) (kd co te li : Int) (V : List Vs) (R : List Rep) (X : World) : Prop where
  bel : Below w.heap.size w X
  b4 : Blk X n4 25 #[.int .i64 kd, .int .i64 co, .int .i64 te, .int .i64 li, .slice (some ⟨g, 0, none⟩) n cap]
  or_ : OR B (.slice (some ⟨g, 0, none⟩) n cap) R V X
  n : n = R.length
  lo : w.heap.size ≤ B
section
variable {w X Y : World} {n4 B g n cap : Nat} {kd co te li : Int} {V : List Vs} {R : List Rep} {k : Nat} {y y' : Rep} {u : Vs}
theorem Gv.below (h : Gv w n4 B g n cap kd co te li V R X) (hb : Below X.heap.size X Y) : Gv w n4 B g n cap kd co te li V R Y :=
  ⟨bnx h.bel hb, h.b4.below hb h.b4.lt, h.or_.below hb (Nat.le_refl _), h.n, h.lo⟩
theorem Gv.block (h : Gv w n4 B g n cap kd co te li V R X) : B ≤ g ∧ g < X.heap.size ∧ n4 ≠ g ∧ ∃ cur, Blk X g 30 cur := by
  obtain ⟨h1, h2, cur, h3⟩ := own_ty h.or_.own rfl
  refine ⟨h1, h2, fun e => ?_, cur, h3⟩
  have := blk_apart h.b4 h.or_.own (by decide)
  exact this (by rw [e]; rfl)
theorem Gv.cells (h : Gv w n4 B g n cap kd co te li V R X) (hR : R[k]? = some y) (hV : V[k]? = some u) : YAt X g (k * 9) y u := by
  have hk : k < R.length := (List.getElem?_eq_some_iff.1 hR).1
  obtain ⟨g', off, e, _, hq⟩ := h.or_.reps.at (by omega)
  cases e
  obtain ⟨u', hu, hy, _⟩ := hq k hk
  rw [hV] at hu
  cases hu
  rw [Nat.zero_add, (List.getElem?_eq_some_iff.1 hR).2] at hy
  exact hy
theorem Gv.setC {j : Nat} {x : Value} (h : Gv w n4 B g n cap kd co te li V R X) (hR : R[k]? = some y) (hV : V[k]? = some u) (hj : j < 9) (hc : yC y' u = (yC y u).set j x) (e1 : y'.po = y.po) (e2 : y'.en = y.en) (e3 : y'.li = y.li) :
    Gv w n4 B g n cap kd co te li V (R.set k y') (X.setCell ⟨g, k * 9 + j, none⟩ x) := by
  obtain ⟨h1, h2, h3, _⟩ := h.block
  exact ⟨h.bel.setCell (p := ⟨g, k * 9 + j, none⟩) (Nat.le_trans h.lo h1) _, h.b4.far (p := ⟨g, k * 9 + j, none⟩) h3 _, h.or_.setC h.n hR hV hj hc e1 e2 e3, by rw [List.length_set]; exact h.n, h.lo⟩
/-- row j of reply k -/
theorem Gv.row {a b m j : Nat} {xs : List Value} (h : Gv w n4 B g n cap kd co te li V R X) (hR : R[k]? = some y) (hV : V[k]? = some u) (hj : j < 3) (hr : (three y u)[j]? = some ⟨.slice (some ⟨a, 0, none⟩) m b, m, xs⟩) :
    w.heap.size ≤ a ∧ n4 ≠ a ∧ a < X.heap.size ∧ (∀ i, X.frozen? ⟨a, i, none⟩ = false) ∧ ∀ i x, xs[i]? = some x → X.cell? ⟨a, i, none⟩ = some x := by
  have ho := h.or_.fam.1 _ _ (by rw [tR_at R V k y u j hR hV hj]; exact hr)
  obtain ⟨h1, h2, cur, h3⟩ := own_ty ho rfl
  have hb : Blk X a 9 cur := h3
  refine ⟨Nat.le_trans h.lo h1, fun e => ?_, h2, hb.frozen, fun i x hx => ?_⟩
  · exact blk_apart h.b4 ho (by decide) (by rw [e]; rfl)
  · have := ho.cells (g := a) rfl i x hx
    rw [add_off] at this
    exact this
theorem Gv.setT {a b m i j : Nat} {x : Value} {xs : List Value} (h : Gv w n4 B g n cap kd co te li V R X) (hR : R[k]? = some y) (hV : V[k]? = some u) (hj : j < 3) (hr : (three y u)[j]? = some ⟨.slice (some ⟨a, 0, none⟩) m b, m, xs⟩)
    (ht : three y' u = (three y u).set j ⟨.slice (some ⟨a, 0, none⟩) m b, m, xs.set i x⟩) (hc : yC y' u = yC y u) (e1 : y'.po.length = y.po.length) (e2 : y'.en.length = y.en.length) (e3 : y'.li.length = y.li.length) :
    Gv w n4 B g n cap kd co te li V (R.set k y') (X.setCell ⟨a, i, none⟩ x) := by
  obtain ⟨h1, h2, _, _, _⟩ := h.row hR hV hj hr
  exact ⟨h.bel.setCell (p := ⟨a, i, none⟩) h1 _, h.b4.far (p := ⟨a, i, none⟩) h2 _, h.or_.setT hR hV hj hr ht hc e1 e2 e3, by rw [List.length_set]; exact h.n, h.lo⟩
end
/-- reply k with that in its place -/
def putY (R : List Rep) (k : Nat) (y : Rep) : List Rep := (turned R k).set k y
theorem putY_self {R : List Rep} {k : Nat} (h : k < R.length) : putY R k R[k] = turned R k := by
  have hl : k < (turned R k).length := by rw [turned_len]; exact h
  have e := turned_at h
  unfold putY
  rw [List.getElem?_eq_getElem hl] at e
  conv => lhs; rw [← Option.some.inj e]
  exact List.set_getElem_self hl
theorem putY_turn {R : List Rep} {k : Nat} (h : k < R.length) : putY R k (turn R[k]) = turned R (k + 1) := (turned_succ h).symm
theorem putY_at {R : List Rep} {k : Nat} (h : k < R.length) (y : Rep) : (putY R k y)[k]? = some y := by
  unfold putY
  exact List.getElem?_set_self (by rw [turned_len]; exact h)
theorem putY_set (R : List Rep) (k : Nat) (y z : Rep) : (putY R k y).set k z = putY R k z := by
  unfold putY
  exact List.set_set _
def ylA (y : Rep) (m : Nat) : Rep := { y with fd := !y.fd, sp := turnW, li := mixL turnW y.li m }
def ypA (y : Rep) (m : Nat) : Rep := { y with fd := !y.fd, sp := turnW, li := List.replicate y.li.length turnW, po := mixL portW y.po m }
theorem yl_zero (y : Rep) : ylA y 0 = { y with fd := !y.fd, sp := turnW } := by unfold ylA; rw [mix_zero]
theorem yl_all (y : Rep) : ylA y y.li.length = ypA y 0 := by unfold ylA ypA; rw [mix_all, mix_zero]
theorem yp_all (y : Rep) : ypA y y.po.length = turn y := by unfold ypA turn; rw [mix_all]
section
variable {w X : World} {n4 B g n cap k m : Nat} {kd co te li : Int} {V : List Vs} {R : List Rep} {y : Rep}
theorem Gv.stepL {a b : Nat} {pv ev : Value} (h : Gv w n4 B g n cap kd co te li V (putY R k (ylA y m)) X) (hk : k < R.length) (hV : V[k]? = some ⟨pv, ev, .slice (some ⟨a, 0, none⟩) y.li.length b⟩) (hm : m < y.li.length) :
    (X.cell? ⟨g, k * 9 + 7, none⟩ = some (.slice (some ⟨a, 0, none⟩) y.li.length b) ∧ X.frozen? ⟨a, m, none⟩ = false ∧ ∃ s, X.cell? ⟨a, m, none⟩ = some (.string s)) ∧ Gv w n4 B g n cap kd co te li V (putY R k (ylA y (m + 1))) (X.setCell ⟨a, m, none⟩ (.string turnW)) := by
  have hl := mix_len (s := turnW) (l := y.li) (k := m) (by omega)
  have hl2 := mix_len (s := turnW) (l := y.li) (k := m + 1) (by omega)
  have hr : (three (ylA y m) ⟨pv, ev, .slice (some ⟨a, 0, none⟩) y.li.length b⟩)[2]? = some ⟨.slice (some ⟨a, 0, none⟩) (y.li.length + 1) b, y.li.length + 1, ss (mixL turnW y.li m ++ [behB])⟩ := by
    show some (⟨up _, (mixL turnW y.li m).length + 1, _⟩ : Rw) = _
    rw [hl]
    rfl
  obtain ⟨_, _, _, hf, hc⟩ := h.row (putY_at hk _) hV (by omega) hr
  have hm2 : m < (mixL turnW y.li m).length := by rw [hl]; exact hm
  have hx : (ss (mixL turnW y.li m ++ [behB]))[m]? = some (.string (mixL turnW y.li m)[m]) := by
    rw [ss_app, List.getElem?_append_left (by rw [ss_len]; exact hm2)]
    exact ss_at hm2
  refine ⟨⟨(h.cells (putY_at hk _) hV).c7, hf m, _, hc m _ hx⟩, ?_⟩
  · have h2 := h.setT (y' := ylA y (m + 1)) (i := m) (x := .string turnW) (putY_at hk _) hV (by omega) hr (by
      rw [ss_mix hm]
      unfold three
      simp only [List.set_cons_succ, List.set_cons_zero]
      show [_, _, (⟨up _, (mixL turnW y.li (m + 1)).length + 1, _⟩ : Rw)] = _
      rw [hl2]
      rfl) rfl rfl rfl (by show (mixL turnW y.li (m + 1)).length = (mixL turnW y.li m).length; rw [hl, hl2])
    rw [putY_set] at h2
    exact h2
theorem Gv.stepP {a b : Nat} {ev lv : Value} (h : Gv w n4 B g n cap kd co te li V (putY R k (ypA y m)) X) (hk : k < R.length) (hV : V[k]? = some ⟨.slice (some ⟨a, 0, none⟩) y.po.length b, ev, lv⟩) (hm : m < y.po.length) :
    (X.cell? ⟨g, k * 9 + 4, none⟩ = some (.slice (some ⟨a, 0, none⟩) y.po.length b) ∧ X.frozen? ⟨a, m, none⟩ = false ∧ ∃ s, X.cell? ⟨a, m, none⟩ = some (.string s)) ∧ Gv w n4 B g n cap kd co te li V (putY R k (ypA y (m + 1))) (X.setCell ⟨a, m, none⟩ (.string portW)) := by
  have hl := mix_len (s := portW) (l := y.po) (k := m) (by omega)
  have hl2 := mix_len (s := portW) (l := y.po) (k := m + 1) (by omega)
  have hr : (three (ypA y m) ⟨.slice (some ⟨a, 0, none⟩) y.po.length b, ev, lv⟩)[0]? = some ⟨.slice (some ⟨a, 0, none⟩) (y.po.length + 1) b, y.po.length + 1, ss (mixL portW y.po m ++ [behB])⟩ := by
    show some (⟨up _, (mixL portW y.po m).length + 1, _⟩ : Rw) = _
    rw [hl]
    rfl
  obtain ⟨_, _, _, hf, hc⟩ := h.row (putY_at hk _) hV (by omega) hr
  have hm2 : m < (mixL portW y.po m).length := by rw [hl]; exact hm
  have hx : (ss (mixL portW y.po m ++ [behB]))[m]? = some (.string (mixL portW y.po m)[m]) := by
    rw [ss_app, List.getElem?_append_left (by rw [ss_len]; exact hm2)]
    exact ss_at hm2
  refine ⟨⟨(h.cells (putY_at hk _) hV).c4, hf m, _, hc m _ hx⟩, ?_⟩
  · have h2 := h.setT (y' := ypA y (m + 1)) (i := m) (x := .string portW) (putY_at hk _) hV (by omega) hr (by
      rw [ss_mix hm]
      unfold three
      simp only [List.set_cons_zero]
      show [(⟨up _, (mixL portW y.po (m + 1)).length + 1, _⟩ : Rw), _, _] = _
      rw [hl2]
      rfl) rfl (by show (mixL portW y.po (m + 1)).length = (mixL portW y.po m).length; rw [hl, hl2]) rfl rfl
    rw [putY_set] at h2
    exact h2
end
end Go.Proofs.YtmcijdpbjhcimaaDoor.Rn
