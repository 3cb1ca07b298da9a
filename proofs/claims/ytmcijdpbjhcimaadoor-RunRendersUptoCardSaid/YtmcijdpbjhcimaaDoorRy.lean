/- RunRenders: own replies written over. -/
import Derived.Test.YtmcijdpbjhcimaaDoorRx
namespace Go.Proofs.YtmcijdpbjhcimaaDoor.Rn
open Go.RowKit Go.Shelf Mm
set_option linter.unusedVariables false
theorem rC_set : ∀ (R : List Rep) (V : List Vs) (i : Nat) (y y' : Rep) (u : Vs) (j : Nat) (x : Value), R[i]? = some y → V[i]? = some u → j < 9 → yC y' u = (yC y u).set j x → rC (R.set i y') V = (rC R V).set (i * 9 + j) x
  | [], _, _, _, _, _, _, _, h, _, _, _ => by simp at h
  | _ :: _, [], _, _, _, _, _, _, _, h, _, _ => by simp at h
  | a :: R, v :: V, 0, y, y', u, j, x, h1, h2, hj, hc => by
    simp only [List.getElem?_cons_zero, Option.some.injEq] at h1 h2
    subst h1
    subst h2
    simp only [rC, List.set_cons_zero, List.zip_cons_cons, List.flatMap_cons, Nat.zero_mul, Nat.zero_add]
    rw [List.set_append_left _ _ (by simpa [yC] using hj), hc]
  | a :: R, v :: V, i + 1, y, y', u, j, x, h1, h2, hj, hc => by
    simp only [List.getElem?_cons_succ] at h1 h2
    have := rC_set R V i y y' u j x h1 h2 hj hc
    simp only [rC, List.set_cons_succ, List.zip_cons_cons, List.flatMap_cons] at this ⊢
    rw [List.set_append_right _ _ (by simp only [yC, List.length_cons, List.length_nil]; omega), this]
    rw [show (i + 1) * 9 + j - (yC a v).length = i * 9 + j by simp only [yC, List.length_cons, List.length_nil]; omega]
theorem rC_same : ∀ (R : List Rep) (V : List Vs) (i : Nat) (y y' : Rep) (u : Vs), R[i]? = some y → V[i]? = some u → yC y' u = yC y u → rC (R.set i y') V = rC R V
  | [], _, _, _, _, _, h, _, _ => by simp at h
  | _ :: _, [], _, _, _, _, _, h, _ => by simp at h
  | a :: R, v :: V, 0, y, y', u, h1, h2, hc => by
    simp only [List.getElem?_cons_zero, Option.some.injEq] at h1 h2
    subst h1
    subst h2
    simp only [rC, List.set_cons_zero, List.zip_cons_cons, List.flatMap_cons]
    rw [hc]
  | a :: R, v :: V, i + 1, y, y', u, h1, h2, hc => by
    simp only [List.getElem?_cons_succ] at h1 h2
    have := rC_same R V i y y' u h1 h2 hc
    simp only [rC, List.set_cons_succ, List.zip_cons_cons, List.flatMap_cons] at this ⊢
    rw [this]
theorem tR_set : ∀ (R : List Rep) (V : List Vs) (i : Nat) (y y' : Rep) (u : Vs) (j : Nat) (x : Rw), R[i]? = some y → V[i]? = some u → j < 3 → three y' u = (three y u).set j x → tR (R.set i y') V = (tR R V).set (i * 3 + j) x
  | [], _, _, _, _, _, _, _, h, _, _, _ => by simp at h
  | _ :: _, [], _, _, _, _, _, _, _, h, _, _ => by simp at h
  | a :: R, v :: V, 0, y, y', u, j, x, h1, h2, hj, hc => by
    simp only [List.getElem?_cons_zero, Option.some.injEq] at h1 h2
    subst h1
    subst h2
    simp only [tR, List.set_cons_zero, List.zip_cons_cons, List.flatMap_cons, Nat.zero_mul, Nat.zero_add]
    rw [List.set_append_left _ _ (by simpa [three] using hj), hc]
  | a :: R, v :: V, i + 1, y, y', u, j, x, h1, h2, hj, hc => by
    simp only [List.getElem?_cons_succ] at h1 h2
    have := tR_set R V i y y' u j x h1 h2 hj hc
    simp only [tR, List.set_cons_succ, List.zip_cons_cons, List.flatMap_cons] at this ⊢
    rw [List.set_append_right _ _ (by simp only [three, List.length_cons, List.length_nil]; omega), this]
    rw [show (i + 1) * 3 + j - (three a v).length = i * 3 + j by simp only [three, List.length_cons, List.length_nil]; omega]
theorem tR_same : ∀ (R : List Rep) (V : List Vs) (i : Nat) (y y' : Rep) (u : Vs), R[i]? = some y → V[i]? = some u → three y' u = three y u → tR (R.set i y') V = tR R V
  | [], _, _, _, _, _, h, _, _ => by simp at h
  | _ :: _, [], _, _, _, _, _, h, _ => by simp at h
  | a :: R, v :: V, 0, y, y', u, h1, h2, hc => by
    simp only [List.getElem?_cons_zero, Option.some.injEq] at h1 h2
    subst h1
    subst h2
    simp only [tR, List.set_cons_zero, List.zip_cons_cons, List.flatMap_cons]
    rw [hc]
  | a :: R, v :: V, i + 1, y, y', u, h1, h2, hc => by
    simp only [List.getElem?_cons_succ] at h1 h2
    have := tR_same R V i y y' u h1 h2 hc
    simp only [tR, List.set_cons_succ, List.zip_cons_cons, List.flatMap_cons] at this ⊢
    rw [this]
theorem fm_set {R : List Rep} {V : List Vs} {i : Nat} {y y' : Rep} (h : ∀ (k : Nat) (y : Rep) (u : Vs), R[k]? = some y → V[k]? = some u → Fm u.p y.po ∧ Fm u.e y.en ∧ Fm u.l y.li) (hR : R[i]? = some y) (e1 : y'.po.length = y.po.length) (e2 : y'.en.length = y.en.length) (e3 : y'.li.length = y.li.length) :
    ∀ (k : Nat) (z : Rep) (u : Vs), (R.set i y')[k]? = some z → V[k]? = some u → Fm u.p z.po ∧ Fm u.e z.en ∧ Fm u.l z.li := by
  intro k z u h1 h2
  by_cases hk : k = i
  · subst hk
    rw [List.getElem?_set_self (List.getElem?_eq_some_iff.1 hR).1] at h1
    cases h1
    obtain ⟨f1, f2, f3⟩ := h k y u hR h2
    unfold Fm at *
    rw [e1, e2, e3]
    exact ⟨f1, f2, f3⟩
  · rw [List.getElem?_set_ne (Ne.symm hk)] at h1
    exact h k z u h1 h2
/-- a cell of a reply is written -/
theorem OR.setC {B g n cap : Nat} {R : List Rep} {V : List Vs} {X : World} {i j : Nat} {y y' : Rep} {u : Vs} {x : Value} (h : OR B (.slice (some ⟨g, 0, none⟩) n cap) R V X) (hn : n = R.length) (hR : R[i]? = some y) (hV : V[i]? = some u) (hj : j < 9) (hc : yC y' u = (yC y u).set j x) (e1 : y'.po = y.po) (e2 : y'.en = y.en) (e3 : y'.li = y.li) :
    OR B (.slice (some ⟨g, 0, none⟩) n cap) (R.set i y') V (X.setCell ⟨g, i * 9 + j, none⟩ x) := by
  have ht : three y' u = three y u := by unfold three; rw [e1, e2, e3]
  refine ⟨by rw [List.length_set]; exact h.n, ?_, ?_, fm_set h.fm hR (by rw [e1]) (by rw [e2]) (by rw [e3])⟩
  · rw [List.length_set, rC_set R V i y y' u j x hR hV hj hc]
    subst hn
    exact (h.own.stored (i * 9 + j) x).1
  · rw [tR_same R V i y y' u hR hV ht]
    refine ⟨fun k r hr => own_grown (h.fam.1 k r hr) (only_set X g (i * 9 + j) x) ?_, h.fam.2⟩
    exact apart_ty (h.fam.1 k r hr) h.own (by decide)
/-- a text of a reply's list is written -/
theorem OR.setT {B g n cap : Nat} {sl : Value} {R : List Rep} {V : List Vs} {X : World} {i j k : Nat} {y y' : Rep} {u : Vs} {x : Value} {xs : List Value} (h : OR B sl R V X) (hR : R[i]? = some y) (hV : V[i]? = some u) (hj : j < 3) (hr : (three y u)[j]? = some ⟨.slice (some ⟨g, 0, none⟩) n cap, n, xs⟩)
    (ht : three y' u = (three y u).set j ⟨.slice (some ⟨g, 0, none⟩) n cap, n, xs.set k x⟩) (hc : yC y' u = yC y u) (e1 : y'.po.length = y.po.length) (e2 : y'.en.length = y.en.length) (e3 : y'.li.length = y.li.length) :
    OR B sl (R.set i y') V (X.setCell ⟨g, k, none⟩ x) := by
  have hrow : (tR R V)[i * 3 + j]? = some ⟨.slice (some ⟨g, 0, none⟩) n cap, n, xs⟩ := by rw [tR_at R V i y u j hR hV hj]; exact hr
  refine ⟨by rw [List.length_set]; exact h.n, ?_, ?_, fm_set h.fm hR e1 e2 e3⟩
  · rw [List.length_set, rC_same R V i y y' u hR hV hc]
    refine own_grown h.own (only_set X g k x) ?_
    have := apart_ty h.own (h.fam.1 _ _ hrow) (by decide)
    exact this
  · rw [tR_set R V i y y' u j _ hR hV hj ht]
    exact h.fam.put hrow k x
def mixL (s : ByteArray) (l : List ByteArray) (k : Nat) : List ByteArray := List.replicate k s ++ l.drop k
theorem mix_len {s : ByteArray} {l : List ByteArray} {k : Nat} (h : k ≤ l.length) : (mixL s l k).length = l.length := by
  unfold mixL
  rw [List.length_append, List.length_replicate, List.length_drop]
  omega
theorem mix_zero (s : ByteArray) (l : List ByteArray) : mixL s l 0 = l := by simp [mixL]
theorem mix_all (s : ByteArray) (l : List ByteArray) : mixL s l l.length = List.replicate l.length s := by simp [mixL]
theorem mix_set {s : ByteArray} {l : List ByteArray} {k : Nat} (h : k < l.length) : (mixL s l k).set k s = mixL s l (k + 1) := by
  unfold mixL
  rw [List.set_append_right _ _ (by simp), List.length_replicate, Nat.sub_self, List.drop_eq_getElem_cons h, List.set_cons_zero, List.replicate_succ', List.append_assoc]
  rfl
theorem ss_mix {s : ByteArray} {l : List ByteArray} {k : Nat} (h : k < l.length) : (ss (mixL s l k ++ [behB])).set k (.string s) = ss (mixL s l (k + 1) ++ [behB]) := by
  rw [ss_app, ss_app, List.set_append_left _ _ (by rw [ss_len, mix_len (by omega)]; exact h)]
  congr 1
  unfold ss
  rw [← List.map_set, mix_set h]
end Go.Proofs.YtmcijdpbjhcimaaDoor.Rn
