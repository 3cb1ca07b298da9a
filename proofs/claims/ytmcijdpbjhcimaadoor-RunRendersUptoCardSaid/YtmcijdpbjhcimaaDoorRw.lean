/- RunRenders: twice: one list copied with a text behind it. -/
import Derived.Test.YtmcijdpbjhcimaaDoorRs
import Derived.Test.YtmcijdpbjhcimaaDoorGw
import Derived.Deep.AppendLies
namespace Go.Proofs.YtmcijdpbjhcimaaDoor.Rn
open Go.RowKit Go.Shelf Mm
set_option linter.unusedVariables false
def behB : ByteArray := ⟨#[98, 101, 104, 105, 110, 100]⟩
theorem row_append {B : Nat} {v vy : Value} {n : Nat} {xs : List Value} {M : List ByteArray} {w : World} (ty : TypeId) (hown : w.ownsRow B 9 1 v n xs) (hS : Sees w vy (ss M)) (hn : (n + M.length) * 16 ≤ 140737488355328) (hB : B ≤ w.heap.size) :
    ∃ v' w', (Builtin.append_ #[28, 28] ty #[v, vy]).run Tryd.prog w = .ok v' w' ∧ w'.ownsRow B 9 1 v' (n + M.length) (xs ++ ss M) ∧ Below B w w' ∧ w.grownBy w' v.ownBlock := by
  obtain ⟨i0, hi, hz0, hz1, hz2⟩ := info_parts info_str
  obtain ⟨ad, cap, rfl, hN, hc, hm, hq⟩ := hS
  rw [ss_len] at hc ⊢
  cases ad with
  | none =>
    have hc0 := hN rfl
    have hM : M = [] := List.eq_nil_of_length_eq_zero (by omega)
    subst hM
    subst hc0
    have hr := run_append_owned_none (P := Tryd.prog) (w := w) B 28 ty 9 i0 1 Tryd.underlying28 hi v n _ hown
    exact ⟨v, w, hr, by simpa [ss] using hown, Below.refl _ _, grefl _ _⟩
  | some ad =>
    obtain ⟨v', w', hr, h2, h3, _, _⟩ := run_append_own_at (P := Tryd.prog) w B 28 ty 9 i0 _ 1 16 Tryd.underlying28 hi hz0 hz1 hz2 rfl (by decide) v n _ hown ad M.length cap (ss M) (by rw [ss_len]; simp)
      (by
        intro j u hj
        rcases hq with hq | ⟨g, off, ha, hg, hq⟩
        · rw [hq] at hj; simp at hj
        · cases ha
          rw [add_offs]
          exact hq j u hj) (ss_one M) (by simp only [maxLen]; omega) (by omega) hB
    exact ⟨v', w', hr, h2, (Below.refl B w).grown h3 hB (fun k hk => (hown.lt k hk).1), h3⟩
theorem step_app_ss {B : Nat} {v vy : Value} {n : Nat} {xs : List Value} {M : List ByteArray} {w : World} {ops : Array Oper} {o : Oper} {a : Act} {K : Act → World → Prop} {Q : Exit → Act → World → Prop} {E : Prop} (s x : Operand)
    (hown : w.ownsRow B 9 1 v n xs) (hy : Sees w vy (ss M)) (hgd : o.guard = none) (ho : o.op = .call { callee := .builtin .append, args := #[s, x], argTypes := #[28, 28] })
    (hs : a.eval s = v) (hx : a.eval x = vy) (hn : (n + M.length) * 16 ≤ 140737488355328) (hB : B ≤ w.heap.size)
    (h : ∀ v' w', w'.ownsRow B 9 1 v' (n + M.length) (xs ++ ss M) → Below B w w' → w.grownBy w' v.ownBlock → K (a.put o.dst v') w') :
    if Region.wanted o (yielded ops a.tmps) = true then Oper.wp Tryd.prog o a w K Q else E := by
  have hw : Region.wanted o (yielded ops a.tmps) = true := by simp [Region.wanted, hgd]
  rw [if_pos hw]
  obtain ⟨v', w', hr, h1, h2, h3⟩ := row_append (w := w) o.type hown hy hn hB
  unfold Oper.wp execOp
  simp only [ho, resolve, invoke, builtin, Sem.run_bind, Sem.run_pure, Result.andThen_ok, List.map_toArray, List.map_cons, List.map_nil, hs, hx, hr]
  exact h v' w' h1 h2 h3
/-- a list with a text behind it -/
def Tl (X : World) (B : Nat) (v : Value) (l : List ByteArray) : Prop := ∃ g cap, v = .slice (some ⟨g, 0, none⟩) l.length cap ∧ l.length + 1 ≤ cap ∧ cap ≤ maxLen ∧ X.ownsRow B 9 1 (.slice (some ⟨g, 0, none⟩) (l.length + 1) cap) (l.length + 1) (ss (l ++ [behB]))
abbrev HdC (X : World) (g q : Nat) (z : Value) (w' : World) : Prop := w'.cell? ⟨g, q, none⟩ = some z ∧ Below X.heap.size X w'
theorem HdC.alloc {X W : World} {g q : Nat} {z : Value} (hg : g < X.heap.size) (h : HdC X g q z W) (o : Obj) : HdC X g q z (W.alloc o) :=
  ⟨by rw [((Below.refl W.heap.size W).alloc (Nat.le_refl _) o).cell (p := ⟨g, q, none⟩) (Nat.lt_of_lt_of_le hg h.2.size)]; exact h.1, h.2.alloc h.2.size o⟩
theorem HdC.go {X W W' : World} {g q : Nat} {z : Value} (hg : g < X.heap.size) (h : HdC X g q z W) (hb : Below X.heap.size W W') : HdC X g q z W' :=
  ⟨by rw [hb.cell (p := ⟨g, q, none⟩) hg]; exact h.1, h.2.trans hb⟩
/-- what a copy's statement leaves -/
def RegP (X : World) (ny c : Nat) (l : List ByteArray) (wx : World) : Prop :=
  ∃ (g cap : Nat) (Y : World), wx = Y.setCell ⟨ny, c, none⟩ (.slice (some ⟨g, 0, none⟩) l.length cap) ∧ Below X.heap.size X Y ∧ l.length + 1 ≤ cap ∧ cap ≤ maxLen ∧ Y.ownsRow X.heap.size 9 1 (.slice (some ⟨g, 0, none⟩) (l.length + 1) cap) (l.length + 1) (ss (l ++ [behB]))
/-! Rows of rows: what a function of a reply and its lists' values lays, reply by reply. -/
def up : Value → Value
  | .slice a n c => .slice a (n + 1) c
  | v => v
def three (y : Rep) (u : Vs) : List Rw := [⟨up u.p, y.po.length + 1, ss (y.po ++ [behB])⟩, ⟨up u.e, y.en.length + 1, ss (y.en ++ [behB])⟩, ⟨up u.l, y.li.length + 1, ss (y.li ++ [behB])⟩]
def tR (R : List Rep) (V : List Vs) : List Rw := (R.zip V).flatMap fun x => three x.1 x.2
theorem tR_len : ∀ (R : List Rep) (V : List Vs), V.length = R.length → (tR R V).length = R.length * 3
  | [], _, _ => by simp [tR]
  | x :: R, [], h => by simp at h
  | x :: R, u :: V, h => by
    have := tR_len R V (by simpa using h)
    simp only [tR, List.zip_cons_cons, List.flatMap_cons, List.length_append, List.length_cons] at this ⊢
    rw [this]
    simp only [three, List.length_cons, List.length_nil]
    omega
theorem tR_at : ∀ (R : List Rep) (V : List Vs) (k : Nat) (y : Rep) (u : Vs) (j : Nat), R[k]? = some y → V[k]? = some u → j < 3 → (tR R V)[k * 3 + j]? = (three y u)[j]?
  | [], _, _, _, _, _, h, _, _ => by simp at h
  | _ :: _, [], _, _, _, _, _, h, _ => by simp at h
  | x :: R, v :: V, 0, y, u, j, h1, h2, hj => by
    simp only [List.getElem?_cons_zero, Option.some.injEq] at h1 h2
    subst h1
    subst h2
    simp only [tR, List.zip_cons_cons, List.flatMap_cons, Nat.zero_mul, Nat.zero_add]
    rw [List.getElem?_append_left (by simpa [three] using hj)]
  | x :: R, v :: V, k + 1, y, u, j, h1, h2, hj => by
    simp only [List.getElem?_cons_succ] at h1 h2
    have := tR_at R V k y u j h1 h2 hj
    simp only [tR, List.zip_cons_cons, List.flatMap_cons] at this ⊢
    rw [List.getElem?_append_right (by simp only [three, List.length_cons, List.length_nil]; omega)]
    rw [show (k + 1) * 3 + j - (three x v).length = k * 3 + j by simp only [three, List.length_cons, List.length_nil]; omega]
    exact this
theorem tR_snoc : ∀ (R : List Rep) (V : List Vs) (y : Rep) (u : Vs), V.length = R.length → tR (R ++ [y]) (V ++ [u]) = tR R V ++ three y u
  | [], [], y, u, _ => by simp [tR]
  | [], _ :: _, _, _, h => by simp at h
  | _ :: _, [], _, _, h => by simp at h
  | x :: R, v :: V, y, u, h => by
    have := tR_snoc R V y u (by simpa using h)
    simp only [tR, List.cons_append, List.zip_cons_cons, List.flatMap_cons, List.append_assoc] at this ⊢
    rw [this]
/-- the form of a list with room behind it -/
def Fm (v : Value) (l : List ByteArray) : Prop := ∃ g cap, v = .slice (some ⟨g, 0, none⟩) l.length cap ∧ l.length + 1 ≤ cap ∧ cap ≤ maxLen
/-- replies of the call's own -/
structure OR (B : Nat) (sl : Value) (R : List Rep) (V : List Vs) (X : World) : Prop where
  n : V.length = R.length
  own : X.ownsRow B 30 9 sl R.length (rC R V)
  fam : Fam B 9 1 (tR R V) X
  fm : ∀ (k : Nat) (y : Rep) (u : Vs), R[k]? = some y → V[k]? = some u → Fm u.p y.po ∧ Fm u.e y.en ∧ Fm u.l y.li
theorem OR.nil (B : Nat) (X : World) : OR B (.slice none 0 0) [] [] X := ⟨rfl, World.ownsRow_nil _ _ _ _, Fam.nil _ _ _ _, fun k y u h => by simp at h⟩
theorem OR.below {B M : Nat} {sl : Value} {R : List Rep} {V : List Vs} {X Y : World} (h : OR B sl R V X) (hb : Below M X Y) (hM : X.heap.size ≤ M) : OR B sl R V Y := ⟨h.n, own_below h.own hb hM, h.fam.below hb hM, h.fm⟩
theorem sees_tl {X : World} {B g n cap : Nat} {l : List ByteArray} (hn : n = l.length) (h : X.ownsRow B 9 1 (.slice (some ⟨g, 0, none⟩) (n + 1) cap) (n + 1) (ss (l ++ [behB]))) (hc : n + 1 ≤ cap) (hm : cap ≤ maxLen) : Sees X (.slice (some ⟨g, 0, none⟩) n cap) (ss l) := by
  subst hn
  obtain ⟨g', cap', e, _, _, hlt, hx⟩ := own_at h (by omega)
  cases e
  refine ⟨some ⟨g, 0, none⟩, cap, by rw [ss_len], (fun h => by cases h), by rw [ss_len]; omega, hm, .inr ⟨g, 0, rfl, hlt, fun j u hj => ?_⟩⟩
  rw [Nat.zero_add]
  refine hx j u ?_
  rw [ss_app, List.getElem?_append_left (List.getElem?_eq_some_iff.1 hj).1]
  exact hj
theorem OR.reps {B : Nat} {sl : Value} {R : List Rep} {V : List Vs} {X : World} (h : OR B sl R V X) : RepsW X sl R V := by
  refine ⟨h.n, SeesS.of_own h.own, fun k y u h1 h2 => ?_⟩
  obtain ⟨⟨g1, c1, e1, hc1, hm1⟩, ⟨g2, c2, e2, hc2, hm2⟩, ⟨g3, c3, e3, hc3, hm3⟩⟩ := h.fm k y u h1 h2
  have t0 := h.fam.1 _ _ (by rw [tR_at R V k y u 0 h1 h2 (by omega)]; rfl)
  have t1 := h.fam.1 _ _ (by rw [tR_at R V k y u 1 h1 h2 (by omega)]; rfl)
  have t2 := h.fam.1 _ _ (by rw [tR_at R V k y u 2 h1 h2 (by omega)]; rfl)
  simp only [e1, e2, e3, up] at t0 t1 t2
  exact ⟨by rw [e1]; exact sees_tl rfl t0 hc1 hm1, by rw [e2]; exact sees_tl rfl t1 hc2 hm2, by rw [e3]; exact sees_tl rfl t2 hc3 hm3⟩
theorem apart_low {Y : World} {N B' s n : Nat} {e : TypeId} {v u : Value} {xs : List Value} (h : ∀ g, v.ownBlock = some g → g < N) (hu : Y.ownsRow B' e s u n xs) (hB : N ≤ B') : Apart v u := by
  unfold Apart
  cases hv : v.ownBlock with
  | none => exact .inl rfl
  | some g => exact .inr (fun e0 => by have h1 := h g hv; have h2 := (own_ty hu e0.symm).1; omega)
theorem own_ltO {X : World} {B s n : Nat} {e : TypeId} {v : Value} {xs : List Value} (h : X.ownsRow B e s v n xs) : ∀ g, v.ownBlock = some g → g < X.heap.size := fun g hg => (h.lt g hg).2
theorem idx_snoc {α : Type} {l : List α} {q r : α} {i : Nat} (h : (l ++ [q])[i]? = some r) : l[i]? = some r ∨ r = q := by
  rcases Nat.lt_or_ge i l.length with h1 | h1
  · rw [List.getElem?_append_left h1] at h; exact .inl h
  · rw [List.getElem?_append_right h1] at h
    rcases Nat.eq_or_lt_of_le h1 with h2 | h2
    · rw [← h2, Nat.sub_self] at h
      exact .inr (by simpa using h.symm)
    · rw [List.getElem?_eq_none (by simp; omega)] at h; cases h
/-- a reply more: its lists lie in blocks from N on, apart -/
theorem OR.snoc {B N : Nat} {sl sl' : Value} {R : List Rep} {V : List Vs} {X Y : World} {y : Rep} {u : Vs} (h : OR B sl R V X) (hBN : B ≤ N) (hlow : ∀ (i : Nat) (r : Rw), (tR R V)[i]? = some r → ∀ g, r.v.ownBlock = some g → g < N)
    (o1 : X.ownsRow N 9 1 (up u.p) (y.po.length + 1) (ss (y.po ++ [behB]))) (o2 : X.ownsRow N 9 1 (up u.e) (y.en.length + 1) (ss (y.en ++ [behB]))) (o3 : X.ownsRow N 9 1 (up u.l) (y.li.length + 1) (ss (y.li ++ [behB])))
    (a12 : Apart (up u.p) (up u.e)) (a13 : Apart (up u.p) (up u.l)) (a23 : Apart (up u.e) (up u.l)) (hf : Fm u.p y.po ∧ Fm u.e y.en ∧ Fm u.l y.li)
    (ho : Y.ownsRow B 30 9 sl' (R.length + 1) (rC R V ++ yC y u)) (hk : Keeps X sl sl' Y) : OR B sl' (R ++ [y]) (V ++ [u]) Y := by
  have low : ∀ {n : Nat} {v : Value} {xs : List Value}, X.ownsRow N 9 1 v n xs → X.ownsRow B 9 1 v n xs := fun h0 => own_low h0 hBN
  have hfam : Fam B 9 1 (tR (R ++ [y]) (V ++ [u])) X := by
    rw [tR_snoc R V y u h.n, show three y u = [⟨up u.p, y.po.length + 1, ss (y.po ++ [behB])⟩] ++ ([⟨up u.e, y.en.length + 1, ss (y.en ++ [behB])⟩] ++ [⟨up u.l, y.li.length + 1, ss (y.li ++ [behB])⟩]) from rfl, ← List.append_assoc, ← List.append_assoc]
    have f1 := h.fam.snoc (q := ⟨up u.p, y.po.length + 1, ss (y.po ++ [behB])⟩) (low o1) (fun i r hr => apart_low (hlow i r hr) o1 (Nat.le_refl _))
    have f2 := f1.snoc (q := ⟨up u.e, y.en.length + 1, ss (y.en ++ [behB])⟩) (low o2) (fun i r hr => by
      rcases idx_snoc hr with hr | rfl
      · exact apart_low (hlow i r hr) o2 (Nat.le_refl _)
      · exact a12)
    refine f2.snoc (q := ⟨up u.l, y.li.length + 1, ss (y.li ++ [behB])⟩) (low o3) (fun i r hr => ?_)
    rcases idx_snoc hr with hr | rfl
    · rcases idx_snoc hr with hr | rfl
      · exact apart_low (hlow i r hr) o3 (Nat.le_refl _)
      · exact a13
    · exact a23
  refine ⟨by simp [h.n], by rw [rC_snoc R V y u h.n, List.length_append]; exact ho, hfam.keeps hk fun i r hr => apart_ty (hfam.1 i r hr) h.own (by decide), fun k y' u' h1 h2 => ?_⟩
  rcases Nat.lt_or_ge k R.length with hlt | hge
  · rw [List.getElem?_append_left hlt] at h1
    rw [List.getElem?_append_left (by rw [h.n]; exact hlt)] at h2
    exact h.fm k y' u' h1 h2
  · have hk2 : k = R.length := by
      have := (List.getElem?_eq_some_iff.1 h1).1
      simp at this
      omega
    subst hk2
    rw [List.getElem?_append_right (Nat.le_refl _), Nat.sub_self] at h1
    rw [List.getElem?_append_right (by rw [h.n]; exact Nat.le_refl _), h.n, Nat.sub_self] at h2
    simp only [List.getElem?_cons_zero, Option.some.injEq] at h1 h2
    subst h1
    subst h2
    exact hf
end Go.Proofs.YtmcijdpbjhcimaaDoor.Rn
