/- Rows that a statement keeps side by side: an append that tells what it leaves alone; a family of rows of the call's own, each in its own block. -/
import Derived.Test.YtlakglphjhoodaaDoorMm
import Derived.Maps.AppendAt
namespace Go.Proofs.YtlakglphjhoodaaDoor.Mm
open Go.RowKit
set_option linter.unusedVariables false
set_option linter.unusedSimpArgs false
set_option linter.unusedSectionVars false
section
variable {P : Program} (w : World)
/-- append onto an own row: in place (that block alone turns), or into a new block (nothing turns). -/
theorem run_append_keep (base : Nat) (t ty e : TypeId) (i : TypeInfo) (z : Value) (size bytes : Nat) (ht : P.underlying t = some (.slice e)) (hi : P.info? e = some i) (hz : i.zero = some z)
    (hsize : i.size = size) (hby : i.bytes = bytes) (hzs : z.cells.size = size) (hsz : 0 < size)
    (v : Value) (n : Nat) (xs : List Value) (hown : w.ownsRow base e size v n xs)
    (a : Addr) (m c : Nat) (news : List Value) (hl : news.length = m * size) (hnews : ∀ j u, news[j]? = some u → w.cell? (a.add j) = some u) (h1 : ∀ u ∈ news, u.oneCell' = true)
    (hm : 0 < m) (h63 : n + m ≤ maxLen) (hbytes : (n + m) * bytes ≤ 140737488355328) (hbase : base ≤ w.heap.size) :
    ∃ v' w', (Builtin.append_ #[t, t] ty #[v, .slice (some a) m c]).run P w = .ok v' w' ∧ w'.ownsRow base e size v' (n + m) (xs ++ news) ∧
      ((v'.ownBlock = v.ownBlock ∧ w.grownBy w' v.ownBlock) ∨ (v'.ownBlock = some w.heap.size ∧ w.grownBy w' none)) := by
  subst hsize
  subst hby
  obtain ⟨v', w', hr, h2, h3, _, _⟩ := run_append_own_at (P := P) w base t ty e i z i.size i.bytes ht hi hz rfl rfl hzs hsz v n xs hown a m c news hl hnews h1 h63 hbytes hbase
  have hsmall : n + m ≤ 9223372036854775807 := by simp only [maxLen] at h63; omega
  refine ⟨v', w', hr, h2, ?_⟩
  have fresh : ∀ cs : Array Value, w.grownBy (w.drew.alloc (.cells cs e)) none := fun cs => ⟨rfl, rfl, rfl, by simp, fun k hk _ => heap_alloc_old w.drew _ hk⟩
  rcases hown.2 with ⟨rfl, rfl⟩ | ⟨g, cap, cur, rfl, hbg, hg, hnc, hcm, hcs, htake⟩
  · have hr2 := run_append_nil (P := P) w t ty e i z ht hi hz a m c news hl hnews hm (by omega) (by have hb := hbytes; simp only [Nat.zero_add] at hb; omega)
    rw [hr2] at hr
    cases hr
    exact .inr ⟨rfl, fresh _⟩
  · by_cases hroom : n + m ≤ cap
    · have hfit : n * i.size + news.length ≤ cur.size := by rw [hl, hcs, ← Nat.add_mul]; exact Nat.mul_le_mul_right _ hroom
      have hr2 := run_append_room (P := P) w t ty e i ht hi g n cap cur hg a m c news hl hnews h1 hroom hfit
      rw [hr2] at hr
      cases hr
      exact .inl ⟨rfl, h3⟩
    · have holds : ∀ j u, xs[j]? = some u → w.cell? ((⟨g, 0, none⟩ : Addr).add j) = some u := hown.cells (g := g) rfl
      have hr2 := run_append_grow (P := P) w t ty e i z ht hi hz ⟨g, 0, none⟩ n cap xs hown.1 holds a m c news hl hnews (by omega) (by omega) (growslice_fits (by omega) hbytes)
      rw [hr2] at hr
      cases hr
      exact .inr ⟨rfl, fresh _⟩
theorem wpList_append_keep {ops : Array Oper} {rest : List Oper} {o : Oper} {a : Act} {Q : Exit → Act → World → Prop} (hgd : o.guard = none) (s x : Operand) (t : TypeId)
    (ho : o.op = .call { callee := .builtin .append, args := #[s, x], argTypes := #[t, t] })
    (base : Nat) (e : TypeId) (i : TypeInfo) (z : Value) (size bytes : Nat) (ht : P.underlying t = some (.slice e)) (hi : P.info? e = some i) (hz : i.zero = some z)
    (hsize : i.size = size) (hby : i.bytes = bytes) (hzs : z.cells.size = size) (hsz : 0 < size)
    (v : Value) (n : Nat) (xs : List Value) (hs : a.eval s = v) (hown : w.ownsRow base e size v n xs)
    (ad : Addr) (m c : Nat) (news : List Value) (hx : a.eval x = .slice (some ad) m c) (hl : news.length = m * size) (hnews : ∀ j u, news[j]? = some u → w.cell? (ad.add j) = some u) (h1 : ∀ u ∈ news, u.oneCell' = true)
    (hm : 0 < m) (h63 : n + m ≤ maxLen) (hbytes : (n + m) * bytes ≤ 140737488355328) (hbase : base ≤ w.heap.size)
    (h : ∀ v' w', w'.ownsRow base e size v' (n + m) (xs ++ news) → ((v'.ownBlock = v.ownBlock ∧ w.grownBy w' v.ownBlock) ∨ (v'.ownBlock = some w.heap.size ∧ w.grownBy w' none)) → wpList P ops Q rest (a.put o.dst v') w') : wpList P ops Q (o :: rest) a w := by
  refine wpList_plain hgd fun K hK => ?_
  obtain ⟨v', w', hr, h2, h3⟩ := run_append_keep (P := P) w base t o.type e i z size bytes ht hi hz hsize hby hzs hsz v n xs hown ad m c news hl hnews h1 hm h63 hbytes hbase
  unfold Oper.wp execOp
  simp only [ho, resolve, invoke, builtin, Sem.run_bind, Sem.run_pure, Result.andThen_ok, List.map_toArray, List.map_cons, List.map_nil, hs, hx, hr]
  exact hK _ _ (h v' w' h2 h3)
end
/-- what an append turns: the row's own block, or nothing -/
def Keeps (w : World) (v v' : Value) (w' : World) : Prop := (v'.ownBlock = v.ownBlock ∧ w.grownBy w' v.ownBlock) ∨ (v'.ownBlock = some w.heap.size ∧ w.grownBy w' none)
theorem Keeps.by {w w' : World} {v v' : Value} (h : Keeps w v v' w') : w.grownBy w' v.ownBlock := by
  rcases h with h | h
  · exact h.2
  · exact ⟨h.2.os, h.2.tape, h.2.output, h.2.size, fun k hk _ => h.2.block k hk (by simp)⟩
theorem own_grown {w w' : World} {B s n : Nat} {e : TypeId} {v : Value} {xs : List Value} {row : Option Nat} (h : w.ownsRow B e s v n xs) (hg : w.grownBy w' row) (hr : v.ownBlock = none ∨ v.ownBlock ≠ row) : w'.ownsRow B e s v n xs := by
  refine ⟨h.1, ?_⟩
  rcases h.2 with h0 | ⟨g, cap, cur, hv, hb, hc, rest⟩
  · exact .inl h0
  · refine .inr ⟨g, cap, cur, hv, hb, ?_, rest⟩
    have hlt : g < w.heap.size := (Array.getElem?_eq_some_iff.1 hc).1
    have hne : some g ≠ row := by
      subst hv
      rcases hr with hr | hr
      · cases hr
      · exact hr
    exact (hg.block g hlt hne).trans hc
theorem own_ty {w : World} {B s n g : Nat} {e : TypeId} {v : Value} {xs : List Value} (h : w.ownsRow B e s v n xs) (hg : v.ownBlock = some g) : B ≤ g ∧ g < w.heap.size ∧ ∃ cur, w.heap[g]? = some (.cells cur e (0, 0)) := by
  rcases h.2 with ⟨hv, _⟩ | ⟨g', cap, cur, hv, hb, hc, _⟩
  · subst hv; cases hg
  · subst hv
    obtain rfl : g' = g := by simpa [Value.ownBlock] using hg
    exact ⟨hb, (Array.getElem?_eq_some_iff.1 hc).1, cur, hc⟩
/-- two rows do not share a block -/
def Apart (a b : Value) : Prop := a.ownBlock = none ∨ a.ownBlock ≠ b.ownBlock
theorem Apart.symm {a b : Value} (h : Apart a b) : Apart b a := by
  unfold Apart at *
  rcases h with h | h
  · cases hb : b.ownBlock with
    | none => exact .inl rfl
    | some g => exact .inr (by rw [h]; simp)
  · exact .inr (Ne.symm h)
/-- a row stays while another one is appended to -/
theorem own_keeps {w w' : World} {B s n : Nat} {e : TypeId} {v a a' : Value} {xs : List Value} (h : w.ownsRow B e s v n xs) (hk : Keeps w a a' w') (hr : Apart v a) : w'.ownsRow B e s v n xs := own_grown h hk.by hr
/-- .. and apart from what the append hands back -/
theorem Apart.keeps {w w' : World} {B s n : Nat} {e : TypeId} {v a a' : Value} {xs : List Value} (h : w.ownsRow B e s v n xs) (hk : Keeps w a a' w') (hr : Apart v a) : Apart v a' := by
  rcases hk with hk | hk
  · unfold Apart; rw [hk.1]; exact hr
  · unfold Apart
    rw [hk.1]
    cases hv : v.ownBlock with
    | none => exact .inl rfl
    | some g => exact .inr (fun e0 => by have := (own_ty h hv).2.1; have e1 := Option.some.inj e0; omega)
theorem apart_ty {w : World} {B s n B' s' n' : Nat} {e e' : TypeId} {v v' : Value} {xs xs' : List Value} (h : w.ownsRow B e s v n xs) (h' : w.ownsRow B' e' s' v' n' xs') (hne : e ≠ e') : Apart v v' := own_apart h h' hne
theorem apart_new {w : World} {B s n B' s' n' : Nat} {e e' : TypeId} {v v' : Value} {xs xs' : List Value} {w0 : World} (h : w0.ownsRow B e s v n xs) (h' : w.ownsRow B' e' s' v' n' xs') (hB : w0.heap.size ≤ B') : Apart v v' := by
  unfold Apart
  cases hv : v.ownBlock with
  | none => exact .inl rfl
  | some g => exact .inr (fun e0 => by have h1 := (own_ty h hv).2.1; have h2 := (own_ty h' e0.symm).1; omega)
/-- a row among others: its value, its length, its cells -/
structure Rw where
  v : Value
  n : Nat
  xs : List Value
def Fam (B : Nat) (e : TypeId) (s : Nat) (R : List Rw) (X : World) : Prop :=
  (∀ (i : Nat) (r : Rw), R[i]? = some r → X.ownsRow B e s r.v r.n r.xs) ∧ ∀ (i j : Nat) (a b : Rw), i ≠ j → R[i]? = some a → R[j]? = some b → Apart a.v b.v
theorem Fam.nil (B : Nat) (e : TypeId) (s : Nat) (X : World) : Fam B e s [] X := ⟨fun i r h => by simp at h, fun i j a b _ h => by simp at h⟩
theorem Fam.below {B s M : Nat} {e : TypeId} {R : List Rw} {X Y : World} (h : Fam B e s R X) (hb : Below M X Y) (hM : X.heap.size ≤ M) : Fam B e s R Y := ⟨fun i r hr => own_below (h.1 i r hr) hb hM, h.2⟩
theorem Fam.keeps {B s : Nat} {e : TypeId} {R : List Rw} {X Y : World} {a a' : Value} (h : Fam B e s R X) (hk : Keeps X a a' Y) (hr : ∀ (i : Nat) (r : Rw), R[i]? = some r → Apart r.v a) : Fam B e s R Y := ⟨fun i r hi => own_keeps (h.1 i r hi) hk (hr i r hi), h.2⟩
theorem Fam.snoc {B s : Nat} {e : TypeId} {R : List Rw} {X : World} {q : Rw} (h : Fam B e s R X) (hq : X.ownsRow B e s q.v q.n q.xs) (hr : ∀ (i : Nat) (r : Rw), R[i]? = some r → Apart r.v q.v) : Fam B e s (R ++ [q]) X := by
  have hcase : ∀ (i : Nat) (r : Rw), (R ++ [q])[i]? = some r → R[i]? = some r ∨ (i = R.length ∧ r = q) := by
    intro i r hi
    rcases Nat.lt_or_ge i R.length with h1 | h1
    · rw [List.getElem?_append_left h1] at hi; exact .inl hi
    · rw [List.getElem?_append_right h1] at hi
      rcases Nat.eq_or_lt_of_le h1 with h2 | h2
      · rw [← h2, Nat.sub_self] at hi
        exact .inr ⟨h2.symm, by simpa using hi.symm⟩
      · rw [List.getElem?_eq_none (by simp; omega)] at hi; cases hi
  refine ⟨fun i r hi => ?_, fun i j a b hij ha hb => ?_⟩
  · rcases hcase i r hi with h1 | ⟨_, rfl⟩
    · exact h.1 i r h1
    · exact hq
  · rcases hcase i a ha with h1 | ⟨e1, rfl⟩ <;> rcases hcase j b hb with h2 | ⟨e2, rfl⟩
    · exact h.2 i j a b hij h1 h2
    · exact hr i a h1
    · exact (hr j b h2).symm
    · omega
/-- one row is written into, or appended to -/
theorem Fam.set {B s : Nat} {e : TypeId} {R : List Rw} {X Y : World} {i : Nat} {r q : Rw} (h : Fam B e s R X) (hi : R[i]? = some r) (hq : Y.ownsRow B e s q.v q.n q.xs) (hg : X.grownBy Y r.v.ownBlock) (hap : ∀ (j : Nat) (a : Rw), j ≠ i → R[j]? = some a → Apart a.v q.v) : Fam B e s (R.set i q) Y := by
  have hil : i < R.length := (List.getElem?_eq_some_iff.1 hi).1
  refine ⟨fun j a ha => ?_, fun j k a b hjk ha hb => ?_⟩
  · by_cases hj : j = i
    · subst hj
      rw [List.getElem?_set_self hil] at ha
      cases ha
      exact hq
    · rw [List.getElem?_set_ne (Ne.symm hj)] at ha
      exact own_grown (h.1 j a ha) hg (h.2 j i a r hj ha hi)
  · by_cases hj : j = i
    · subst hj
      rw [List.getElem?_set_self hil] at ha
      rw [List.getElem?_set_ne hjk] at hb
      cases ha
      exact (hap k b (Ne.symm hjk) hb).symm
    · rw [List.getElem?_set_ne (Ne.symm hj)] at ha
      by_cases hk : k = i
      · subst hk
        rw [List.getElem?_set_self hil] at hb
        cases hb
        exact hap j a hj ha
      · rw [List.getElem?_set_ne (Ne.symm hk)] at hb
        exact h.2 j k a b hjk ha hb
end Go.Proofs.YtlakglphjhoodaaDoor.Mm
