/- Patterns: the program's reader: what it holds while it reads. -/
import Derived.Test.YtlbkacabcfeaiaaZQr
import Derived.Test.YtlbkacabcfeaiaaHl
namespace Go.Proofs.Ytlbkacabcfeaiaa.Tl
open Go.RowKit Mm
set_option linter.unusedVariables false
def lstK : List (List T × List T) → List (List T)
  | [] => []
  | o :: k => o.1 :: o.2 :: lstK k
theorem lstK_app (a b : List (List T × List T)) : lstK (a ++ b) = lstK a ++ lstK b := by
  induction a with
  | nil => rfl
  | cons x a ih => simp only [List.cons_append, lstK, ih]
theorem lstK_len (a : List (List T × List T)) : (lstK a).length = 2 * a.length := by
  induction a with
  | nil => rfl
  | cons x a ih => simp only [lstK, List.length_cons, ih]; omega
def nilRow : Rw := ⟨.slice none 0 0, 0, []⟩
/-- a row that holds these trees -/
def RT (X : World) (S : Nat → Prop) (r : Rw) (l : List T) : Prop := r.n = l.length ∧ AllT X S r.xs l
def Typed (X : World) (g : Nat) : Prop := ∃ cur, X.heap[g]? = some (.cells cur 57 (0, 0))
/-- the rows and their trees, the reader's own block left open -/
structure Rq (W : World) (g : Nat) (stk : List (List T × List T)) (ch ps : List T) (out : Value) (R : List Rw) (c p : Rw) (S : Nat → Prop) (X : World) : Prop where
  lt : g < W.heap.size
  bel : W.grownBy X (some g)
  own : ∃ cs, Blk X g 54 cs
  row : X.ownsRow W.heap.size 52 2 out stk.length (R.map Rw.v)
  fam : Fam W.heap.size 57 1 (R ++ [c, p]) X
  len : R.length = 2 * stk.length
  trR : ∀ (i : Nat) (r : Rw) (l : List T), R[i]? = some r → (lstK stk)[i]? = some l → RT X S r l
  trc : RT X S c ch
  trp : RT X S p ps
  sb : ∀ g, S g → Typed X g
  dis : ∀ r ∈ R ++ [c, p], ∀ g, r.v.ownBlock = some g → ¬ S g
/-- the reader -/
structure Rd (W : World) (g : Nat) (s : ByteArray) (st : St) (out : Value) (R : List Rw) (c p : Rw) (S : Nat → Prop) (X : World) : Prop where
  q : Rq W g st.stk st.ch st.ps out R c p S X
  blk : Blk X g 54 (rdC s st.pos st.it out c.v p.v)
section
variable {W X Y : World} {g : Nat} {s : ByteArray} {st : St} {stk : List (List T × List T)} {ch ps : List T} {out : Value} {R : List Rw} {c p : Rw} {S : Nat → Prop}
theorem Typed.lt {h : Nat} (t : Typed X h) : h < X.heap.size := by
  obtain ⟨cur, t⟩ := t
  exact (Array.getElem?_eq_some_iff.1 t).1
theorem RT.keep {S' : Nat → Prop} {r : Rw} {l : List T} (h : RT X S r l) (hS : ∀ g, S g → S' g) (hk : ∀ g, S g → g < X.heap.size → Y.heap[g]? = X.heap[g]?) : RT Y S' r l := ⟨h.1, h.2.keep hS hk⟩
theorem Rq.apart (h : Rq W g stk ch ps out R c p S X) : ∀ k, S k → some k ≠ some g := by
  intro k hk e
  cases e
  obtain ⟨cur, hc⟩ := h.sb g hk
  obtain ⟨cs, hb⟩ := h.own
  have hb : X.heap[g]? = _ := hb
  rw [hb] at hc
  exact absurd (Obj.cells.inj (Option.some.inj hc)).2.1 (by decide)
theorem Rq.base (h : Rq W g stk ch ps out R c p S X) : W.heap.size ≤ X.heap.size := h.bel.size
/-- the reader's own block is written into -/
theorem Rq.write (h : Rq W g stk ch ps out R c p S X) (cs : Array Value) (hB : Blk Y g 54 cs) (hg : X.grownBy Y (some g)) : Rq W g stk ch ps out R c p S Y := by
  have hk : ∀ k, S k → k < X.heap.size → Y.heap[k]? = X.heap[k]? := fun k hk hl => hg.block k hl (h.apart k hk)
  refine ⟨h.lt, gtrans h.bel hg, ⟨cs, hB⟩, own_put h.row hg h.lt, ⟨fun i r hr => own_put (h.fam.1 i r hr) hg h.lt, h.fam.2⟩, h.len, fun i r l h1 h2 => (h.trR i r l h1 h2).keep (fun _ h => h) hk, h.trc.keep (fun _ h => h) hk, h.trp.keep (fun _ h => h) hk, fun k hS => ?_, h.dis⟩
  obtain ⟨cur, hc⟩ := h.sb k hS
  exact ⟨cur, (hk k hS (h.sb k hS).lt).trans hc⟩
theorem Rq.set (h : Rq W g stk ch ps out R c p S X) (i : Nat) (v : Value) : Rq W g stk ch ps out R c p S (X.setCell ⟨g, i, none⟩ v) := by
  obtain ⟨cs, hb⟩ := h.own
  exact h.write _ (hb.set_ i v) (only_set _ _ _ _)
theorem Rd.pos (h : Rd W g s st out R c p S X) (pos : Nat) : Rd W g s { st with pos := pos } out R c p S (X.setCell ⟨g, 1, none⟩ (.int .i64 (pos : Int))) :=
  ⟨h.q.set 1 _, h.blk.set_ 1 _⟩
theorem Rd.it (h : Rd W g s st out R c p S X) (it : Nat) (hB : Blk Y g 54 (rdC s st.pos it out c.v p.v)) (hg : X.grownBy Y (some g)) : Rd W g s { st with it := it } out R c p S Y :=
  ⟨h.q.write _ hB hg, hB⟩
theorem IsT.typed {u : Value} {t : T} (h : IsT X S u t) : IsT X (fun k => S k ∧ Typed X k) u t := by
  induction h with
  | leaf tx n p d => exact .leaf tx n p d
  | suf v t s _ ih => exact .suf v t s ih
  | seq u vs ts hf hs _ ih =>
    refine .seq u vs ts hf (fun k hk => ⟨hs k hk, ?_⟩) ih
    obtain ⟨a, cap, rfl, _, _, _, hx⟩ := hf
    rcases hx with ⟨rfl, _⟩ | ⟨k', cur, rfl, hc, _⟩
    · cases hk
    · obtain rfl : k' = k := by simpa [Value.ownBlock] using hk
      exact ⟨cur, hc⟩
  | alt u vs ts hf hs _ ih =>
    refine .alt u vs ts hf (fun k hk => ⟨hs k hk, ?_⟩) ih
    obtain ⟨a, cap, rfl, _, _, _, hx⟩ := hf
    rcases hx with ⟨rfl, _⟩ | ⟨k', cur, rfl, hc, _⟩
    · cases hk
    · obtain rfl : k' = k := by simpa [Value.ownBlock] using hk
      exact ⟨cur, hc⟩
def Sy (S : Nat → Prop) (w w' : World) (k : Nat) : Prop := Sx S w w' k ∧ Typed w' k
/-- memory is made beside it -/
theorem Rq.gen (h : Rq W g stk ch ps out R c p S X) (hb : Below X.heap.size X Y) (S' : Nat → Prop) (hS : ∀ k, S k → S' k) (hT : ∀ k, S' k → Typed Y k) (hO : ∀ k, S' k → S k ∨ X.heap.size ≤ k) : Rq W g stk ch ps out R c p S' Y := by
  have hk : ∀ k, S k → k < X.heap.size → Y.heap[k]? = X.heap[k]? := fun k _ hl => hb.block k hl
  have hsz := h.base
  obtain ⟨cs, hB⟩ := h.own
  refine ⟨h.lt, ⟨hb.os.trans h.bel.os, hb.tape.trans h.bel.tape, hb.output.trans h.bel.output, Nat.le_trans hsz hb.size, fun k hk hne => (hb.block k (Nat.lt_of_lt_of_le hk hsz)).trans (h.bel.block k hk hne)⟩, ⟨cs, hB.below hb hB.lt⟩, own_below h.row hb (Nat.le_refl _), h.fam.below hb (Nat.le_refl _), h.len,
    fun i r l h1 h2 => (h.trR i r l h1 h2).keep hS hk, h.trc.keep hS hk, h.trp.keep hS hk, hT, fun r hr k hk hSk => ?_⟩
  rcases hO k hSk with h1 | h1
  · exact h.dis r hr k hk h1
  · obtain ⟨i, hi, rfl⟩ := List.mem_iff_getElem.1 hr
    have := (own_ty (h.fam.1 i _ (List.getElem?_eq_getElem hi)) hk).2.1
    omega
theorem Rq.typed (h : Rq W g stk ch ps out R c p S X) (hb : Below X.heap.size X Y) (k : Nat) (hS : S k) : Typed Y k := by
  obtain ⟨cur, hc⟩ := h.sb k hS
  exact ⟨cur, (hb.block k (h.sb k hS).lt).trans hc⟩
theorem Rq.more (h : Rq W g stk ch ps out R c p S X) (hb : Below X.heap.size X Y) : Rq W g stk ch ps out R c p (Sy S X Y) Y :=
  h.gen hb _ (fun k hS => ⟨.inl hS, h.typed hb k hS⟩) (fun k hk => hk.2) fun k hk => hk.1.imp id fun h => h.1
theorem Rq.beside (h : Rq W g stk ch ps out R c p S X) (hb : Below X.heap.size X Y) : Rq W g stk ch ps out R c p S Y :=
  h.gen hb _ (fun _ h => h) (fun k hS => h.typed hb k hS) fun k hk => .inl hk
theorem made {u : Value} {t : T} (hu : IsT Y (Sx S X Y) u t) : IsT Y (Sy S X Y) u t := hu.typed
theorem at_c (R : List Rw) (c p : Rw) : (R ++ [c, p])[R.length]? = some c := by rw [List.getElem?_append_right (Nat.le_refl _), Nat.sub_self]; rfl
theorem at_p (R : List Rw) (c p : Rw) : (R ++ [c, p])[R.length + 1]? = some p := by rw [List.getElem?_append_right (by omega)]; simp
theorem set_c (R : List Rw) (c p q : Rw) : (R ++ [c, p]).set R.length q = R ++ [q, p] := by rw [List.set_append_right _ _ (Nat.le_refl _), Nat.sub_self]; rfl
theorem set_p (R : List Rw) (c p q : Rw) : (R ++ [c, p]).set (R.length + 1) q = R ++ [c, q] := by rw [List.set_append_right _ _ (by omega)]; simp
/-- a row is turned alone -/
theorem Rq.turn (h : Rq W g stk ch ps out R c p S X) {i : Nat} {r q : Rw} (hi : (R ++ [c, p])[i]? = some r) (ho : Y.ownsRow W.heap.size 57 1 q.v q.n q.xs) (hg : X.grownBy Y r.v.ownBlock)
    (hap : ∀ (j : Nat) (a : Rw), j ≠ i → (R ++ [c, p])[j]? = some a → Apart a.v q.v) :
    W.grownBy Y (some g) ∧ (∃ cs, Blk Y g 54 cs) ∧ Y.ownsRow W.heap.size 52 2 out stk.length (R.map Rw.v) ∧ Fam W.heap.size 57 1 ((R ++ [c, p]).set i q) Y ∧ (∀ k, S k → k < X.heap.size → Y.heap[k]? = X.heap[k]?) ∧ (∀ k, S k → Typed Y k) := by
  have hr := h.fam.1 i r hi
  obtain ⟨cs, hB⟩ := h.own
  have hk : ∀ k, S k → k < X.heap.size → Y.heap[k]? = X.heap[k]? := fun k hS hl => hg.block k hl fun e => h.dis r (List.mem_of_getElem? hi) k e.symm hS
  refine ⟨?_, ⟨cs, hB.grown hg (own_ne hr h.lt)⟩, own_grown h.row hg (apart_ty h.row hr (by decide)), h.fam.set hi ho hg hap, hk, fun k hS => ?_⟩
  · refine ⟨hg.os.trans h.bel.os, hg.tape.trans h.bel.tape, hg.output.trans h.bel.output, Nat.le_trans h.base hg.size, fun k hk hne => (hg.block k (Nat.lt_of_lt_of_le hk h.base) fun e => ?_).trans (h.bel.block k hk hne)⟩
    have := (own_ty hr e.symm).1
    omega
  · obtain ⟨cur, hc⟩ := h.sb k hS
    exact ⟨cur, (hk k hS (h.sb k hS).lt).trans hc⟩
/-- one more tree at the parts -/
theorem Rq.push (h : Rq W g stk ch ps out R c p S X) {u v' : Value} {t : T} (hu : IsT X S u t) (ho : Y.ownsRow W.heap.size 57 1 v' (p.n + 1) (p.xs ++ [u])) (hk : Keeps X p.v v' Y) : Rq W g stk ch (ps ++ [t]) out R c ⟨v', p.n + 1, p.xs ++ [u]⟩ S Y := by
  obtain ⟨a1, a2, a3, a4, a5, a6⟩ := h.turn (at_p R c p) (q := ⟨v', p.n + 1, p.xs ++ [u]⟩) ho hk.by (fun j a hj ha => Apart.keeps (h.fam.1 j a ha) hk (h.fam.2 j _ a p hj ha (at_p R c p)))
  rw [set_p] at a4
  refine ⟨h.lt, a1, a2, a3, a4, h.len, fun i r l h1 h2 => (h.trR i r l h1 h2).keep (fun _ h => h) a5, h.trc.keep (fun _ h => h) a5, ⟨by rw [List.length_append, h.trp.1]; rfl, (h.trp.2.keep (fun _ h => h) a5).app (.single (hu.keep (fun _ h => h) a5))⟩, a6, fun r hr k hkk hS => ?_⟩
  rw [List.mem_append] at hr
  rcases hr with hr | hr
  · exact h.dis r (List.mem_append_left _ hr) k hkk hS
  · rcases List.mem_cons.1 hr with rfl | hr
    · exact h.dis r (by simp) k hkk hS
    · rcases List.mem_cons.1 hr with rfl | hr
      · rcases hk with hk | hk
        · exact h.dis p (by simp) k (hk.1.symm.trans hkk) hS
        · rw [hk.1] at hkk
          have := (h.sb k hS).lt
          have := Option.some.inj hkk
          omega
      · cases hr
/-- one more tree at the choice; the parts begin anew -/
theorem Rq.bar (h : Rq W g stk ch ps out R c p S X) {u v' : Value} {t : T} (hu : IsT X S u t) (ho : Y.ownsRow W.heap.size 57 1 v' (c.n + 1) (c.xs ++ [u])) (hk : Keeps X c.v v' Y) : Rq W g stk (ch ++ [t]) ps out R ⟨v', c.n + 1, c.xs ++ [u]⟩ p S Y := by
  obtain ⟨a1, a2, a3, a4, a5, a6⟩ := h.turn (at_c R c p) (q := ⟨v', c.n + 1, c.xs ++ [u]⟩) ho hk.by (fun j a hj ha => Apart.keeps (h.fam.1 j a ha) hk (h.fam.2 j _ a c hj ha (at_c R c p)))
  rw [set_c] at a4
  refine ⟨h.lt, a1, a2, a3, a4, h.len, fun i r l h1 h2 => (h.trR i r l h1 h2).keep (fun _ h => h) a5, ⟨by rw [List.length_append, h.trc.1]; rfl, (h.trc.2.keep (fun _ h => h) a5).app (.single (hu.keep (fun _ h => h) a5))⟩, h.trp.keep (fun _ h => h) a5, a6, fun r hr k hkk hS => ?_⟩
  rw [List.mem_append] at hr
  rcases hr with hr | hr
  · exact h.dis r (List.mem_append_left _ hr) k hkk hS
  · rcases List.mem_cons.1 hr with rfl | hr
    · rcases hk with hk | hk
      · exact h.dis c (by simp) k (hk.1.symm.trans hkk) hS
      · rw [hk.1] at hkk
        have := (h.sb k hS).lt
        have := Option.some.inj hkk
        omega
    · exact h.dis r (List.mem_append_right _ (List.mem_cons_of_mem _ hr)) k hkk hS
theorem nil_own (B : Nat) (X : World) : X.ownsRow B 57 1 nilRow.v nilRow.n nilRow.xs := World.ownsRow_nil X B 57 1
theorem Fam.sub {B : Nat} {rows rows' : List Rw} (f : Nat → Nat) (hf : ∀ i j, f i = f j → i = j) (h : Fam B 57 1 rows X) (hs : ∀ (i : Nat) (r : Rw), rows'[i]? = some r → rows[f i]? = some r ∨ r = nilRow) : Fam B 57 1 rows' X := by
  refine ⟨fun i r hr => ?_, fun i j a b hij ha hb => ?_⟩
  · rcases hs i r hr with h1 | rfl
    · exact h.1 _ r h1
    · exact nil_own B X
  · rcases hs i a ha with h1 | rfl
    · rcases hs j b hb with h2 | rfl
      · exact h.2 _ _ a b (fun e => hij (hf _ _ e)) h1 h2
      · exact Apart.symm (Or.inl rfl : Apart nilRow.v a.v)
    · exact .inl rfl
/-- the parts begin anew -/
theorem Rq.fresh (h : Rq W g stk ch ps out R c p S X) : Rq W g stk ch [] out R c nilRow S X := by
  have hf := h.fam.set (at_p R c p) (q := nilRow) (nil_own _ X) (grefl X _) (fun j a hj ha => Apart.symm (Or.inl rfl : Apart nilRow.v a.v))
  rw [set_p] at hf
  refine ⟨h.lt, h.bel, h.own, h.row, hf, h.len, h.trR, h.trc, ⟨rfl, AllT.nil⟩, h.sb, fun r hr k hkk hS => ?_⟩
  rw [List.mem_append] at hr
  rcases hr with hr | hr
  · exact h.dis r (List.mem_append_left _ hr) k hkk hS
  · rcases List.mem_cons.1 hr with rfl | hr
    · exact h.dis r (by simp) k hkk hS
    · rcases List.mem_cons.1 hr with rfl | hr
      · cases hkk
      · cases hr
/-- a bracket is opened -/
theorem Rq.open_ (h : Rq W g stk ch ps out R c p S X) {v' : Value} (ho : Y.ownsRow W.heap.size 52 2 v' (stk.length + 1) (R.map Rw.v ++ [c.v, p.v])) (hk : Keeps X out v' Y) : Rq W g (stk ++ [(ch, ps)]) [] [] v' (R ++ [c, p]) nilRow nilRow S Y := by
  have hg := hk.by
  obtain ⟨cs, hB⟩ := h.own
  have hkk : ∀ k, S k → k < X.heap.size → Y.heap[k]? = X.heap[k]? := fun k hS hl => hg.block k hl fun e => by
    obtain ⟨_, _, cur, hc⟩ := own_ty h.row e.symm
    obtain ⟨cur', hc'⟩ := h.sb k hS
    rw [hc] at hc'
    exact absurd (Obj.cells.inj (Option.some.inj hc')).2.1 (by decide)
  have hf1 : Fam W.heap.size 57 1 (R ++ [c, p]) Y := h.fam.keeps hk fun i r hr => apart_ty (h.fam.1 i r hr) h.row (by decide)
  have hf2 := (hf1.snoc (q := nilRow) (nil_own _ Y) fun i r hr => Apart.symm (Or.inl rfl : Apart nilRow.v r.v)).snoc (q := nilRow) (nil_own _ Y) fun i r hr => Apart.symm (Or.inl rfl : Apart nilRow.v r.v)
  rw [List.append_assoc] at hf2
  refine ⟨h.lt, ?_, ⟨cs, hB.grown hg (own_ne h.row h.lt)⟩, ?_, hf2, by simp [h.len]; omega, fun i r l h1 h2 => ?_, ⟨rfl, AllT.nil⟩, ⟨rfl, AllT.nil⟩, fun k hS => ?_, fun r hr k hk2 hS => ?_⟩
  · refine ⟨hg.os.trans h.bel.os, hg.tape.trans h.bel.tape, hg.output.trans h.bel.output, Nat.le_trans h.base hg.size, fun k hk hne => (hg.block k (Nat.lt_of_lt_of_le hk h.base) fun e => ?_).trans (h.bel.block k hk hne)⟩
    have := (own_ty h.row e.symm).1
    omega
  · rw [List.length_append, List.map_append]
    exact ho
  · rw [lstK_app] at h2
    have hl := lstK_len stk
    rcases Nat.lt_or_ge i R.length with hi | hi
    · rw [List.getElem?_append_left hi] at h1
      rw [List.getElem?_append_left (by rw [hl, ← h.len]; exact hi)] at h2
      exact (h.trR i r l h1 h2).keep (fun _ h => h) hkk
    · rw [List.getElem?_append_right hi] at h1
      rw [List.getElem?_append_right (by rw [hl, ← h.len]; exact hi), hl, ← h.len] at h2
      have hlt := (List.getElem?_eq_some_iff.1 h1).1
      rcases (show i - R.length = 0 ∨ i - R.length = 1 by simp at hlt; omega) with e | e
      · rw [e] at h1 h2
        cases h1
        cases h2
        exact h.trc.keep (fun _ h => h) hkk
      · rw [e] at h1 h2
        cases h1
        cases h2
        exact h.trp.keep (fun _ h => h) hkk
  · obtain ⟨cur, hc⟩ := h.sb k hS
    exact ⟨cur, (hkk k hS (h.sb k hS).lt).trans hc⟩
  · rw [List.mem_append] at hr
    rcases hr with hr | hr
    · exact h.dis r hr k hk2 hS
    · rcases List.mem_cons.1 hr with rfl | hr
      · cases hk2
      · rcases List.mem_cons.1 hr with rfl | hr
        · cases hk2
        · cases hr
theorem own_fewer {B s n : Nat} {e : TypeId} {a : Option Addr} {cap : Nat} {xs : List Value} (h : X.ownsRow B e s (.slice a n cap) n xs) {k : Nat} (hk : k ≤ n) (hn : 0 < n) : X.ownsRow B e s (.slice a k cap) k (xs.take (k * s)) := by
  have hks : k * s ≤ n * s := Nat.mul_le_mul_right _ hk
  refine ⟨by rw [List.length_take, h.1]; omega, ?_⟩
  rcases h.2 with ⟨_, h0⟩ | ⟨g, cap', cur, hv, hb, hg, hc, hm, hs, ht⟩
  · omega
  · cases hv
    refine .inr ⟨g, cap, cur, rfl, hb, hg, Nat.le_trans hk hc, hm, hs, ?_⟩
    rw [← ht, List.take_take, Nat.min_eq_left hks]
/-- a bracket is closed -/
theorem Rq.shut {k : List (List T × List T)} {o : List T × List T} (h : Rq W g (k ++ [o]) ch ps out R c p S X) :
    ∃ R0 c0 p0 go cap, out = .slice (some ⟨go, 0, none⟩) (k.length + 1) cap ∧ k.length + 1 ≤ cap ∧ cap ≤ maxLen ∧ go < X.heap.size ∧ go ≠ g ∧ X.cell? ⟨go, k.length * 2, none⟩ = some c0.v ∧ X.cell? ⟨go, k.length * 2 + 1, none⟩ = some p0.v ∧ Rq W g k o.1 o.2 (.slice (some ⟨go, 0, none⟩) k.length cap) R0 c0 p0 S X := by
  have hl : R.length = 2 * k.length + 2 := by rw [h.len, List.length_append]; simp; omega
  have hR : R = R.take (2 * k.length) ++ [R[2 * k.length], R[2 * k.length + 1]] := by
    conv => lhs; rw [← List.take_append_drop (2 * k.length) R]
    congr 1
    rw [List.drop_eq_getElem_cons (by omega), List.drop_eq_getElem_cons (by omega), List.drop_eq_nil_of_le (by omega)]
  have hr := h.row
  rw [List.length_append, List.length_singleton] at hr
  obtain ⟨go, cap, rfl, hB, hlt⟩ := own_form hr (by omega)
  have hcm : k.length + 1 ≤ cap ∧ cap ≤ maxLen := by
    rcases hr.2 with ⟨hv, _⟩ | ⟨g', cap', cur, hv, _, _, hc, hm, _⟩
    · cases hv
    · cases hv; exact ⟨hc, hm⟩
  have hcell := hr.cells (g := go) rfl
  have hfew := own_fewer hr (k := k.length) (by omega) (by omega)
  have hgo : go ≠ g := by have := h.lt; omega
  generalize hc0 : R[2 * k.length] = c0 at *
  generalize hp0 : R[2 * k.length + 1] = p0 at *
  generalize hR0 : R.take (2 * k.length) = R0 at *
  have hl0 : R0.length = 2 * k.length := by rw [← hR0, List.length_take]; omega
  rw [hR] at hcell hfew
  refine ⟨R0, c0, p0, go, cap, rfl, hcm.1, hcm.2, hlt, hgo, ?_, ?_, h.lt, h.bel, h.own, ?_, ?_, hl0, fun i r l h1 h2 => ?_, ?_, ?_, h.sb, fun r hr' k' hk hS => ?_⟩
  · have := hcell (k.length * 2) c0.v (by rw [List.map_append, List.getElem?_append_right (by simp; omega), List.length_map, hl0, Nat.mul_comm, Nat.sub_self]; rfl)
    rw [add_off] at this
    exact this
  · have := hcell (k.length * 2 + 1) p0.v (by rw [List.map_append, List.getElem?_append_right (by simp; omega), List.length_map, hl0, show k.length * 2 + 1 - 2 * k.length = 1 by omega]; rfl)
    rw [add_off] at this
    exact this
  · rw [List.map_append, List.take_append_of_le_length (by simp; omega), List.take_of_length_le (by simp; omega)] at hfew
    exact hfew
  · have hf : Fam W.heap.size 57 1 R X := ⟨fun i r hr => h.fam.1 i r (by rw [List.getElem?_append_left (List.getElem?_eq_some_iff.1 hr).1]; exact hr), fun i j a b hij ha hb => h.fam.2 i j a b hij (by rw [List.getElem?_append_left (List.getElem?_eq_some_iff.1 ha).1]; exact ha) (by rw [List.getElem?_append_left (List.getElem?_eq_some_iff.1 hb).1]; exact hb)⟩
    rw [hR] at hf
    exact hf
  · have hi := (List.getElem?_eq_some_iff.1 h1).1
    refine h.trR i r l (by rw [hR, List.getElem?_append_left hi]; exact h1) ?_
    rw [lstK_app, List.getElem?_append_left (by rw [lstK_len]; omega)]
    exact h2
  · refine h.trR (2 * k.length) c0 o.1 (by rw [List.getElem?_eq_getElem (by omega), hc0]) ?_
    rw [lstK_app, List.getElem?_append_right (by rw [lstK_len]; omega), lstK_len, Nat.sub_self]
    rfl
  · refine h.trR (2 * k.length + 1) p0 o.2 (by rw [List.getElem?_eq_getElem (by omega), hp0]) ?_
    rw [lstK_app, List.getElem?_append_right (by rw [lstK_len]; omega), lstK_len, show 2 * k.length + 1 - 2 * k.length = 1 by omega]
    rfl
  · refine h.dis r (List.mem_append_left _ ?_) k' hk hS
    rw [hR]
    exact hr'
/-- the last part -/
theorem Rq.tip {l : List T} {t : T} (h : Rq W g stk ch (l ++ [t]) out R c p S X) : ∃ gp cap u, p.v = .slice (some ⟨gp, 0, none⟩) (l.length + 1) cap ∧ l.length + 1 ≤ cap ∧ cap ≤ maxLen ∧ gp < X.heap.size ∧ gp ≠ g ∧ X.cell? ⟨gp, l.length, none⟩ = some u ∧ X.frozen? ⟨gp, l.length, none⟩ = false ∧ IsT X S u t ∧
    ∀ u' t', IsT X S u' t' → Rq W g stk ch (l ++ [t']) out R c ⟨p.v, p.n, p.xs.set l.length u'⟩ S (X.setCell ⟨gp, l.length, none⟩ u') := by
  have hr := h.fam.1 _ _ (at_p R c p)
  have hn := h.trp.1
  rw [List.length_append, List.length_singleton] at hn
  obtain ⟨gp, cap, hv, hB, hlt⟩ := own_form hr (by omega)
  have hcm : p.n ≤ cap ∧ cap ≤ maxLen := by
    rcases hr.2 with ⟨hv', _⟩ | ⟨g', cap', cur, hv', _, _, hc, hm, _⟩
    · rw [hv] at hv'; cases hv'
    · rw [hv] at hv'; cases hv'; exact ⟨hc, hm⟩
  rw [hn] at hv hcm
  obtain ⟨u, hu, ht⟩ := h.trp.2.at (i := l.length) (by simp)
  rw [List.getElem_append_right (Nat.le_refl _)] at ht
  simp only [Nat.sub_self, List.getElem_singleton] at ht
  have hcell := hr.cells (g := gp) (by rw [hv]; rfl) l.length u hu
  rw [add_off] at hcell
  have hfz : X.frozen? ⟨gp, l.length, none⟩ = false := by
    obtain ⟨_, _, cur, hc⟩ := own_ty hr (g := gp) (by rw [hv]; rfl)
    have hb : Blk X gp 57 cur := hc
    exact hb.frozen _
  refine ⟨gp, cap, u, hv, hcm.1, hcm.2, hlt, by have := h.lt; omega, hcell, hfz, ht, fun u' t' hu' => ?_⟩
  have hg : X.grownBy (X.setCell ⟨gp, l.length, none⟩ u') p.v.ownBlock := by rw [hv]; exact only_set _ _ _ _
  have ho : (X.setCell ⟨gp, l.length, none⟩ u').ownsRow W.heap.size 57 1 p.v p.n (p.xs.set l.length u') := by
    have h1 := hr
    rw [hv, hn] at h1
    have h2 := (h1.stored l.length u').1
    rw [hv, hn]
    exact h2
  obtain ⟨a1, a2, a3, a4, a5, a6⟩ := h.turn (at_p R c p) (q := ⟨p.v, p.n, p.xs.set l.length u'⟩) ho hg (fun j a hj ha => h.fam.2 j _ a p hj ha (at_p R c p))
  rw [set_p] at a4
  refine ⟨h.lt, a1, a2, a3, a4, h.len, fun i r l h1 h2 => (h.trR i r l h1 h2).keep (fun _ h => h) a5, h.trc.keep (fun _ h => h) a5, ⟨by rw [List.length_append]; exact hn, by rw [List.length_set, h.trp.2.1, List.length_append, List.length_append]; rfl, fun i v r h1 h2 => ?_⟩, a6, fun r hr k hkk hS => ?_⟩
  · by_cases hi : i = l.length
    · subst hi
      rw [List.getElem?_set_self (by rw [h.trp.2.1, List.length_append]; simp)] at h1
      rw [List.getElem?_append_right (Nat.le_refl _), Nat.sub_self] at h2
      cases h1
      cases h2
      exact hu'.keep (fun _ h => h) a5
    · rw [List.getElem?_set_ne (Ne.symm hi)] at h1
      have hlt2 := (List.getElem?_eq_some_iff.1 h2).1
      rw [List.length_append, List.length_singleton] at hlt2
      refine (h.trp.2.2 i v r h1 ?_).keep (fun _ h => h) a5
      rw [List.getElem?_append_left (by omega)] at h2 ⊢
      exact h2
  · rw [List.mem_append] at hr
    rcases hr with hr | hr
    · exact h.dis r (List.mem_append_left _ hr) k hkk hS
    · rcases List.mem_cons.1 hr with rfl | hr
      · exact h.dis r (by simp) k hkk hS
      · rcases List.mem_cons.1 hr with rfl | hr
        · exact h.dis p (by simp) k hkk hS
        · cases hr
/-- .. and the parts are stored -/
theorem Rq.pushed (h : Rq W g stk ch ps out R c p S X) {pos it : Nat} (hB : Blk X g 54 (rdC s pos it out c.v p.v)) {u v' : Value} {t : T} (hu : IsT X S u t) (ho : Y.ownsRow W.heap.size 57 1 v' (p.n + 1) (p.xs ++ [u])) (hk : Keeps X p.v v' Y) :
    (∃ a cp, v' = .slice a (p.n + 1) cp) ∧ Blk Y g 54 (rdC s pos it out c.v p.v) ∧ Rd W g s ⟨pos, it, stk, ch, ps ++ [t]⟩ out R c ⟨v', p.n + 1, p.xs ++ [u]⟩ S (Y.setCell ⟨g, 5, none⟩ v') := by
  have hB2 := hB.grown hk.by (own_ne (h.fam.1 _ _ (at_p R c p)) h.lt)
  exact ⟨own_len ho, hB2, (h.push hu ho hk).set 5 v', hB2.set_ 5 v'⟩
/-- .. the choice -/
theorem Rq.barred (h : Rq W g stk ch ps out R c p S X) {pos it : Nat} (hB : Blk X g 54 (rdC s pos it out c.v p.v)) {u v' : Value} {t : T} (hu : IsT X S u t) (ho : Y.ownsRow W.heap.size 57 1 v' (c.n + 1) (c.xs ++ [u])) (hk : Keeps X c.v v' Y) :
    (∃ a cp, v' = .slice a (c.n + 1) cp) ∧ Blk Y g 54 (rdC s pos it out c.v p.v) ∧ Rd W g s ⟨pos, it, stk, ch ++ [t], ps⟩ out R ⟨v', c.n + 1, c.xs ++ [u]⟩ p S (Y.setCell ⟨g, 4, none⟩ v') := by
  have hB2 := hB.grown hk.by (own_ne (h.fam.1 _ _ (at_c R c p)) h.lt)
  exact ⟨own_len ho, hB2, (h.bar hu ho hk).set 4 v', hB2.set_ 4 v'⟩
/-- .. the brackets -/
theorem Rq.opened (h : Rq W g stk ch ps out R c p S X) {pos it : Nat} (hB : Blk X g 54 (rdC s pos it out c.v p.v)) {v' : Value} (ho : Y.ownsRow W.heap.size 52 2 v' (stk.length + 1) (R.map Rw.v ++ [c.v, p.v])) (hk : Keeps X out v' Y) :
    (∃ a cp, v' = .slice a (stk.length + 1) cp) ∧ Blk Y g 54 (rdC s pos it out c.v p.v) ∧ Rd W g s ⟨pos, it, stk ++ [(ch, ps)], [], []⟩ v' (R ++ [c, p]) nilRow nilRow S (((Y.setCell ⟨g, 3, none⟩ v').setCell ⟨g, 4, none⟩ nilRow.v).setCell ⟨g, 5, none⟩ nilRow.v) := by
  have hB2 := hB.grown hk.by (own_ne h.row h.lt)
  exact ⟨own_len ho, hB2, (((h.open_ ho hk).set 3 v').set 4 _).set 5 _, ((hB2.set_ 3 v').set_ 4 _).set_ 5 _⟩
end
/-- the reader's cells that are loaded -/
abbrev HdR (g : Nat) (v0 v1 v3 v4 v5 : Value) (W : World) : Prop := W.cell? ⟨g, 0, none⟩ = some v0 ∧ W.cell? ⟨g, 1, none⟩ = some v1 ∧ W.cell? ⟨g, 3, none⟩ = some v3 ∧ W.cell? ⟨g, 4, none⟩ = some v4 ∧ W.cell? ⟨g, 5, none⟩ = some v5
theorem HdR.of {X : World} {g : Nat} {s : ByteArray} {pos it : Nat} {out ch ps : Value} {t : TypeId} (hB : Blk X g t (rdC s pos it out ch ps)) : HdR g (.string s) (.int .i64 (pos : Int)) out ch ps X :=
  ⟨Blk.c0 hB, Blk.c1 hB, Blk.c3 hB, Blk.c4 hB, Blk.c5 hB⟩
theorem mixed : Try.prog.follows Departure.mixedOrders = true := by kernel_rfl
theorem info_open : (Try.prog.info? 52).map (fun i => (i.zero, i.size, i.bytes)) = some (some (.agg #[.slice none 0 0, .slice none 0 0]), 2, 48) := by kernel_rfl
/-- one append inside a drawn region -/
theorem step_keep {st e : TypeId} {z : Value} {B sz by_ : Nat} {v : Value} {n : Nat} {xs : List Value} {w : World} (news : List Value) {ops : Array Oper} {o : Oper} {a : Act} {K : Act → World → Prop} {Q : Exit → Act → World → Prop} {E : Prop} (s x : Operand)
    (ht : Try.prog.underlying st = some (.slice e)) (hinfo : (Try.prog.info? e).map (fun i => (i.zero, i.size, i.bytes)) = some (some z, sz, by_)) (hzs : z.cells.size = sz) (hsz : 0 < sz)
    (h1 : ∀ u ∈ news, u.oneCell' = true) (hl : news.length = sz) (hown : w.ownsRow B e sz v n xs) (hgd : o.guard = none) (ho : o.op = .call { callee := .builtin .append, args := #[s, x], argTypes := #[st, st] })
    (hs : a.eval s = v) (hx : a.eval x = .slice (some ⟨w.heap.size, 0, none⟩) 1 1) (hn : n + 1 ≤ maxLen) (hby : (n + 1) * by_ ≤ 140737488355328) (hB : B ≤ w.heap.size)
    (h : ∀ v' w', w'.ownsRow B e sz v' (n + 1) (xs ++ news) → Keeps (w.alloc (.cells news.toArray e)) v v' w' → K (a.put o.dst v') w') :
    if Region.wanted o (yielded ops a.tmps) = true then Oper.wp Try.prog o a (w.alloc (.cells news.toArray e)) K Q else E := by
  have hw : Region.wanted o (yielded ops a.tmps) = true := by simp [Region.wanted, hgd]
  rw [if_pos hw]
  obtain ⟨i0, hi, hz0, hz1, hz2⟩ := info_parts hinfo
  obtain ⟨v', w', hr, h2, h3⟩ := run_append_keep (P := Try.prog) (w.alloc (.cells news.toArray e)) B st o.type e i0 z sz by_ ht hi hz0 hz1 hz2 hzs hsz v n xs (hown.alloc _) ⟨w.heap.size, 0, none⟩ 1 1 news (by omega) (by have := cells_new w news.toArray e; simpa using this) h1 (by decide) hn hby (by simp; omega)
  unfold Oper.wp execOp
  simp only [ho, resolve, invoke, builtin, Sem.run_bind, Sem.run_pure, Result.andThen_ok, List.map_toArray, List.map_cons, List.map_nil, hs, hx, hr]
  exact h v' w' h2 h3
end Go.Proofs.Ytlbkacabcfeaiaa.Tl
