/- FieldOwn: the states. -/
import Derived.Test.YtlakglphjhoodaaDoorOb
import Derived.Test.YtlakglphjhoodaaDoorFP
namespace Go.Proofs.YtlakglphjhoodaaDoor.Fl
open Go.RowKit Mm
set_option linter.unusedSimpArgs false
set_option linter.unusedSectionVars false
set_option linter.unusedVariables false
theorem info_kept : (Tryd.prog.info? 35).map (fun i => (i.zero, i.size, i.bytes)) = some (some (.agg #[.slice none 0 0, .slice none 0 0, .slice none 0 0, .slice none 0 0, .int .i64 0]), 5, 104) := by kernel_rfl
theorem app_kept {B : Nat} {v : Value} {n : Nat} {xs : List Value} {w : World} (y0 y1 y2 y3 y4 : Value) (hy : ∀ u ∈ [y0, y1, y2, y3, y4], u.oneCell' = true) {ops : Array Oper} {rest : List Oper} {o : Oper} {a : Act} {Q : Exit → Act → World → Prop} {s x : Operand}
    (hown : w.ownsRow B 35 5 v n xs) (hgd : o.guard = none) (ho : o.op = .call { callee := .builtin .append, args := #[s, x], argTypes := #[28, 28] })
    (hs : a.eval s = v) (hx : a.eval x = .slice (some ⟨w.heap.size, 0, none⟩) 1 1) (hn : n ≤ 1000000) (hB : B ≤ w.heap.size)
    (h : ∀ v' w', w'.ownsRow B 35 5 v' (n + 1) (xs ++ [y0, y1, y2, y3, y4]) → Keeps (w.alloc (.cells #[y0, y1, y2, y3, y4] 35)) v v' w' → wpList Tryd.prog ops Q rest (a.put o.dst v') w') : wpList Tryd.prog ops Q (o :: rest) a (w.alloc (.cells #[y0, y1, y2, y3, y4] 35)) := by
  obtain ⟨i0, hi, hz0, hz1, hz2⟩ := info_parts info_kept
  exact wpList_append_keep _ hgd s x 28 ho B 35 i0 _ 5 104 Tryd.underlying28 hi hz0 hz1 hz2 rfl (by decide) v n _ hs (hown.alloc _) ⟨w.heap.size, 0, none⟩ 1 1 [y0, y1, y2, y3, y4] hx rfl (cells_new _ #[y0, y1, y2, y3, y4] _)
    hy (by decide) (by simp only [maxLen]; omega) (by omega) (by simp; omega) h
/-- two lists of a step -/
structure Hp where
  s : Rw
  i : Rw
def Hp.cs (p : Hp) : List Value := [p.s.v, .slice none 0 0, p.i.v, .slice none 0 0, .int .i64 0]
def hcells (l : List Hp) : List Value := l.flatMap Hp.cs
theorem hcells_snoc (l : List Hp) (p : Hp) : hcells (l ++ [p]) = hcells l ++ p.cs := by simp [hcells]
theorem apart_low {Y : World} {N B' s n : Nat} {e : TypeId} {v u : Value} {xs : List Value} (h : ∀ g, v.ownBlock = some g → g < N) (hu : Y.ownsRow B' e s u n xs) (hB : N ≤ B') : Apart v u := by
  unfold Apart
  cases hv : v.ownBlock with
  | none => exact .inl rfl
  | some g => exact .inr (fun e0 => by have h1 := h g hv; have h2 := (own_ty hu e0.symm).1; omega)
theorem apart_lowF {Y : World} {N : Nat} {v u : Value} (h : ∀ g, v.ownBlock = some g → g < N) (hu : ∀ g, u.ownBlock = some g → N ≤ g) : Apart v u := by
  unfold Apart
  cases hv : v.ownBlock with
  | none => exact .inl rfl
  | some g => exact .inr (fun e0 => by have h1 := h g hv; have h2 := hu g e0.symm; omega)
theorem own_ltO {X : World} {B s n : Nat} {e : TypeId} {v : Value} {xs : List Value} (h : X.ownsRow B e s v n xs) : ∀ g, v.ownBlock = some g → g < X.heap.size := fun g hg => (h.lt g hg).2
theorem idx_snocO {α : Type} {l : List α} {q r : α} {i : Nat} (h : (l ++ [q])[i]? = some r) : l[i]? = some r ∨ (i = l.length ∧ r = q) := by
  rcases Nat.lt_or_ge i l.length with h1 | h1
  · rw [List.getElem?_append_left h1] at h; exact .inl h
  · rw [List.getElem?_append_right h1] at h
    rcases Nat.eq_or_lt_of_le h1 with h2 | h2
    · rw [← h2, Nat.sub_self] at h
      exact .inr ⟨h2.symm, by simpa using h.symm⟩
    · rw [List.getElem?_eq_none (by simp; omega)] at h; cases h
theorem bel_keepsO {w X Y : World} {B s n : Nat} {e : TypeId} {v v' : Value} {xs : List Value} (h : Below w.heap.size w X) (ho : X.ownsRow w.heap.size e s v n xs) (hk : Keeps X v v' Y) : Below w.heap.size w Y :=
  h.grown hk.by h.size (fun k hk => (ho.lt k hk).1)
/-- two pairs of lists that hold the same -/
def Alike (p q : Hp) : Prop := p.s.n = q.s.n ∧ p.s.xs = q.s.xs ∧ p.i.n = q.i.n ∧ p.i.xs = q.i.xs ∧ p.s.n ≤ 8589934592 ∧ p.i.n ≤ 100000 ∧ (∃ L : List (List UInt8), p.s.xs = sC L ∧ p.s.n = L.length) ∧ ∃ I : List Int, p.i.xs = inC I ∧ p.i.n = I.length
structure Fo (w : World) (bk : List Bo) (hd was : List Hp) (b h s : Value) (X : World) : Prop where
  bel : Below w.heap.size w X
  ob : X.ownsRow w.heap.size 35 5 b bk.length (bcells bk)
  oh : X.ownsRow w.heap.size 35 5 h hd.length (hcells hd)
  os : X.ownsRow w.heap.size 35 5 s was.length (hcells was)
  xbh : Apart b h
  xbs : Apart b s
  xhs : Apart h s
  ok : ∀ (m : Nat) (e : Bo), bk[m]? = some e → e.ok X
  fh : ∀ (j : Nat) (p : Hp), hd[j]? = some p → X.ownsRow w.heap.size 9 1 p.s.v p.s.n p.s.xs ∧ X.ownsRow w.heap.size 3 1 p.i.v p.i.n p.i.xs
  ph : ∀ (j k : Nat) (p q : Hp), j ≠ k → hd[j]? = some p → hd[k]? = some q → Apart p.s.v q.s.v ∧ Apart p.i.v q.i.v
  fw : ∀ (j : Nat) (q : Hp), was[j]? = some q → Fz X 9 1 q.s.v q.s.n q.s.xs ∧ Fz X 3 1 q.i.v q.i.n q.i.xs
  eq : ∀ (j : Nat) (p q : Hp), hd[j]? = some p → was[j]? = some q → Alike p q
  ap : ∀ (m j : Nat) (e : Bo) (p : Hp), bk[m]? = some e → hd[j]? = some p → (Apart e.l p.s.v ∧ Apart e.g p.s.v) ∧ Apart e.a p.i.v ∧ Apart e.h p.i.v
theorem Fo.new (w X : World) (hb : Below w.heap.size w X) : Fo w [] [] [] (.slice none 0 0) (.slice none 0 0) (.slice none 0 0) X :=
  ⟨hb, World.ownsRow_nil _ _ _ _, World.ownsRow_nil _ _ _ _, World.ownsRow_nil _ _ _ _, .inl rfl, .inl rfl, .inl rfl, fun m e h => by simp at h, fun j p h => by simp at h, fun j k p q _ h => by simp at h, fun j q h => by simp at h, fun j p q h => by simp at h, fun m j e p h => by simp at h⟩
section
variable {w X Y : World} {bk : List Bo} {hd was : List Hp} {b h s : Value}
theorem Fo.below (H : Fo w bk hd was b h s X) (hb : Below X.heap.size X Y) : Fo w bk hd was b h s Y :=
  ⟨bnx H.bel hb, own_below H.ob hb (Nat.le_refl _), own_below H.oh hb (Nat.le_refl _), own_below H.os hb (Nat.le_refl _), H.xbh, H.xbs, H.xhs, fun m e he => (H.ok m e he).below hb, fun j p hp => ⟨own_below (H.fh j p hp).1 hb (Nat.le_refl _), own_below (H.fh j p hp).2 hb (Nat.le_refl _)⟩, H.ph, fun j q hq => ⟨(H.fw j q hq).1.below hb, (H.fw j q hq).2.below hb⟩, H.eq, H.ap⟩
/-- a pair of lists more that nobody writes into; N: the heap ahead of the call that answered it -/
theorem Fo.addH (H : Fo w bk hd was b h s X) {q : Hp} {h' : Value} (hl : was.length ≤ hd.length) {N : Nat} (hq1 : X.ownsRow N 9 1 q.s.v q.s.n q.s.xs) (hq2 : X.ownsRow N 3 1 q.i.v q.i.n q.i.xs) (hN : w.heap.size ≤ N)
    (hx1 : ∀ (j : Nat) (p : Hp), hd[j]? = some p → (∀ g, p.s.v.ownBlock = some g → g < N) ∧ ∀ g, p.i.v.ownBlock = some g → g < N)
    (hx2 : ∀ (m : Nat) (e : Bo), bk[m]? = some e → ((∀ g, e.l.ownBlock = some g → g < N) ∧ ∀ g, e.g.ownBlock = some g → g < N) ∧ (∀ g, e.a.ownBlock = some g → g < N) ∧ ∀ g, e.h.ownBlock = some g → g < N)
    (ho : Y.ownsRow w.heap.size 35 5 h' (hd.length + 1) (hcells hd ++ q.cs)) (hk : Keeps X h h' Y) : Fo w bk (hd ++ [q]) was b h' s Y := by
  have k1 : 9 ≠ 35 := by decide
  have k2 : 3 ≠ 35 := by decide
  have low : ∀ {B n : Nat} {e : TypeId} {v : Value} {xs : List Value}, X.ownsRow N e 1 v n xs → X.ownsRow w.heap.size e 1 v n xs := fun h0 => by
    refine ⟨h0.1, ?_⟩
    rcases h0.2 with h1 | ⟨g, cap, cur, hv, hb, rest⟩
    · exact .inl h1
    · exact .inr ⟨g, cap, cur, hv, Nat.le_trans hN hb, rest⟩
  refine ⟨bel_keepsO (B := 0) H.bel H.oh hk, own_keeps H.ob hk H.xbh, by rw [hcells_snoc]; simpa using ho, own_keeps H.os hk H.xhs.symm, Apart.keeps H.ob hk H.xbh, H.xbs, (Apart.keeps H.os hk H.xhs.symm).symm, fun m e he => (H.ok m e he).other H.oh hk k1 k2, fun j p hp => ?_, fun j k p r hjk hp hr => ?_, fun j r hr => ⟨(H.fw j r hr).1.bf hk.bf (fz_apart (H.fw j r hr).1 H.oh k1), (H.fw j r hr).2.bf hk.bf (fz_apart (H.fw j r hr).2 H.oh k2)⟩, fun j p r hp hr => ?_, fun m j e p he hp => ?_⟩
  · have h0 : X.ownsRow w.heap.size 9 1 p.s.v p.s.n p.s.xs ∧ X.ownsRow w.heap.size 3 1 p.i.v p.i.n p.i.xs := by
      rcases idx_snocO hp with h1 | ⟨_, rfl⟩
      · exact H.fh j p h1
      · exact ⟨low (B := 0) hq1, low (B := 0) hq2⟩
    exact ⟨own_keeps h0.1 hk (apart_ty h0.1 H.oh k1), own_keeps h0.2 hk (apart_ty h0.2 H.oh k2)⟩
  · rcases idx_snocO hp with h1 | ⟨e1, rfl⟩ <;> rcases idx_snocO hr with h2 | ⟨e2, rfl⟩
    · exact H.ph j k p r hjk h1 h2
    · exact ⟨apart_low (hx1 j p h1).1 hq1 (Nat.le_refl _), apart_low (hx1 j p h1).2 hq2 (Nat.le_refl _)⟩
    · exact ⟨(apart_low (hx1 k r h2).1 hq1 (Nat.le_refl _)).symm, (apart_low (hx1 k r h2).2 hq2 (Nat.le_refl _)).symm⟩
    · omega
  · have hi := (List.getElem?_eq_some_iff.1 hr).1
    rw [List.getElem?_append_left (by omega)] at hp
    exact H.eq j p r hp hr
  · rcases idx_snocO hp with h1 | ⟨_, rfl⟩
    · exact H.ap m j e p he h1
    · obtain ⟨⟨x1, x2⟩, x3, x4⟩ := hx2 m e he
      exact ⟨⟨apart_low x1 hq1 (Nat.le_refl _), apart_low x2 hq1 (Nat.le_refl _)⟩, apart_low x3 hq2 (Nat.le_refl _), apart_low x4 hq2 (Nat.le_refl _)⟩
/-- .. and its copy -/
theorem Fo.addS (H : Fo w bk hd was b h s X) {q : Hp} {s' : Value} (hq1 : Fz X 9 1 q.s.v q.s.n q.s.xs) (hq2 : Fz X 3 1 q.i.v q.i.n q.i.xs) (heq : ∀ p, hd[was.length]? = some p → Alike p q)
    (ho : Y.ownsRow w.heap.size 35 5 s' (was.length + 1) (hcells was ++ q.cs)) (hk : Keeps X s s' Y) : Fo w bk hd (was ++ [q]) b h s' Y := by
  have k1 : 9 ≠ 35 := by decide
  have k2 : 3 ≠ 35 := by decide
  refine ⟨bel_keepsO (B := 0) H.bel H.os hk, own_keeps H.ob hk H.xbs, own_keeps H.oh hk H.xhs, by rw [hcells_snoc]; simpa using ho, H.xbh, Apart.keeps H.ob hk H.xbs, Apart.keeps H.oh hk H.xhs, fun m e he => (H.ok m e he).other H.os hk k1 k2, fun j p hp => ⟨own_keeps (H.fh j p hp).1 hk (apart_ty (H.fh j p hp).1 H.os k1), own_keeps (H.fh j p hp).2 hk (apart_ty (H.fh j p hp).2 H.os k2)⟩, H.ph, fun j r hr => ?_, fun j p r hp hr => ?_, H.ap⟩
  · have h0 : Fz X 9 1 r.s.v r.s.n r.s.xs ∧ Fz X 3 1 r.i.v r.i.n r.i.xs := by
      rcases idx_snocO hr with h1 | ⟨_, rfl⟩
      · exact H.fw j r h1
      · exact ⟨hq1, hq2⟩
    exact ⟨h0.1.bf hk.bf (fz_apart h0.1 H.os k1), h0.2.bf hk.bf (fz_apart h0.2 H.os k2)⟩
  · rcases idx_snocO hr with h1 | ⟨e1, rfl⟩
    · exact H.eq j p r hp h1
    · subst e1; exact heq p hp
/-- an entry of the book more -/
theorem Fo.addB (H : Fo w bk hd was b h s X) {e : Bo} {b' : Value} (he : e.ok X) (hx : ∀ (j : Nat) (p : Hp), hd[j]? = some p → (Apart e.l p.s.v ∧ Apart e.g p.s.v) ∧ Apart e.a p.i.v ∧ Apart e.h p.i.v)
    (ho : Y.ownsRow w.heap.size 35 5 b' (bk.length + 1) (bcells bk ++ e.cs)) (hk : Keeps X b b' Y) : Fo w (bk ++ [e]) hd was b' h s Y := by
  have k1 : 9 ≠ 35 := by decide
  have k2 : 3 ≠ 35 := by decide
  refine ⟨bel_keepsO (B := 0) H.bel H.ob hk, by rw [bcells_snoc]; simpa using ho, own_keeps H.oh hk H.xbh.symm, own_keeps H.os hk H.xbs.symm, (Apart.keeps H.oh hk H.xbh.symm).symm, (Apart.keeps H.os hk H.xbs.symm).symm, H.xhs, fun m r hr => ?_, fun j p hp => ⟨own_keeps (H.fh j p hp).1 hk (apart_ty (H.fh j p hp).1 H.ob k1), own_keeps (H.fh j p hp).2 hk (apart_ty (H.fh j p hp).2 H.ob k2)⟩, H.ph, fun j r hr => ⟨(H.fw j r hr).1.bf hk.bf (fz_apart (H.fw j r hr).1 H.ob k1), (H.fw j r hr).2.bf hk.bf (fz_apart (H.fw j r hr).2 H.ob k2)⟩, H.eq, fun m j r p hr hp => ?_⟩
  · rcases idx_snocO hr with h1 | ⟨_, rfl⟩
    · exact (H.ok m r h1).other H.ob hk k1 k2
    · exact he.other H.ob hk k1 k2
  · rcases idx_snocO hr with h1 | ⟨_, rfl⟩
    · exact H.ap m j r p h1 hp
    · exact hx j p hp
theorem Fo.lowH (H : Fo w bk hd was b h s X) : ∀ (j : Nat) (p : Hp), hd[j]? = some p → (∀ g, p.s.v.ownBlock = some g → g < X.heap.size) ∧ ∀ g, p.i.v.ownBlock = some g → g < X.heap.size := fun j p hp => ⟨own_ltO (H.fh j p hp).1, own_ltO (H.fh j p hp).2⟩
theorem Fo.lowB (H : Fo w bk hd was b h s X) : ∀ (m : Nat) (e : Bo), bk[m]? = some e → ((∀ g, e.l.ownBlock = some g → g < X.heap.size) ∧ ∀ g, e.g.ownBlock = some g → g < X.heap.size) ∧ (∀ g, e.a.ownBlock = some g → g < X.heap.size) ∧ ∀ g, e.h.ownBlock = some g → g < X.heap.size :=
  fun m e he => ⟨⟨(H.ok m e he).fl.lt, (H.ok m e he).fg.lt⟩, (H.ok m e he).fa.lt, (H.ok m e he).fh.lt⟩
end
/-- while the lists that nobody wrote into are written full, from i on -/
structure Fo2 (w : World) (bk : List Bo) (hd : List Hp) (i : Nat) (b h : Value) (X : World) : Prop where
  bel : Below w.heap.size w X
  ob : X.ownsRow w.heap.size 35 5 b bk.length (bcells bk)
  oh : X.ownsRow w.heap.size 35 5 h hd.length (hcells hd)
  xbh : Apart b h
  ok : ∀ (m : Nat) (e : Bo), bk[m]? = some e → e.ok X
  fh : ∀ (j : Nat) (p : Hp), i ≤ j → hd[j]? = some p → X.ownsRow w.heap.size 9 1 p.s.v p.s.n p.s.xs ∧ X.ownsRow w.heap.size 3 1 p.i.v p.i.n p.i.xs
  ph : ∀ (j k : Nat) (p q : Hp), j ≠ k → hd[j]? = some p → hd[k]? = some q → Apart p.s.v q.s.v ∧ Apart p.i.v q.i.v
  ap : ∀ (m j : Nat) (e : Bo) (p : Hp), bk[m]? = some e → i ≤ j → hd[j]? = some p → (Apart e.l p.s.v ∧ Apart e.g p.s.v) ∧ Apart e.a p.i.v ∧ Apart e.h p.i.v
  bd : ∀ (j : Nat) (p : Hp), hd[j]? = some p → p.s.n ≤ 8589934592 ∧ p.i.n ≤ 100000
theorem Fo.to2 {w X : World} {bk : List Bo} {hd was : List Hp} {b h s : Value} (H : Fo w bk hd was b h s X) (hl : was.length = hd.length) : Fo2 w bk hd 0 b h X :=
  ⟨H.bel, H.ob, H.oh, H.xbh, H.ok, fun j p _ hp => H.fh j p hp, H.ph, fun m j e p he _ hp => H.ap m j e p he hp, fun j p hp => by
    have hj := (List.getElem?_eq_some_iff.1 hp).1
    obtain ⟨_, _, _, _, h1, h2, _⟩ := H.eq j p was[j] hp (List.getElem?_eq_getElem (by omega))
    exact ⟨h1, h2⟩⟩
section
variable {w X Y : World} {bk : List Bo} {hd : List Hp} {b h : Value} {i : Nat}
theorem Fo2.below (H : Fo2 w bk hd i b h X) (hb : Below X.heap.size X Y) : Fo2 w bk hd i b h Y :=
  ⟨bnx H.bel hb, own_below H.ob hb (Nat.le_refl _), own_below H.oh hb (Nat.le_refl _), H.xbh, fun m e he => (H.ok m e he).below hb, fun j p hj hp => ⟨own_below (H.fh j p hj hp).1 hb (Nat.le_refl _), own_below (H.fh j p hj hp).2 hb (Nat.le_refl _)⟩, H.ph, H.ap, H.bd⟩
/-- list i is written full and gone on from -/
theorem Fo2.kept (H : Fo2 w bk hd i b h X) {p : Hp} (hp : hd[i]? = some p) {k : Nat} (hk : k < 65536) {g u : Value} (hf : KF X w.heap.size p.s.n p.i.n p.s.v p.i.v g u k Y) :
    Fo2 w bk hd (i + 1) b h Y ∧ Bo.ok ⟨p.s.v, g, p.i.v, u, p.s.n, p.i.n, k⟩ Y ∧ ∀ (j : Nat) (q : Hp), i + 1 ≤ j → hd[j]? = some q → (Apart p.s.v q.s.v ∧ Apart g q.s.v) ∧ Apart p.i.v q.i.v ∧ Apart u q.i.v := by
  obtain ⟨o1, o2⟩ := H.fh i p (Nat.le_refl _) hp
  have nw : ∀ {r : Value} {x : Value}, (∀ c, x.ownBlock = some c → c < X.heap.size) → Apart r x → ∀ {y : Value}, (y.ownBlock = r.ownBlock ∨ ∃ c, y.ownBlock = some c ∧ X.heap.size ≤ c) → Apart y x := by
    intro r x hx hrx y hy
    rcases hy with e | ⟨c, e, hc⟩
    · unfold Apart at hrx ⊢; rw [e]; exact hrx
    · unfold Apart
      refine .inr (fun e0 => ?_)
      rw [e] at e0
      have := hx c e0.symm
      omega
  refine ⟨⟨H.bel.trans hf.bel, own_bf2 H.ob hf.bf (apart_ty H.ob o1 (by decide)) (apart_ty H.ob o2 (by decide)), own_bf2 H.oh hf.bf (apart_ty H.oh o1 (by decide)) (apart_ty H.oh o2 (by decide)), H.xbh, fun m e he => ?_, fun j q hj hq => ?_, H.ph, fun m j e q he hj hq => H.ap m j e q he (by omega) hq, H.bd⟩, hf.ok (H.bd i p hp).1 (H.bd i p hp).2 hk, fun j q hj hq => ?_⟩
  · have h0 := H.ok m e he
    obtain ⟨⟨x1, x2⟩, x3, x4⟩ := H.ap m i e p he (Nat.le_refl _) hp
    exact ⟨Fz.bf2 h0.fl hf.bf x1 (fz_apart h0.fl o2 (by decide)), Fz.bf2 h0.fg hf.bf x2 (fz_apart h0.fg o2 (by decide)), Fz.bf2 h0.fa hf.bf (fz_apart h0.fa o1 (by decide)) x3, Fz.bf2 h0.fh hf.bf (fz_apart h0.fh o1 (by decide)) x4, h0.hl, h0.hn, h0.hk⟩
  · obtain ⟨q1, q2⟩ := H.fh j q (by omega) hq
    obtain ⟨y1, y2⟩ := H.ph j i q p (by omega) hq hp
    exact ⟨own_bf2 q1 hf.bf y1 (apart_ty q1 o2 (by decide)), own_bf2 q2 hf.bf (apart_ty q2 o1 (by decide)) y2⟩
  · obtain ⟨q1, q2⟩ := H.fh j q (by omega) hq
    obtain ⟨y1, y2⟩ := H.ph i j p q (by omega) hp hq
    exact ⟨⟨y1, nw (own_ltO q1) y1 hf.gb⟩, y2, nw (own_ltO q2) y2 hf.hb⟩
theorem Fo2.addB (H : Fo2 w bk hd i b h X) {e : Bo} {b' : Value} (he : e.ok X) (hx : ∀ (j : Nat) (p : Hp), i ≤ j → hd[j]? = some p → (Apart e.l p.s.v ∧ Apart e.g p.s.v) ∧ Apart e.a p.i.v ∧ Apart e.h p.i.v)
    (ho : Y.ownsRow w.heap.size 35 5 b' (bk.length + 1) (bcells bk ++ e.cs)) (hk : Keeps X b b' Y) : Fo2 w (bk ++ [e]) hd i b' h Y := by
  have k1 : 9 ≠ 35 := by decide
  have k2 : 3 ≠ 35 := by decide
  refine ⟨bel_keepsO (B := 0) H.bel H.ob hk, by rw [bcells_snoc]; simpa using ho, own_keeps H.oh hk H.xbh.symm, (Apart.keeps H.oh hk H.xbh.symm).symm, fun m r hr => ?_, fun j p hj hp => ⟨own_keeps (H.fh j p hj hp).1 hk (apart_ty (H.fh j p hj hp).1 H.ob k1), own_keeps (H.fh j p hj hp).2 hk (apart_ty (H.fh j p hj hp).2 H.ob k2)⟩, H.ph, fun m j r p hr hj hp => ?_, H.bd⟩
  · rcases idx_snocO hr with h1 | ⟨_, rfl⟩
    · exact (H.ok m r h1).other H.ob hk k1 k2
    · exact he.other H.ob hk k1 k2
  · rcases idx_snocO hr with h1 | ⟨_, rfl⟩
    · exact H.ap m j r p h1 hj hp
    · exact hx j p hj hp
end
end Go.Proofs.YtlakglphjhoodaaDoor.Fl
