/- TernOwn: the states. -/
import Derived.Test.YtoglcocplpdlhaaKf
namespace Go.Proofs.Ytoglcocplpdlhaa.Tn
open Go.RowKit Mm
set_option linter.unusedVariables false
theorem Keeps.bf {X Y : World} {v v' : Value} (h : Mm.Keeps X v v' Y) : Bf X Y v.ownBlock := fun g hg hne => h.by.block g hg hne
theorem fz_apart {X : World} {B s n N : Nat} {e : TypeId} {v u : Value} {xs ys : List Value} (h : Fz X v n xs) (hu : X.ownsRow B e s u N ys) (hne : e ≠ 27) : Apart v u := by
  obtain ⟨a, cap, rfl, _, hx⟩ := h
  rcases hx with ⟨rfl, _⟩ | ⟨g, cur, rfl, hg, _⟩
  · exact .inl rfl
  · refine .inr (fun e0 => ?_)
    obtain ⟨_, _, cur', hc⟩ := own_ty hu e0.symm
    rw [hg] at hc
    exact hne (Obj.cells.inj (Option.some.inj hc)).2.1.symm
/-- two rows of the same cubes -/
def Same (r q : Rw) : Prop := ∃ L : List (List UInt8), r.n = L.length ∧ q.n = L.length ∧ r.xs = crow L ∧ q.xs = crow L ∧ (∀ t ∈ L, ∃ n c o, Cub t n c o) ∧ L.length ≤ 256
structure Ow (w : World) (bk : List Bk) (held was : List Rw) (b h s : Value) (X : World) : Prop where
  bel : Below w.heap.size w X
  ob : X.ownsRow w.heap.size 37 11 b bk.length (bcells bk)
  oh : X.ownsRow w.heap.size 32 1 h held.length (held.map Rw.v)
  os : X.ownsRow w.heap.size 32 1 s was.length (was.map Rw.v)
  hs : Apart h s
  fb : ∀ (i : Nat) (e : Bk), bk[i]? = some e → e.ok X
  fh : Fam w.heap.size 27 9 held X
  fw : ∀ (i : Nat) (r : Rw), was[i]? = some r → X.ownsRow w.heap.size 27 9 r.v r.n r.xs
  bh : ∀ (i j : Nat) (e : Bk) (r : Rw), bk[i]? = some e → held[j]? = some r → Apart e.l r.v ∧ Apart e.g r.v
  eq : ∀ (i : Nat) (r q : Rw), held[i]? = some r → was[i]? = some q → Same r q
theorem Ow.new (w X : World) (hb : Below w.heap.size w X) : Ow w [] [] [] (.slice none 0 0) (.slice none 0 0) (.slice none 0 0) X :=
  ⟨hb, World.ownsRow_nil _ _ _ _, World.ownsRow_nil _ _ _ _, World.ownsRow_nil _ _ _ _, .inl rfl, fun i e h => by simp at h, Fam.nil _ _ _ _, fun i r h => by simp at h, fun i j e r h => by simp at h, fun i r q h => by simp at h⟩
section
variable {w X Y : World} {bk : List Bk} {held was : List Rw} {b h s : Value}
theorem Ow.below (H : Ow w bk held was b h s X) (hb : Below X.heap.size X Y) : Ow w bk held was b h s Y :=
  ⟨bnx H.bel hb, own_below H.ob hb (Nat.le_refl _), own_below H.oh hb (Nat.le_refl _), own_below H.os hb (Nat.le_refl _), H.hs, fun i e he => (H.fb i e he).below hb, H.fh.below hb (Nat.le_refl _), fun i r hr => own_below (H.fw i r hr) hb (Nat.le_refl _), H.bh, H.eq⟩
theorem bel_keepsT {B s n : Nat} {e : TypeId} {v v' : Value} {xs : List Value} (h : Below w.heap.size w X) (ho : X.ownsRow w.heap.size e s v n xs) (hk : Mm.Keeps X v v' Y) : Below w.heap.size w Y :=
  h.grown hk.by h.size (fun k hk => (ho.lt k hk).1)
theorem Bk.ok.keeps {e : Bk} {B s n : Nat} {t : TypeId} {v v' : Value} {xs : List Value} (h : e.ok X) (ho : X.ownsRow B t s v n xs) (hk : Mm.Keeps X v v' Y) (hne : t ≠ 27) : e.ok Y :=
  ⟨h.fl.bf (Keeps.bf hk) (fz_apart h.fl ho hne), h.fg.bf (Keeps.bf hk) (fz_apart h.fg ho hne), h.hn⟩
theorem idx_snoc {α : Type} {l : List α} {q r : α} {i : Nat} (h : (l ++ [q])[i]? = some r) : l[i]? = some r ∨ (i = l.length ∧ r = q) := by
  rcases Nat.lt_or_ge i l.length with h1 | h1
  · rw [List.getElem?_append_left h1] at h; exact .inl h
  · rw [List.getElem?_append_right h1] at h
    rcases Nat.eq_or_lt_of_le h1 with h2 | h2
    · rw [← h2, Nat.sub_self] at h
      exact .inr ⟨h2.symm, by simpa using h.symm⟩
    · rw [List.getElem?_eq_none (by simp; omega)] at h; cases h
theorem idx_app {α : Type} {l m : List α} {r : α} {i : Nat} (h : (l ++ m)[i]? = some r) : l[i]? = some r ∨ ∃ j, i = l.length + j ∧ m[j]? = some r := by
  rcases Nat.lt_or_ge i l.length with h1 | h1
  · rw [List.getElem?_append_left h1] at h; exact .inl h
  · rw [List.getElem?_append_right h1] at h
    exact .inr ⟨i - l.length, by omega, h⟩
theorem Fam.app {B z : Nat} {e : TypeId} {R Q : List Rw} (h : Fam B e z R X) (h' : Fam B e z Q X) (hr : ∀ (i j : Nat) (r q : Rw), R[i]? = some r → Q[j]? = some q → Apart r.v q.v) : Fam B e z (R ++ Q) X := by
  refine ⟨fun i r hi => ?_, fun i j a b hij ha hb => ?_⟩
  · rcases idx_app hi with h1 | ⟨k, _, h1⟩
    · exact h.1 i r h1
    · exact h'.1 k r h1
  · rcases idx_app ha with h1 | ⟨k, e1, h1⟩ <;> rcases idx_app hb with h2 | ⟨m, e2, h2⟩
    · exact h.2 i j a b hij h1 h2
    · exact hr i m a b h1 h2
    · exact (hr j k b a h2 h1).symm
    · exact h'.2 k m a b (by omega) h1 h2
/-- an entry more -/
theorem Ow.addB (H : Ow w bk held was b h s X) {e : Bk} {b' : Value} (he : e.ok X) (hh : ∀ (j : Nat) (r : Rw), held[j]? = some r → Apart e.l r.v ∧ Apart e.g r.v)
    (ho : Y.ownsRow w.heap.size 37 11 b' (bk.length + 1) (bcells bk ++ ([e.l, e.g] ++ ccells (markT e.k)))) (hk : Mm.Keeps X b b' Y) : Ow w (bk ++ [e]) held was b' h s Y := by
  refine ⟨bel_keepsT (B := 0) H.bel H.ob hk, by rw [bcells_snoc]; simpa using ho, own_keeps H.oh hk (apart_ty H.oh H.ob (by decide)), own_keeps H.os hk (apart_ty H.os H.ob (by decide)), H.hs, fun i q hq => ?_, H.fh.keeps hk fun i r hr => apart_ty (H.fh.1 i r hr) H.ob (by decide), fun i r hr => own_keeps (H.fw i r hr) hk (apart_ty (H.fw i r hr) H.ob (by decide)), fun i j q r hq hr => ?_, H.eq⟩
  · rcases idx_snoc hq with h1 | ⟨_, rfl⟩
    · exact (H.fb i q h1).keeps H.ob hk (by decide)
    · exact he.keeps H.ob hk (by decide)
  · rcases idx_snoc hq with h1 | ⟨_, rfl⟩
    · exact H.bh i j q r h1 hr
    · exact hh j r hr
/-- lists more that nobody writes into -/
theorem Ow.addH (H : Ow w bk held was b h s X) {qs : List Rw} {h' : Value} (hl : was.length ≤ held.length) (hq : Fam w.heap.size 27 9 qs X) (hqa : ∀ (i j : Nat) (r q : Rw), held[i]? = some r → qs[j]? = some q → Apart r.v q.v)
    (hqb : ∀ (i j : Nat) (e : Bk) (q : Rw), bk[i]? = some e → qs[j]? = some q → Apart e.l q.v ∧ Apart e.g q.v)
    (ho : Y.ownsRow w.heap.size 32 1 h' (held.length + qs.length) (held.map Rw.v ++ qs.map Rw.v)) (hk : Mm.Keeps X h h' Y) : Ow w bk (held ++ qs) was b h' s Y := by
  refine ⟨bel_keepsT (B := 0) H.bel H.oh hk, own_keeps H.ob hk (apart_ty H.ob H.oh (by decide)), by simpa using ho, own_keeps H.os hk H.hs.symm, (Apart.keeps H.os hk H.hs.symm).symm, fun i e he => (H.fb i e he).keeps H.oh hk (by decide), ?_, fun i r hr => own_keeps (H.fw i r hr) hk (apart_ty (H.fw i r hr) H.oh (by decide)), fun i j e r he hr => ?_, fun i r q hr hq => ?_⟩
  · exact (Fam.app H.fh hq hqa).keeps hk fun i r hr => apart_ty ((Fam.app H.fh hq hqa).1 i r hr) H.oh (by decide)
  · rcases idx_app hr with h1 | ⟨k, _, h1⟩
    · exact H.bh i j e r he h1
    · exact hqb i k e r he h1
  · have hi := (List.getElem?_eq_some_iff.1 hq).1
    rw [List.getElem?_append_left (by omega)] at hr
    exact H.eq i r q hr hq
/-- .. and their copies -/
theorem Ow.addS (H : Ow w bk held was b h s X) {qs : List Rw} {s' : Value} (hq : ∀ (i : Nat) (r : Rw), qs[i]? = some r → X.ownsRow w.heap.size 27 9 r.v r.n r.xs) (heq : ∀ (j : Nat) (r q : Rw), held[was.length + j]? = some r → qs[j]? = some q → Same r q)
    (ho : Y.ownsRow w.heap.size 32 1 s' (was.length + qs.length) (was.map Rw.v ++ qs.map Rw.v)) (hk : Mm.Keeps X s s' Y) : Ow w bk held (was ++ qs) b h s' Y := by
  refine ⟨bel_keepsT (B := 0) H.bel H.os hk, own_keeps H.ob hk (apart_ty H.ob H.os (by decide)), own_keeps H.oh hk H.hs, by simpa using ho, Apart.keeps H.oh hk H.hs, fun i e he => (H.fb i e he).keeps H.os hk (by decide), H.fh.keeps hk fun i r hr => apart_ty (H.fh.1 i r hr) H.os (by decide), fun i r hr => ?_, H.bh, fun i r q hr hq' => ?_⟩
  · have h0 : X.ownsRow w.heap.size 27 9 r.v r.n r.xs := by
      rcases idx_app hr with h1 | ⟨k, _, h1⟩
      · exact H.fw i r h1
      · exact hq k r h1
    exact own_keeps h0 hk (apart_ty h0 H.os (by decide))
  · rcases idx_app hq' with h1 | ⟨k, e1, h1⟩
    · exact H.eq i r q hr h1
    · rw [e1] at hr
      exact heq k r q hr h1
end
/-- the state while the lists are written full -/
structure Ow4 (w : World) (bk : List Bk) (held : List Rw) (i : Nat) (b h : Value) (X : World) : Prop where
  bel : Below w.heap.size w X
  ob : X.ownsRow w.heap.size 37 11 b bk.length (bcells bk)
  oh : X.ownsRow w.heap.size 32 1 h held.length (held.map Rw.v)
  fb : ∀ (i : Nat) (e : Bk), bk[i]? = some e → e.ok X
  fh : ∀ (j : Nat) (r : Rw), i ≤ j → held[j]? = some r → X.ownsRow w.heap.size 27 9 r.v r.n r.xs
  pr : ∀ (j k : Nat) (a c : Rw), j ≠ k → held[j]? = some a → held[k]? = some c → Apart a.v c.v
  bh : ∀ (m j : Nat) (e : Bk) (r : Rw), bk[m]? = some e → i ≤ j → held[j]? = some r → Apart e.l r.v ∧ Apart e.g r.v
  hn : ∀ (j : Nat) (r : Rw), held[j]? = some r → r.n ≤ 256
theorem Ow.to4 {w X : World} {bk : List Bk} {held was : List Rw} {b h s : Value} (H : Ow w bk held was b h s X) (hl : was.length = held.length) : Ow4 w bk held 0 b h X :=
  ⟨H.bel, H.ob, H.oh, H.fb, fun j r _ hr => H.fh.1 j r hr, H.fh.2, fun m j e r he _ hr => H.bh m j e r he hr, fun j r hr => by
    have hj := (List.getElem?_eq_some_iff.1 hr).1
    obtain ⟨L, h1, _, _, _, _, h2⟩ := H.eq j r was[j] hr (List.getElem?_eq_getElem (by omega))
    omega⟩
section
variable {w X Y : World} {bk : List Bk} {held : List Rw} {b h : Value} {i : Nat}
theorem Ow4.below (H : Ow4 w bk held i b h X) (hb : Below X.heap.size X Y) : Ow4 w bk held i b h Y :=
  ⟨bnx H.bel hb, own_below H.ob hb (Nat.le_refl _), own_below H.oh hb (Nat.le_refl _), fun i e he => (H.fb i e he).below hb, fun j r hj hr => own_below (H.fh j r hj hr) hb (Nat.le_refl _), H.pr, H.bh, H.hn⟩
/-- list i is written full and gone on from -/
theorem Ow4.kept (H : Ow4 w bk held i b h X) {r : Rw} (hr : held[i]? = some r) {k : Nat} {u : Value} (hfz : Fz Y r.v r.n (crow (List.replicate r.n (markT k)))) (hou : Y.ownsRow w.heap.size 27 9 u (r.n + 64) (crow (List.replicate (r.n + 64) (markT k))))
    (hb : Below w.heap.size X Y) (hbf : Bf X Y r.v.ownBlock) (hub : u.ownBlock = r.v.ownBlock ∨ ∃ g, u.ownBlock = some g ∧ X.heap.size ≤ g) :
    Ow4 w bk held (i + 1) b h Y ∧ Bk.ok ⟨r.v, u, r.n, k⟩ Y ∧ ∀ (j : Nat) (q : Rw), i + 1 ≤ j → held[j]? = some q → Apart r.v q.v ∧ Apart u q.v := by
  have hor := H.fh i r (Nat.le_refl _) hr
  refine ⟨⟨H.bel.trans hb, own_bf H.ob hbf (apart_ty H.ob hor (by decide)), own_bf H.oh hbf (apart_ty H.oh hor (by decide)), fun m e he => ?_, fun j q hj hq => own_bf (H.fh j q (by omega) hq) hbf (H.pr j i q r (by omega) hq hr), H.pr, fun m j e q he hj hq => H.bh m j e q he (by omega) hq, H.hn⟩, ⟨hfz, Fz.of_own hou, by have := H.hn i r hr; simp only; omega⟩, fun j q hj hq => ?_⟩
  · obtain ⟨h1, h2⟩ := H.bh m i e r he (Nat.le_refl _) hr
    have h0 := H.fb m e he
    exact ⟨h0.fl.bf hbf h1, h0.fg.bf hbf h2, h0.hn⟩
  · have h1 := H.pr i j r q (by omega) hr hq
    refine ⟨h1, ?_⟩
    rcases hub with e | ⟨g, e, hg⟩
    · unfold Apart at h1 ⊢
      rw [e]; exact h1
    · unfold Apart
      refine .inr (fun e0 => ?_)
      rw [e] at e0
      have := (own_ty (H.fh j q (by omega) hq) e0.symm).2.1
      omega
theorem Ow4.addB (H : Ow4 w bk held i b h X) {e : Bk} {b' : Value} (he : e.ok X) (hh : ∀ (j : Nat) (r : Rw), i ≤ j → held[j]? = some r → Apart e.l r.v ∧ Apart e.g r.v)
    (ho : Y.ownsRow w.heap.size 37 11 b' (bk.length + 1) (bcells bk ++ ([e.l, e.g] ++ ccells (markT e.k)))) (hk : Mm.Keeps X b b' Y) : Ow4 w (bk ++ [e]) held i b' h Y := by
  refine ⟨bel_keepsT (B := 0) H.bel H.ob hk, by rw [bcells_snoc]; simpa using ho, own_keeps H.oh hk (apart_ty H.oh H.ob (by decide)), fun m q hq => ?_, fun j r hj hr => own_keeps (H.fh j r hj hr) hk (apart_ty (H.fh j r hj hr) H.ob (by decide)), H.pr, fun m j q r hq hj hr => ?_, H.hn⟩
  · rcases idx_snoc hq with h1 | ⟨_, rfl⟩
    · exact (H.fb m q h1).keeps H.ob hk (by decide)
    · exact he.keeps H.ob hk (by decide)
  · rcases idx_snoc hq with h1 | ⟨_, rfl⟩
    · exact H.bh m j q r h1 hj hr
    · exact hh j r hj hr
end
end Go.Proofs.Ytoglcocplpdlhaa.Tn
