/- FieldOwn: kept. -/
import Derived.Test.YtlakglphjhoodaaDoorGw
import Derived.Test.YtlakglphjhoodaaDoorFG
import Derived.Deep.RegionHeld3
namespace Go.Proofs.YtlakglphjhoodaaDoor.Fl
open Go.RowKit Mm
set_option linter.unusedSimpArgs false
set_option linter.unusedSectionVars false
set_option linter.unusedVariables false
noncomputable def mkS (k : Nat) : ByteArray := str (hiB k 12 12)
noncomputable def stR (k n : Nat) : List Value := List.replicate n (.string (mkS k))
def inR (k n : Nat) : List Value := List.replicate n (.int .i64 (-1 - (k : Int)))
theorem stR_succ (k n : Nat) : stR k (n + 1) = stR k n ++ [.string (mkS k)] := List.replicate_succ'
theorem inR_succ (k n : Nat) : inR k (n + 1) = inR k n ++ [.int .i64 (-1 - (k : Int))] := List.replicate_succ'
theorem stR_add (k n q : Nat) : stR k (n + q) = stR k n ++ stR k q := by unfold stR; rw [List.replicate_append_replicate]
theorem inR_add (k n q : Nat) : inR k (n + q) = inR k n ++ inR k q := by unfold inR; rw [List.replicate_append_replicate]
theorem stR_at {k n j : Nat} (h : j < n) : (stR k n)[j]? = some (.string (mkS k)) := by unfold stR; rw [List.getElem?_replicate, if_pos h]
theorem inR_at {k n j : Nat} (h : j < n) : (inR k n)[j]? = some (.int .i64 (-1 - (k : Int))) := by unfold inR; rw [List.getElem?_replicate, if_pos h]
theorem info_stO : (Tryd.prog.info? 9).map (fun i => (i.zero, i.size, i.bytes)) = some (some (.string ⟨#[]⟩), 1, 16) := by kernel_rfl
theorem info_inO : (Tryd.prog.info? 3).map (fun i => (i.zero, i.size, i.bytes)) = some (some (.int .i64 0), 1, 8) := by kernel_rfl
/-- outside of two blocks nothing turns -/
def Bf2 (w w' : World) (r1 r2 : Option Nat) : Prop := ∀ g, g < w.heap.size → some g ≠ r1 → some g ≠ r2 → w'.heap[g]? = w.heap[g]?
theorem Fz.bf2 {X Y : World} {s n : Nat} {e : TypeId} {v : Value} {xs : List Value} {r1 r2 : Option Nat} (h : Fz X e s v n xs) (hb : Bf2 X Y r1 r2) (h1 : v.ownBlock = none ∨ v.ownBlock ≠ r1) (h2 : v.ownBlock = none ∨ v.ownBlock ≠ r2) : Fz Y e s v n xs := by
  obtain ⟨a, cap, hv, hc, hm, hl, hx⟩ := h
  refine ⟨a, cap, hv, hc, hm, hl, hx.imp id ?_⟩
  rintro ⟨g, cur, rfl, hg, hx⟩
  subst hv
  exact ⟨g, cur, rfl, (hb g (Array.getElem?_eq_some_iff.1 hg).1 (by rcases h1 with h1 | h1; cases h1; exact h1) (by rcases h2 with h2 | h2; cases h2; exact h2)).trans hg, hx⟩
theorem own_bf2 {X Y : World} {B s n : Nat} {e : TypeId} {v : Value} {xs : List Value} {r1 r2 : Option Nat} (h : X.ownsRow B e s v n xs) (hb : Bf2 X Y r1 r2) (h1 : v.ownBlock = none ∨ v.ownBlock ≠ r1) (h2 : v.ownBlock = none ∨ v.ownBlock ≠ r2) : Y.ownsRow B e s v n xs := by
  refine ⟨h.1, ?_⟩
  rcases h.2 with h0 | ⟨g, cap, cur, hv, hb', hg, rest⟩
  · exact .inl h0
  · subst hv
    exact .inr ⟨g, cap, cur, rfl, hb', (hb g (Array.getElem?_eq_some_iff.1 hg).1 (by rcases h1 with h1 | h1; cases h1; exact h1) (by rcases h2 with h2 | h2; cases h2; exact h2)).trans hg, rest⟩
def kz0 : Array Value := #[.slice none 0 0, .slice none 0 0, .slice none 0 0, .slice none 0 0, .int .i64 0]
/-- while the lists are written full -/
structure K1 (w : World) (B n m : Nat) (v u : Value) (xs ys : List Value) (X : World) : Prop where
  ov : X.ownsRow B 9 1 v n xs
  ou : X.ownsRow B 3 1 u m ys
  rb : Blk X w.heap.size 35 kz0
  bel : Below B w X
  bf : Bf2 w X v.ownBlock u.ownBlock
  vl : ∀ g, v.ownBlock = some g → g < w.heap.size
  ul : ∀ g, u.ownBlock = some g → g < w.heap.size
theorem K1.putV {w X : World} {B n m g cap : Nat} {u : Value} {xs ys : List Value} (h : K1 w B n m (.slice (some ⟨g, 0, none⟩) n cap) u xs ys X) (j : Nat) (y : Value) :
    K1 w B n m (.slice (some ⟨g, 0, none⟩) n cap) u (xs.set j y) ys (X.setCell ⟨g, j, none⟩ y) := by
  have hg := h.vl g rfl
  refine ⟨(h.ov.stored j y).1, own_bf h.ou (Bf.set X g j y) (apart_ty h.ou h.ov (by decide)), h.rb.far (by simp; omega) y, h.bel.setCell (p := ⟨g, j, none⟩) (h.ov.lt g rfl).1 y, fun g' hg' h1 h2 => ?_, h.vl, h.ul⟩
  rw [Below.heap_setCell X ⟨g, j, none⟩ y g' (fun e => h1 (by rw [e]; rfl))]
  exact h.bf g' hg' h1 h2
theorem K1.putU {w X : World} {B n m g cap : Nat} {v : Value} {xs ys : List Value} (h : K1 w B n m v (.slice (some ⟨g, 0, none⟩) m cap) xs ys X) (j : Nat) (y : Value) :
    K1 w B n m v (.slice (some ⟨g, 0, none⟩) m cap) xs (ys.set j y) (X.setCell ⟨g, j, none⟩ y) := by
  have hg := h.ul g rfl
  refine ⟨own_bf h.ov (Bf.set X g j y) (apart_ty h.ov h.ou (by decide)), (h.ou.stored j y).1, h.rb.far (by simp; omega) y, h.bel.setCell (p := ⟨g, j, none⟩) (h.ou.lt g rfl).1 y, fun g' hg' h1 h2 => ?_, h.vl, h.ul⟩
  rw [Below.heap_setCell X ⟨g, j, none⟩ y g' (fun e => h2 (by rw [e]; rfl))]
  exact h.bf g' hg' h1 h2
/-- while they are gone on from -/
structure K2 (w : World) (B n m : Nat) (v u g h : Value) (g3 q p k : Nat) (X : World) : Prop where
  fv : Fz X 9 1 v n (stR k n)
  fu : Fz X 3 1 u m (inR k m)
  og : X.ownsRow B 9 1 g (n + q) (stR k (n + q))
  oh : X.ownsRow B 3 1 h (m + p) (inR k (m + p))
  rb : Blk X w.heap.size 35 kz0
  kb : Blk X g3 35 #[v, g, u, h, .int .i64 (k : Int)]
  bel : Below B w X
  bf : Bf2 w X v.ownBlock u.ownBlock
  gb : g.ownBlock = v.ownBlock ∨ ∃ b, g.ownBlock = some b ∧ w.heap.size ≤ b
  hb : h.ownBlock = u.ownBlock ∨ ∃ b, h.ownBlock = some b ∧ w.heap.size ≤ b
  lt : w.heap.size < g3
  vl : ∀ g, v.ownBlock = some g → g < w.heap.size
  ul : ∀ g, u.ownBlock = some g → g < w.heap.size
theorem blk_keepsO {X Y : World} {g B s n : Nat} {t e : TypeId} {cs : Array Value} {v v' : Value} {xs : List Value} (h : Blk X g t cs) (ho : X.ownsRow B e s v n xs) (hk : Keeps X v v' Y) (hne : t ≠ e) : Blk Y g t cs := h.grown hk.by (blk_apart h ho hne)
theorem row_blk {X : World} {g B s n : Nat} {t e : TypeId} {cs : Array Value} {v : Value} {xs : List Value} (h : Blk X g t cs) (ho : X.ownsRow B e s v n xs) (hne : t ≠ e) : v.ownBlock ≠ some g := fun e0 => blk_apart h ho hne e0.symm
theorem K2.stepG {w X Y : World} {B n m g3 q p k : Nat} {v u g h g' : Value} (H : K2 w B n m v u g h g3 q p k X) (hB : B ≤ w.heap.size)
    (ho : Y.ownsRow B 9 1 g' (n + (q + 1)) (stR k (n + (q + 1)))) (hk : Keeps (X.alloc (.cells #[.string (mkS k)] 9)) g g' Y) : K2 w B n m v u g' h g3 (q + 1) p k (Y.setCell ⟨g3, 1, none⟩ g') := by
  have hbX : Below X.heap.size X (X.alloc (.cells #[.string (mkS k)] 9)) := bal (Below.refl _ _) _
  have ho1 := own_below H.og hbX (Nat.le_refl _)
  have ho2 := own_below H.oh hbX (Nat.le_refl _)
  have kbY := blk_keepsO (H.kb.alloc (.cells #[.string (mkS k)] 9)) ho1 hk (by decide)
  have rbY := blk_keepsO (H.rb.alloc (.cells #[.string (mkS k)] 9)) ho1 hk (by decide)
  have hw3 := H.lt
  have hsW : w.heap.size ≤ X.heap.size := H.bel.size
  have hv3 : v.ownBlock ≠ some g3 := fun e => by have := H.vl g3 e; omega
  have hu3 : u.ownBlock ≠ some g3 := fun e => by have := H.ul g3 e; omega
  have ho2Y := own_keeps ho2 hk (apart_ty ho2 ho1 (by decide))
  have hg3 := row_blk kbY ho (by decide)
  have hh3 := row_blk kbY ho2Y (by decide)
  have fY : Fz Y 9 1 v n (stR k n) := (H.fv.below hbX).self hk (zs := stR k (q + 1)) (by rw [← stR_add]; exact ho)
  have foY : Fz Y 3 1 u m (inR k m) := (H.fu.below hbX).bf hk.bf (fz_apart (H.fu.below hbX) ho1 (by decide))
  have bfY : Bf2 w Y v.ownBlock u.ownBlock := fun b hb1 h1 h2 => by
    have e1 : (X.alloc (.cells #[.string (mkS k)] 9)).heap[b]? = w.heap[b]? := (hbX.block b (by omega)).trans (H.bf b hb1 h1 h2)
    refine (hk.by.block b (by have := hbX.size; omega) (fun e => ?_)).trans e1
    rcases H.gb with hx | ⟨b', hx, hb'⟩
    · rw [hx] at e; exact h1 e
    · rw [hx] at e; have := Option.some.inj e; omega
  have belY : Below B w Y := (H.bel.alloc (by omega) _).grown hk.by (by have := H.bel.size; simp; omega) (fun b hb => (ho1.lt b hb).1)
  have bz := Bf.set Y g3 1 g'
  refine ⟨fY.bf bz (.inr hv3), foY.bf bz (.inr hu3), own_bf ho bz (.inr hg3), own_bf ho2Y bz (.inr hh3), rbY.far (by simp; omega) g', ?_, belY.setCell (p := ⟨g3, 1, none⟩) (by simp; omega) g', fun b hb1 h1 h2 => ?_, ?_, H.hb, H.lt, H.vl, H.ul⟩
  · exact kbY.set_ 1 g'
  · exact (Below.heap_setCell Y ⟨g3, 1, none⟩ g' b (fun e => by simp at e; omega)).trans (bfY b hb1 h1 h2)
  · rcases hk with ⟨hk1, _⟩ | ⟨hk1, _⟩
    · rw [hk1]; exact H.gb
    · exact .inr ⟨_, hk1, by simp; omega⟩
theorem K2.stepH {w X Y : World} {B n m g3 q p k : Nat} {v u g h h' : Value} (H : K2 w B n m v u g h g3 q p k X) (hB : B ≤ w.heap.size)
    (ho : Y.ownsRow B 3 1 h' (m + (p + 1)) (inR k (m + (p + 1)))) (hk : Keeps (X.alloc (.cells #[.int .i64 (-1 - (k : Int))] 3)) h h' Y) : K2 w B n m v u g h' g3 q (p + 1) k (Y.setCell ⟨g3, 3, none⟩ h') := by
  have hbX : Below X.heap.size X (X.alloc (.cells #[.int .i64 (-1 - (k : Int))] 3)) := bal (Below.refl _ _) _
  have ho1 := own_below H.oh hbX (Nat.le_refl _)
  have ho2 := own_below H.og hbX (Nat.le_refl _)
  have kbY := blk_keepsO (H.kb.alloc (.cells #[.int .i64 (-1 - (k : Int))] 3)) ho1 hk (by decide)
  have rbY := blk_keepsO (H.rb.alloc (.cells #[.int .i64 (-1 - (k : Int))] 3)) ho1 hk (by decide)
  have hw3 := H.lt
  have hsW : w.heap.size ≤ X.heap.size := H.bel.size
  have hv3 : v.ownBlock ≠ some g3 := fun e => by have := H.vl g3 e; omega
  have hu3 : u.ownBlock ≠ some g3 := fun e => by have := H.ul g3 e; omega
  have ho2Y := own_keeps ho2 hk (apart_ty ho2 ho1 (by decide))
  have hg3 := row_blk kbY ho (by decide)
  have hh3 := row_blk kbY ho2Y (by decide)
  have fY : Fz Y 3 1 u m (inR k m) := (H.fu.below hbX).self hk (zs := inR k (p + 1)) (by rw [← inR_add]; exact ho)
  have foY : Fz Y 9 1 v n (stR k n) := (H.fv.below hbX).bf hk.bf (fz_apart (H.fv.below hbX) ho1 (by decide))
  have bfY : Bf2 w Y v.ownBlock u.ownBlock := fun b hb1 h1 h2 => by
    have e1 : (X.alloc (.cells #[.int .i64 (-1 - (k : Int))] 3)).heap[b]? = w.heap[b]? := (hbX.block b (by omega)).trans (H.bf b hb1 h1 h2)
    refine (hk.by.block b (by have := hbX.size; omega) (fun e => ?_)).trans e1
    rcases H.hb with hx | ⟨b', hx, hb'⟩
    · rw [hx] at e; exact h2 e
    · rw [hx] at e; have := Option.some.inj e; omega
  have belY : Below B w Y := (H.bel.alloc (by omega) _).grown hk.by (by have := H.bel.size; simp; omega) (fun b hb => (ho1.lt b hb).1)
  have bz := Bf.set Y g3 3 h'
  refine ⟨foY.bf bz (.inr hv3), fY.bf bz (.inr hu3), own_bf ho2Y bz (.inr hh3), own_bf ho bz (.inr hg3), rbY.far (by simp; omega) h', ?_, belY.setCell (p := ⟨g3, 3, none⟩) (by simp; omega) h', fun b hb1 h1 h2 => ?_, H.gb, ?_, H.lt, H.vl, H.ul⟩
  · exact kbY.set_ 3 h'
  · exact (Below.heap_setCell Y ⟨g3, 3, none⟩ h' b (fun e => by simp at e; omega)).trans (bfY b hb1 h1 h2)
  · rcases hk with ⟨hk1, _⟩ | ⟨hk1, _⟩
    · rw [hk1]; exact H.hb
    · exact .inr ⟨_, hk1, by simp; omega⟩
theorem app_stO {B : Nat} {v : Value} {n : Nat} {xs : List Value} {w : World} (y : Value) (hy : y.oneCell' = true) {ops : Array Oper} {rest : List Oper} {o : Oper} {a : Act} {Q : Exit → Act → World → Prop} {s x : Operand}
    (hown : w.ownsRow B 9 1 v n xs) (hgd : o.guard = none) (ho : o.op = .call { callee := .builtin .append, args := #[s, x], argTypes := #[31, 31] })
    (hs : a.eval s = v) (hx : a.eval x = .slice (some ⟨w.heap.size, 0, none⟩) 1 1) (hn : n ≤ 100000000000) (hB : B ≤ w.heap.size)
    (h : ∀ v' w', w'.ownsRow B 9 1 v' (n + 1) (xs ++ [y]) → Keeps (w.alloc (.cells #[y] 9)) v v' w' → wpList Tryd.prog ops Q rest (a.put o.dst v') w') : wpList Tryd.prog ops Q (o :: rest) a (w.alloc (.cells #[y] 9)) := by
  obtain ⟨i0, hi, hz0, hz1, hz2⟩ := info_parts info_stO
  exact wpList_append_keep _ hgd s x 31 ho B 9 i0 _ 1 16 Tryd.underlying31 hi hz0 hz1 hz2 rfl (by decide) v n _ hs (hown.alloc _) ⟨w.heap.size, 0, none⟩ 1 1 [y] hx rfl (cell_one_new _ _ _)
    (by simp [hy]) (by decide) (by simp only [maxLen]; omega) (by omega) (by simp; omega) h
theorem app_inO {B : Nat} {v : Value} {n : Nat} {xs : List Value} {w : World} (y : Value) (hy : y.oneCell' = true) {ops : Array Oper} {rest : List Oper} {o : Oper} {a : Act} {Q : Exit → Act → World → Prop} {s x : Operand}
    (hown : w.ownsRow B 3 1 v n xs) (hgd : o.guard = none) (ho : o.op = .call { callee := .builtin .append, args := #[s, x], argTypes := #[22, 22] })
    (hs : a.eval s = v) (hx : a.eval x = .slice (some ⟨w.heap.size, 0, none⟩) 1 1) (hn : n ≤ 100000000000) (hB : B ≤ w.heap.size)
    (h : ∀ v' w', w'.ownsRow B 3 1 v' (n + 1) (xs ++ [y]) → Keeps (w.alloc (.cells #[y] 3)) v v' w' → wpList Tryd.prog ops Q rest (a.put o.dst v') w') : wpList Tryd.prog ops Q (o :: rest) a (w.alloc (.cells #[y] 3)) := by
  obtain ⟨i0, hi, hz0, hz1, hz2⟩ := info_parts info_inO
  exact wpList_append_keep _ hgd s x 22 ho B 3 i0 _ 1 8 Tryd.underlying22 hi hz0 hz1 hz2 rfl (by decide) v n _ hs (hown.alloc _) ⟨w.heap.size, 0, none⟩ 1 1 [y] hx rfl (cell_one_new _ _ _)
    (by simp [hy]) (by decide) (by simp only [maxLen]; omega) (by omega) (by simp; omega) h
structure KF (w : World) (B n m : Nat) (v u g h : Value) (k : Nat) (X : World) : Prop where
  fv : Fz X 9 1 v n (stR k n)
  fu : Fz X 3 1 u m (inR k m)
  og : X.ownsRow B 9 1 g (n + 64) (stR k (n + 64))
  oh : X.ownsRow B 3 1 h (m + 64) (inR k (m + 64))
  bel : Below B w X
  bf : Bf2 w X v.ownBlock u.ownBlock
  gb : g.ownBlock = v.ownBlock ∨ ∃ b, g.ownBlock = some b ∧ w.heap.size ≤ b
  hb : h.ownBlock = u.ownBlock ∨ ∃ b, h.ownBlock = some b ∧ w.heap.size ≤ b
  ng : g.ownBlock ≠ some w.heap.size
  nh : h.ownBlock ≠ some w.heap.size
  nv : v.ownBlock ≠ some w.heap.size
  nu : u.ownBlock ≠ some w.heap.size
theorem K2.fin {w X : World} {B n m g3 k : Nat} {v u g h : Value} (H : K2 w B n m v u g h g3 64 64 k X) : KF w B n m v u g h k X :=
  ⟨H.fv, H.fu, H.og, H.oh, H.bel, H.bf, H.gb, H.hb, row_blk H.rb H.og (by decide), row_blk H.rb H.oh (by decide), fun e => by have := H.vl _ e; omega, fun e => by have := H.ul _ e; omega⟩
theorem KF.far {w X : World} {B n m k : Nat} {v u g h : Value} (H : KF w B n m v u g h k X) (hB : B ≤ w.heap.size) (i : Nat) (y : Value) : KF w B n m v u g h k (X.setCell ⟨w.heap.size, i, none⟩ y) := by
  have bz := Bf.set X w.heap.size i y
  exact ⟨H.fv.bf bz (.inr H.nv), H.fu.bf bz (.inr H.nu), own_bf H.og bz (.inr H.ng), own_bf H.oh bz (.inr H.nh), H.bel.setCell (p := ⟨w.heap.size, i, none⟩) hB y, fun b hb h1 h2 => (Below.heap_setCell X ⟨w.heap.size, i, none⟩ y b (fun e => by simp at e; omega)).trans (H.bf b hb h1 h2), H.gb, H.hb, H.ng, H.nh, H.nv, H.nu⟩
/-- what kept answers -/
def KA (w : World) (B n m : Nat) (v u : Value) (k : Nat) (e : Ending) (w' : World) : Prop :=
  ∃ g h, e = .returned (.agg #[v, g, u, h, .int .i64 (k : Int)]) ∧ KF w B n m v u g h k w'
theorem take1O {xs : List Value} {k : Nat} (hl : k < xs.length) {p : List Value} (h : xs.take k = p) (a : Value) : (xs.set k a).take (k + 1) = p ++ [a] := by
  rw [List.take_add_one, List.take_set_of_le (Nat.le_refl k), h, List.getElem?_set_self hl]
  rfl
set_option maxRecDepth 100000 in
set_option maxHeartbeats 8000000 in
theorem kept_any (k : Nat) (hk : k < 65536) (w : World) (B n m : Nat) (v u : Value) (xs0 ys0 : List Value) (hn : n ≤ 8589934592) (hm : m ≤ 100000) (hB : B ≤ w.heap.size) (h : w.ownsRow B 9 1 v n xs0) (h2 : w.ownsRow B 3 1 u m ys0) :
    Calls Tryd.prog 9 #[v, u, .int .i64 (k : Int)] w (KA w B n m v u k) := by
  obtain ⟨a, cap, rfl⟩ := own_len h
  obtain ⟨b, dap, rfl⟩ := own_len h2
  have H := Lib.hid h
  have H2 := Lib.hid h2
  have HBB := Lib.hid hB
  have HBI := Lib.hid (fun w' => bitsOf_any k 12 (by omega) (by decide) w')
  rw [show str (hiB k 12 12) = mkS k from rfl] at HBI
  clear h h2 hB
  go_enter Tryd.func9, Tryd.ntmps9
  go_wp2_with fail
  refine (HBI.out _).mono ?_
  rintro e w1 ⟨rfl, hb1⟩
  have H1 : Hid (K1 w B n m (.slice a n cap) (.slice b m dap) xs0 ys0 w1) := Lib.hid (by
    have hbel : Below w.heap.size w w1 := bnx (bal (Below.refl _ _) _) hb1
    exact ⟨own_below H.out hbel (Nat.le_refl _), own_below H2.out hbel (Nat.le_refl _), (Blk.new w 35 kz0).below hb1 (by simp), hbel.mono HBB.out, fun g hg _ _ => hbel.block g hg, fun g hg => (H.out.lt g hg).2, fun g hg => (H2.out.lt g hg).2⟩)
  clear hb1 HBI
  go_wp2_with fail
  go_loopw [8] (fun i wr => ∃ (j : Nat) (xs : List Value), j ≤ n ∧ i = .int .i64 (j : Int) ∧ xs.take j = stR k j ∧ K1 w B n m (.slice a n cap) (.slice b m dap) xs ys0 wr) (fun i _ => n - (intOf i).toNat)
  case atStart => exact ⟨0, xs0, Nat.zero_le _, rfl, by simp [stR], H1.out⟩
  case round =>
    clear H1
    obtain ⟨j, xs, hj, rfl, htk, hk1⟩ := hrel
    have HK := Lib.hid hk1
    have HTK := Lib.hid htk
    clear htk hk1
    by_cases hlt : j < n
    · as_aux_lemma =>
      have i1 : (0 : Int) ≤ (j : Int) := by omega
      have i2 : (j : Int) < (n : Int) := by omega
      obtain ⟨g, cp, e, _, _, hgl, hx⟩ := own_at HK.out.ov (by omega)
      cases e
      have hxl : xs.length = n := by have := HK.out.ov.1; omega
      have HXL := Lib.hid hxl
      have hfz := HK.out.ov.frozenAt
      obtain ⟨y0, q0⟩ : ∃ y, wr.cell? ⟨g, j, none⟩ = some y := ⟨_, hx j _ (List.getElem?_eq_getElem (by omega))⟩
      clear hx hxl
      go_wp2_with fail
      go_roundw
      case rel => exact ⟨j + 1, _, by omega, by go_num, by rw [take1O (by have := HXL.out; omega) HTK.out, stR_succ], HK.out.putV j _⟩
      case measure => simp [intOf]; omega
    · have hnj : ¬ (j : Int) < (n : Int) := by omega
      have hxs : Hid (K1 w B n m (.slice a n cap) (.slice b m dap) (stR k n) ys0 wr) := Lib.hid (by
        have h1 := HTK.out
        have h2 := HK.out
        have h3 := h2.ov.1
        rw [List.take_of_length_le (by omega), show j = n by omega] at h1
        rw [h1] at h2
        exact h2)
      clear HK HTK hlt hj
      go_wp2_with fail
      clear hnj
      go_loopw [9] (fun i wx => ∃ (p : Nat) (ys : List Value), p ≤ m ∧ i = .int .i64 (p : Int) ∧ ys.take p = inR k p ∧ K1 w B n m (.slice a n cap) (.slice b m dap) (stR k n) ys wx) (fun i _ => m - (intOf i).toNat)
      case atStart => exact ⟨0, ys0, Nat.zero_le _, rfl, by simp [inR], hxs.out⟩
      case round =>
        clear hxs
        obtain ⟨p, ys, hp, rfl, htk, hk1⟩ := hrel
        have HK := Lib.hid hk1
        have HTK := Lib.hid htk
        clear htk hk1
        by_cases hlt : p < m
        · as_aux_lemma =>
          have i1 : (0 : Int) ≤ (p : Int) := by omega
          have i2 : (p : Int) < (m : Int) := by omega
          obtain ⟨g, cp, e, _, _, hgl, hx⟩ := own_at HK.out.ou (by omega)
          cases e
          have hxl : ys.length = m := by have := HK.out.ou.1; omega
          have HXL := Lib.hid hxl
          have hfz := HK.out.ou.frozenAt
          obtain ⟨y0, q0⟩ : ∃ y, wr.cell? ⟨g, p, none⟩ = some y := ⟨_, hx p _ (List.getElem?_eq_getElem (by omega))⟩
          clear hx hxl
          go_wp2_with fail
          go_roundw
          case rel => exact ⟨p + 1, _, by omega, by go_num, by rw [take1O (by have := HXL.out; omega) HTK.out, inR_succ], HK.out.putU p _⟩
          case measure => simp [intOf]; omega
        · have hnp : ¬ (p : Int) < (m : Int) := by omega
          have hys : Hid (K1 w B n m (.slice a n cap) (.slice b m dap) (stR k n) (inR k m) wr) := Lib.hid (by
            have h1 := HTK.out
            have h2 := HK.out
            have h3 := h2.ou.1
            rw [List.take_of_length_le (by omega), show p = m by omega] at h1
            rw [h1] at h2
            exact h2)
          clear HK HTK hlt hp
          have hrl := hys.out.rb.lt
          go_upto_region 11 with fail
          clear hnp
          generalize hg3 : wr.heap.size = g3
          have HG3 := Lib.hid hg3
          rw [hg3] at hrl
          clear hg3
          have H2 : Hid (K2 w B n m (.slice a n cap) (.slice b m dap) (.slice a n cap) (.slice b m dap) g3 0 0 k (wr.alloc (.cells #[.slice a n cap, .slice a n cap, .slice b m dap, .slice b m dap, .int .i64 (k : Int)] 35))) := Lib.hid (by
            have hk := hys.out
            have hbel : Below wr.heap.size wr (wr.alloc (.cells #[.slice a n cap, .slice a n cap, .slice b m dap, .slice b m dap, .int .i64 (k : Int)] 35)) := bal (Below.refl _ _) _
            have ho := own_below hk.ov hbel (Nat.le_refl _)
            have ho2 := own_below hk.ou hbel (Nat.le_refl _)
            refine ⟨Fz.of_own ho, Fz.of_own ho2, ho, ho2, hk.rb.alloc _, by rw [← HG3.out]; exact Blk.new _ _ _, hk.bel.trans (hbel.mono ?_), fun g hg h1 h2 => (hbel.block g ?_).trans (hk.bf g hg h1 h2), .inl rfl, .inl rfl, hrl, hk.vl, hk.ul⟩
            · have := hk.bel.size; have := HBB.out; omega
            · have := hk.bel.size; omega)
          clear hys
          revert H2
          generalize World.alloc wr _ = W2
          intro H2
          go_wp2_with fail
          go_loopw [11] (fun i wx => ∃ (q : Nat) (g h : Value), q ≤ 64 ∧ i = .int .i64 (q : Int) ∧ K2 w B n m (.slice a n cap) (.slice b m dap) g h g3 q q k wx) (fun i _ => 64 - (intOf i).toNat)
          case atStart => exact ⟨0, _, _, by omega, rfl, H2.out⟩
          case round =>
            clear H2
            obtain ⟨q, g, h, hq, rfl, hk2⟩ := hrel
            have HK2 := Lib.hid hk2
            obtain ⟨pg, cg, rfl⟩ := own_len hk2.og
            obtain ⟨ph, ch, rfl⟩ := own_len hk2.oh
            clear hk2
            have hl3 := HK2.out.kb.lt
            by_cases hlt : q < 64
            · as_aux_lemma =>
              have hq64 : (q : Int) < 64 := by omega
              have c1 : wr.cell? ⟨g3, 1, none⟩ = some (.slice pg (n + q) cg) := by have := HK2.out.kb.cell 1; simpa using this
              go_upto_region 15 with (at_builtin; refine app_stO _ rfl HK2.out.og rfl rfl rfl rfl (by omega) (by have := HK2.out.bel.size; have := HBB.out; omega) ?_; intro g' w2 hog hkg; obtain ⟨pg', cg', rfl⟩ := own_len hog; have hkb := blk_keepsO (HK2.out.kb.alloc (.cells #[.string (mkS k)] 9)) (own_below HK2.out.og (bal (Below.refl _ _) (.cells #[.string (mkS k)] 9)) (Nat.le_refl _)) hkg (by decide); have hkc : w2.cell? ⟨g3, 1, none⟩ = some (.slice pg (n + q) cg) := (by have := hkb.cell 1; simpa using this); have hkf := hkb.frozen 1; have hkl := hkb.lt)
              have HK3 := Lib.hid (HK2.out.stepG HBB.out (by rw [show n + (q + 1) = n + q + 1 from rfl, stR_succ]; exact hog) hkg)
              clear hog hkg hkb hkc hkf hkl c1 hl3 HK2
              revert HK3
              generalize (w2.setCell ⟨g3, 1, none⟩ (.slice pg' (n + q + 1) cg')) = w3
              intro HK3
              have c3 : w3.cell? ⟨g3, 3, none⟩ = some (.slice ph (m + q) ch) := by have := HK3.out.kb.cell 3; simpa using this
              have hl4 := HK3.out.kb.lt
              go_wp2_with (at_builtin; refine app_inO _ rfl HK3.out.oh rfl rfl rfl rfl (by omega) (by have := HK3.out.bel.size; have := HBB.out; omega) ?_; intro h' w4 hoh hkh; obtain ⟨ph', ch', rfl⟩ := own_len hoh; have hkb := blk_keepsO (HK3.out.kb.alloc (.cells #[.int .i64 (-1 - (k : Int))] 3)) (own_below HK3.out.oh (bal (Below.refl _ _) (.cells #[.int .i64 (-1 - (k : Int))] 3)) (Nat.le_refl _)) hkh (by decide); have hkc : w4.cell? ⟨g3, 3, none⟩ = some (.slice ph (m + q) ch) := (by have := hkb.cell 3; simpa using this); have hkf := hkb.frozen 3; have hkl := hkb.lt)
              go_roundw
              case rel => exact ⟨q + 1, _, _, by omega, by go_num, HK3.out.stepH HBB.out (by rw [show m + (q + 1) = m + q + 1 from rfl, inR_succ]; exact hoh) hkh⟩
              case measure => simp [intOf]; omega
            · as_aux_lemma =>
              obtain rfl : q = 64 := by omega
              have hkc : ∀ i, wr.cell? ⟨g3, i, none⟩ = (#[.slice a n cap, .slice pg (n + 64) cg, .slice b m dap, .slice ph (m + 64) ch, .int .i64 (k : Int)] : Array Value)[i]? := HK2.out.kb.cell
              have hrc := HK2.out.rb.cell
              unfold kz0 at hrc
              have hrf := HK2.out.rb.frozen
              have hl4 := HK2.out.rb.lt
              go_wp2_with fail
              refine bodyPost_ret (v := .agg #[.slice a n cap, .slice pg (n + 64) cg, .slice b m dap, .slice ph (m + 64) ch, .int .i64 (k : Int)]) (by simp [results, Tryd.results9, go_sem, hrc]) rfl ⟨_, _, rfl, ?_⟩
              have hB := HBB.out
              exact ((((HK2.out.fin.far hB _ _).far hB _ _).far hB _ _).far hB _ _).far hB _ _
end Go.Proofs.YtlakglphjhoodaaDoor.Fl
