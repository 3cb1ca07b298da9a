/- TernOwn: kept, the walk. -/
import Derived.Test.YtoglcocplpdlhaaKd
namespace Go.Proofs.Ytoglcocplpdlhaa.Tn
open Go.RowKit
attribute [local go_sem] cv cs wv
def kz0 : Array Value := #[.slice none 0 0, .slice none 0 0, .int .i64 0, .int .u64 0, .int .u64 0, .int .u64 0, .int .u64 0, .int .u64 0, .int .u64 0, .int .u64 0, .int .u64 0]
/-- the row while it is gone on from -/
structure K2 (w : World) (B n : Nat) (v u : Value) (g2 g3 k : Nat) (cm : Array Value) (t : List UInt8) (X : World) : Prop where
  fz : Fz X v n (crow (List.replicate n t))
  own : X.ownsRow B 27 9 u (n + k) (crow (List.replicate (n + k) t))
  rb : Blk X w.heap.size 37 kz0
  mb : Blk X g2 27 cm
  kb : Blk X g3 37 (#[v, u] ++ cm)
  bel : Below B w X
  bf : Bf w X v.ownBlock
  ub : u.ownBlock = v.ownBlock ∨ ∃ g, u.ownBlock = some g ∧ w.heap.size ≤ g
  lt : w.heap.size < g2 ∧ g2 < g3
  un : u.ownBlock ≠ some g2
  vl : ∀ g, v.ownBlock = some g → g < w.heap.size
theorem kept_blk {X Y : World} {g B n : Nat} {u u' : Value} {cs : Array Value} {xs : List Value} (h : Blk X g 37 cs) (ho : X.ownsRow B 27 9 u n xs) (hk : Mm.Keeps X u u' Y) : Blk Y g 37 cs := by
  refine h.grown hk.by (fun e => ?_)
  obtain ⟨_, _, cur, hc⟩ := Mm.own_ty ho e.symm
  have h' : X.heap[g]? = some (.cells cs 37 (0, 0)) := h
  rw [h'] at hc
  exact absurd (Obj.cells.inj (Option.some.inj hc)).2.1 (by decide)
theorem rep_add (n k : Nat) (t : List UInt8) : crow (List.replicate (n + k) t) = crow (List.replicate n t) ++ crow (List.replicate k t) := by
  unfold crow
  rw [← List.replicate_append_replicate, List.flatMap_append]
theorem set1 (v u u' : Value) (cm : Array Value) : (#[v, u] ++ cm).setIfInBounds 1 u' = #[v, u'] ++ cm := by
  apply Array.toList_inj.1
  simp
theorem K2.step {w X Y : World} {B n g2 g3 k : Nat} {v u u' : Value} {cm : Array Value} {t : List UInt8} (h : K2 w B n v u g2 g3 k cm t X) (hB : B ≤ w.heap.size)
    (ho : (Y.ownsRow B 27 9 u' (n + (k + 1)) (crow (List.replicate (n + (k + 1)) t)))) (hk : Mm.Keeps (X.alloc (.cells cm 27)) u u' Y) : K2 w B n v u' g2 g3 (k + 1) cm t (Y.setCell ⟨g3, 1, none⟩ u') := by
  have hbX : Below X.heap.size X (X.alloc (.cells cm 27)) := bal (Below.refl _ _) _
  have own1 := own_below h.own hbX (Nat.le_refl _)
  have fz1 : Fz (X.alloc (.cells cm 27)) v n (crow (List.replicate n t)) := h.fz.bf (Bf.of_below hbX) (Decidable.em _)
  have kbY := kept_blk (h.kb.alloc (.cells cm 27)) own1 hk
  have rbY := kept_blk (h.rb.alloc (.cells cm 27)) own1 hk
  have mbY : Blk Y g2 27 cm := (h.mb.alloc (.cells cm 27)).grown hk.by (Ne.symm h.un)
  have hg3 : u'.ownBlock ≠ some g3 := fun e => by
    obtain ⟨_, _, cur, hc⟩ := Mm.own_ty ho e
    have h' : Y.heap[g3]? = some (.cells (#[v, u] ++ cm) 37 (0, 0)) := kbY
    rw [h'] at hc
    exact absurd (Obj.cells.inj (Option.some.inj hc)).2.1 (by decide)
  have hsX : X.heap.size < (X.alloc (.cells cm 27)).heap.size := by simp
  have hsW : w.heap.size ≤ X.heap.size := by have := h.bel.size; exact this
  have hl2 := h.lt
  have hm2 := h.mb.lt
  have hk3 := h.kb.lt
  have hv3 : v.ownBlock ≠ some g3 := fun e => by have := h.vl g3 e; omega
  have bfY : Bf w Y v.ownBlock := fun g hg hne => by
    have e1 : (X.alloc (.cells cm 27)).heap[g]? = w.heap[g]? := (hbX.block g (by omega)).trans (h.bf g hg hne)
    refine (hk.by.block g (by omega) (fun e => ?_)).trans e1
    rcases h.ub with hu | ⟨g', hu, hg'⟩
    · rw [hu] at e; exact hne e
    · rw [hu] at e; have := Option.some.inj e; omega
  have fzY : Fz Y v n (crow (List.replicate n t)) := by
    obtain ⟨a, cap, hv, hc, hx⟩ := fz1
    rcases hx with ⟨hx, h0⟩ | ⟨g, cur, rfl, hgc, hx⟩
    · exact ⟨a, cap, hv, hc, .inl ⟨hx, h0⟩⟩
    · have hvb : v.ownBlock = some g := by rw [hv]; rfl
      have fz1' : Fz (X.alloc (.cells cm 27)) v n (crow (List.replicate n t)) := ⟨_, cap, hv, hc, .inr ⟨g, cur, rfl, hgc, hx⟩⟩
      rcases hk with ⟨hk1, hk2⟩ | ⟨_, hk2⟩
      · by_cases hub : u.ownBlock = some g
        · have ho' := ho
          rw [rep_add] at ho'
          rw [hv]
          exact Fz.pre hc ho' (by rw [hk1, hub])
        · exact fz1'.bf (fun g' hg' hne => hk2.block g' hg' hne) (.inr (by rw [hvb]; exact Ne.symm hub))
      · exact fz1'.bf (row := none) (fun g' hg' _ => hk2.block g' hg' (by simp)) (Decidable.em _)
  have belY : Below B w Y := (h.bel.alloc (by omega) _).grown hk.by (by have := h.bel.size; simp; omega) (fun g hg => (own1.lt g hg).1)
  have bz : Bf Y (Y.setCell ⟨g3, 1, none⟩ u') (some g3) := fun g _ hne => Below.heap_setCell Y ⟨g3, 1, none⟩ u' g (fun e => hne (by rw [e]))
  refine ⟨fzY.bf bz (.inr hv3), own_bf ho bz (.inr hg3), rbY.far (by simp; omega) u', mbY.far (by simp; omega) u', ?_, belY.setCell (p := ⟨g3, 1, none⟩) (by simp; omega) u', fun g hg hne => ?_, ?_, h.lt, ?_, h.vl⟩
  · have := kbY.set_ 1 u'
    rw [set1] at this
    exact this
  · exact (Below.heap_setCell Y ⟨g3, 1, none⟩ u' g (fun e => by simp at e; omega)).trans (bfY g hg hne)
  · rcases hk with ⟨hk1, _⟩ | ⟨hk1, _⟩
    · rw [hk1]; exact h.ub
    · exact .inr ⟨_, hk1, by simp; omega⟩
  · rcases hk with ⟨hk1, _⟩ | ⟨hk1, _⟩
    · rw [hk1]; exact h.un
    · rw [hk1]; intro e; have := Option.some.inj e; simp at this; omega
theorem app_cubeK {B : Nat} {v : Value} {m N : Nat} {t : List UInt8} {w : World} {n : Nat} {c o : Nat → Bool} (hC : Cub t n c o) {ops : Array Oper} {rest : List Oper} {op : Oper} {a : Act} {Q : Exit → Act → World → Prop} {s x : Operand}
    (hown : w.ownsRow B 27 9 v (m + N) (crow (List.replicate (m + N) t))) (hgd : op.guard = none) (ho : op.op = .call { callee := .builtin .append, args := #[s, x], argTypes := #[32, 32] })
    (hs : a.eval s = v) (hx : a.eval x = .slice (some ⟨w.heap.size, 0, none⟩) 1 1) (hn : m + N ≤ 1000000) (hB : B ≤ w.heap.size)
    (h : ∀ v' w', w'.ownsRow B 27 9 v' (m + (N + 1)) (crow (List.replicate (m + (N + 1)) t)) → Mm.Keeps (w.alloc (.cells (cs n c o) 27)) v v' w' → wpList Try.prog ops Q rest (a.put op.dst v') w') : wpList Try.prog ops Q (op :: rest) a (w.alloc (.cells (cs n c o) 27)) := by
  obtain ⟨i0, hi, hz0, hz1, hz2⟩ := info_parts info_cube
  refine Mm.wpList_append_keep _ hgd s x 32 ho B 27 i0 _ 9 72 Try.underlying32 hi hz0 hz1 hz2 rfl (by decide) v (m + N) _ hs (hown.alloc _) ⟨w.heap.size, 0, none⟩ 1 1 (cs n c o).toList hx rfl (cells_new _ _ _)
    (cs_one n c o) (by decide) (by simp only [maxLen]; omega) (by omega) (by simp; omega) ?_
  intro v' w1 hown' hk
  refine h v' w1 ?_ hk
  rw [hC.cells, ← rep_crow] at hown'
  exact hown'
def KA (w : World) (B n : Nat) (v : Value) (cm : Array Value) (t : List UInt8) (e : Ending) (w' : World) : Prop :=
  ∃ u, e = .returned (.agg (#[v, u] ++ cm)) ∧ Fz w' v n (crow (List.replicate n t)) ∧ w'.ownsRow B 27 9 u (n + 64) (crow (List.replicate (n + 64) t)) ∧ Below B w w' ∧ Bf w w' v.ownBlock ∧ (u.ownBlock = v.ownBlock ∨ ∃ g, u.ownBlock = some g ∧ w.heap.size ≤ g)
structure KF (w : World) (B n : Nat) (v u : Value) (t : List UInt8) (X : World) : Prop where
  fz : Fz X v n (crow (List.replicate n t))
  own : X.ownsRow B 27 9 u (n + 64) (crow (List.replicate (n + 64) t))
  bel : Below B w X
  bf : Bf w X v.ownBlock
  ub : u.ownBlock = v.ownBlock ∨ ∃ g, u.ownBlock = some g ∧ w.heap.size ≤ g
  un : u.ownBlock ≠ some w.heap.size
  vn : v.ownBlock ≠ some w.heap.size
theorem K2.fin {w X : World} {B n g2 g3 : Nat} {v u : Value} {cm : Array Value} {t : List UInt8} (h : K2 w B n v u g2 g3 64 cm t X) : KF w B n v u t X :=
  ⟨h.fz, h.own, h.bel, h.bf, h.ub, fun e => by
    obtain ⟨_, _, cur, hc⟩ := Mm.own_ty h.own e
    have h' : X.heap[w.heap.size]? = some (.cells kz0 37 (0, 0)) := h.rb
    rw [h'] at hc
    exact absurd (Obj.cells.inj (Option.some.inj hc)).2.1 (by decide), fun e => by have := h.vl _ e; omega⟩
theorem KF.far {w X : World} {B n : Nat} {v u : Value} {t : List UInt8} (h : KF w B n v u t X) (hB : B ≤ w.heap.size) (i : Nat) (y : Value) : KF w B n v u t (X.setCell ⟨w.heap.size, i, none⟩ y) := by
  have bz : Bf X (X.setCell ⟨w.heap.size, i, none⟩ y) (some w.heap.size) := fun g _ hne => Below.heap_setCell X ⟨w.heap.size, i, none⟩ y g (fun e => hne (by rw [e]))
  exact ⟨h.fz.bf bz (.inr h.vn), own_bf h.own bz (.inr h.un), h.bel.setCell (p := ⟨w.heap.size, i, none⟩) hB y, fun g hg hne => (Below.heap_setCell X ⟨w.heap.size, i, none⟩ y g (fun e => by simp at e; omega)).trans (h.bf g hg hne), h.ub, h.un, h.vn⟩
theorem KF.out {w X : World} {B n : Nat} {v u : Value} {t : List UInt8} {cm : Array Value} (h : KF w B n v u t X) {e : Ending} (he : e = .returned (.agg (#[v, u] ++ cm))) : KA w B n v cm t e X := ⟨u, he, h.fz, h.own, h.bel, h.bf, h.ub⟩
set_option maxHeartbeats 4000000 in
theorem kept_any {t : List UInt8} {m : Nat} {c o : Nat → Bool} (k : Nat) (hk : k < 65536) (hC : Cub (markT k) m c o) (ht : markT k = t) (w : World) (B n : Nat) (v : Value) (xs0 : List Value) (hn : n ≤ 100000) (hB : B ≤ w.heap.size) (h : w.ownsRow B 27 9 v n xs0) :
    Calls Try.prog 8 #[v, .int .i64 (k : Int)] w (KA w B n v (cs m c o) t) := by
  obtain ⟨a, cap, rfl⟩ := own_len h
  have HC := Lib.hid hC
  have HT := Lib.hid ht
  have H := Lib.hid h
  have HBB := Lib.hid hB
  clear hC ht h hB
  go_enter Try.func8, Try.ntmps8
  go_wp2_with fail
  refine (marks_any k hk HC.out _).mono ?_
  rintro e w1 ⟨rfl, hb1⟩
  have hr1 : Blk w1 w.heap.size 37 kz0 := (Blk.new w 37 kz0).below hb1 (by simp)
  have H1 : Hid (K1 w B n (.slice a n cap) w1.heap.size kz0 (cs m c o) xs0 (w1.alloc (.cells (cs m c o) 27))) := Lib.hid (by
    have hbel : Below w.heap.size w w1 := bnx (bal (Below.refl _ _) _) hb1
    have hbel2 : Below w.heap.size w (w1.alloc (.cells (cs m c o) 27)) := bal hbel _
    exact ⟨own_below H.out hbel2 (Nat.le_refl _), hr1.alloc _, Blk.new _ _ _, hbel2.mono HBB.out, fun g hg _ => hbel2.block g hg, hr1.lt, fun g hg => (H.out.lt g hg).2⟩)
  generalize hg2 : w1.heap.size = g2 at H1
  have HG2 := Lib.hid hg2
  clear hr1 hb1 hg2
  go_upto_region 2 with fail
  rw [HG2.out]
  revert H1
  unfold cs wv
  generalize w1.alloc _ = W1
  intro H1
  go_wp2_with fail
  go_loopw [6] (fun i wr => ∃ (j : Nat) (xs : List Value), j ≤ n ∧ i = .int .i64 (j : Int) ∧ xs.take (j * 9) = crow (List.replicate j t) ∧ K1 w B n (.slice a n cap) g2 kz0 (cs m c o) xs wr) (fun i _ => n - (intOf i).toNat)
  case atStart => exact ⟨0, xs0, Nat.zero_le _, rfl, rfl, H1.out⟩
  case round =>
    obtain ⟨j, xs, hj, rfl, htk, hk1⟩ := hrel
    have HK := Lib.hid hk1
    have HTK := Lib.hid htk
    clear htk
    by_cases hlt : j < n
    · obtain ⟨g, cp, e, hcap, hBg, hx⟩ := own_at hk1.own (by omega)
      cases e
      have hxl : xs.length = n * 9 := hk1.own.1
      have hc := hk1.mb.cell
      unfold cs wv at hc
      have hfz := hk1.own.frozenAt
      have ex : ∀ i, i < n * 9 → ∃ y, wr.cell? ⟨g, i, none⟩ = some y := fun i hi => ⟨_, hx i _ (List.getElem?_eq_getElem (by omega))⟩
      obtain ⟨y0, q0⟩ := ex (j * 9) (by omega)
      obtain ⟨y1, q1⟩ := ex (j * 9 + 1) (by omega)
      obtain ⟨y2, q2⟩ := ex (j * 9 + 2) (by omega)
      obtain ⟨y3, q3⟩ := ex (j * 9 + 3) (by omega)
      obtain ⟨y4, q4⟩ := ex (j * 9 + 4) (by omega)
      obtain ⟨y5, q5⟩ := ex (j * 9 + 5) (by omega)
      obtain ⟨y6, q6⟩ := ex (j * 9 + 6) (by omega)
      obtain ⟨y7, q7⟩ := ex (j * 9 + 7) (by omega)
      obtain ⟨y8, q8⟩ := ex (j * 9 + 8) (by omega)
      have hgl := hk1.own.lt g rfl
      have hgl2 := hgl.2
      have hm2 := hk1.mb.lt
      clear hk1 hx ex hgl
      go_wp2_with fail
      refine ⟨⟨j + 1, _, by omega, by go_num, ?_, ((((((((HK.out.put (j * 9) _).put (j * 9 + 1) _).put (j * 9 + 2) _).put (j * 9 + 3) _).put (j * 9 + 4) _).put (j * 9 + 5) _).put (j * 9 + 6) _).put (j * 9 + 7) _).put (j * 9 + 8) _⟩, by simp [intOf]; omega⟩
      rw [take9 hxl hlt HTK.out, rep_crow, ← (show (cs m c o).toList = ccells t from by have := HC.out.cells; rw [HT.out] at this; exact this)]
      rfl
    · obtain rfl : j = n := by omega
      have hxs : xs = crow (List.replicate j t) := by
        have h1 := HTK.out
        rw [List.take_of_length_le (Nat.le_of_eq hk1.own.1)] at h1
        exact h1
      subst hxs
      have hc := hk1.mb.cell
      unfold cs wv at hc
      have hm2 := hk1.mb.lt
      clear hk1
      go_upto_region 7 with fail
      generalize hg3 : wr.heap.size = g3
      have HG3 := Lib.hid hg3
      clear hg3 hc
      have H2 : Hid (K2 w B j (.slice a j cap) (.slice a j cap) g2 g3 0 (cs m c o) t (wr.alloc (.cells (#[.slice a j cap, .slice a j cap] ++ cs m c o) 37))) := Lib.hid (by
        have hk := HK.out
        have hbel : Below wr.heap.size wr (wr.alloc (.cells (#[.slice a j cap, .slice a j cap] ++ cs m c o) 37)) := bal (Below.refl _ _) _
        have ho := own_below hk.own hbel (Nat.le_refl _)
        refine ⟨Fz.of_own ho, ho, hk.rb.alloc _, hk.mb.alloc _, by rw [← HG3.out]; exact Blk.new _ _ _, hk.bel.trans (hbel.mono ?_), fun g hg hne => (hbel.block g ?_).trans (hk.bf g hg hne), .inl rfl, ⟨hk.lt, by rw [← HG3.out]; exact hk.mb.lt⟩, fun e => by have := hk.vl g2 e; have := hk.lt; omega, hk.vl⟩
        · have := hk.bel.size; have := HBB.out; omega
        · have := hk.bel.size; omega)
      go_wp2_with fail
      revert H2
      unfold cs wv
      simp only [List.append_toArray, List.cons_append, List.nil_append]
      generalize World.alloc wr _ = W2
      intro H2
      clear H1 HK HG3 hm2 HTK HG2
      go_loopw [8] (fun i wx => ∃ (q : Nat) (u : Value), q ≤ 64 ∧ i = .int .i64 (q : Int) ∧ K2 w B j (.slice a j cap) u g2 g3 q (cs m c o) t wx) (fun i _ => 64 - (intOf i).toNat)
      case atStart => exact ⟨0, _, by omega, rfl, H2.out⟩
      case round =>
        obtain ⟨q, u, hq, rfl, hk2⟩ := hrel
        have HK2 := Lib.hid hk2
        by_cases hlt2 : q < 64
        · obtain ⟨pu, cu, rfl⟩ := own_len hk2.own
          have hmc := hk2.mb.cell
          unfold cs wv at hmc
          have hk1 : wr.cell? ⟨g3, 1, none⟩ = some (.slice pu (j + q) cu) := by have := hk2.kb.cell 1; unfold cs at this; simpa using this
          have hl3 := hk2.kb.lt
          have hl2 := hk2.mb.lt
          clear hk2
          have HCT : Hid (Cub t m c o) := Lib.hid (by have := HC.out; rwa [HT.out] at this)
          go_wp2_with (at_builtin; refine app_cubeK HCT.out HK2.out.own rfl rfl rfl rfl (by omega) (by have := HK2.out.bel.size; have := HBB.out; omega) ?_; intro v' w2 hown2 hk2; obtain ⟨pv, cpv, rfl⟩ := own_len hown2; have hkb := kept_blk (HK2.out.kb.alloc (.cells (cs m c o) 27)) (own_below HK2.out.own (bal (Below.refl _ _) (.cells (cs m c o) 27)) (Nat.le_refl _)) hk2; have hkc : w2.cell? ⟨g3, 1, none⟩ = some (.slice pu (j + q) cu) := (by have := hkb.cell 1; unfold cs at this; simpa using this); have hkf := hkb.frozen 1; have hkl := hkb.lt)
          exact ⟨⟨q + 1, _, by omega, by go_num, HK2.out.step HBB.out hown2 hk2⟩, by simp [intOf]; omega⟩
        · obtain rfl : q = 64 := by omega
          obtain ⟨pu, cu, rfl⟩ := own_len hk2.own
          have HCT : Hid (Cub t m c o) := Lib.hid (by have := HC.out; rwa [HT.out] at this)
          have hkc : ∀ i, wr.cell? ⟨g3, i, none⟩ = (#[.slice a j cap, .slice pu (j + 64) cu, .int .i64 m, .int .u64 (wd c 0), .int .u64 (wd c 1), .int .u64 (wd c 2), .int .u64 (wd c 3), .int .u64 (wd o 0), .int .u64 (wd o 1), .int .u64 (wd o 2), .int .u64 (wd o 3)] : Array Value)[i]? := fun i => by
            have := hk2.kb.cell i
            unfold cs wv at this
            simpa using this
          have hrc := hk2.rb.cell
          unfold kz0 at hrc
          have hrf := hk2.rb.frozen
          have hl3 := hk2.kb.lt
          have hl4 := hk2.rb.lt
          clear hk2
          go_wp2_with fail
          refine bodyPost_ret (v := .agg #[.slice a j cap, .slice pu (j + 64) cu, .int .i64 m, .int .u64 (wd c 0), .int .u64 (wd c 1), .int .u64 (wd c 2), .int .u64 (wd c 3), .int .u64 (wd o 0), .int .u64 (wd o 1), .int .u64 (wd o 2), .int .u64 (wd o 3)]) (by simp [results, Try.results8, go_sem, hrc]) rfl ?_
          refine KF.out (u := .slice pu (j + 64) cu) ?_ (by unfold cs; rfl)
          have hB := HBB.out
          exact ((((((((((HK2.out.fin.far hB _ _).far hB _ _).far hB _ _).far hB _ _).far hB _ _).far hB _ _).far hB _ _).far hB _ _).far hB _ _).far hB _ _).far hB _ _
end Go.Proofs.Ytoglcocplpdlhaa.Tn
