/- The laws' 'some': the first headers of a cube. -/
import Derived.Test.YtdiijannpfogdaaMq
namespace Go.Proofs.Ytdiijannpfogdaa.Tn
open Go.RowKit Go.Shelf
attribute [local go_sem] Oper.semAt_some
attribute [local go_sem] cs wv
/-- the list so far: its box, its row beyond the iterator's own blocks -/
def Row (Bl M : Nat) (L : List (List UInt8)) (X : World) : Prop := ∃ u, Blk X Bl 48 #[u] ∧ X.ownsRow M 9 1 u L.length (srow L)
theorem Row.grown {Bl M : Nat} {L : List (List UInt8)} {X Y : World} {row : Option Nat} (h : Row Bl M L X) (hg : X.grownBy Y row) (hr : ∀ r, row = some r → r ≠ Bl ∧ (r < M ∨ ∃ o, X.heap[r]? = some o ∧ o.isCells = false)) : Row Bl M L Y := by
  obtain ⟨u, h1, h2⟩ := h
  refine ⟨u, h1.grown hg (fun e => (hr Bl e.symm).1 rfl), h2.kept hg ?_⟩
  rcases h2.2 with ⟨hv, _⟩ | ⟨g, cap, cur, hv, hb, hgb, _⟩
  · left; rw [hv]; rfl
  · right
    rw [hv]
    intro e
    rcases (hr g e.symm).2 with h | ⟨o, ho, hc⟩
    · omega
    · rw [hgb] at ho; cases ho; cases hc
theorem Row.own {β : Type} (f : β → List (List UInt8)) {Bl M : Nat} : Own (fun (b : β) X => Row Bl M (f b) X) := fun s X Y row hs hg hr => hs.grown hg (fun r e => by
  obtain ⟨o, ho, hc⟩ := hr r e
  refine ⟨?_, .inr ⟨o, ho, hc⟩⟩
  rintro rfl
  obtain ⟨u, h1, _⟩ := hs
  rw [show X.heap[r]? = _ from h1] at ho
  cases ho; cases hc)
theorem Row.weak {Bl M M' : Nat} {L : List (List UInt8)} {X : World} (h : Row Bl M L X) (hM : M' ≤ M) : Row Bl M' L X := by
  obtain ⟨u, h1, h2⟩ := h
  refine ⟨u, h1, h2.1, ?_⟩
  rcases h2.2 with h | ⟨g, cap, cur, hv, hb, r⟩
  · exact .inl h
  · exact .inr ⟨g, cap, cur, hv, by omega, r⟩
set_option maxRecDepth 100000 in
set_option maxHeartbeats 4000000 in
theorem some_range (u0 u1 u2 u4 u6 u7 u8 u9 u10 u11 u12 u13 u14 u15 u16 u18 u19 u20 u21 u22 u23 u24 u25 u26 u27 : Value) {n : Nat} {c o : Nat → Bool} (hn : n ≤ 256) (k : Nat) (hk1 : 1 ≤ k) (hk2 : k ≤ 1000000) (w W0 : World) (Bc Bk Bl : Nat) (ds : List Deferred) (Q : Exit → Act → World → Prop) (Q0 : Act → World → Prop) (hQ0 : ∀ a' w', Q0 a' w' → Q .normal a' w' ∧ Q (.exit 0) a' w')
    (h0 : Mm.St w [(Bk, 3, #[.int .i64 k]), (Bc, 30, cs n c o)] [] W0) (hl0 : Blk W0 Bl 48 #[.slice none 0 0]) (hwl : w.heap.size ≤ Bl) (hlk : Bk ≠ Bl) (hlc : Bc ≠ Bl)
    (hQ : ∀ (D : Nat) (X : World), W0.heap.size ≤ D → X.heap[D]? = some (.deferred (some [])) → Mm.St w [(Bk, 3, #[.int .i64 k]), (Bc, 30, cs n c o)] [] X → Row Bl w.heap.size ((memAll n c o).take k) X →
      Q0 ⟨(List.toArray (u0 :: u1 :: u2 :: (.pointer (some ⟨Bk, 0, none⟩)) :: u4 :: (.pointer (some ⟨Bl, 0, none⟩)) :: u6 :: u7 :: u8 :: u9 :: u10 :: u11 :: u12 :: u13 :: u14 :: u15 :: u16 :: (.func (.func 74) #[] #[.pointer (some ⟨Bc, 0, none⟩)]) :: u18 :: u19 :: u20 :: u21 :: u22 :: u23 :: u24 :: u25 :: u26 :: u27 :: [])), { target := .collected D, args := #[] } :: ds⟩ X) :
    (Mm.rangeAt Try.f57 0).wpIn Fence.wide 8 Try.prog Q ⟨(List.toArray (u0 :: u1 :: u2 :: (.pointer (some ⟨Bk, 0, none⟩)) :: u4 :: (.pointer (some ⟨Bl, 0, none⟩)) :: u6 :: u7 :: u8 :: u9 :: u10 :: u11 :: u12 :: u13 :: u14 :: u15 :: u16 :: (.func (.func 74) #[] #[.pointer (some ⟨Bc, 0, none⟩)]) :: u18 :: u19 :: u20 :: u21 :: u22 :: u23 :: u24 :: u25 :: u26 :: u27 :: [])), ds⟩ W0 := by
  have hbd : Blk W0 Bc 30 (cs n c o) := h0.blks (Bc, 30, cs n c o) (by simp)
  have hbx := hbd.lt
  have hbk : Bk < W0.heap.size := h0.lt (p := (Bk, 3, #[.int .i64 k])) (by simp)
  have hbl := hl0.lt
  show (Code.rangeFunc _ _ _ _).wpIn _ _ _ _ _ _
  have hSt : ∀ {β : Type}, OwnFrom W0.heap.size (fun (_ : β) X => Mm.St w [(Bk, 3, #[.int .i64 k]), (Bc, 30, cs n c o)] [] X) := fun {β} => Mm.St.own (fun (_ : β) => [(Bk, 3, #[.int .i64 k]), (Bc, 30, cs n c o)]) h0.bel.size (fun D hD => by simp at hD)
  have hSa : ∀ {β : Type}, Mm.Abd (W0.heap.size + 2) 2 (fun (_ : β) X => Mm.St w [(Bk, 3, #[.int .i64 k]), (Bc, 30, cs n c o)] [] X) := fun {β} => Mm.St.abd (fun (_ : β) => [(Bk, 3, #[.int .i64 k]), (Bc, 30, cs n c o)]) (fun b p hp => by simp at hp; rcases hp with rfl | rfl <;> simp <;> omega) (fun D hD => by simp at hD) (by have := h0.bel.size; omega)
  have hRa : Mm.Abd (W0.heap.size + 2) 2 (fun (pre : List (List UInt8)) X => Row Bl (W0.heap.size + 4) pre X) := fun b A B r h hg h1 h2 => h.grown hg (fun q e => by cases e; exact ⟨by omega, .inl (by omega)⟩)
  refine Mm.range_out rfl (by omega) (gf := 74) (lb := #[.pointer (some ⟨Bc, 0, none⟩)]) rfl trivial (enters_of Try.func74 (by kernel_rfl) rfl)
    (members_seq hn w Bc _ (by omega) W0 h0.bel hbd) (fun h k => Mm.KpB.t h k) (Mm.KpB.b (w := W0) h0.bel.size hbx) (Below.refl _ _) (fun _ => rfl)
    (fun pre X => (Mm.St w [(Bk, 3, #[.int .i64 k]), (Bc, 30, cs n c o)] [] X ∧ Row Bl (W0.heap.size + 4) pre X) ∧ pre.length < k)
    (fun cd pre X => (cd = .exit 0 ∧ pre.length = k) ∧ (Mm.St w [(Bk, 3, #[.int .i64 k]), (Bc, 30, cs n c o)] [] X ∧ Row Bl (W0.heap.size + 4) pre X))
    (OwnFrom.and (OwnFrom.and hSt (Own.from (Row.own fun pre => pre) _)) (fun _ _ _ _ h _ _ => h)) (fun cd => OwnFrom.and (fun _ _ _ _ h _ _ => h) (OwnFrom.and hSt (Own.from (Row.own fun pre => pre) _)))
    (fun b A B r h hg h1 h2 => ⟨⟨hSa b A B r h.1.1 hg h1 h2, hRa b A B r h.1.2 hg h1 h2⟩, h.2⟩) (fun cd b A B r h hg h1 h2 => ⟨h.1, hSa b A B r h.2.1 hg h1 h2, hRa b A B r h.2.2 hg h1 h2⟩)
    ⟨⟨h0, _, hl0, srow_nil _ _⟩, by simp; omega⟩
    (fun x a' _ => a' = { tmps := (List.toArray (u0 :: u1 :: u2 :: (.pointer (some ⟨Bk, 0, none⟩)) :: u4 :: (.pointer (some ⟨Bl, 0, none⟩)) :: u6 :: (.string (str x)) :: u8 :: u9 :: u10 :: u11 :: u12 :: u13 :: u14 :: u15 :: u16 :: (.func (.func 74) #[] #[.pointer (some ⟨Bc, 0, none⟩)]) :: (.string (str x)) :: u19 :: u20 :: u21 :: u22 :: u23 :: u24 :: u25 :: u26 :: u27 :: [])), defers := [] }) (fun x a' s X Y row hs hg hr => hs) ?assign ?body ?done ?stop
  case assign =>
    rintro lq pre x X K hi hx hsx hK
    gi_wp2
    exact hK _ _ (KeepsFrom.refl _ _) ⟨Below.refl _ _, rfl⟩ (Mm.Kept.refl _ _ _) hi rfl
  case body =>
    rintro lq pre x a' X _ _ _ ⟨⟨hi, hr⟩, hlen⟩ rfl hx hsx
    obtain ⟨u, hu, hro⟩ := hr
    obtain ⟨i0, hii, hz0, hz1, hz2⟩ := info_parts info_str
    have cu := hu.cell 0
    have ck := (hi.blks (Bk, 3, #[.int .i64 k]) (by simp)).cell 0
    simp only [List.getElem?_toArray, List.getElem?_cons_zero] at cu ck
    have HI := Lib.hid hi
    have HU := Lib.hid hu
    have HR := Lib.hid hro
    clear hi hu hro hSt hSa hRa hQ h0 hl0 hbd hx
    by_cases hs : pre.length + 1 = k
    · have he : ((pre.length : Int) + 1 == (k : Int)) = true := by simp; omega
      have HS := Lib.hid hs
      clear hs
      gi_wp2_with (gi_at_builtin; refine wpListIn_append_own _ rfl _ _ 48 rfl (W0.heap.size + 4) 9 i0 _ 1 16 Try.underlying48 hii hz0 hz1 hz2 rfl (by decide) _ _ _ rfl (HR.out.alloc _) ⟨X.heap.size, 0, none⟩ 1 1 [.string (str x)] rfl rfl (cell_one_new _ _ _) (by simp [Value.oneCell']) (by unfold maxLen; omega) (by omega) (by simp; omega) ?_; intro v' w1 hown' hgrow _; obtain ⟨g', cap', rfl⟩ := ownsRow_succ hown'; have hgrow : World.grownBy _ w1 u.ownBlock := hgrow; have hst1 := (HI.out.alloc (.cells #[.string (str x)] 9)).grown hgrow (fun r e => by have h1 := HR.out.lt r e; have := HI.out.bel.size; exact ⟨by omega, fun p hp => by simp at hp; rcases hp with rfl | rfl <;> simp <;> omega, fun D hD => by simp at hD⟩); have ck1 := (hst1.blks (Bk, 3, #[.int .i64 k]) (by simp)).cell 0; have HS1 := Lib.hid hst1; clear hst1; have hub := (HU.out.alloc (.cells #[.string (str x)] 9)).grown hgrow (Mm.blk_ne (B := W0.heap.size + 4) (HR.out.alloc (.cells #[.string (str x)] 9)) (by omega)); have cu1 := hub.cell 0; have fu1 := hub.frozen 0; have HUB := Lib.hid hub; have HGR := Lib.hid hgrow; have HOW := Lib.hid hown'; clear hub hgrow hown'; simp only [List.getElem?_toArray, List.getElem?_cons_zero] at cu1 ck1)
      have hlu : ∀ r, u.ownBlock = some r → W0.heap.size + 4 ≤ r ∧ r < X.heap.size := fun r e => HR.out.lt r e
      have hcl : ∀ (j : Nat) (ob : Obj), u.ownBlock = some j → (X.alloc (.cells #[.string (str x)] 9)).heap[j]? = some ob → ob.isCells = true := fun j ob e ho => by
        rcases (HR.out.alloc (.cells #[.string (str x)] 9)).2 with ⟨hv, _⟩ | ⟨g, cp, cur, hv, _, hgb, _⟩
        · rw [hv] at e; cases e
        · rw [hv] at e; cases e; rw [hgb] at ho; cases ho; rfl
      have ha : X.grownBy (X.alloc (.cells #[.string (str x)] 9)) none := World.grownBy_alloc _ _ _
      have hset : w1.grownBy (w1.setCell ⟨Bl, 0, none⟩ (.slice (some ⟨g', 0, none⟩) (pre.length + 1) cap')) (some Bl) := only_set _ _ _ _
      have k1 := ((KeepsOthers.alloc X (.cells #[.string (str x)] 9)).trans (KeepsOthers.of_grownBy HGR.out hcl)).trans (KeepsOthers.setCell w1 ⟨Bl, 0, none⟩ (.slice (some ⟨g', 0, none⟩) (pre.length + 1) cap'))
      have hxw := HI.out.bel.size
      have hw1 := HGR.out.size
      simp only [World.size_alloc] at hw1
      have k2 : Mm.KpB w.heap.size Bc X (w1.setCell ⟨Bl, 0, none⟩ (.slice (some ⟨g', 0, none⟩) (pre.length + 1) cap')) :=
        ((Mm.KpB.grown ha hxw (by omega) (fun r e => by cases e)).t (Mm.KpB.grown HGR.out (by simp; omega) (by simp; omega) (fun r e => by have := hlu r e; omega))).t (Mm.KpB.grown hset (by omega) (by omega) (fun r e => by cases e; exact ⟨hwl, fun e => hlc e.symm⟩))
      have k3 : Mm.Kept (W0.heap.size + 2) 2 X (w1.setCell ⟨Bl, 0, none⟩ (.slice (some ⟨g', 0, none⟩) (pre.length + 1) cap')) := ⟨k1.size, fun r h1 h2 => by
        rw [hset.block r (by omega) (fun e => by cases e; omega), HGR.out.block r (by simp; omega) (fun e => by have := hlu r e.symm; omega), ha.block r (by omega) (fun e => by cases e)]⟩
      have k4 := HS1.out.grown hset (fun r e => by cases e; exact ⟨hwl, fun p hp => by simp at hp; rcases hp with rfl | rfl; exact hlk; exact hlc, fun D hD => by simp at hD⟩)
      have k5 : Row Bl (W0.heap.size + 4) (pre ++ [x]) (w1.setCell ⟨Bl, 0, none⟩ (.slice (some ⟨g', 0, none⟩) (pre.length + 1) cap')) := by
        refine ⟨.slice (some ⟨g', 0, none⟩) (pre.length + 1) cap', ?_, own_put (w := w1) (g := Bl) ?_ hset (by omega)⟩
        · have := HUB.out.set_ 0 (.slice (some ⟨g', 0, none⟩) (pre.length + 1) cap'); exact this
        · rw [List.length_append, show srow (pre ++ [x]) = srow pre ++ [.string (str x)] by simp [srow]]; exact HOW.out
      exact ⟨k1.from _, ⟨rfl, by rw [List.length_append]; exact HS.out⟩, k4, k5⟩
    · have he : ((pre.length : Int) + 1 == (k : Int)) = false := by simp; omega
      have HS := Lib.hid hs
      clear hs
      gi_wp2_with (gi_at_builtin; refine wpListIn_append_own _ rfl _ _ 48 rfl (W0.heap.size + 4) 9 i0 _ 1 16 Try.underlying48 hii hz0 hz1 hz2 rfl (by decide) _ _ _ rfl (HR.out.alloc _) ⟨X.heap.size, 0, none⟩ 1 1 [.string (str x)] rfl rfl (cell_one_new _ _ _) (by simp [Value.oneCell']) (by unfold maxLen; omega) (by omega) (by simp; omega) ?_; intro v' w1 hown' hgrow _; obtain ⟨g', cap', rfl⟩ := ownsRow_succ hown'; have hgrow : World.grownBy _ w1 u.ownBlock := hgrow; have hst1 := (HI.out.alloc (.cells #[.string (str x)] 9)).grown hgrow (fun r e => by have h1 := HR.out.lt r e; have := HI.out.bel.size; exact ⟨by omega, fun p hp => by simp at hp; rcases hp with rfl | rfl <;> simp <;> omega, fun D hD => by simp at hD⟩); have ck1 := (hst1.blks (Bk, 3, #[.int .i64 k]) (by simp)).cell 0; have HS1 := Lib.hid hst1; clear hst1; have hub := (HU.out.alloc (.cells #[.string (str x)] 9)).grown hgrow (Mm.blk_ne (B := W0.heap.size + 4) (HR.out.alloc (.cells #[.string (str x)] 9)) (by omega)); have cu1 := hub.cell 0; have fu1 := hub.frozen 0; have HUB := Lib.hid hub; have HGR := Lib.hid hgrow; have HOW := Lib.hid hown'; clear hub hgrow hown'; simp only [List.getElem?_toArray, List.getElem?_cons_zero] at cu1 ck1)
      have hlu : ∀ r, u.ownBlock = some r → W0.heap.size + 4 ≤ r ∧ r < X.heap.size := fun r e => HR.out.lt r e
      have hcl : ∀ (j : Nat) (ob : Obj), u.ownBlock = some j → (X.alloc (.cells #[.string (str x)] 9)).heap[j]? = some ob → ob.isCells = true := fun j ob e ho => by
        rcases (HR.out.alloc (.cells #[.string (str x)] 9)).2 with ⟨hv, _⟩ | ⟨g, cp, cur, hv, _, hgb, _⟩
        · rw [hv] at e; cases e
        · rw [hv] at e; cases e; rw [hgb] at ho; cases ho; rfl
      have ha : X.grownBy (X.alloc (.cells #[.string (str x)] 9)) none := World.grownBy_alloc _ _ _
      have hset : w1.grownBy (w1.setCell ⟨Bl, 0, none⟩ (.slice (some ⟨g', 0, none⟩) (pre.length + 1) cap')) (some Bl) := only_set _ _ _ _
      have k1 := ((KeepsOthers.alloc X (.cells #[.string (str x)] 9)).trans (KeepsOthers.of_grownBy HGR.out hcl)).trans (KeepsOthers.setCell w1 ⟨Bl, 0, none⟩ (.slice (some ⟨g', 0, none⟩) (pre.length + 1) cap'))
      have hxw := HI.out.bel.size
      have hw1 := HGR.out.size
      simp only [World.size_alloc] at hw1
      have k2 : Mm.KpB w.heap.size Bc X (w1.setCell ⟨Bl, 0, none⟩ (.slice (some ⟨g', 0, none⟩) (pre.length + 1) cap')) :=
        ((Mm.KpB.grown ha hxw (by omega) (fun r e => by cases e)).t (Mm.KpB.grown HGR.out (by simp; omega) (by simp; omega) (fun r e => by have := hlu r e; omega))).t (Mm.KpB.grown hset (by omega) (by omega) (fun r e => by cases e; exact ⟨hwl, fun e => hlc e.symm⟩))
      have k3 : Mm.Kept (W0.heap.size + 2) 2 X (w1.setCell ⟨Bl, 0, none⟩ (.slice (some ⟨g', 0, none⟩) (pre.length + 1) cap')) := ⟨k1.size, fun r h1 h2 => by
        rw [hset.block r (by omega) (fun e => by cases e; omega), HGR.out.block r (by simp; omega) (fun e => by have := hlu r e.symm; omega), ha.block r (by omega) (fun e => by cases e)]⟩
      have k4 := HS1.out.grown hset (fun r e => by cases e; exact ⟨hwl, fun p hp => by simp at hp; rcases hp with rfl | rfl; exact hlk; exact hlc, fun D hD => by simp at hD⟩)
      have k5 : Row Bl (W0.heap.size + 4) (pre ++ [x]) (w1.setCell ⟨Bl, 0, none⟩ (.slice (some ⟨g', 0, none⟩) (pre.length + 1) cap')) := by
        refine ⟨.slice (some ⟨g', 0, none⟩) (pre.length + 1) cap', ?_, own_put (w := w1) (g := Bl) ?_ hset (by omega)⟩
        · have := HUB.out.set_ 0 (.slice (some ⟨g', 0, none⟩) (pre.length + 1) cap'); exact this
        · rw [List.length_append, show srow (pre ++ [x]) = srow pre ++ [.string (str x)] by simp [srow]]; exact HOW.out
      exact ⟨k1.from _, k2, k3, ⟨k4, k5⟩, by have := HS.out; simp; omega⟩
  case done =>
    rintro D X hD ⟨⟨hi, hr⟩, hlen⟩ hK
    refine (hQ0 _ _ (hQ D X hD hK hi ?_)).1
    rw [List.take_of_length_le (by omega)]
    exact hr.weak (by have := h0.bel.size; omega)
  case stop =>
    rintro D cd pre X hD hp ⟨⟨rfl, hlen⟩, hi, hr⟩ hK
    refine wpIn_exit (hQ0 _ _ (hQ D X hD hK hi ?_)).2
    rw [← hlen, ← List.prefix_iff_eq_take.1 hp]
    exact hr.weak (by have := h0.bel.size; omega)
theorem fn_nil (cs : Array Value) (w : World) : (binOp BinOp.eql 79 (Value.func (Fn.func 74) #[] cs) Value.nilFunc).run Try.prog w = .ok (.bool false) w := rfl
set_option maxRecDepth 100000 in
set_option maxHeartbeats 4000000 in
theorem some_any {n : Nat} {c o : Nat → Bool} (hn : n ≤ 256) (k : Nat) (hk2 : k ≤ 1000000) (w : World) :
    Calls Try.prog 57 #[cv n c o, .int .i64 (k : Int)] w fun e w' => ∃ v, e = .returned v ∧ w'.ownsRow w.heap.size 9 1 v ((memAll n c o).take k).length (srow ((memAll n c o).take k)) ∧ Below w.heap.size w w' := by
  have hs0 : Mm.St w [(w.heap.size + 1 + 1, 48, #[.slice none 0 0]), (w.heap.size + 1, 3, #[.int .i64 k]), (w.heap.size, 30, cs n c o)] [] (((w.alloc (.cells (cs n c o) 30)).alloc (.cells #[.int .i64 k] 3)).alloc (.cells #[.slice none 0 0] 48)) := by
    have h0 : Mm.St w [] [] w := ⟨fun p hp => by simp at hp, Below.refl _ _, fun p hp => by simp at hp⟩
    have := ((h0.new 30 (cs n c o)).new 3 #[.int .i64 k]).new 48 #[.slice none 0 0]
    simpa using this
  have HS0 := Lib.hid hs0
  clear hs0
  have hfn := fn_nil
  refine (callsIn_wide (n := 8)).1 ?_
  refine callsIn_of_wp_marks Try.func57 rfl trivial ?_ rfl
  simp only [Try.ntmps57, List.size_toArray, List.length_cons, List.length_nil, Nat.reduceAdd, Nat.reduceSub, Array.replicate_succ, Array.replicate_zero, List.push_toArray, List.append_toArray, List.nil_append, List.cons_append]
  by_cases hk : 1 ≤ k
  · unfold cv cs wv
    gi_wp2_with (refine ⟨trivial, ?_⟩; gi_at_call 60; refine (callsIn_wide.2 (members_fn (n := n) (c := c) (o := o) _)).mono ?_; rintro e w' ⟨rfl, rfl⟩)
    have hs1 := HS0.out.new 30 (cs n c o)
    simp only [World.size_alloc] at hs1
    have hzz := hs1.bel.size
    unfold cs wv at hs1
    generalize hW : ((((w.alloc (.cells #[.int .i64 n, .int .u64 (wd c 0), .int .u64 (wd c 1), .int .u64 (wd c 2), .int .u64 (wd c 3), .int .u64 (wd o 0), .int .u64 (wd o 1), .int .u64 (wd o 2), .int .u64 (wd o 3)] 30)).alloc (.cells #[.int .i64 k] 3)).alloc (.cells #[.slice none 0 0] 48)).alloc (.cells #[.int .i64 n, .int .u64 (wd c 0), .int .u64 (wd c 1), .int .u64 (wd c 2), .int .u64 (wd c 3), .int .u64 (wd o 0), .int .u64 (wd o 1), .int .u64 (wd o 2), .int .u64 (wd o 3)] 30)) = W0 at *
    have HS1 := Lib.hid hs1
    clear hs1 HS0
    have hz := HS1.out.bel.size
    refine some_range (c := c) (o := o) _ _ _ _ _ _ _ _ _ _ _ _ _ _ _ _ _ _ _ _ _ _ _ _ _ hn k hk hk2 w W0 (w.heap.size + 1 + 1 + 1) (w.heap.size + 1) (w.heap.size + 1 + 1) _ _ _ (fun a' w' h => ⟨h, h⟩) (HS1.out.weak (fun p hp => ?_)) (HS1.out.blks (w.heap.size + 1 + 1, 48, #[.slice none 0 0]) (by simp)) (by omega) (by omega) (by omega) ?_
    · simp at hp
      rcases hp with rfl | rfl
      · simp
      · simp [cs, wv]
    rintro D X hD hK hst ⟨u, hu, hr⟩
    have cu := hu.cell 0
    simp only [List.getElem?_toArray, List.getElem?_cons_zero] at cu
    have HST := Lib.hid hst
    have HR := Lib.hid hr
    have HK := Lib.hid hK
    have HD := Lib.hid hD
    clear hst hr hK hD hu
    gi_wp2
    refine ⟨by simp, .inl ⟨_, _, rfl, run_takeDeferred HK.out, ?_⟩⟩
    exact ⟨u, by simp [results, Try.f57, go_sem], u, rfl, ownsRow_putObj HR.out _ HK.out rfl, HST.out.bel.trans (belowK_b (w := w) (Nat.le_refl _) _ D _ _ (by have := HD.out; omega) HK.out rfl rfl)⟩
  · obtain rfl : k = 0 := by omega
    rw [List.take_zero]
    unfold cv cs wv
    gi_wp2_with (refine ⟨trivial, ?_⟩; gi_at_call 60; refine (callsIn_wide.2 (members_fn (n := n) (c := c) (o := o) _)).mono ?_; rintro e w' ⟨rfl, rfl⟩)
    exact ⟨.slice none 0 0, by simp [results, Try.f57, go_sem], _, rfl, srow_nil _ _, (HS0.out.alloc (.cells (cs n c o) 30)).bel⟩
end Go.Proofs.Ytdiijannpfogdaa.Tn
