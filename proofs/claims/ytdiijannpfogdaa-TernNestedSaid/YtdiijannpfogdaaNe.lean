/- TernNested: the ranges. -/
import Derived.Test.YtdiijannpfogdaaMt
import Derived.Test.YtdiijannpfogdaaQr
namespace Go.Proofs.Ytdiijannpfogdaa.Tn
open Go.RowKit Go.Shelf
attribute [local go_sem] Oper.semAt_some
attribute [local go_sem] cv cs wv
/-- what a list of texts reads as, by the blocks RL -/
def RowS (RL : Mm.BL) (a : Option Addr) (L : List (List UInt8)) : Prop := ∀ Y, Mm.Blks RL Y → 0 < L.length → ∃ g, a = some ⟨g, 0, none⟩ ∧ ∀ j u, (srow L)[j]? = some u → Y.cell? ⟨g, j, none⟩ = some u
theorem take_next {α : Type} {xs pre : List α} {x : α} {m : Nat} (h : pre ++ [x] <+: xs) (hm : pre.length < m) : (xs.take m)[pre.length]? = some x ∧ pre.length < (xs.take m).length := by
  obtain ⟨r, rfl⟩ := h
  have h1 : ((pre ++ [x] ++ r).take m)[pre.length]? = some x := by rw [List.getElem?_take_of_lt hm]; simp
  exact ⟨h1, (List.getElem?_eq_some_iff.1 h1).1⟩
theorem take_all {α : Type} {xs : List α} {m : Nat} (h : xs.length < m) : (xs.take m).length = xs.length := by rw [List.length_take]; omega
theorem take_stop {α : Type} {xs pre : List α} {m : Nat} (h : pre <+: xs) (hm : pre.length = m) : (xs.take m).length = m := by have := h.length_le; rw [List.length_take]; omega

set_option maxRecDepth 100000 in
set_option maxHeartbeats 4000000 in
theorem nest_inner (u0 u1 u2 u3 u7 u8 u9 u14 u16 u17 u18 u19 u20 u21 u22 u23 u24 u25 u26 u27 u28 u29 u30 u31 u32 u33 u34 u35 u36 u37 u38 u39 u40 u41 u42 u43 u44 u45 u46 u47 u48 u49 u50 u51 u52 u53 u54 u55 u56 u57 u58 u59 u60 u61 u63 u64 u65 u66 u67 u68 u69 u70 u71 u72 u73 u74 u75 u76 u77 u78 u79 u80 u81 u82 u83 u84 u85 u86 u87 u88 u89 u90 u91 u92 u93 u94 u95 u96 u97 u98 u99 u100 u101 u102 u103 u104 u105 u106 u107 u108 u109 u110 u111 u112 u113 u114 u115 u116 : Value) {n : Nat} {c o : Nat → Bool} (hn : n ≤ 256) (w W0 : World) (L0 : Mm.BL) (Ds : List Nat) (RL : Mm.BL) (ai : Option Addr) (ci m : Nat) (Bn Bm Br Bo Bin Bf Bi Bk Bc lp : Nat) (Q : Exit → Act → World → Prop) (Q0 : Act → World → Prop) (hQ0 : ∀ a' w', Q0 a' w' → Q .normal a' w' ∧ Q (.exit 2) a' w')
    (hm : m ≤ 1000) (ll : Nat) (hLl : ((memAll n c o).take (m + 1)).length = ll) (hrow : RowS RL ai ((memAll n c o).take (m + 1))) (mM : (Bm, 3, #[.int .i64 m]) ∈ L0) (mI : (Bin, 48, #[.slice ai ll ci]) ∈ L0) (mC : (Bc, 30, cs n c o) ∈ L0) (mr : ∀ q ∈ RL, q ∈ L0) (mk : ∀ q ∈ L0, q.1 ≠ Bk) (hDs : ∀ D ∈ Ds, D < W0.heap.size)
    (hk : w.heap.size ≤ Bk) (hlp : ∃ r, W0.heap[lp]? = some (.loop r))
    (h0 : Mm.St w ((Bk, 3, #[.int .i64 0]) :: L0) Ds W0)
    (hQ : ∀ (X : World) (k : Nat), Mm.St w ((Bk, 3, #[.int .i64 k]) :: L0) Ds X → k = ll → W0.grownBy X (some Bk) →
      Q0 ⟨(List.toArray (u0 :: u1 :: u2 :: u3 :: (.pointer (some ⟨Bn, 0, none⟩)) :: (.pointer (some ⟨Bm, 0, none⟩)) :: (.pointer (some ⟨Br, 0, none⟩)) :: u7 :: u8 :: u9 :: (.pointer (some ⟨Bo, 0, none⟩)) :: (.pointer (some ⟨Bin, 0, none⟩)) :: (.pointer (some ⟨Bf, 0, none⟩)) :: (.pointer (some ⟨Bi, 0, none⟩)) :: u14 :: (.pointer (some ⟨Bk, 0, none⟩)) :: u16 :: u17 :: u18 :: u19 :: u20 :: u21 :: u22 :: u23 :: u24 :: u25 :: u26 :: u27 :: u28 :: u29 :: u30 :: u31 :: u32 :: u33 :: u34 :: u35 :: u36 :: u37 :: u38 :: u39 :: u40 :: u41 :: u42 :: u43 :: u44 :: u45 :: u46 :: u47 :: u48 :: u49 :: u50 :: u51 :: u52 :: u53 :: u54 :: u55 :: u56 :: u57 :: u58 :: u59 :: u60 :: u61 :: (.func (.func 74) #[] #[.pointer (some ⟨Bc, 0, none⟩)]) :: u63 :: u64 :: u65 :: u66 :: u67 :: u68 :: u69 :: u70 :: u71 :: u72 :: u73 :: u74 :: u75 :: u76 :: u77 :: u78 :: u79 :: u80 :: u81 :: u82 :: u83 :: u84 :: u85 :: u86 :: u87 :: u88 :: u89 :: u90 :: u91 :: u92 :: u93 :: u94 :: u95 :: u96 :: u97 :: u98 :: u99 :: u100 :: u101 :: u102 :: u103 :: u104 :: u105 :: u106 :: u107 :: u108 :: u109 :: u110 :: u111 :: u112 :: u113 :: u114 :: u115 :: u116 :: [])), []⟩ X) :
    (Mm.innerAt Try.f17 0 0).wpIn (Fence.wide.inRound lp) 6 Try.prog Q ⟨(List.toArray (u0 :: u1 :: u2 :: u3 :: (.pointer (some ⟨Bn, 0, none⟩)) :: (.pointer (some ⟨Bm, 0, none⟩)) :: (.pointer (some ⟨Br, 0, none⟩)) :: u7 :: u8 :: u9 :: (.pointer (some ⟨Bo, 0, none⟩)) :: (.pointer (some ⟨Bin, 0, none⟩)) :: (.pointer (some ⟨Bf, 0, none⟩)) :: (.pointer (some ⟨Bi, 0, none⟩)) :: u14 :: (.pointer (some ⟨Bk, 0, none⟩)) :: u16 :: u17 :: u18 :: u19 :: u20 :: u21 :: u22 :: u23 :: u24 :: u25 :: u26 :: u27 :: u28 :: u29 :: u30 :: u31 :: u32 :: u33 :: u34 :: u35 :: u36 :: u37 :: u38 :: u39 :: u40 :: u41 :: u42 :: u43 :: u44 :: u45 :: u46 :: u47 :: u48 :: u49 :: u50 :: u51 :: u52 :: u53 :: u54 :: u55 :: u56 :: u57 :: u58 :: u59 :: u60 :: u61 :: (.func (.func 74) #[] #[.pointer (some ⟨Bc, 0, none⟩)]) :: u63 :: u64 :: u65 :: u66 :: u67 :: u68 :: u69 :: u70 :: u71 :: u72 :: u73 :: u74 :: u75 :: u76 :: u77 :: u78 :: u79 :: u80 :: u81 :: u82 :: u83 :: u84 :: u85 :: u86 :: u87 :: u88 :: u89 :: u90 :: u91 :: u92 :: u93 :: u94 :: u95 :: u96 :: u97 :: u98 :: u99 :: u100 :: u101 :: u102 :: u103 :: u104 :: u105 :: u106 :: u107 :: u108 :: u109 :: u110 :: u111 :: u112 :: u113 :: u114 :: u115 :: u116 :: [])), []⟩ W0 := by
  obtain ⟨rr, hrr⟩ := hlp
  have hbd : Blk W0 Bc 30 (cs n c o) := h0.tail.blks _ mC
  have hbx := hbd.lt
  have hbk : Bk < W0.heap.size := h0.head.lt
  have hSt : ∀ (f : List (List UInt8) → Mm.BL), OwnFrom W0.heap.size (fun pre X => Mm.St w (f pre) Ds X) := fun f => Mm.St.own f h0.bel.size hDs
  have hlt0 : ∀ q ∈ L0, q.1 < W0.heap.size := fun q hq => (h0.tail.blks q hq).lt
  have hSa : ∀ (b : Nat), Mm.Abd (W0.heap.size + 1) 2 (fun (pre : List (List UInt8)) X => Mm.St w ((Bk, 3, #[.int .i64 pre.length]) :: L0) Ds X) := fun _ => Mm.St.abd (fun pre : List (List UInt8) => (Bk, 3, #[.int .i64 pre.length]) :: L0) (fun b q hq => by rcases List.mem_cons.1 hq with rfl | hq; exact Nat.lt_succ_of_lt hbk; exact Nat.lt_succ_of_lt (hlt0 q hq)) (fun D hD => Nat.lt_succ_of_lt (hDs D hD)) (Nat.le_succ_of_le h0.bel.size)
  show (Code.rangeFunc _ _ _ _).wpIn _ _ _ _ _ _
  refine Mm.range_in rfl hrr (by omega) (gf := 74) (lb := #[.pointer (some ⟨Bc, 0, none⟩)]) rfl trivial (enters_of Try.func74 (by kernel_rfl) rfl)
    ((members_seq hn w Bc _ (by omega) W0 h0.bel hbd).inRound lp) (fun h k => Mm.KpB.t h k) (Mm.KpB.b (w := W0) h0.bel.size hbx) (Below.refl _ _) (fun _ => rfl)
    (fun pre X => (Mm.St w ((Bk, 3, #[.int .i64 pre.length]) :: L0) Ds X ∧ W0.grownBy X (some Bk)) ∧ pre.length < m + 1)
    (fun cd pre X => (cd = .exit 2 ∧ pre.length = m + 1) ∧ (Mm.St w ((Bk, 3, #[.int .i64 pre.length]) :: L0) Ds X ∧ W0.grownBy X (some Bk)))
    (OwnFrom.and (OwnFrom.and (hSt fun pre => (Bk, 3, #[.int .i64 pre.length]) :: L0) (Mm.turn_own (Nat.le_refl _))) (fun _ _ _ _ h _ _ => h))
    (fun cd => OwnFrom.and (fun _ _ _ _ h _ _ => h) (OwnFrom.and (hSt fun pre => (Bk, 3, #[.int .i64 pre.length]) :: L0) (Mm.turn_own (Nat.le_refl _))))
    (fun b A B r h hg h1 h2 => ⟨⟨hSa 0 b A B r h.1.1 hg h1 h2, Mm.turn_abd (β := Unit) (m := 2) (Nat.le_succ _) () A B r h.1.2 hg h1 h2⟩, h.2⟩) (fun cd b A B r h hg h1 h2 => ⟨h.1, hSa 0 b A B r h.2.1 hg h1 h2, Mm.turn_abd (β := Unit) (m := 2) (Nat.le_succ _) () A B r h.2.2 hg h1 h2⟩)
    ⟨⟨h0, Mm.turn_refl _ _⟩, Nat.zero_lt_succ _⟩
    (fun x a' _ => a' = { tmps := (List.toArray (u0 :: u1 :: u2 :: u3 :: (.pointer (some ⟨Bn, 0, none⟩)) :: (.pointer (some ⟨Bm, 0, none⟩)) :: (.pointer (some ⟨Br, 0, none⟩)) :: u7 :: u8 :: u9 :: (.pointer (some ⟨Bo, 0, none⟩)) :: (.pointer (some ⟨Bin, 0, none⟩)) :: (.pointer (some ⟨Bf, 0, none⟩)) :: (.pointer (some ⟨Bi, 0, none⟩)) :: u14 :: (.pointer (some ⟨Bk, 0, none⟩)) :: (.string (str x)) :: u17 :: u18 :: u19 :: u20 :: u21 :: u22 :: u23 :: u24 :: u25 :: u26 :: u27 :: u28 :: u29 :: u30 :: u31 :: u32 :: u33 :: u34 :: u35 :: u36 :: u37 :: u38 :: u39 :: u40 :: u41 :: u42 :: u43 :: u44 :: u45 :: u46 :: u47 :: u48 :: u49 :: u50 :: u51 :: u52 :: u53 :: u54 :: u55 :: u56 :: u57 :: u58 :: u59 :: u60 :: u61 :: (.func (.func 74) #[] #[.pointer (some ⟨Bc, 0, none⟩)]) :: (.string (str x)) :: u64 :: u65 :: u66 :: u67 :: u68 :: u69 :: u70 :: u71 :: u72 :: u73 :: u74 :: u75 :: u76 :: u77 :: u78 :: u79 :: u80 :: u81 :: u82 :: u83 :: u84 :: u85 :: u86 :: u87 :: u88 :: u89 :: u90 :: u91 :: u92 :: u93 :: u94 :: u95 :: u96 :: u97 :: u98 :: u99 :: u100 :: u101 :: u102 :: u103 :: u104 :: u105 :: u106 :: u107 :: u108 :: u109 :: u110 :: u111 :: u112 :: u113 :: u114 :: u115 :: u116 :: [])), defers := [] }) (fun x a' s X Y row hs hg hr => hs) ?assign ?body ?done ?stop
  case assign =>
    rintro lq pre x X K hi hx hsx hK
    gi_wp2
    exact hK _ _ (KeepsFrom.refl _ _) ⟨Below.refl _ _, rfl⟩ (Mm.Kept.refl _ _ _) hi rfl
  case body =>
    rintro lq pre x a' X _ _ _ ⟨⟨hi, ht⟩, hlen⟩ rfl hx hsx
    rw [show (Fence.wide.inRound lp).inRound lq = Fence.wide.inRound lq from rfl]
    obtain ⟨hnx, hlt⟩ := take_next hx hlen
    have hv : (Value.int .i64 (((pre.length + 1 : Nat) : Int))) = .int .i64 ((pre.length : Int) + 1) := by simp
    have fin : ∀ (Z : World), Z = X.setCell ⟨Bk, 0, none⟩ (.int .i64 ((pre.length : Int) + 1)) → KeepsFrom W0.heap.size X Z ∧ Mm.KpB w.heap.size Bc X Z ∧ Mm.Kept (W0.heap.size + 1) 2 X Z ∧ Mm.St w ((Bk, 3, #[.int .i64 (pre ++ [x]).length]) :: L0) Ds Z ∧ W0.grownBy Z (some Bk) := by
      rintro Z rfl
      have h1 := hi.set mk hk 0 (.int .i64 ((pre.length : Int) + 1))
      have hset : X.grownBy (X.setCell ⟨Bk, 0, none⟩ (.int .i64 ((pre.length : Int) + 1))) (some Bk) := only_set _ _ _ _
      refine ⟨(KeepsOthers.setCell _ _ _).from _, Mm.KpB.grown hset hi.bel.size (hi.tail.blks _ mC).lt (fun r e => by cases e; exact ⟨hk, fun e => mk _ mC e.symm⟩), ⟨by simp [World.setCell], fun r h1 h2 => hset.block r (by omega) (fun e => by cases e; omega)⟩, ?_, Mm.gtrans ht hset⟩
      have e : (pre ++ [x]).length = pre.length + 1 := by simp
      rw [e, hv]
      exact h1
    obtain ⟨g, rfl, hq⟩ := hrow X (fun q hq => hi.tail.blks q (mr q hq)) (Nat.lt_of_le_of_lt (Nat.zero_le _) hlt)
    have q0 := hq _ _ (srow_at _ _ _ hnx)
    have cM := (hi.tail.blks _ mM).cell 0
    have cI := (hi.tail.blks _ mI).cell 0
    have cK := hi.head.cell 0
    have fK := hi.head.frozen 0
    have hqq := str_neq x
    have nM : Bm ≠ Bk := mk _ mM
    rw [hLl] at hlt
    have hge : decide ((ll : Int) ≤ (pre.length : Int)) = false := by simp; omega
    have hge2 : decide (ll ≤ pre.length) = false := by simp; omega
    have hll : ll ≤ m + 1 := by rw [← hLl, List.length_take]; omega
    have HLL := Lib.hid hLl
    clear hLl
    simp only [List.getElem?_toArray, List.getElem?_cons_zero] at cM cI cK
    have FIN := Lib.hid fin
    clear fin hi ht hq hnx mk hQ hrow h0 mr hv hSt hSa hlt0 hx hbd
    by_cases hs : m < pre.length + 1
    · have he : decide ((m : Int) < (pre.length : Int) + 1) = true := by simp; omega
      have HS1 := Lib.hid hs
      clear hs
      gi_wp2
      obtain ⟨a1, a2, a3, a4, a5⟩ := FIN.out _ rfl
      exact ⟨a1, ⟨rfl, by have := HS1.out; simp; omega⟩, a4, a5⟩
    · have he : decide ((m : Int) < (pre.length : Int) + 1) = false := by simp; omega
      have HS1 := Lib.hid hs
      clear hs
      gi_wp2
      obtain ⟨a1, a2, a3, a4, a5⟩ := FIN.out _ rfl
      exact ⟨a1, a2, a3, ⟨a4, a5⟩, by have := HS1.out; simp; omega⟩
  case done =>
    rintro X ⟨⟨hi, ht⟩, hlen⟩
    exact (hQ0 _ _ (hQ X _ hi (by rw [← hLl]; exact (take_all hlen).symm) ht)).1
  case stop =>
    rintro cd pre X hp ⟨⟨rfl, h1⟩, hi, ht⟩
    refine wpIn_exit (hQ0 _ _ (hQ X _ hi ?_ ht)).2
    rw [← hLl, take_stop hp h1, h1]

set_option maxRecDepth 100000 in
set_option maxHeartbeats 4000000 in
theorem nest_third (u0 u1 u2 u3 u7 u8 u9 u14 u15 u16 u17 u18 u19 u20 u21 u22 u23 u24 u25 u26 u27 u28 u29 u30 u31 u32 u33 u34 u35 u36 u37 u38 u39 u40 u41 u42 u43 u44 u45 u46 u47 u48 u49 u50 u51 u52 u53 u54 u55 u56 u57 u58 u59 u60 u61 u62 u63 u64 u65 u66 u67 u68 u69 u70 u71 u72 u73 u74 u75 u76 u77 u78 u79 u80 u81 u82 u83 u84 u85 u86 u87 u88 u89 u90 u91 u92 u93 u95 u96 u97 u98 u99 u100 u101 u102 u103 u104 u105 u106 u107 u108 u109 u110 u111 u112 u113 u114 u115 u116 : Value) {n : Nat} {c o : Nat → Bool} (hn : n ≤ 256) (w W0 : World) (L0 : Mm.BL) (Ds : List Nat) (RL : Mm.BL) (ao : Option Addr) (co m : Nat) (Bn Bm Br Bo Bin Bf Bi Bc : Nat) (ds : List Deferred) (Q : Exit → Act → World → Prop) (Q0 : Act → World → Prop) (hQ0 : ∀ a' w', Q0 a' w' → Q .normal a' w' ∧ Q (.exit 4) a' w')
    (hm : m ≤ 1000) (ll : Nat) (hLl : ((memAll n c o).take (m + 1)).length = ll) (hrow : RowS RL ao ((memAll n c o).take (m + 1))) (mM : (Bn, 3, #[.int .i64 m]) ∈ L0) (mI : (Bo, 48, #[.slice ao ll co]) ∈ L0) (mC : (Bc, 30, cs n c o) ∈ L0) (mr : ∀ q ∈ RL, q ∈ L0) (mk : ∀ q ∈ L0, q.1 ≠ Bi) (hDs : ∀ D ∈ Ds, D < W0.heap.size)
    (hk : w.heap.size ≤ Bi) (h0 : Mm.St w ((Bi, 3, #[.int .i64 0]) :: L0) Ds W0)
    (hQ : ∀ (D : Nat) (X : World) (k : Nat), W0.heap.size ≤ D → X.heap[D]? = some (.deferred (some [])) → Mm.St w ((Bi, 3, #[.int .i64 k]) :: L0) Ds X → k = ll →
      Q0 ⟨(List.toArray (u0 :: u1 :: u2 :: u3 :: (.pointer (some ⟨Bn, 0, none⟩)) :: (.pointer (some ⟨Bm, 0, none⟩)) :: (.pointer (some ⟨Br, 0, none⟩)) :: u7 :: u8 :: u9 :: (.pointer (some ⟨Bo, 0, none⟩)) :: (.pointer (some ⟨Bin, 0, none⟩)) :: (.pointer (some ⟨Bf, 0, none⟩)) :: (.pointer (some ⟨Bi, 0, none⟩)) :: u14 :: u15 :: u16 :: u17 :: u18 :: u19 :: u20 :: u21 :: u22 :: u23 :: u24 :: u25 :: u26 :: u27 :: u28 :: u29 :: u30 :: u31 :: u32 :: u33 :: u34 :: u35 :: u36 :: u37 :: u38 :: u39 :: u40 :: u41 :: u42 :: u43 :: u44 :: u45 :: u46 :: u47 :: u48 :: u49 :: u50 :: u51 :: u52 :: u53 :: u54 :: u55 :: u56 :: u57 :: u58 :: u59 :: u60 :: u61 :: u62 :: u63 :: u64 :: u65 :: u66 :: u67 :: u68 :: u69 :: u70 :: u71 :: u72 :: u73 :: u74 :: u75 :: u76 :: u77 :: u78 :: u79 :: u80 :: u81 :: u82 :: u83 :: u84 :: u85 :: u86 :: u87 :: u88 :: u89 :: u90 :: u91 :: u92 :: u93 :: (.func (.func 74) #[] #[.pointer (some ⟨Bc, 0, none⟩)]) :: u95 :: u96 :: u97 :: u98 :: u99 :: u100 :: u101 :: u102 :: u103 :: u104 :: u105 :: u106 :: u107 :: u108 :: u109 :: u110 :: u111 :: u112 :: u113 :: u114 :: u115 :: u116 :: [])), { target := .collected D, args := #[] } :: ds⟩ X) :
    (Mm.rangeAt Try.f17 1).wpIn Fence.wide 8 Try.prog Q ⟨(List.toArray (u0 :: u1 :: u2 :: u3 :: (.pointer (some ⟨Bn, 0, none⟩)) :: (.pointer (some ⟨Bm, 0, none⟩)) :: (.pointer (some ⟨Br, 0, none⟩)) :: u7 :: u8 :: u9 :: (.pointer (some ⟨Bo, 0, none⟩)) :: (.pointer (some ⟨Bin, 0, none⟩)) :: (.pointer (some ⟨Bf, 0, none⟩)) :: (.pointer (some ⟨Bi, 0, none⟩)) :: u14 :: u15 :: u16 :: u17 :: u18 :: u19 :: u20 :: u21 :: u22 :: u23 :: u24 :: u25 :: u26 :: u27 :: u28 :: u29 :: u30 :: u31 :: u32 :: u33 :: u34 :: u35 :: u36 :: u37 :: u38 :: u39 :: u40 :: u41 :: u42 :: u43 :: u44 :: u45 :: u46 :: u47 :: u48 :: u49 :: u50 :: u51 :: u52 :: u53 :: u54 :: u55 :: u56 :: u57 :: u58 :: u59 :: u60 :: u61 :: u62 :: u63 :: u64 :: u65 :: u66 :: u67 :: u68 :: u69 :: u70 :: u71 :: u72 :: u73 :: u74 :: u75 :: u76 :: u77 :: u78 :: u79 :: u80 :: u81 :: u82 :: u83 :: u84 :: u85 :: u86 :: u87 :: u88 :: u89 :: u90 :: u91 :: u92 :: u93 :: (.func (.func 74) #[] #[.pointer (some ⟨Bc, 0, none⟩)]) :: u95 :: u96 :: u97 :: u98 :: u99 :: u100 :: u101 :: u102 :: u103 :: u104 :: u105 :: u106 :: u107 :: u108 :: u109 :: u110 :: u111 :: u112 :: u113 :: u114 :: u115 :: u116 :: [])), ds⟩ W0 := by
  have hbd : Blk W0 Bc 30 (cs n c o) := h0.tail.blks _ mC
  have hbx := hbd.lt
  have hbk : Bi < W0.heap.size := h0.head.lt
  have hSt : ∀ (f : List (List UInt8) → Mm.BL), OwnFrom W0.heap.size (fun pre X => Mm.St w (f pre) Ds X) := fun f => Mm.St.own f h0.bel.size hDs
  have hlt0 : ∀ q ∈ L0, q.1 < W0.heap.size := fun q hq => (h0.tail.blks q hq).lt
  have hSa : ∀ (b : Nat), Mm.Abd (W0.heap.size + 2) 2 (fun (pre : List (List UInt8)) X => Mm.St w ((Bi, 3, #[.int .i64 pre.length]) :: L0) Ds X) := fun _ => Mm.St.abd (fun pre : List (List UInt8) => (Bi, 3, #[.int .i64 pre.length]) :: L0) (fun b q hq => by rcases List.mem_cons.1 hq with rfl | hq; exact Nat.lt_add_right 2 hbk; exact Nat.lt_add_right 2 (hlt0 q hq)) (fun D hD => Nat.lt_add_right 2 (hDs D hD)) (Nat.le_add_right_of_le h0.bel.size)
  show (Code.rangeFunc _ _ _ _).wpIn _ _ _ _ _ _
  refine Mm.range_out rfl (by omega) (gf := 74) (lb := #[.pointer (some ⟨Bc, 0, none⟩)]) rfl trivial (enters_of Try.func74 (by kernel_rfl) rfl)
    (members_seq hn w Bc _ (by omega) W0 h0.bel hbd) (fun h k => Mm.KpB.t h k) (Mm.KpB.b (w := W0) h0.bel.size hbx) (Below.refl _ _) (fun _ => rfl)
    (fun pre X => (Mm.St w ((Bi, 3, #[.int .i64 pre.length]) :: L0) Ds X ∧ W0.grownBy X (some Bi)) ∧ pre.length < m + 1)
    (fun cd pre X => (cd = .exit 4 ∧ pre.length = m + 1) ∧ (Mm.St w ((Bi, 3, #[.int .i64 pre.length]) :: L0) Ds X ∧ W0.grownBy X (some Bi)))
    (OwnFrom.and (OwnFrom.and (hSt fun pre => (Bi, 3, #[.int .i64 pre.length]) :: L0) (Mm.turn_own (Nat.le_refl _))) (fun _ _ _ _ h _ _ => h))
    (fun cd => OwnFrom.and (fun _ _ _ _ h _ _ => h) (OwnFrom.and (hSt fun pre => (Bi, 3, #[.int .i64 pre.length]) :: L0) (Mm.turn_own (Nat.le_refl _))))
    (fun b A B r h hg h1 h2 => ⟨⟨hSa 0 b A B r h.1.1 hg h1 h2, Mm.turn_abd (β := Unit) (m := 2) (Nat.le_add_right _ 2) () A B r h.1.2 hg h1 h2⟩, h.2⟩) (fun cd b A B r h hg h1 h2 => ⟨h.1, hSa 0 b A B r h.2.1 hg h1 h2, Mm.turn_abd (β := Unit) (m := 2) (Nat.le_add_right _ 2) () A B r h.2.2 hg h1 h2⟩)
    ⟨⟨h0, Mm.turn_refl _ _⟩, Nat.zero_lt_succ _⟩
    (fun x a' _ => a' = { tmps := (List.toArray (u0 :: u1 :: u2 :: u3 :: (.pointer (some ⟨Bn, 0, none⟩)) :: (.pointer (some ⟨Bm, 0, none⟩)) :: (.pointer (some ⟨Br, 0, none⟩)) :: u7 :: u8 :: u9 :: (.pointer (some ⟨Bo, 0, none⟩)) :: (.pointer (some ⟨Bin, 0, none⟩)) :: (.pointer (some ⟨Bf, 0, none⟩)) :: (.pointer (some ⟨Bi, 0, none⟩)) :: u14 :: u15 :: u16 :: (.string (str x)) :: u18 :: u19 :: u20 :: u21 :: u22 :: u23 :: u24 :: u25 :: u26 :: u27 :: u28 :: u29 :: u30 :: u31 :: u32 :: u33 :: u34 :: u35 :: u36 :: u37 :: u38 :: u39 :: u40 :: u41 :: u42 :: u43 :: u44 :: u45 :: u46 :: u47 :: u48 :: u49 :: u50 :: u51 :: u52 :: u53 :: u54 :: u55 :: u56 :: u57 :: u58 :: u59 :: u60 :: u61 :: u62 :: u63 :: u64 :: u65 :: u66 :: u67 :: u68 :: u69 :: u70 :: u71 :: u72 :: u73 :: u74 :: u75 :: u76 :: u77 :: u78 :: u79 :: u80 :: u81 :: u82 :: u83 :: u84 :: u85 :: u86 :: u87 :: u88 :: u89 :: u90 :: u91 :: u92 :: u93 :: (.func (.func 74) #[] #[.pointer (some ⟨Bc, 0, none⟩)]) :: (.string (str x)) :: u96 :: u97 :: u98 :: u99 :: u100 :: u101 :: u102 :: u103 :: u104 :: u105 :: u106 :: u107 :: u108 :: u109 :: u110 :: u111 :: u112 :: u113 :: u114 :: u115 :: u116 :: [])), defers := [] }) (fun x a' s X Y row hs hg hr => hs) ?assign ?body ?done ?stop
  case assign =>
    rintro lq pre x X K hi hx hsx hK
    gi_wp2
    exact hK _ _ (KeepsFrom.refl _ _) ⟨Below.refl _ _, rfl⟩ (Mm.Kept.refl _ _ _) hi rfl
  case body =>
    rintro lq pre x a' X _ _ _ ⟨⟨hi, ht⟩, hlen⟩ rfl hx hsx
    obtain ⟨hnx, hlt⟩ := take_next hx hlen
    have hv : (Value.int .i64 (((pre.length + 1 : Nat) : Int))) = .int .i64 ((pre.length : Int) + 1) := by simp
    have fin : ∀ (Z : World), Z = X.setCell ⟨Bi, 0, none⟩ (.int .i64 ((pre.length : Int) + 1)) → KeepsFrom W0.heap.size X Z ∧ Mm.KpB w.heap.size Bc X Z ∧ Mm.Kept (W0.heap.size + 2) 2 X Z ∧ Mm.St w ((Bi, 3, #[.int .i64 (pre ++ [x]).length]) :: L0) Ds Z ∧ W0.grownBy Z (some Bi) := by
      rintro Z rfl
      have h1 := hi.set mk hk 0 (.int .i64 ((pre.length : Int) + 1))
      have hset : X.grownBy (X.setCell ⟨Bi, 0, none⟩ (.int .i64 ((pre.length : Int) + 1))) (some Bi) := only_set _ _ _ _
      refine ⟨(KeepsOthers.setCell _ _ _).from _, Mm.KpB.grown hset hi.bel.size (hi.tail.blks _ mC).lt (fun r e => by cases e; exact ⟨hk, fun e => mk _ mC e.symm⟩), ⟨by simp [World.setCell], fun r h1 h2 => hset.block r (by omega) (fun e => by cases e; omega)⟩, ?_, Mm.gtrans ht hset⟩
      have e : (pre ++ [x]).length = pre.length + 1 := by simp
      rw [e, hv]
      exact h1
    obtain ⟨g, rfl, hq⟩ := hrow X (fun q hq => hi.tail.blks q (mr q hq)) (Nat.lt_of_le_of_lt (Nat.zero_le _) hlt)
    have q0 := hq _ _ (srow_at _ _ _ hnx)
    have cM := (hi.tail.blks _ mM).cell 0
    have cI := (hi.tail.blks _ mI).cell 0
    have cK := hi.head.cell 0
    have fK := hi.head.frozen 0
    have hqq := str_neq x
    have nM : Bn ≠ Bi := mk _ mM
    rw [hLl] at hlt
    have hge : decide ((ll : Int) ≤ (pre.length : Int)) = false := by simp; omega
    have hge2 : decide (ll ≤ pre.length) = false := by simp; omega
    have hll : ll ≤ m + 1 := by rw [← hLl, List.length_take]; omega
    have HLL := Lib.hid hLl
    clear hLl
    simp only [List.getElem?_toArray, List.getElem?_cons_zero] at cM cI cK
    have FIN := Lib.hid fin
    clear fin hi ht hq hnx mk hQ hrow h0 mr hv hSt hSa hlt0 hx hbd
    by_cases hs : m < pre.length + 1
    · have he : decide ((m : Int) < (pre.length : Int) + 1) = true := by simp; omega
      have HS1 := Lib.hid hs
      clear hs
      gi_wp2
      obtain ⟨a1, a2, a3, a4, a5⟩ := FIN.out _ rfl
      exact ⟨a1, ⟨rfl, by have := HS1.out; simp; omega⟩, a4, a5⟩
    · have he : decide ((m : Int) < (pre.length : Int) + 1) = false := by simp; omega
      have HS1 := Lib.hid hs
      clear hs
      gi_wp2
      obtain ⟨a1, a2, a3, a4, a5⟩ := FIN.out _ rfl
      exact ⟨a1, a2, a3, ⟨a4, a5⟩, by have := HS1.out; simp; omega⟩
  case done =>
    rintro D X hD ⟨⟨hi, ht⟩, hlen⟩ hK
    exact (hQ0 _ _ (hQ D X _ hD hK hi (by rw [← hLl]; exact (take_all hlen).symm))).1
  case stop =>
    rintro D cd pre X hD hp ⟨⟨rfl, h1⟩, hi, ht⟩ hK
    refine wpIn_exit (hQ0 _ _ (hQ D X _ hD hK hi ?_)).2
    rw [← hLl, take_stop hp h1, h1]

set_option maxRecDepth 100000 in
set_option maxHeartbeats 4000000 in
theorem nest_outer (u0 u1 u2 u3 u7 u8 u9 u14 u15 u16 u17 u18 u19 u20 u21 u22 u23 u24 u25 u26 u27 u28 u29 u30 u31 u32 u33 u34 u35 u36 u37 u38 u39 u40 u41 u42 u43 u44 u45 u46 u47 u49 u50 u51 u52 u53 u54 u55 u56 u57 u58 u59 u60 u61 u62 u63 u64 u65 u66 u67 u68 u69 u70 u71 u72 u73 u74 u75 u76 u77 u78 u79 u80 u81 u82 u83 u84 u85 u86 u87 u88 u89 u90 u91 u92 u93 u94 u95 u96 u97 u98 u99 u100 u101 u102 u103 u104 u105 u106 u107 u108 u109 u110 u111 u112 u113 u114 u115 u116 : Value) {n : Nat} {c o : Nat → Bool} (hn : n ≤ 256) (w W0 : World) (L0 : Mm.BL) (Ds : List Nat) (RLo RLi : Mm.BL) (ao ai : Option Addr) (co ci m m2 : Nat) (Bn Bm Br Bo Bin Bf Bi Bc : Nat) (ds : List Deferred) (Q : Exit → Act → World → Prop) (Q0 : Act → World → Prop) (hQ0 : ∀ a' w', Q0 a' w' → Q .normal a' w' ∧ Q (.exit 0) a' w')
    (hm : m ≤ 1000) (hm2 : m2 ≤ 1000) (ll l2 : Nat) (hLl : ((memAll n c o).take (m + 1)).length = ll) (hL2 : ((memAll n c o).take (m2 + 1)).length = l2) (hrow : RowS RLo ao ((memAll n c o).take (m + 1))) (hrow2 : RowS RLi ai ((memAll n c o).take (m2 + 1))) (mN : (Bn, 3, #[.int .i64 m]) ∈ L0) (mM : (Bm, 3, #[.int .i64 m2]) ∈ L0) (mO : (Bo, 48, #[.slice ao ll co]) ∈ L0) (mI : (Bin, 48, #[.slice ai l2 ci]) ∈ L0) (mF : (Bf, 79, #[.func (.func 74) #[] #[.pointer (some ⟨Bc, 0, none⟩)]]) ∈ L0) (mC : (Bc, 30, cs n c o) ∈ L0) (mr : ∀ q ∈ RLo, q ∈ L0) (mr2 : ∀ q ∈ RLi, q ∈ L0) (mk : ∀ q ∈ L0, q.1 ≠ Bi) (hDs : ∀ D ∈ Ds, D < W0.heap.size)
    (hk : w.heap.size ≤ Bi) (h0 : Mm.St w ((Bi, 3, #[.int .i64 0]) :: L0) Ds W0)
    (hQ : ∀ (D : Nat) (X : World) (k : Nat), W0.heap.size ≤ D → X.heap[D]? = some (.deferred (some [])) → Mm.St w ((Bi, 3, #[.int .i64 k]) :: L0) Ds X → k = ll →
      Q0 ⟨(List.toArray (u0 :: u1 :: u2 :: u3 :: (.pointer (some ⟨Bn, 0, none⟩)) :: (.pointer (some ⟨Bm, 0, none⟩)) :: (.pointer (some ⟨Br, 0, none⟩)) :: u7 :: u8 :: u9 :: (.pointer (some ⟨Bo, 0, none⟩)) :: (.pointer (some ⟨Bin, 0, none⟩)) :: (.pointer (some ⟨Bf, 0, none⟩)) :: (.pointer (some ⟨Bi, 0, none⟩)) :: u14 :: u15 :: u16 :: u17 :: u18 :: u19 :: u20 :: u21 :: u22 :: u23 :: u24 :: u25 :: u26 :: u27 :: u28 :: u29 :: u30 :: u31 :: u32 :: u33 :: u34 :: u35 :: u36 :: u37 :: u38 :: u39 :: u40 :: u41 :: u42 :: u43 :: u44 :: u45 :: u46 :: u47 :: (.func (.func 74) #[] #[.pointer (some ⟨Bc, 0, none⟩)]) :: u49 :: u50 :: u51 :: u52 :: u53 :: u54 :: u55 :: u56 :: u57 :: u58 :: u59 :: u60 :: u61 :: u62 :: u63 :: u64 :: u65 :: u66 :: u67 :: u68 :: u69 :: u70 :: u71 :: u72 :: u73 :: u74 :: u75 :: u76 :: u77 :: u78 :: u79 :: u80 :: u81 :: u82 :: u83 :: u84 :: u85 :: u86 :: u87 :: u88 :: u89 :: u90 :: u91 :: u92 :: u93 :: u94 :: u95 :: u96 :: u97 :: u98 :: u99 :: u100 :: u101 :: u102 :: u103 :: u104 :: u105 :: u106 :: u107 :: u108 :: u109 :: u110 :: u111 :: u112 :: u113 :: u114 :: u115 :: u116 :: [])), { target := .collected D, args := #[] } :: ds⟩ X) :
    (Mm.rangeAt Try.f17 0).wpIn Fence.wide 8 Try.prog Q ⟨(List.toArray (u0 :: u1 :: u2 :: u3 :: (.pointer (some ⟨Bn, 0, none⟩)) :: (.pointer (some ⟨Bm, 0, none⟩)) :: (.pointer (some ⟨Br, 0, none⟩)) :: u7 :: u8 :: u9 :: (.pointer (some ⟨Bo, 0, none⟩)) :: (.pointer (some ⟨Bin, 0, none⟩)) :: (.pointer (some ⟨Bf, 0, none⟩)) :: (.pointer (some ⟨Bi, 0, none⟩)) :: u14 :: u15 :: u16 :: u17 :: u18 :: u19 :: u20 :: u21 :: u22 :: u23 :: u24 :: u25 :: u26 :: u27 :: u28 :: u29 :: u30 :: u31 :: u32 :: u33 :: u34 :: u35 :: u36 :: u37 :: u38 :: u39 :: u40 :: u41 :: u42 :: u43 :: u44 :: u45 :: u46 :: u47 :: (.func (.func 74) #[] #[.pointer (some ⟨Bc, 0, none⟩)]) :: u49 :: u50 :: u51 :: u52 :: u53 :: u54 :: u55 :: u56 :: u57 :: u58 :: u59 :: u60 :: u61 :: u62 :: u63 :: u64 :: u65 :: u66 :: u67 :: u68 :: u69 :: u70 :: u71 :: u72 :: u73 :: u74 :: u75 :: u76 :: u77 :: u78 :: u79 :: u80 :: u81 :: u82 :: u83 :: u84 :: u85 :: u86 :: u87 :: u88 :: u89 :: u90 :: u91 :: u92 :: u93 :: u94 :: u95 :: u96 :: u97 :: u98 :: u99 :: u100 :: u101 :: u102 :: u103 :: u104 :: u105 :: u106 :: u107 :: u108 :: u109 :: u110 :: u111 :: u112 :: u113 :: u114 :: u115 :: u116 :: [])), ds⟩ W0 := by
  have hbd : Blk W0 Bc 30 (cs n c o) := h0.tail.blks _ mC
  have hbx := hbd.lt
  have hbk : Bi < W0.heap.size := h0.head.lt
  have hSt : ∀ (f : List (List UInt8) → Mm.BL), OwnFrom W0.heap.size (fun pre X => Mm.St w (f pre) Ds X) := fun f => Mm.St.own f h0.bel.size hDs
  have hlt0 : ∀ q ∈ L0, q.1 < W0.heap.size := fun q hq => (h0.tail.blks q hq).lt
  have hSa : ∀ (b : Nat), Mm.Abd (W0.heap.size + 2) 2 (fun (pre : List (List UInt8)) X => Mm.St w ((Bi, 3, #[.int .i64 pre.length]) :: L0) Ds X) := fun _ => Mm.St.abd (fun pre : List (List UInt8) => (Bi, 3, #[.int .i64 pre.length]) :: L0) (fun b q hq => by rcases List.mem_cons.1 hq with rfl | hq; exact Nat.lt_add_right 2 hbk; exact Nat.lt_add_right 2 (hlt0 q hq)) (fun D hD => Nat.lt_add_right 2 (hDs D hD)) (Nat.le_add_right_of_le h0.bel.size)
  show (Code.rangeFunc _ _ _ _).wpIn _ _ _ _ _ _
  refine Mm.range_out rfl (by omega) (gf := 74) (lb := #[.pointer (some ⟨Bc, 0, none⟩)]) rfl trivial (enters_of Try.func74 (by kernel_rfl) rfl)
    (members_seq hn w Bc _ (by omega) W0 h0.bel hbd) (fun h k => Mm.KpB.t h k) (Mm.KpB.b (w := W0) h0.bel.size hbx) (Below.refl _ _) (fun _ => rfl)
    (fun pre X => Mm.St w ((Bi, 3, #[.int .i64 pre.length]) :: L0) Ds X ∧ pre.length < m + 1)
    (fun cd pre X => (cd = .exit 0 ∧ pre.length = m + 1) ∧ Mm.St w ((Bi, 3, #[.int .i64 pre.length]) :: L0) Ds X)
    (OwnFrom.and (hSt fun pre => (Bi, 3, #[.int .i64 pre.length]) :: L0) (fun _ _ _ _ h _ _ => h))
    (fun cd => OwnFrom.and (fun _ _ _ _ h _ _ => h) (hSt fun pre => (Bi, 3, #[.int .i64 pre.length]) :: L0))
    (fun b A B r h hg h1 h2 => ⟨hSa 0 b A B r h.1 hg h1 h2, h.2⟩) (fun cd b A B r h hg h1 h2 => ⟨h.1, hSa 0 b A B r h.2 hg h1 h2⟩)
    ⟨h0, Nat.zero_lt_succ _⟩
    (fun x a' _ => a' = { tmps := (List.toArray (u0 :: u1 :: u2 :: u3 :: (.pointer (some ⟨Bn, 0, none⟩)) :: (.pointer (some ⟨Bm, 0, none⟩)) :: (.pointer (some ⟨Br, 0, none⟩)) :: u7 :: u8 :: u9 :: (.pointer (some ⟨Bo, 0, none⟩)) :: (.pointer (some ⟨Bin, 0, none⟩)) :: (.pointer (some ⟨Bf, 0, none⟩)) :: (.pointer (some ⟨Bi, 0, none⟩)) :: (.string (str x)) :: u15 :: u16 :: u17 :: u18 :: u19 :: u20 :: u21 :: u22 :: u23 :: u24 :: u25 :: u26 :: u27 :: u28 :: u29 :: u30 :: u31 :: u32 :: u33 :: u34 :: u35 :: u36 :: u37 :: u38 :: u39 :: u40 :: u41 :: u42 :: u43 :: u44 :: u45 :: u46 :: u47 :: (.func (.func 74) #[] #[.pointer (some ⟨Bc, 0, none⟩)]) :: (.string (str x)) :: u50 :: u51 :: u52 :: u53 :: u54 :: u55 :: u56 :: u57 :: u58 :: u59 :: u60 :: u61 :: u62 :: u63 :: u64 :: u65 :: u66 :: u67 :: u68 :: u69 :: u70 :: u71 :: u72 :: u73 :: u74 :: u75 :: u76 :: u77 :: u78 :: u79 :: u80 :: u81 :: u82 :: u83 :: u84 :: u85 :: u86 :: u87 :: u88 :: u89 :: u90 :: u91 :: u92 :: u93 :: u94 :: u95 :: u96 :: u97 :: u98 :: u99 :: u100 :: u101 :: u102 :: u103 :: u104 :: u105 :: u106 :: u107 :: u108 :: u109 :: u110 :: u111 :: u112 :: u113 :: u114 :: u115 :: u116 :: [])), defers := [] }) (fun x a' s X Y row hs hg hr => hs) ?assign ?body ?done ?stop
  case assign =>
    rintro lq pre x X K hi hx hsx hK
    gi_wp2
    exact hK _ _ (KeepsFrom.refl _ _) ⟨Below.refl _ _, rfl⟩ (Mm.Kept.refl _ _ _) hi rfl
  case body =>
    rintro lq pre x a' X _ _ ⟨rr, hrr⟩ ⟨hi, hlen⟩ rfl hx hsx
    obtain ⟨hnx, hlt⟩ := take_next hx hlen
    obtain ⟨g, rfl, hq⟩ := hrow X (fun q hq => hi.tail.blks q (mr q hq)) (Nat.lt_of_le_of_lt (Nat.zero_le _) hlt)
    have q0 := hq _ _ (srow_at _ _ _ hnx)
    have cO := (hi.tail.blks _ mO).cell 0
    have cF := (hi.tail.blks _ mF).cell 0
    have lF := (hi.tail.blks _ mF).lt
    have cK := hi.head.cell 0
    have hqq := str_neq x
    rw [hLl] at hlt
    have hge : decide ((ll : Int) ≤ (pre.length : Int)) = false := by simp; omega
    have hge2 : decide (ll ≤ pre.length) = false := by simp; omega
    have hll : ll ≤ m + 1 := by rw [← hLl, List.length_take]; omega
    have HLL := Lib.hid hLl
    clear hLl
    simp only [List.getElem?_toArray, List.getElem?_cons_zero] at cO cK cF
    have hcF : (X.alloc (.cells #[.int .i64 0] 3)).cell? ⟨Bf, 0, none⟩ = some (.func (.func 74) #[] #[.pointer (some ⟨Bc, 0, none⟩)]) := by rw [((Below.refl X.heap.size X).alloc (Nat.le_refl _) _).cell (p := ⟨Bf, 0, none⟩) lF]; exact cF
    have HI := Lib.hid hi
    have HRR := Lib.hid hrr
    have HMK := Lib.hid mk
    have HMR2 := Lib.hid mr2
    have HL2 := Lib.hid hL2
    clear hL2
    clear hi hq hnx mk mr2 hrr hQ hrow h0 mr hSt hSa hlt0 hx hbd cF
    gi_wp2
    refine nest_inner _ _ _ _ _ _ _ _ _ _ _ _ _ _ _ _ _ _ _ _ _ _ _ _ _ _ _ _ _ _ _ _ _ _ _ _ _ _ _ _ _ _ _ _ _ _ _ _ _ _ _ _ _ _ _ _ _ _ _ _ _ _ _ _ _ _ _ _ _ _ _ _ _ _ _ _ _ _ _ _ _ _ _ _ _ _ _ _ _ _ _ _ _ _ _ _ _ _ _ _ _ _ _ _ _ _ _ _ hn w _ ((Bi, 3, #[.int .i64 pre.length]) :: L0) Ds RLi ai ci m2 Bn _ Br Bo _ Bf Bi X.heap.size Bc lq _ _ (fun a' w' h => ⟨h, h⟩) hm2 l2 HL2.out hrow2
      (List.mem_cons_of_mem _ mM) (List.mem_cons_of_mem _ mI) (List.mem_cons_of_mem _ mC) (fun q hq => List.mem_cons_of_mem _ (HMR2.out q hq)) ?_ ?_ HI.out.bel.size ⟨rr, (Below.heap_alloc _ _ _ (Array.getElem?_eq_some_iff.1 HRR.out).1).trans HRR.out⟩ (HI.out.new _ _) ?_
    · intro q hq
      rcases List.mem_cons.1 hq with rfl | hq
      · exact Nat.ne_of_lt HI.out.head.lt
      · exact Nat.ne_of_lt (HI.out.tail.blks q hq).lt
    · intro D hD; have := hDs D hD; simp; omega
    rintro X2 k hi2 hk2 hg2
    have cK2 := hi2.head.cell 0
    have cI2 := hi2.tail.head.cell 0
    have fI2 := hi2.tail.head.frozen 0
    have cN2 := (hi2.tail.tail.blks _ mN).cell 0
    have cL2 := (hi2.tail.tail.blks _ mI).cell 0
    have nN : Bn ≠ Bi := HMK.out _ mN
    have nL : Bin ≠ Bi := HMK.out _ mI
    have nK : X.heap.size ≠ Bi := fun e => by have := HI.out.head.lt; simp at this; omega
    simp only [List.getElem?_toArray, List.getElem?_cons_zero] at cK2 cI2 cN2 cL2
    have hv : (Value.int .i64 (((pre.length + 1 : Nat) : Int))) = .int .i64 ((pre.length : Int) + 1) := by simp
    have fin : ∀ (Z : World), Z = X2.setCell ⟨Bi, 0, none⟩ (.int .i64 ((pre.length : Int) + 1)) → KeepsFrom W0.heap.size X Z ∧ Mm.KpB w.heap.size Bc X Z ∧ Mm.Kept (W0.heap.size + 2) 2 X Z ∧ Mm.St w ((Bi, 3, #[.int .i64 (pre ++ [x]).length]) :: L0) Ds Z := by
      rintro Z rfl
      have h1 := hi2.tail.set HMK.out hk 0 (.int .i64 ((pre.length : Int) + 1))
      have hset : X2.grownBy (X2.setCell ⟨Bi, 0, none⟩ (.int .i64 ((pre.length : Int) + 1))) (some Bi) := only_set _ _ _ _
      have ha : X.grownBy (X.alloc (.cells #[.int .i64 0] 3)) none := World.grownBy_alloc _ _ _
      have k1 := ((KeepsOthers.alloc X (.cells #[.int .i64 0] 3)).trans (Mm.turn_keeps hg2 (Blk.new X _ _))).trans (KeepsOthers.setCell X2 ⟨Bi, 0, none⟩ (.int .i64 ((pre.length : Int) + 1)))
      have hxw := HI.out.bel.size
      have hcl := (HI.out.tail.blks _ mC).lt
      have hil : Bi < X.heap.size := HI.out.head.lt
      have hw2 := hg2.size
      simp only [World.size_alloc] at hw2
      have k2 : Mm.KpB w.heap.size Bc X (X2.setCell ⟨Bi, 0, none⟩ (.int .i64 ((pre.length : Int) + 1))) :=
        ((Mm.KpB.grown ha hxw hcl (fun r e => by cases e)).t (Mm.KpB.grown hg2 (by simp; omega) (by simp; omega) (fun r e => by cases e; exact ⟨hxw, fun e => by omega⟩))).t (Mm.KpB.grown hset (by omega) (by omega) (fun r e => by cases e; exact ⟨hk, fun e => HMK.out _ mC e.symm⟩))
      refine ⟨k1.from _, k2, ⟨k1.size, fun r h1 h2 => ?_⟩, ?_⟩
      · rw [hset.block r (by omega) (fun e => by cases e; omega), hg2.block r (by simp; omega) (fun e => by cases e; omega), ha.block r (by omega) (fun e => by cases e)]
      · have e : (pre ++ [x]).length = pre.length + 1 := by simp
        rw [e, hv]
        exact h1
    have FIN := Lib.hid fin
    have hke : ((k : Int) != (l2 : Int)) = false := by rw [hk2]; simp
    clear fin hv hi2 hg2 cO hcF hk2 hrow2 cK
    by_cases hs : m < pre.length + 1
    · have he : decide ((m : Int) < (pre.length : Int) + 1) = true := by simp; omega
      have HS1 := Lib.hid hs
      clear hs
      gi_wp2
      obtain ⟨a1, a2, a3, a4⟩ := FIN.out _ rfl
      exact ⟨a1, ⟨rfl, by have := HS1.out; simp; omega⟩, a4⟩
    · have he : decide ((m : Int) < (pre.length : Int) + 1) = false := by simp; omega
      have HS1 := Lib.hid hs
      clear hs
      gi_wp2
      obtain ⟨a1, a2, a3, a4⟩ := FIN.out _ rfl
      exact ⟨a1, a2, a3, a4, by have := HS1.out; simp; omega⟩
  case done =>
    rintro D X hD ⟨hi, hlen⟩ hK
    exact (hQ0 _ _ (hQ D X _ hD hK hi (by rw [← hLl]; exact (take_all hlen).symm))).1
  case stop =>
    rintro D cd pre X hD hp ⟨⟨rfl, h1⟩, hi⟩ hK
    refine wpIn_exit (hQ0 _ _ (hQ D X _ hD hK hi ?_)).2
    rw [← hLl, take_stop hp h1, h1]

end Go.Proofs.Ytdiijannpfogdaa.Tn
