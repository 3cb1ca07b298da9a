/- LedgerInside: the ranges. -/
import Derived.Test.YtcofndegcleicaaLr
import Derived.Test.YtcofndegcleicaaSt
namespace Go.Proofs.Ytcofndegcleicaa.Lg
open Go.RowKit Mm Go.Shelf
attribute [local go_sem] Oper.semAt_some
def rangeBody : Code → Code
  | .rangeFunc _ _ _ b => b
  | _ => .skip
def innerAt (f : Func) (i j : Nat) : Code := (rangesOf (rangeBody (rangeAt f i)))[j]?.getD .skip
/-- a row of the call's own by its block -/
theorem own_blks {X : World} {B : Nat} {e : TypeId} {s n : Nat} {v : Value} {xs : List Value} (h : X.ownsRow B e s v n xs) : ∃ (RL : BL) (a : Option Addr) (cap : Nat), v = .slice a n cap ∧ n ≤ cap ∧ cap ≤ maxLen ∧ Blks RL X ∧ (∀ p ∈ RL, p.2.1 = e ∧ B ≤ p.1) ∧ (∀ Y, Blks RL Y → 0 < n → ∃ g, a = some ⟨g, 0, none⟩ ∧ ∀ j u, xs[j]? = some u → Y.cell? ⟨g, j, none⟩ = some u) := by
  rcases h.2 with ⟨hv, h0⟩ | ⟨g, cap, cur, hv, hb, hg, hc, hm, hsz, ht⟩
  · subst h0
    exact ⟨[], none, 0, hv, Nat.le_refl _, Nat.zero_le _, (fun p hp => by simp at hp), (fun p hp => by simp at hp), fun Y _ h => absurd h (by omega)⟩
  · refine ⟨[(g, e, cur)], some ⟨g, 0, none⟩, cap, hv, hc, hm, fun p hp => ?_, fun p hp => ?_, fun Y hY _ => ⟨g, rfl, fun j u hj => ?_⟩⟩
    · obtain rfl : p = (g, e, cur) := by simpa using hp
      exact hg
    · obtain rfl : p = (g, e, cur) := by simpa using hp
      exact ⟨rfl, hb⟩
    · have hb : Blk Y g e cur := hY (g, e, cur) (by simp)
      rw [hb.cell, ← Array.getElem?_toList]
      rw [← ht] at hj
      rw [List.getElem?_take] at hj
      split at hj <;> simp_all
/-- what the laws' list of records reads as, by the blocks RL -/
def RowK (RL : BL) (a : Option Addr) (ks : List Ky) : Prop := ∀ Y, Blks RL Y → 0 < ks.length → ∃ g, a = some ⟨g, 0, none⟩ ∧ ∀ j u, (ksC ks)[j]? = some u → Y.cell? ⟨g, j, none⟩ = some u

set_option maxRecDepth 100000 in
set_option maxHeartbeats 4000000 in
theorem inside_inner (u0 u1 u2 u3 u7 u9 u10 u13 u14 u16 u17 u18 u19 u20 u21 u22 u23 u24 u25 u26 u27 u28 u29 u30 u31 u32 u33 u34 u35 u36 u37 u38 u39 u40 u41 u43 u44 u45 u46 u47 u48 u49 u50 u51 u52 u53 u54 u55 u56 u57 u58 u59 u60 u61 u62 u63 u64 u65 u66 u67 u68 u69 u70 u71 u72 u73 u74 u75 u76 u77 u78 u79 u80 u81 u82 u83 u84 u85 u86 u87 u88 u89 u90 u91 u92 u93 u94 u95 u96 u97 u98 u99 u100 u101 u102 u103 u104 u105 u106 u107 u108 u109 u110 u111 u112 u113 u114 u115 u116 u117 u118 u119 : Value) (l : List UInt8) (hl : l.length ≤ 3000) (v0 : Value) (w : World) (hS : Sees w v0 (bytesV l)) (W0 : World) (L0 RL : BL) (Ds : List Nat) (au : Option Addr) (cu : Nat) (Bi Bu Br Bw Bf Bd Bn Bk Bo lp : Nat) (inner : Int) (Q : Exit → Act → World → Prop) (Q0 : Act → World → Prop) (hQ0 : ∀ a' w', Q0 a' w' → Q .normal a' w' ∧ Q (.exit 2) a' w')
    (_ : cu ≤ maxLen) (hrow : RowK RL au ((whl l).map keyA))
    (m1 : (Bi, 3, #[.int .i64 inner]) ∈ L0) (m4 : (Bw, 43, #[.slice au (whl l).length cu]) ∈ L0) (m6 : (Bd, 22, #[v0]) ∈ L0) (mr : ∀ q ∈ RL, q ∈ L0) (mk : ∀ q ∈ L0, q.1 ≠ Bk) (hDs : ∀ D ∈ Ds, D < W0.heap.size)
    (hk : w.heap.size ≤ Bk) (_ : -9223372036854775808 ≤ inner ∧ inner ≤ 9223372036854775807) (hlp : ∃ r, W0.heap[lp]? = some (.loop r))
    (h0 : St w ((Bk, 3, #[.int .i64 0]) :: L0) Ds W0)
    (hQ : ∀ (X : World) (k : Nat), St w ((Bk, 3, #[.int .i64 k]) :: L0) Ds X → (k = (whl l).length ∨ (k : Int) = inner) → KeepsFrom Bo W0 X → Below w.heap.size W0 X →
      Q0 ⟨(List.toArray (u0 :: u1 :: u2 :: u3 :: (.pointer (some ⟨Bi, 0, none⟩)) :: (.pointer (some ⟨Bu, 0, none⟩)) :: (.pointer (some ⟨Br, 0, none⟩)) :: u7 :: (.pointer (some ⟨Bw, 0, none⟩)) :: u9 :: u10 :: (.pointer (some ⟨Bf, 0, none⟩)) :: (.pointer (some ⟨Bn, 0, none⟩)) :: u13 :: u14 :: (.pointer (some ⟨Bk, 0, none⟩)) :: u16 :: u17 :: u18 :: u19 :: u20 :: u21 :: u22 :: u23 :: u24 :: u25 :: u26 :: u27 :: u28 :: u29 :: u30 :: u31 :: u32 :: u33 :: u34 :: u35 :: u36 :: u37 :: u38 :: u39 :: u40 :: u41 :: (.func (.func 32) #[] #[.pointer (some ⟨Bd, 0, none⟩)]) :: u43 :: u44 :: u45 :: u46 :: u47 :: u48 :: u49 :: u50 :: u51 :: u52 :: u53 :: u54 :: u55 :: u56 :: u57 :: u58 :: u59 :: u60 :: u61 :: u62 :: u63 :: u64 :: u65 :: u66 :: u67 :: u68 :: u69 :: u70 :: u71 :: u72 :: u73 :: u74 :: u75 :: u76 :: u77 :: u78 :: u79 :: u80 :: u81 :: u82 :: u83 :: u84 :: u85 :: u86 :: u87 :: u88 :: u89 :: u90 :: u91 :: u92 :: u93 :: u94 :: u95 :: u96 :: u97 :: u98 :: u99 :: u100 :: u101 :: u102 :: u103 :: u104 :: u105 :: u106 :: u107 :: u108 :: u109 :: u110 :: u111 :: u112 :: u113 :: u114 :: u115 :: u116 :: u117 :: u118 :: u119 :: [])), []⟩ X) :
    (innerAt Try.f9 0 0).wpIn (Fence.wide.inRound lp) 6 Try.prog Q ⟨(List.toArray (u0 :: u1 :: u2 :: u3 :: (.pointer (some ⟨Bi, 0, none⟩)) :: (.pointer (some ⟨Bu, 0, none⟩)) :: (.pointer (some ⟨Br, 0, none⟩)) :: u7 :: (.pointer (some ⟨Bw, 0, none⟩)) :: u9 :: u10 :: (.pointer (some ⟨Bf, 0, none⟩)) :: (.pointer (some ⟨Bn, 0, none⟩)) :: u13 :: u14 :: (.pointer (some ⟨Bk, 0, none⟩)) :: u16 :: u17 :: u18 :: u19 :: u20 :: u21 :: u22 :: u23 :: u24 :: u25 :: u26 :: u27 :: u28 :: u29 :: u30 :: u31 :: u32 :: u33 :: u34 :: u35 :: u36 :: u37 :: u38 :: u39 :: u40 :: u41 :: (.func (.func 32) #[] #[.pointer (some ⟨Bd, 0, none⟩)]) :: u43 :: u44 :: u45 :: u46 :: u47 :: u48 :: u49 :: u50 :: u51 :: u52 :: u53 :: u54 :: u55 :: u56 :: u57 :: u58 :: u59 :: u60 :: u61 :: u62 :: u63 :: u64 :: u65 :: u66 :: u67 :: u68 :: u69 :: u70 :: u71 :: u72 :: u73 :: u74 :: u75 :: u76 :: u77 :: u78 :: u79 :: u80 :: u81 :: u82 :: u83 :: u84 :: u85 :: u86 :: u87 :: u88 :: u89 :: u90 :: u91 :: u92 :: u93 :: u94 :: u95 :: u96 :: u97 :: u98 :: u99 :: u100 :: u101 :: u102 :: u103 :: u104 :: u105 :: u106 :: u107 :: u108 :: u109 :: u110 :: u111 :: u112 :: u113 :: u114 :: u115 :: u116 :: u117 :: u118 :: u119 :: [])), []⟩ W0 := by
  obtain ⟨rr, hrr⟩ := hlp
  have hNL := whl_len l
  have hkl : ((whl l).map keyA).length = (whl l).length := by simp
  have HKL := Lib.hid hkl
  clear hkl
  have hbd : Blk W0 Bd 22 #[v0] := h0.tail.blks _ m6
  have hbx := hbd.lt
  have hbk := h0.head.lt
  show (Code.rangeFunc _ _ _ _).wpIn _ _ _ _ _ _
  refine range_in rfl hrr (by omega) (gf := 32) (lb := #[.pointer (some ⟨Bd, 0, none⟩)]) rfl trivial (enters_of Try.func32 (by kernel_rfl) rfl)
    ((walk_seq l (by omega) v0 w hS Bd _ (by omega) W0 h0.bel hbd).inRound lp) (fun h k => KpW.t h k) (KpW.b (w := W0) h0.bel.size hbx) (Below.refl _ _) (fun _ => rfl)
    (fun pre X => (St w ((Bk, 3, #[.int .i64 pre.length]) :: L0) Ds X ∧ KeepsFrom Bo W0 X ∧ Below w.heap.size W0 X) ∧ (pre = [] ∨ (pre.length : Int) ≠ inner))
    (fun c pre X => (c = .exit 2 ∧ (pre.length : Int) = inner) ∧ (St w ((Bk, 3, #[.int .i64 pre.length]) :: L0) Ds X ∧ KeepsFrom Bo W0 X ∧ Below w.heap.size W0 X))
    (OwnFrom.and (OwnFrom.and (St.own (fun pre : List RA => ((Bk, 3, #[.int .i64 pre.length]) :: L0)) h0.bel.size hDs) (OwnFrom.and (ownFrom_keepsFrom (Nat.le_refl _)) (ownFrom_below h0.bel.size h0.bel.size))) (fun _ _ _ _ h _ _ => h))
    (fun c => OwnFrom.and (fun _ _ _ _ h _ _ => h) (OwnFrom.and (St.own (fun pre : List RA => ((Bk, 3, #[.int .i64 pre.length]) :: L0)) h0.bel.size hDs) (OwnFrom.and (ownFrom_keepsFrom (Nat.le_refl _)) (ownFrom_below h0.bel.size h0.bel.size)))) (Abd.none _ _) (fun _ => Abd.none _ _)
    ⟨⟨h0, KeepsFrom.refl _ _, Below.refl _ _⟩, .inl rfl⟩
    (fun x a' X => ∃ Bx, Blk X Bx 27 #[.int .i64 x.sq, .int .i64 x.kd, .string (str x.tx)] ∧ a' = { tmps := (List.toArray (u0 :: u1 :: u2 :: u3 :: (.pointer (some ⟨Bi, 0, none⟩)) :: (.pointer (some ⟨Bu, 0, none⟩)) :: (.pointer (some ⟨Br, 0, none⟩)) :: u7 :: (.pointer (some ⟨Bw, 0, none⟩)) :: u9 :: u10 :: (.pointer (some ⟨Bf, 0, none⟩)) :: (.pointer (some ⟨Bn, 0, none⟩)) :: u13 :: u14 :: (.pointer (some ⟨Bk, 0, none⟩)) :: u16 :: (.pointer (some ⟨Bx, 0, none⟩)) :: u18 :: u19 :: u20 :: u21 :: u22 :: u23 :: u24 :: u25 :: u26 :: u27 :: u28 :: u29 :: u30 :: u31 :: u32 :: u33 :: u34 :: u35 :: u36 :: u37 :: u38 :: u39 :: u40 :: u41 :: (.func (.func 32) #[] #[.pointer (some ⟨Bd, 0, none⟩)]) :: (.int .i64 x.pl) :: (.agg #[.int .i64 x.sq, .int .i64 x.kd, .string (str x.tx)]) :: u45 :: u46 :: u47 :: u48 :: u49 :: u50 :: u51 :: u52 :: u53 :: u54 :: u55 :: u56 :: u57 :: u58 :: u59 :: u60 :: u61 :: u62 :: u63 :: u64 :: u65 :: u66 :: u67 :: u68 :: u69 :: u70 :: u71 :: u72 :: u73 :: u74 :: u75 :: u76 :: u77 :: u78 :: u79 :: u80 :: u81 :: u82 :: u83 :: u84 :: u85 :: u86 :: u87 :: u88 :: u89 :: u90 :: u91 :: u92 :: u93 :: u94 :: u95 :: u96 :: u97 :: u98 :: u99 :: u100 :: u101 :: u102 :: u103 :: u104 :: u105 :: u106 :: u107 :: u108 :: u109 :: u110 :: u111 :: u112 :: u113 :: u114 :: u115 :: u116 :: u117 :: u118 :: u119 :: [])), defers := [] })
    (fun x a' s X Y row hs hg hr => by obtain ⟨Bx, h1, h2⟩ := hs; exact ⟨Bx, blk_own2 (β := Unit) s X Y row h1 hg (fun r e => (hr r e).2), h2⟩) ?assign ?body ?done ?stop
  case assign =>
    rintro lq pre x X K ⟨⟨hi, hkf, hbl⟩, hr⟩ hx hsx hK
    gi_wp2
    exact hK _ _ ((KeepsOthers.alloc _ _).from _) ⟨(Below.refl _ _).alloc hi.bel.size _, Below.heap_alloc _ _ _ (hi.tail.blks _ m6).lt⟩ (Kept.none (by simp)) ⟨⟨hi.alloc _, hkf.trans ((KeepsOthers.alloc _ _).from _), hbl.alloc hi.bel.size _⟩, hr⟩ ⟨X.heap.size, Blk.new X _ _, rfl⟩
  case body =>
    rintro lq pre x a' X _ _ _ ⟨⟨hi, hkf, hbl⟩, hr⟩ ⟨Bx, hX, rfl⟩ hx hsx
    rw [show (Fence.wide.inRound lp).inRound lq = Fence.wide.inRound lq from rfl]
    obtain ⟨hnx, hlt⟩ := pre_next hx
    have hk1 : ((whl l).map keyA)[pre.length]? = some (keyA x) := by rw [List.getElem?_map, hnx]; rfl
    obtain ⟨g, rfl, hq⟩ := hrow X (fun q hq => hi.tail.blks q (mr q hq)) (by rw [HKL.out]; omega)
    have kat := ksC_at _ _ _ hk1
    have q0 := hq _ _ kat.1
    have q1 := hq _ _ kat.2.1
    have q2 := hq _ _ kat.2.2
    have cI := (hi.tail.blks _ m1).cell 0
    have cW := (hi.tail.blks _ m4).cell 0
    have cK := hi.head.cell 0
    have fK := hi.head.frozen 0
    have x0 := hX.cell 0
    have x1 := hX.cell 1
    have x2 := hX.cell 2
    have hqq := rec_neq x.sq x.kd (str x.tx)
    have hge : decide (((whl l).length : Int) ≤ (pre.length : Int)) = false := by simp; omega
    have hge2 : decide ((whl l).length ≤ pre.length) = false := by simp; omega
    have hht := x.ht
    simp only [List.getElem?_toArray, List.getElem?_cons_zero, List.getElem?_cons_succ, keyA] at cI cW cK x0 x1 x2 q0 q1 q2
    have HI := Lib.hid hi
    have HKF := Lib.hid hkf
    have HBL := Lib.hid hbl
    have hni : Bi ≠ Bk := mk _ m1
    have hnd : Bd ≠ Bk := mk _ m6
    have HBD := Lib.hid (hi.tail.blks _ m6)
    have HMK := Lib.hid mk
    clear hi hkf hbl hq kat hk1 hnx mk hQ hrow h0 mr
    gi_wp2
    refine quiet_round rfl rfl (by kernel_rfl) (by kernel_rfl) ?_
    repeat (gi_big_quiet_step (fail))
    refine wpQuietIn_nil ?_
    intro _ hw'
    obtain ⟨nq, rfl⟩ := hw'
    have hv : (Value.int .i64 (((pre.length + 1 : Nat) : Int))) = .int .i64 ((pre.length : Int) + 1) := by simp
    have hz : w.heap.size ≤ X.heap.size := HI.out.bel.size
    have fin : ∀ (Z : World), Z = (X.drewN nq).setCell ⟨Bk, 0, none⟩ (.int .i64 ((pre.length : Int) + 1)) → KeepsFrom W0.heap.size X Z ∧ KpW w.heap.size Bd X Z ∧ Kept (W0.heap.size + 1) 0 X Z ∧ St w ((Bk, 3, #[.int .i64 (pre ++ [x]).length]) :: L0) Ds Z ∧ KeepsFrom Bo W0 Z ∧ Below w.heap.size W0 Z := by
      rintro Z rfl
      have h1 := (HI.out.drewN nq).set HMK.out hk 0 (.int .i64 ((pre.length : Int) + 1))
      have hb1 : Below X.heap.size X (X.drewN nq) := below_drewN (Below.refl _ _) _
      have h2 : KeepsOthers X ((X.drewN nq).setCell ⟨Bk, 0, none⟩ (.int .i64 ((pre.length : Int) + 1))) := (KeepsOthers.of_grownBy (row := none) (below_grown0 hb1) (fun j o h => by cases h)).trans (KeepsOthers.setCell _ _ _)
      have h3 : Below w.heap.size X ((X.drewN nq).setCell ⟨Bk, 0, none⟩ (.int .i64 ((pre.length : Int) + 1))) := (hb1.mono hz).setCell (by simp; omega) _
      refine ⟨h2.from _, ⟨h3, Below.heap_setCell _ _ _ _ (by simpa using hnd)⟩, Kept.none h2.size, ?_, HKF.out.trans (h2.from _), HBL.out.trans h3⟩
      have e : (pre ++ [x]).length = pre.length + 1 := by simp
      rw [e, hv]
      exact h1
    have FIN := Lib.hid fin
    clear fin hv hz
    by_cases hs : (pre.length : Int) + 1 = inner
    · have he : ((pre.length : Int) + 1 == inner) = true := by simpa using hs
      have HS1 := Lib.hid hs
      clear hs
      gi_wp2
      obtain ⟨a1, a2, a3, a4, a5, a6⟩ := FIN.out _ rfl
      refine ⟨a1, ?_, a4, a5, a6⟩
      have := HS1.out; simp; omega
    · have he : ((pre.length : Int) + 1 == inner) = false := by simpa using hs
      have HS1 := Lib.hid hs
      clear hs
      gi_wp2
      obtain ⟨a1, a2, a3, a4, a5, a6⟩ := FIN.out _ rfl
      refine ⟨a1, a2, a3, ⟨a4, a5, a6⟩, ?_⟩
      have := HS1.out; simp; omega
  case done =>
    rintro X ⟨⟨hi, hkf, hbl⟩, hr⟩
    exact (hQ0 _ _ (hQ X _ hi (.inl rfl) hkf hbl)).1
  case stop =>
    rintro c pre X hp ⟨⟨rfl, h1⟩, hi, hkf, hbl⟩
    exact wpIn_exit (hQ0 _ _ (hQ X _ hi (.inr h1) hkf hbl)).2

set_option maxRecDepth 100000 in
set_option maxHeartbeats 4000000 in
theorem inside_outer (u0 u1 u2 u3 u7 u9 u10 u13 u14 u15 u16 u17 u18 u19 u20 u21 u22 u23 u24 u25 u26 u27 u28 u29 u30 u31 u32 u33 u34 u35 u36 u37 u38 u40 u41 u42 u43 u44 u45 u46 u47 u48 u49 u50 u51 u52 u53 u54 u55 u56 u57 u58 u59 u60 u61 u62 u63 u64 u65 u66 u67 u68 u69 u70 u71 u72 u73 u74 u75 u76 u77 u78 u79 u80 u81 u82 u83 u84 u85 u86 u87 u88 u89 u90 u91 u92 u93 u94 u95 u96 u97 u98 u99 u100 u101 u102 u103 u104 u105 u106 u107 u108 u109 u110 u111 u112 u113 u114 u115 u116 u117 u118 u119 : Value) (l : List UInt8) (hl : l.length ≤ 3000) (v0 : Value) (w : World) (hS : Sees w v0 (bytesV l)) (W0 : World) (L0 RL : BL) (Ds : List Nat) (au : Option Addr) (cu : Nat) (Bi Bu Br Bw Bf Bd Bn : Nat) (inner outer : Int) (ds : List Deferred) (Q : Exit → Act → World → Prop) (Q0 : Act → World → Prop) (hQ0 : ∀ a' w', Q0 a' w' → Q .normal a' w' ∧ Q (.exit 0) a' w')
    (hcm : cu ≤ maxLen) (hrow : RowK RL au ((whl l).map keyA))
    (m1 : (Bi, 3, #[.int .i64 inner]) ∈ L0) (m2 : (Bu, 3, #[.int .i64 outer]) ∈ L0) (m4 : (Bw, 43, #[.slice au (whl l).length cu]) ∈ L0) (m5 : (Bf, 50, #[.func (.func 32) #[] #[.pointer (some ⟨Bd, 0, none⟩)]]) ∈ L0) (m6 : (Bd, 22, #[v0]) ∈ L0) (mr : ∀ q ∈ RL, q ∈ L0) (mk : ∀ q ∈ L0, q.1 ≠ Bn) (hDs : ∀ D ∈ Ds, D < W0.heap.size)
    (hk : w.heap.size ≤ Bn) (hin : -9223372036854775808 ≤ inner ∧ inner ≤ 9223372036854775807) (hou : -9223372036854775808 ≤ outer ∧ outer ≤ 9223372036854775807)
    (h0 : St w ((Bn, 3, #[.int .i64 0]) :: L0) Ds W0)
    (hQ : ∀ (D : Nat) (X : World) (k : Nat), W0.heap.size ≤ D → X.heap[D]? = some (.deferred (some [])) → St w ((Bn, 3, #[.int .i64 k]) :: L0) Ds X → (k = (whl l).length ∨ (k : Int) = outer) →
      Q0 ⟨(List.toArray (u0 :: u1 :: u2 :: u3 :: (.pointer (some ⟨Bi, 0, none⟩)) :: (.pointer (some ⟨Bu, 0, none⟩)) :: (.pointer (some ⟨Br, 0, none⟩)) :: u7 :: (.pointer (some ⟨Bw, 0, none⟩)) :: u9 :: u10 :: (.pointer (some ⟨Bf, 0, none⟩)) :: (.pointer (some ⟨Bn, 0, none⟩)) :: u13 :: u14 :: u15 :: u16 :: u17 :: u18 :: u19 :: u20 :: u21 :: u22 :: u23 :: u24 :: u25 :: u26 :: u27 :: u28 :: u29 :: u30 :: u31 :: u32 :: u33 :: u34 :: u35 :: u36 :: u37 :: u38 :: (.func (.func 32) #[] #[.pointer (some ⟨Bd, 0, none⟩)]) :: u40 :: u41 :: u42 :: u43 :: u44 :: u45 :: u46 :: u47 :: u48 :: u49 :: u50 :: u51 :: u52 :: u53 :: u54 :: u55 :: u56 :: u57 :: u58 :: u59 :: u60 :: u61 :: u62 :: u63 :: u64 :: u65 :: u66 :: u67 :: u68 :: u69 :: u70 :: u71 :: u72 :: u73 :: u74 :: u75 :: u76 :: u77 :: u78 :: u79 :: u80 :: u81 :: u82 :: u83 :: u84 :: u85 :: u86 :: u87 :: u88 :: u89 :: u90 :: u91 :: u92 :: u93 :: u94 :: u95 :: u96 :: u97 :: u98 :: u99 :: u100 :: u101 :: u102 :: u103 :: u104 :: u105 :: u106 :: u107 :: u108 :: u109 :: u110 :: u111 :: u112 :: u113 :: u114 :: u115 :: u116 :: u117 :: u118 :: u119 :: [])), { target := .collected D, args := #[] } :: ds⟩ X) :
    (rangeAt Try.f9 0).wpIn Fence.wide 8 Try.prog Q ⟨(List.toArray (u0 :: u1 :: u2 :: u3 :: (.pointer (some ⟨Bi, 0, none⟩)) :: (.pointer (some ⟨Bu, 0, none⟩)) :: (.pointer (some ⟨Br, 0, none⟩)) :: u7 :: (.pointer (some ⟨Bw, 0, none⟩)) :: u9 :: u10 :: (.pointer (some ⟨Bf, 0, none⟩)) :: (.pointer (some ⟨Bn, 0, none⟩)) :: u13 :: u14 :: u15 :: u16 :: u17 :: u18 :: u19 :: u20 :: u21 :: u22 :: u23 :: u24 :: u25 :: u26 :: u27 :: u28 :: u29 :: u30 :: u31 :: u32 :: u33 :: u34 :: u35 :: u36 :: u37 :: u38 :: (.func (.func 32) #[] #[.pointer (some ⟨Bd, 0, none⟩)]) :: u40 :: u41 :: u42 :: u43 :: u44 :: u45 :: u46 :: u47 :: u48 :: u49 :: u50 :: u51 :: u52 :: u53 :: u54 :: u55 :: u56 :: u57 :: u58 :: u59 :: u60 :: u61 :: u62 :: u63 :: u64 :: u65 :: u66 :: u67 :: u68 :: u69 :: u70 :: u71 :: u72 :: u73 :: u74 :: u75 :: u76 :: u77 :: u78 :: u79 :: u80 :: u81 :: u82 :: u83 :: u84 :: u85 :: u86 :: u87 :: u88 :: u89 :: u90 :: u91 :: u92 :: u93 :: u94 :: u95 :: u96 :: u97 :: u98 :: u99 :: u100 :: u101 :: u102 :: u103 :: u104 :: u105 :: u106 :: u107 :: u108 :: u109 :: u110 :: u111 :: u112 :: u113 :: u114 :: u115 :: u116 :: u117 :: u118 :: u119 :: [])), ds⟩ W0 := by
  have hNL := whl_len l
  have hkl : ((whl l).map keyA).length = (whl l).length := by simp
  have HKL := Lib.hid hkl
  clear hkl
  have hbd : Blk W0 Bd 22 #[v0] := h0.tail.blks _ m6
  have hbx := hbd.lt
  have hbk := h0.head.lt
  show (Code.rangeFunc _ _ _ _).wpIn _ _ _ _ _ _
  refine range_out rfl (by omega) (gf := 32) (lb := #[.pointer (some ⟨Bd, 0, none⟩)]) rfl trivial (enters_of Try.func32 (by kernel_rfl) rfl)
    (walk_seq l (by omega) v0 w hS Bd _ (by omega) W0 h0.bel hbd) (fun h k => KpW.t h k) (KpW.b (w := W0) h0.bel.size hbx) (Below.refl _ _) (fun _ => rfl)
    (fun pre X => St w ((Bn, 3, #[.int .i64 pre.length]) :: L0) Ds X ∧ (pre = [] ∨ (pre.length : Int) ≠ outer))
    (fun c pre X => (c = .exit 0 ∧ (pre.length : Int) = outer) ∧ St w ((Bn, 3, #[.int .i64 pre.length]) :: L0) Ds X)
    (OwnFrom.and (St.own (fun pre : List RA => ((Bn, 3, #[.int .i64 pre.length]) :: L0)) h0.bel.size hDs) (fun _ _ _ _ h _ _ => h))
    (fun c => OwnFrom.and (fun _ _ _ _ h _ _ => h) (St.own (fun pre : List RA => ((Bn, 3, #[.int .i64 pre.length]) :: L0)) h0.bel.size hDs)) (Abd.none _ _) (fun _ => Abd.none _ _)
    ⟨h0, .inl rfl⟩
    (fun x a' X => ∃ Bx, Blk X Bx 27 #[.int .i64 x.sq, .int .i64 x.kd, .string (str x.tx)] ∧ a' = { tmps := (List.toArray (u0 :: u1 :: u2 :: u3 :: (.pointer (some ⟨Bi, 0, none⟩)) :: (.pointer (some ⟨Bu, 0, none⟩)) :: (.pointer (some ⟨Br, 0, none⟩)) :: u7 :: (.pointer (some ⟨Bw, 0, none⟩)) :: u9 :: u10 :: (.pointer (some ⟨Bf, 0, none⟩)) :: (.pointer (some ⟨Bn, 0, none⟩)) :: u13 :: (.pointer (some ⟨Bx, 0, none⟩)) :: u15 :: u16 :: u17 :: u18 :: u19 :: u20 :: u21 :: u22 :: u23 :: u24 :: u25 :: u26 :: u27 :: u28 :: u29 :: u30 :: u31 :: u32 :: u33 :: u34 :: u35 :: u36 :: u37 :: u38 :: (.func (.func 32) #[] #[.pointer (some ⟨Bd, 0, none⟩)]) :: (.int .i64 x.pl) :: (.agg #[.int .i64 x.sq, .int .i64 x.kd, .string (str x.tx)]) :: u42 :: u43 :: u44 :: u45 :: u46 :: u47 :: u48 :: u49 :: u50 :: u51 :: u52 :: u53 :: u54 :: u55 :: u56 :: u57 :: u58 :: u59 :: u60 :: u61 :: u62 :: u63 :: u64 :: u65 :: u66 :: u67 :: u68 :: u69 :: u70 :: u71 :: u72 :: u73 :: u74 :: u75 :: u76 :: u77 :: u78 :: u79 :: u80 :: u81 :: u82 :: u83 :: u84 :: u85 :: u86 :: u87 :: u88 :: u89 :: u90 :: u91 :: u92 :: u93 :: u94 :: u95 :: u96 :: u97 :: u98 :: u99 :: u100 :: u101 :: u102 :: u103 :: u104 :: u105 :: u106 :: u107 :: u108 :: u109 :: u110 :: u111 :: u112 :: u113 :: u114 :: u115 :: u116 :: u117 :: u118 :: u119 :: [])), defers := [] })
    (fun x a' s X Y row hs hg hr => by obtain ⟨Bx, h1, h2⟩ := hs; exact ⟨Bx, blk_own2 (β := Unit) s X Y row h1 hg (fun r e => (hr r e).2), h2⟩) ?assign ?body ?done ?stop
  case assign =>
    rintro lq pre x X K ⟨hi, hr⟩ hx hsx hK
    gi_wp2
    exact hK _ _ ((KeepsOthers.alloc _ _).from _) ⟨(Below.refl _ _).alloc hi.bel.size _, Below.heap_alloc _ _ _ (hi.tail.blks _ m6).lt⟩ (Kept.none (by simp)) ⟨hi.alloc _, hr⟩ ⟨X.heap.size, Blk.new X _ _, rfl⟩
  case body =>
    rintro lq pre x a' X hlq0 _ ⟨rr, hrr⟩ ⟨hi, hr⟩ ⟨Bx, hX, rfl⟩ hx hsx
    obtain ⟨hnx, hlt⟩ := pre_next hx
    have cF := (hi.tail.blks _ m5).cell 0
    have lF := (hi.tail.blks _ m5).lt
    simp only [List.getElem?_toArray, List.getElem?_cons_zero] at cF
    have hcF : (X.alloc (.cells #[.int .i64 0] 3)).cell? ⟨Bf, 0, none⟩ = some (.func (.func 32) #[] #[.pointer (some ⟨Bd, 0, none⟩)]) := by rw [((Below.refl X.heap.size X).alloc (Nat.le_refl _) _).cell (p := ⟨Bf, 0, none⟩) lF]; exact cF
    have HI := Lib.hid hi
    have HX := Lib.hid hX
    have HRR := Lib.hid hrr
    have HMK := Lib.hid mk
    have HNX := Lib.hid hnx
    have HQ0 := Lib.hid h0
    clear hi hX hrr hnx mk hQ h0 cF hbd
    gi_wp2
    refine inside_inner _ _ _ _ _ _ _ _ _ _ _ _ _ _ _ _ _ _ _ _ _ _ _ _ _ _ _ _ _ _ _ _ _ _ _ _ _ _ _ _ _ _ _ _ _ _ _ _ _ _ _ _ _ _ _ _ _ _ _ _ _ _ _ _ _ _ _ _ _ _ _ _ _ _ _ _ _ _ _ _ _ _ _ _ _ _ _ _ _ _ _ _ _ _ _ _ _ _ _ _ _ _ _ _ _ _ _ _ _ _ _ _ l hl v0 w hS _ ((Bn, 3, #[.int .i64 pre.length]) :: (Bx, 27, #[.int .i64 x.sq, .int .i64 x.kd, .string (str x.tx)]) :: L0) RL Ds au cu Bi _ _ Bw _ Bd _ X.heap.size W0.heap.size lq inner _ _ (fun a' w' h => ⟨h, h⟩) hcm hrow
      (by simp [m1]) (by simp [m4]) (by simp [m6]) (fun q hq => by simp [mr q hq]) ?_ ?_ HI.out.bel.size hin ⟨rr, (Below.heap_alloc _ _ _ (Array.getElem?_eq_some_iff.1 HRR.out).1).trans HRR.out⟩ ?_ ?_
    · intro q hq
      rcases List.mem_cons.1 hq with rfl | hq
      · exact Nat.ne_of_lt HI.out.head.lt
      · rcases List.mem_cons.1 hq with rfl | hq
        · exact Nat.ne_of_lt HX.out.lt
        · exact Nat.ne_of_lt (HI.out.tail.blks q hq).lt
    · intro D hD; have := hDs D hD; simp; omega
    · exact ((HI.out.tail.push (p := (Bx, 27, #[.int .i64 x.sq, .int .i64 x.kd, .string (str x.tx)])) HX.out).push (p := (Bn, 3, #[.int .i64 pre.length])) HI.out.head).new _ _
    rintro X2 k hi2 hk2 hkf2 hbl2
    have hnb : ∀ q ∈ L0, q.1 ≠ Bn := HMK.out
    have hk1 : ((whl l).map keyA)[pre.length]? = some (keyA x) := by rw [List.getElem?_map, HNX.out]; rfl
    obtain ⟨g, rfl, hq⟩ := hrow X2 (fun q hq => hi2.tail.tail.tail.blks q (mr q hq)) (by rw [HKL.out]; omega)
    have kat := ksC_at _ _ _ hk1
    have q0 := hq _ _ kat.1
    have q1 := hq _ _ kat.2.1
    have q2 := hq _ _ kat.2.2
    have cI := (hi2.tail.tail.tail.blks _ m1).cell 0
    have cU := (hi2.tail.tail.tail.blks _ m2).cell 0
    have cW := (hi2.tail.tail.tail.blks _ m4).cell 0
    have cN := hi2.tail.head.cell 0
    have fN := hi2.tail.head.frozen 0
    have cK := hi2.head.cell 0
    have x0 := hi2.tail.tail.head.cell 0
    have x1 := hi2.tail.tail.head.cell 1
    have x2 := hi2.tail.tail.head.cell 2
    have hqq := rec_neq x.sq x.kd (str x.tx)
    have hge : decide (((whl l).length : Int) ≤ (pre.length : Int)) = false := by simp; omega
    have hge2 : decide ((whl l).length ≤ pre.length) = false := by simp; omega
    have hht := x.ht
    simp only [List.getElem?_toArray, List.getElem?_cons_zero, List.getElem?_cons_succ, keyA] at cI cU cW cK cN x0 x1 x2 q0 q1 q2
    have hnu : Bu ≠ Bn := hnb _ m2
    have hnd : Bd ≠ Bn := hnb _ m6
    have HI2 := Lib.hid hi2
    have HKF2 := Lib.hid hkf2
    have HBL2 := Lib.hid hbl2
    have hv : (Value.int .i64 (((pre.length + 1 : Nat) : Int))) = .int .i64 ((pre.length : Int) + 1) := by simp
    have hxn : Bx ≠ Bn := fun e => by
      have h1 : X.heap[Bx]? = _ := HX.out
      have h2 : X.heap[Bn]? = _ := HI.out.head
      rw [e, h2] at h1
      simp only [Option.some.injEq, Obj.cells.injEq] at h1
      exact absurd h1.2.1 (by decide)
    have fin : ∀ (nq : Nat) (Z : World), Z = (X2.drewN nq).setCell ⟨Bn, 0, none⟩ (.int .i64 ((pre.length : Int) + 1)) → KeepsFrom W0.heap.size X Z ∧ KpW w.heap.size Bd X Z ∧ Kept (W0.heap.size + 2) 0 X Z ∧ St w ((Bn, 3, #[.int .i64 (pre ++ [x]).length]) :: L0) Ds Z := by
      rintro nq Z rfl
      have h1 := ((HI2.out.tail.weak (L' := (Bn, 3, #[.int .i64 pre.length]) :: L0) (fun q hq => by rcases List.mem_cons.1 hq with rfl | hq <;> simp_all)).drewN nq).set HMK.out hk 0 (.int .i64 ((pre.length : Int) + 1))
      have hb1 : Below X2.heap.size X2 (X2.drewN nq) := below_drewN (Below.refl _ _) _
      have h2 : KeepsOthers X2 ((X2.drewN nq).setCell ⟨Bn, 0, none⟩ (.int .i64 ((pre.length : Int) + 1))) := (KeepsOthers.of_grownBy (row := none) (below_grown0 hb1) (fun j o h => by cases h)).trans (KeepsOthers.setCell _ _ _)
      have h4 : KeepsFrom W0.heap.size X ((X2.drewN nq).setCell ⟨Bn, 0, none⟩ (.int .i64 ((pre.length : Int) + 1))) := ((KeepsOthers.alloc X _).from _).trans (HKF2.out.trans (h2.from _))
      have h3 : Below w.heap.size X2 ((X2.drewN nq).setCell ⟨Bn, 0, none⟩ (.int .i64 ((pre.length : Int) + 1))) := (hb1.mono HI2.out.bel.size).setCell (by simp; omega) _
      refine ⟨h4, ⟨((Below.refl _ X).alloc HI.out.bel.size _).trans (HBL2.out.trans h3), ?_⟩, Kept.none h4.size, ?_⟩
      · have e1 : ((X2.drewN nq).setCell ⟨Bn, 0, none⟩ (.int .i64 ((pre.length : Int) + 1))).heap[Bd]? = some (.cells #[v0] 22 (0, 0)) := h1.tail.blks _ m6
        have e2 : X.heap[Bd]? = some (.cells #[v0] 22 (0, 0)) := HI.out.tail.blks _ m6
        rw [e1, e2]
      · have e : (pre ++ [x]).length = pre.length + 1 := by simp
        rw [e, hv]
        exact h1
    have FIN := Lib.hid fin
    clear fin hv hi2 hkf2 hbl2 hq kat hk1 hnb hrow mr hcF
    have ht : ((k : Int) != ((whl l).length : Int)) = false ∨ (((k : Int) != ((whl l).length : Int)) = true ∧ ((k : Int) != inner) = false) := by
      simp only [bne_eq_false_iff_eq, bne_iff_ne]
      omega
    have hrI := hin
    clear hk2
    rcases ht with ht | ⟨ht, ht2⟩
    all_goals
      gi_wp2
      refine quiet_round rfl rfl (by kernel_rfl) (by kernel_rfl) ?_
      repeat (gi_big_quiet_step (fail))
      refine wpQuietIn_nil ?_
      intro _ hw'
      obtain ⟨nq, rfl⟩ := hw'
      by_cases hs : (pre.length : Int) + 1 = outer
      · have he : ((pre.length : Int) + 1 == outer) = true := by simpa using hs
        have HS1 := Lib.hid hs
        clear hs
        gi_wp2
        obtain ⟨a1, a2, a3, a4⟩ := FIN.out nq _ rfl
        refine ⟨a1, ?_, a4⟩
        have := HS1.out; simp; omega
      · have he : ((pre.length : Int) + 1 == outer) = false := by simpa using hs
        have HS1 := Lib.hid hs
        clear hs
        gi_wp2
        obtain ⟨a1, a2, a3, a4⟩ := FIN.out nq _ rfl
        refine ⟨a1, a2, a3, a4, ?_⟩
        have := HS1.out; simp; omega
  case done =>
    rintro D X hD ⟨hi, hr⟩ hK
    exact (hQ0 _ _ (hQ D X _ hD hK hi (.inl rfl))).1
  case stop =>
    rintro D c pre X hD hp ⟨⟨rfl, h1⟩, hi⟩ hK
    exact wpIn_exit (hQ0 _ _ (hQ D X _ hD hK hi (.inr h1))).2

set_option maxRecDepth 100000 in
set_option maxHeartbeats 4000000 in
theorem inside_third (u0 u1 u2 u3 u7 u9 u10 u13 u14 u15 u16 u17 u18 u19 u20 u21 u22 u23 u24 u25 u26 u27 u28 u29 u30 u31 u32 u33 u34 u35 u36 u37 u38 u39 u40 u41 u42 u43 u44 u45 u46 u47 u48 u49 u50 u51 u52 u53 u54 u55 u56 u57 u58 u59 u60 u61 u62 u63 u64 u65 u66 u67 u68 u69 u70 u71 u72 u73 u74 u75 u76 u77 u78 u79 u80 u81 u82 u83 u84 u85 u86 u87 u88 u89 u90 u91 u92 u93 u94 u95 u96 u97 u98 u100 u101 u102 u103 u104 u105 u106 u107 u108 u109 u110 u111 u112 u113 u114 u115 u116 u117 u118 u119 : Value) (l : List UInt8) (hl : l.length ≤ 3000) (v0 : Value) (w : World) (hS : Sees w v0 (bytesV l)) (W0 : World) (L0 RL : BL) (Ds : List Nat) (au : Option Addr) (cu : Nat) (Bi Bu Br Bw Bf Bd Bn : Nat) (ds : List Deferred) (Q : Exit → Act → World → Prop)
    (_ : cu ≤ maxLen) (hrow : RowK RL au ((whl l).map keyA))
    (m4 : (Bw, 43, #[.slice au (whl l).length cu]) ∈ L0) (m6 : (Bd, 22, #[v0]) ∈ L0) (mr : ∀ q ∈ RL, q ∈ L0) (mk : ∀ q ∈ L0, q.1 ≠ Bn) (hDs : ∀ D ∈ Ds, D < W0.heap.size)
    (hk : w.heap.size ≤ Bn) (h0 : St w ((Bn, 3, #[.int .i64 0]) :: L0) Ds W0)
    (hQ : ∀ (D : Nat) (X : World), W0.heap.size ≤ D → X.heap[D]? = some (.deferred (some [])) → St w ((Bn, 3, #[.int .i64 (whl l).length]) :: L0) Ds X →
      Q .normal ⟨(List.toArray (u0 :: u1 :: u2 :: u3 :: (.pointer (some ⟨Bi, 0, none⟩)) :: (.pointer (some ⟨Bu, 0, none⟩)) :: (.pointer (some ⟨Br, 0, none⟩)) :: u7 :: (.pointer (some ⟨Bw, 0, none⟩)) :: u9 :: u10 :: (.pointer (some ⟨Bf, 0, none⟩)) :: (.pointer (some ⟨Bn, 0, none⟩)) :: u13 :: u14 :: u15 :: u16 :: u17 :: u18 :: u19 :: u20 :: u21 :: u22 :: u23 :: u24 :: u25 :: u26 :: u27 :: u28 :: u29 :: u30 :: u31 :: u32 :: u33 :: u34 :: u35 :: u36 :: u37 :: u38 :: u39 :: u40 :: u41 :: u42 :: u43 :: u44 :: u45 :: u46 :: u47 :: u48 :: u49 :: u50 :: u51 :: u52 :: u53 :: u54 :: u55 :: u56 :: u57 :: u58 :: u59 :: u60 :: u61 :: u62 :: u63 :: u64 :: u65 :: u66 :: u67 :: u68 :: u69 :: u70 :: u71 :: u72 :: u73 :: u74 :: u75 :: u76 :: u77 :: u78 :: u79 :: u80 :: u81 :: u82 :: u83 :: u84 :: u85 :: u86 :: u87 :: u88 :: u89 :: u90 :: u91 :: u92 :: u93 :: u94 :: u95 :: u96 :: u97 :: u98 :: (.func (.func 32) #[] #[.pointer (some ⟨Bd, 0, none⟩)]) :: u100 :: u101 :: u102 :: u103 :: u104 :: u105 :: u106 :: u107 :: u108 :: u109 :: u110 :: u111 :: u112 :: u113 :: u114 :: u115 :: u116 :: u117 :: u118 :: u119 :: [])), { target := .collected D, args := #[] } :: ds⟩ X) :
    (rangeAt Try.f9 1).wpIn Fence.wide 8 Try.prog Q ⟨(List.toArray (u0 :: u1 :: u2 :: u3 :: (.pointer (some ⟨Bi, 0, none⟩)) :: (.pointer (some ⟨Bu, 0, none⟩)) :: (.pointer (some ⟨Br, 0, none⟩)) :: u7 :: (.pointer (some ⟨Bw, 0, none⟩)) :: u9 :: u10 :: (.pointer (some ⟨Bf, 0, none⟩)) :: (.pointer (some ⟨Bn, 0, none⟩)) :: u13 :: u14 :: u15 :: u16 :: u17 :: u18 :: u19 :: u20 :: u21 :: u22 :: u23 :: u24 :: u25 :: u26 :: u27 :: u28 :: u29 :: u30 :: u31 :: u32 :: u33 :: u34 :: u35 :: u36 :: u37 :: u38 :: u39 :: u40 :: u41 :: u42 :: u43 :: u44 :: u45 :: u46 :: u47 :: u48 :: u49 :: u50 :: u51 :: u52 :: u53 :: u54 :: u55 :: u56 :: u57 :: u58 :: u59 :: u60 :: u61 :: u62 :: u63 :: u64 :: u65 :: u66 :: u67 :: u68 :: u69 :: u70 :: u71 :: u72 :: u73 :: u74 :: u75 :: u76 :: u77 :: u78 :: u79 :: u80 :: u81 :: u82 :: u83 :: u84 :: u85 :: u86 :: u87 :: u88 :: u89 :: u90 :: u91 :: u92 :: u93 :: u94 :: u95 :: u96 :: u97 :: u98 :: (.func (.func 32) #[] #[.pointer (some ⟨Bd, 0, none⟩)]) :: u100 :: u101 :: u102 :: u103 :: u104 :: u105 :: u106 :: u107 :: u108 :: u109 :: u110 :: u111 :: u112 :: u113 :: u114 :: u115 :: u116 :: u117 :: u118 :: u119 :: [])), ds⟩ W0 := by
  have hNL := whl_len l
  have hkl : ((whl l).map keyA).length = (whl l).length := by simp
  have HKL := Lib.hid hkl
  clear hkl
  have hbd : Blk W0 Bd 22 #[v0] := h0.tail.blks _ m6
  have hbx := hbd.lt
  have hbk := h0.head.lt
  show (Code.rangeFunc _ _ _ _).wpIn _ _ _ _ _ _
  refine range_out rfl (by omega) (gf := 32) (lb := #[.pointer (some ⟨Bd, 0, none⟩)]) rfl trivial (enters_of Try.func32 (by kernel_rfl) rfl)
    (walk_seq l (by omega) v0 w hS Bd _ (by omega) W0 h0.bel hbd) (fun h k => KpW.t h k) (KpW.b (w := W0) h0.bel.size hbx) (Below.refl _ _) (fun _ => rfl)
    (fun pre X => St w ((Bn, 3, #[.int .i64 pre.length]) :: L0) Ds X)
    (fun c pre X => False)
    (St.own (fun pre : List RA => ((Bn, 3, #[.int .i64 pre.length]) :: L0)) h0.bel.size hDs)
    (fun c => (fun _ _ _ _ h _ _ => h)) (Abd.none _ _) (fun _ => Abd.none _ _)
    h0
    (fun x a' X => ∃ Bx, Blk X Bx 27 #[.int .i64 x.sq, .int .i64 x.kd, .string (str x.tx)] ∧ a' = { tmps := (List.toArray (u0 :: u1 :: u2 :: u3 :: (.pointer (some ⟨Bi, 0, none⟩)) :: (.pointer (some ⟨Bu, 0, none⟩)) :: (.pointer (some ⟨Br, 0, none⟩)) :: u7 :: (.pointer (some ⟨Bw, 0, none⟩)) :: u9 :: u10 :: (.pointer (some ⟨Bf, 0, none⟩)) :: (.pointer (some ⟨Bn, 0, none⟩)) :: u13 :: u14 :: u15 :: u16 :: u17 :: u18 :: (.pointer (some ⟨Bx, 0, none⟩)) :: u20 :: u21 :: u22 :: u23 :: u24 :: u25 :: u26 :: u27 :: u28 :: u29 :: u30 :: u31 :: u32 :: u33 :: u34 :: u35 :: u36 :: u37 :: u38 :: u39 :: u40 :: u41 :: u42 :: u43 :: u44 :: u45 :: u46 :: u47 :: u48 :: u49 :: u50 :: u51 :: u52 :: u53 :: u54 :: u55 :: u56 :: u57 :: u58 :: u59 :: u60 :: u61 :: u62 :: u63 :: u64 :: u65 :: u66 :: u67 :: u68 :: u69 :: u70 :: u71 :: u72 :: u73 :: u74 :: u75 :: u76 :: u77 :: u78 :: u79 :: u80 :: u81 :: u82 :: u83 :: u84 :: u85 :: u86 :: u87 :: u88 :: u89 :: u90 :: u91 :: u92 :: u93 :: u94 :: u95 :: u96 :: u97 :: u98 :: (.func (.func 32) #[] #[.pointer (some ⟨Bd, 0, none⟩)]) :: (.int .i64 x.pl) :: (.agg #[.int .i64 x.sq, .int .i64 x.kd, .string (str x.tx)]) :: u102 :: u103 :: u104 :: u105 :: u106 :: u107 :: u108 :: u109 :: u110 :: u111 :: u112 :: u113 :: u114 :: u115 :: u116 :: u117 :: u118 :: u119 :: [])), defers := [] })
    (fun x a' s X Y row hs hg hr => by obtain ⟨Bx, h1, h2⟩ := hs; exact ⟨Bx, blk_own2 (β := Unit) s X Y row h1 hg (fun r e => (hr r e).2), h2⟩) ?assign ?body ?done ?stop
  case assign =>
    rintro lq pre x X K hi hx hsx hK
    gi_wp2
    exact hK _ _ ((KeepsOthers.alloc _ _).from _) ⟨(Below.refl _ _).alloc hi.bel.size _, Below.heap_alloc _ _ _ (hi.tail.blks _ m6).lt⟩ (Kept.none (by simp)) (hi.alloc _) ⟨X.heap.size, Blk.new X _ _, rfl⟩
  case body =>
    rintro lq pre x a' X _ _ _ hi ⟨Bx, hX, rfl⟩ hx hsx
    obtain ⟨hnx, hlt⟩ := pre_next hx
    have hk1 : ((whl l).map keyA)[pre.length]? = some (keyA x) := by rw [List.getElem?_map, hnx]; rfl
    obtain ⟨g, rfl, hq⟩ := hrow X (fun q hq => hi.tail.blks q (mr q hq)) (by rw [HKL.out]; omega)
    have kat := ksC_at _ _ _ hk1
    have q0 := hq _ _ kat.1
    have q1 := hq _ _ kat.2.1
    have q2 := hq _ _ kat.2.2
    have cW := (hi.tail.blks _ m4).cell 0
    have cK := hi.head.cell 0
    have fK := hi.head.frozen 0
    have x0 := hX.cell 0
    have x1 := hX.cell 1
    have x2 := hX.cell 2
    have hqq := rec_neq x.sq x.kd (str x.tx)
    have hge : decide (((whl l).length : Int) ≤ (pre.length : Int)) = false := by simp; omega
    have hge2 : decide ((whl l).length ≤ pre.length) = false := by simp; omega
    have hht := x.ht
    simp only [List.getElem?_toArray, List.getElem?_cons_zero, List.getElem?_cons_succ, keyA] at cW cK x0 x1 x2 q0 q1 q2
    have HI := Lib.hid hi
    have hnd : Bd ≠ Bn := mk _ m6
    have HBD := Lib.hid (hi.tail.blks _ m6)
    have HMK := Lib.hid mk
    clear hi hq kat hk1 hnx mk hQ hrow h0 mr
    gi_wp2
    refine quiet_round rfl rfl (by kernel_rfl) (by kernel_rfl) ?_
    repeat (gi_big_quiet_step (fail))
    refine wpQuietIn_nil ?_
    intro _ hw'
    obtain ⟨nq, rfl⟩ := hw'
    have hv : (Value.int .i64 (((pre.length + 1 : Nat) : Int))) = .int .i64 ((pre.length : Int) + 1) := by simp
    have hz : w.heap.size ≤ X.heap.size := HI.out.bel.size
    have fin : ∀ (Z : World), Z = (X.drewN nq).setCell ⟨Bn, 0, none⟩ (.int .i64 ((pre.length : Int) + 1)) → KeepsFrom W0.heap.size X Z ∧ KpW w.heap.size Bd X Z ∧ Kept (W0.heap.size + 2) 0 X Z ∧ St w ((Bn, 3, #[.int .i64 (pre ++ [x]).length]) :: L0) Ds Z := by
      rintro Z rfl
      have h1 := (HI.out.drewN nq).set HMK.out hk 0 (.int .i64 ((pre.length : Int) + 1))
      have hb1 : Below X.heap.size X (X.drewN nq) := below_drewN (Below.refl _ _) _
      have h2 : KeepsOthers X ((X.drewN nq).setCell ⟨Bn, 0, none⟩ (.int .i64 ((pre.length : Int) + 1))) := (KeepsOthers.of_grownBy (row := none) (below_grown0 hb1) (fun j o h => by cases h)).trans (KeepsOthers.setCell _ _ _)
      have h3 : Below w.heap.size X ((X.drewN nq).setCell ⟨Bn, 0, none⟩ (.int .i64 ((pre.length : Int) + 1))) := (hb1.mono hz).setCell (by simp; omega) _
      refine ⟨h2.from _, ⟨h3, Below.heap_setCell _ _ _ _ (by simpa using hnd)⟩, Kept.none h2.size, ?_⟩
      have e : (pre ++ [x]).length = pre.length + 1 := by simp
      rw [e, hv]
      exact h1
    have FIN := Lib.hid fin
    clear fin hv hz
    gi_wp2
    exact FIN.out _ rfl
  case done =>
    rintro D X hD hi hK
    exact hQ D X hD hK hi
  case stop =>
    rintro D c pre X hD hp h hK
    exact h.elim

end Go.Proofs.Ytcofndegcleicaa.Lg
