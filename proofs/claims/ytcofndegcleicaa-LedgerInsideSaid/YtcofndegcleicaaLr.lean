/- LedgerWalks: one range over Walk. -/
import Derived.Test.YtcofndegcleicaaEv
namespace Go.Proofs.Ytcofndegcleicaa.Lg
open Go.RowKit Mm Go.Shelf
attribute [local go_sem] Oper.semAt_some
/-- the ranges over functions of a body, the outer ones -/
def rangesOf : Code → List Code
  | .rangeFunc g ps s b => [.rangeFunc g ps s b]
  | .seq a b => rangesOf a ++ rangesOf b
  | .block _ c => rangesOf c
  | .scope c => rangesOf c
  | .cond _ a b => rangesOf a ++ rangesOf b
  | .loop c => rangesOf c
  | _ => []
def rangeAt (f : Func) (i : Nat) : Code := ((f.body.map rangesOf).getD [])[i]?.getD .skip
/-- what comes next is the next of all -/
theorem pre_next {α : Type} {xs pre : List α} {x : α} (h : pre ++ [x] <+: xs) : xs[pre.length]? = some x ∧ pre.length < xs.length := by
  obtain ⟨r, rfl⟩ := h
  simp
theorem recs_pl (l : List UInt8) : ∀ (pre : List RA) (x : RA) (p sq : Nat), pre ++ [x] <+: recs l p sq → x.pl = endOf p pre := by
  intro pre
  induction pre with
  | nil =>
    intro x p sq h
    by_cases hn : nextOk l p sq
    · obtain ⟨r, hr, hpl, _⟩ := recs_yes hn
      rw [hr] at h
      obtain ⟨t, ht⟩ := h
      simp only [List.nil_append, List.cons_append, List.cons.injEq] at ht
      rw [ht.1, hpl]; rfl
    · rw [recs_no hn] at h
      obtain ⟨t, ht⟩ := h
      simp at ht
  | cons y pre ih =>
    intro x p sq h
    by_cases hn : nextOk l p sq
    · obtain ⟨r, hr, hpl, _, _, _, hlen, _⟩ := recs_yes hn
      rw [hr] at h
      obtain ⟨t, ht⟩ := h
      simp only [List.cons_append, List.cons.injEq] at ht
      have h2 := ih x _ _ ⟨t, ht.2⟩
      rw [h2, ht.1, ← hlen, ← hpl]
      rfl
    · rw [recs_no hn] at h
      obtain ⟨t, ht⟩ := h
      simp at ht
theorem endOf_le (l : List UInt8) (pre : List RA) (x : RA) (h : pre ++ [x] <+: whl l) : pre.length + 1 ≤ l.length ∧ x.pl ≤ 1000000 := ⟨by have := h.length_le; have := whl_len l; simp at *; omega, x.hp⟩
/-- deferred calls' blocks, none filled -/
def Marks (Ds : List Nat) (W : World) : Prop := ∀ D ∈ Ds, W.heap[D]? = some (.deferred (some []))
theorem marks_own {β : Type} {Ds : List Nat} {B : Nat} (hB : ∀ D ∈ Ds, D < B) : OwnFrom B (fun (_ : β) W => Marks Ds W) := fun s X Y row hs hg hr D hD =>
  (hg.block D (Array.getElem?_eq_some_iff.1 (hs D hD)).1 (fun e => by obtain ⟨h1, _⟩ := hr D e.symm; have := hB D hD; omega)).trans (hs D hD)
theorem marks_grown {Ds : List Nat} {X Y : World} {g : Nat} {t : TypeId} {cs : Array Value} (h : Marks Ds X) (hb : Blk X g t cs) (hg : X.grownBy Y (some g)) : Marks Ds Y := fun D hD =>
  (hg.block D (Array.getElem?_eq_some_iff.1 (h D hD)).1 (fun e => by cases e; have := h g hD; rw [show X.heap[g]? = _ from hb] at this; cases this)).trans (h D hD)
theorem marks_below {Ds : List Nat} {X Y : World} (h : Marks Ds X) (hb : Below X.heap.size X Y) : Marks Ds Y := fun D hD =>
  (hb.block D (Array.getElem?_eq_some_iff.1 (h D hD)).1).trans (h D hD)
/-- what holds at the head of a round of the range: rho the outer round, k the records seen -/
def Wi (w : World) (Bs Br Bw Bd : Nat) (sv uw v0 : Value) (B : Nat) (ks : List Ky) (Bo Bk Bp : Nat) (rho : Int) (Ds : List Nat) (k p : Nat) (X : World) : Prop :=
  Env w Bs Br Bw Bd sv uw v0 B ks X ∧ Blk X Bo 3 #[.int .i64 rho] ∧ Blk X Bk 3 #[.int .i64 k] ∧ Blk X Bp 3 #[.int .i64 p] ∧ Marks Ds X
section
variable {w X Y : World} {Bs Br Bw Bd Bo Bk Bp B : Nat} {sv uw v0 : Value} {ks : List Ky} {rho : Int} {Ds : List Nat} {k p : Nat}
theorem Wi.own {β : Type} (fk fp : β → Nat) (M : Nat) (hM : w.heap.size ≤ M) (hD : ∀ D ∈ Ds, D < M) : OwnFrom M (fun (b : β) X => Wi w Bs Br Bw Bd sv uw v0 B ks Bo Bk Bp rho Ds (fk b) (fp b) X) := fun s X Y row hs hg hr =>
  ⟨Env.own (β := β) M hM s X Y row hs.1 hg hr, blk_own2 s X Y row hs.2.1 hg (fun r e => (hr r e).2), blk_own2 s X Y row hs.2.2.1 hg (fun r e => (hr r e).2), blk_own2 s X Y row hs.2.2.2.1 hg (fun r e => (hr r e).2), marks_own (β := β) hD s X Y row hs.2.2.2.2 hg hr⟩
theorem Wi.below (h : Wi w Bs Br Bw Bd sv uw v0 B ks Bo Bk Bp rho Ds k p X) (hb : Below X.heap.size X Y) : Wi w Bs Br Bw Bd sv uw v0 B ks Bo Bk Bp rho Ds k p Y :=
  ⟨h.1.below hb, h.2.1.below hb h.2.1.lt, h.2.2.1.below hb h.2.2.1.lt, h.2.2.2.1.below hb h.2.2.2.1.lt, marks_below h.2.2.2.2 hb⟩
theorem Wi.alloc (h : Wi w Bs Br Bw Bd sv uw v0 B ks Bo Bk Bp rho Ds k p X) (o : Obj) : Wi w Bs Br Bw Bd sv uw v0 B ks Bo Bk Bp rho Ds k p (X.alloc o) := h.below ((Below.refl _ _).alloc (Nat.le_refl _) o)
theorem Wi.setK (h : Wi w Bs Br Bw Bd sv uw v0 B ks Bo Bk Bp rho Ds k p X) (k' : Nat) (h0 : w.heap.size ≤ Bk) (h1 : Bk ≠ Bs) (h2 : Bk ≠ Br) (h3 : Bk ≠ Bw) (h4 : Bk ≠ Bd) (h5 : Bk ≠ Bo) (h6 : Bk ≠ Bp) : Wi w Bs Br Bw Bd sv uw v0 B ks Bo Bk Bp rho Ds k' p (X.setCell ⟨Bk, 0, none⟩ (.int .i64 k')) :=
  ⟨h.1.set h.2.2.1 (by decide) 0 _ h0 h1 h2 h3 h4, h.2.1.far (fun e => h5 e.symm) _, by have := h.2.2.1.set_ 0 (.int .i64 k'); exact this, h.2.2.2.1.far (fun e => h6 e.symm) _, marks_grown h.2.2.2.2 h.2.2.1 (only_set X Bk 0 _)⟩
theorem Wi.setP (h : Wi w Bs Br Bw Bd sv uw v0 B ks Bo Bk Bp rho Ds k p X) (p' : Nat) (h0 : w.heap.size ≤ Bp) (h1 : Bp ≠ Bs) (h2 : Bp ≠ Br) (h3 : Bp ≠ Bw) (h4 : Bp ≠ Bd) (h5 : Bp ≠ Bo) (h6 : Bp ≠ Bk) : Wi w Bs Br Bw Bd sv uw v0 B ks Bo Bk Bp rho Ds k p' (X.setCell ⟨Bp, 0, none⟩ (.int .i64 p')) :=
  ⟨h.1.set h.2.2.2.1 (by decide) 0 _ h0 h1 h2 h3 h4, h.2.1.far (fun e => h5 e.symm) _, h.2.2.1.far (fun e => h6 e.symm) _, by have := h.2.2.2.1.set_ 0 (.int .i64 p'); exact this, marks_grown h.2.2.2.2 h.2.2.2.1 (only_set X Bp 0 _)⟩
end
/-- how the loop over Walk may end: all seen, or stopped in the first round -/
def EndK (rho stop : Int) (n k : Nat) : Prop := k = n ∨ (rho = 0 ∧ k ≤ n ∧ ((k : Int) = stop ∨ (stop ≤ 0 ∧ k = 1)))
set_option maxRecDepth 100000 in
set_option maxHeartbeats 4000000 in
theorem walks_range (u0 u1 u2 u5 u7 u8 u13 u14 u15 u16 u17 u18 u19 u20 u21 u22 u23 u24 u25 u26 u27 u28 u29 u30 u31 u32 u33 u34 u36 u37 u38 u39 u40 u41 u42 u43 u44 u45 u46 u47 u48 u49 u50 u51 u52 u53 u54 u55 u56 u57 u58 u59 u60 u61 u62 u63 u64 u65 u66 u67 u68 u69 u70 u71 u72 u73 u74 u75 u76 u77 u78 u79 u80 u81 u82 u83 u84 u85 u86 u87 u88 u89 u90 u91 u92 u93 u94 u95 u96 u97 u98 : Value) (l : List UInt8) (hl : l.length ≤ 1000000) (v0 : Value) (w : World) (hS : Sees w v0 (bytesV l)) (W0 : World) (B Bs Br Bw Bd Bo Bk Bp : Nat) (stop rho : Int) (uw : Value) (Ds : List Nat) (ds : List Deferred) (Q : Exit → Act → World → Prop) (Q0 : Act → World → Prop) (hQ0 : ∀ a' w', Q0 a' w' → Q .normal a' w' ∧ Q (.exit 2) a' w')
    (hstop : -9223372036854775808 ≤ stop ∧ stop ≤ 9223372036854775807) (hrho : rho = 0 ∨ rho = 1) (hB : w.heap.size ≤ Bs ∧ Bs < Br ∧ Br < Bw ∧ Bw < Bd ∧ Bd < Bo ∧ Bo < Bk ∧ Bk < Bp) (hDs : ∀ D ∈ Ds, D < W0.heap.size)
    (h0 : Wi w Bs Br Bw Bd (.int .i64 stop) uw v0 B ((whl l).map keyA) Bo Bk Bp rho Ds 0 0 W0)
    (hQ : ∀ (D : Nat) (W' : World) (k p : Nat), W0.heap.size ≤ D → W'.heap[D]? = some (.deferred (some [])) → Wi w Bs Br Bw Bd (.int .i64 stop) uw v0 B ((whl l).map keyA) Bo Bk Bp rho Ds k p W' → EndK rho stop (whl l).length k →
      Q0 ⟨(List.toArray (u0 :: u1 :: u2 :: (.pointer (some ⟨Bs, 0, none⟩)) :: (.pointer (some ⟨Br, 0, none⟩)) :: u5 :: (.pointer (some ⟨Bw, 0, none⟩)) :: u7 :: u8 :: (.func (.func 32) #[] #[.pointer (some ⟨Bd, 0, none⟩)]) :: (.pointer (some ⟨Bo, 0, none⟩)) :: (.pointer (some ⟨Bk, 0, none⟩)) :: (.pointer (some ⟨Bp, 0, none⟩)) :: u13 :: u14 :: u15 :: u16 :: u17 :: u18 :: u19 :: u20 :: u21 :: u22 :: u23 :: u24 :: u25 :: u26 :: u27 :: u28 :: u29 :: u30 :: u31 :: u32 :: u33 :: u34 :: (.func (.func 32) #[] #[.pointer (some ⟨Bd, 0, none⟩)]) :: u36 :: u37 :: u38 :: u39 :: u40 :: u41 :: u42 :: u43 :: u44 :: u45 :: u46 :: u47 :: u48 :: u49 :: u50 :: u51 :: u52 :: u53 :: u54 :: u55 :: u56 :: u57 :: u58 :: u59 :: u60 :: u61 :: u62 :: u63 :: u64 :: u65 :: u66 :: u67 :: u68 :: u69 :: u70 :: u71 :: u72 :: u73 :: u74 :: u75 :: u76 :: u77 :: u78 :: u79 :: u80 :: u81 :: u82 :: u83 :: u84 :: u85 :: u86 :: u87 :: u88 :: u89 :: u90 :: u91 :: u92 :: u93 :: u94 :: u95 :: u96 :: u97 :: u98 :: [])), { target := .collected D, args := #[] } :: ds⟩ W') :
    (rangeAt Try.f8 0).wpIn Fence.wide 8 Try.prog Q ⟨(List.toArray (u0 :: u1 :: u2 :: (.pointer (some ⟨Bs, 0, none⟩)) :: (.pointer (some ⟨Br, 0, none⟩)) :: u5 :: (.pointer (some ⟨Bw, 0, none⟩)) :: u7 :: u8 :: (.func (.func 32) #[] #[.pointer (some ⟨Bd, 0, none⟩)]) :: (.pointer (some ⟨Bo, 0, none⟩)) :: (.pointer (some ⟨Bk, 0, none⟩)) :: (.pointer (some ⟨Bp, 0, none⟩)) :: u13 :: u14 :: u15 :: u16 :: u17 :: u18 :: u19 :: u20 :: u21 :: u22 :: u23 :: u24 :: u25 :: u26 :: u27 :: u28 :: u29 :: u30 :: u31 :: u32 :: u33 :: u34 :: (.func (.func 32) #[] #[.pointer (some ⟨Bd, 0, none⟩)]) :: u36 :: u37 :: u38 :: u39 :: u40 :: u41 :: u42 :: u43 :: u44 :: u45 :: u46 :: u47 :: u48 :: u49 :: u50 :: u51 :: u52 :: u53 :: u54 :: u55 :: u56 :: u57 :: u58 :: u59 :: u60 :: u61 :: u62 :: u63 :: u64 :: u65 :: u66 :: u67 :: u68 :: u69 :: u70 :: u71 :: u72 :: u73 :: u74 :: u75 :: u76 :: u77 :: u78 :: u79 :: u80 :: u81 :: u82 :: u83 :: u84 :: u85 :: u86 :: u87 :: u88 :: u89 :: u90 :: u91 :: u92 :: u93 :: u94 :: u95 :: u96 :: u97 :: u98 :: [])), ds⟩ W0 := by
  have hbx : Blk W0 Bd 22 #[v0] := h0.1.2.2.2.1
  have hbw0 : Below w.heap.size w W0 := h0.1.2.2.2.2.2
  have hsz := h0.2.2.2.1.lt
  have hkl : ((whl l).map keyA).length = (whl l).length := by simp
  have HKL := Lib.hid hkl
  have HNL := whl_len l
  clear hkl
  show (Code.rangeFunc _ _ _ _).wpIn _ _ _ _ _ _
  refine range_out rfl (by omega) (gf := 32) (lb := #[.pointer (some ⟨Bd, 0, none⟩)]) rfl trivial (enters_of Try.func32 (by kernel_rfl) rfl)
    (walk_seq l hl v0 w hS Bd _ (by omega) W0 hbw0 hbx) (fun h k => KpW.t h k) (KpW.b (w := W0) hbw0.size (by omega)) (Below.refl _ _) (fun _ => rfl)
    (fun pre X => Wi w Bs Br Bw Bd (.int .i64 stop) uw v0 B ((whl l).map keyA) Bo Bk Bp rho Ds pre.length (endOf 0 pre) X ∧ (rho = 1 ∨ pre = [] ∨ (pre.length : Int) < stop))
    (fun c pre X => (c = .exit 2 ∧ rho = 0 ∧ stop ≤ (pre.length : Int) ∧ (pre.length = 1 ∨ (pre.length : Int) - 1 < stop)) ∧ Wi w Bs Br Bw Bd (.int .i64 stop) uw v0 B ((whl l).map keyA) Bo Bk Bp rho Ds pre.length (endOf 0 pre) X)
    (OwnFrom.and (Wi.own _ _ _ hbw0.size hDs) (fun _ _ _ _ h _ _ => h)) (fun c => OwnFrom.and (fun _ _ _ _ h _ _ => h) (Wi.own _ _ _ hbw0.size hDs)) (Abd.none _ _) (fun _ => Abd.none _ _)
    ⟨h0, .inr (.inl rfl)⟩
    (fun x a' X => ∃ Bx, Blk X Bx 27 #[.int .i64 x.sq, .int .i64 x.kd, .string (str x.tx)] ∧ a' = { tmps := (List.toArray (u0 :: u1 :: u2 :: (.pointer (some ⟨Bs, 0, none⟩)) :: (.pointer (some ⟨Br, 0, none⟩)) :: u5 :: (.pointer (some ⟨Bw, 0, none⟩)) :: u7 :: u8 :: (.func (.func 32) #[] #[.pointer (some ⟨Bd, 0, none⟩)]) :: (.pointer (some ⟨Bo, 0, none⟩)) :: (.pointer (some ⟨Bk, 0, none⟩)) :: (.pointer (some ⟨Bp, 0, none⟩)) :: (.int .i64 x.pl) :: (.pointer (some ⟨Bx, 0, none⟩)) :: u15 :: u16 :: u17 :: u18 :: u19 :: u20 :: u21 :: u22 :: u23 :: u24 :: u25 :: u26 :: u27 :: u28 :: u29 :: u30 :: u31 :: u32 :: u33 :: u34 :: (.func (.func 32) #[] #[.pointer (some ⟨Bd, 0, none⟩)]) :: (.int .i64 x.pl) :: (.agg #[.int .i64 x.sq, .int .i64 x.kd, .string (str x.tx)]) :: u38 :: u39 :: u40 :: u41 :: u42 :: u43 :: u44 :: u45 :: u46 :: u47 :: u48 :: u49 :: u50 :: u51 :: u52 :: u53 :: u54 :: u55 :: u56 :: u57 :: u58 :: u59 :: u60 :: u61 :: u62 :: u63 :: u64 :: u65 :: u66 :: u67 :: u68 :: u69 :: u70 :: u71 :: u72 :: u73 :: u74 :: u75 :: u76 :: u77 :: u78 :: u79 :: u80 :: u81 :: u82 :: u83 :: u84 :: u85 :: u86 :: u87 :: u88 :: u89 :: u90 :: u91 :: u92 :: u93 :: u94 :: u95 :: u96 :: u97 :: u98 :: [])), defers := [] })
    (fun x a' s X Y row hs hg hr => by obtain ⟨Bx, h1, h2⟩ := hs; exact ⟨Bx, blk_own2 (β := Unit) s X Y row h1 hg (fun r e => (hr r e).2), h2⟩) ?assign ?body ?done ?stop
  case assign =>
    rintro lp pre x X K ⟨hi, hr⟩ hx hsx hK
    gi_wp2
    exact hK _ _ ((KeepsOthers.alloc _ _).from _) ⟨(Below.refl _ _).alloc (by have := hi.1.2.2.2.2.2.size; omega) _, Below.heap_alloc _ _ _ hi.1.2.2.2.1.lt⟩ (Kept.none (by simp)) ⟨hi.alloc _, hr⟩ ⟨X.heap.size, Blk.new X _ _, rfl⟩
  case body =>
    rintro lp pre x a' X _ _ ⟨rr, hrr⟩ ⟨hi, hr⟩ ⟨Bx, hX, rfl⟩ hx hsx
    obtain ⟨hnx, hlt⟩ := pre_next hx
    have hpl := recs_pl l pre x 0 1 hx
    have hk1 : ((whl l).map keyA)[pre.length]? = some (keyA x) := by rw [List.getElem?_map, hnx]; rfl
    obtain ⟨g, cap, rfl, hcap, hg0, hg1, hq⟩ := own_at hi.1.2.2.2.2.1 (by rw [HKL.out]; omega)
    have kat := ksC_at _ _ _ hk1
    have q0 := hq _ _ kat.1
    have q1 := hq _ _ kat.2.1
    have q2 := hq _ _ kat.2.2
    have cB := hi.1.2.1.cell 0
    have cS := hi.1.1.cell 0
    have cW := hi.1.2.2.1.cell 0
    have cO := hi.2.1.cell 0
    have cK := hi.2.2.1.cell 0
    have cP := hi.2.2.2.1.cell 0
    have fK := hi.2.2.1.frozen 0
    have fP := hi.2.2.2.1.frozen 0
    have x0 := hX.cell 0
    have x1 := hX.cell 1
    have x2 := hX.cell 2
    have hqq := rec_neq x.sq x.kd (str x.tx)
    have hge : decide (((whl l).length : Int) ≤ (pre.length : Int)) = false := by simp; omega
    have hge2 : decide ((whl l).length ≤ pre.length) = false := by simp; omega
    have hne : ((x.pl : Int) != (endOf 0 pre : Int)) = false := by rw [hpl]; simp
    have hhp := x.hp
    have hht := x.ht
    have hep : endOf 0 pre ≤ 1000000 := by rw [← hpl]; exact x.hp
    have hsl : (str x.tx).size = x.tx.length := str_size _
    rw [HKL.out] at *
    simp only [List.getElem?_toArray, List.getElem?_cons_zero, List.getElem?_cons_succ, keyA] at cB cS cW cO cK cP x0 x1 x2 q0 q1 q2
    have HI := Lib.hid hi
    have HPL := Lib.hid hpl
    clear hi hq kat hk1 hnx hpl
    gi_wp2
    refine quiet_round rfl rfl (by kernel_rfl) (by kernel_rfl) ?_
    repeat (gi_big_quiet_step (fail))
    refine wpQuietIn_nil ?_
    intro _ hw'
    obtain ⟨nq, rfl⟩ := hw'
    gi_wp2
    refine still_fine 9 rfl (by kernel_rfl) (by kernel_rfl) ?_
    simp only [List.take_succ_cons, List.take_zero, List.drop_succ_cons, List.drop_zero]
    repeat still_step
    refine wpStill_nil ?_
    go_wp2
    refine ⟨rfl, ?_⟩
    have hb1 : Below X.heap.size X (X.drewN (nq + 1)) := below_drewN (Below.refl _ _) _
    have hi1 := (HI.out.below hb1).setP (endOf 0 pre + x.tx.length + 20) (by omega) (by omega) (by omega) (by omega) (by omega) (by omega) (by omega)
    have hv : (Value.int .i64 (((endOf 0 pre + x.tx.length + 20 : Nat) : Int))) = .int .i64 ((endOf 0 pre : Int) + (x.tx.length : Int) + 20) := by simp
    have hko1 : KeepsOthers X ((X.drewN (nq + 1)).setCell ⟨Bp, 0, none⟩ (.int .i64 ((endOf 0 pre : Int) + (x.tx.length : Int) + 20))) := (KeepsOthers.of_grownBy (row := none) (below_grown0 hb1) (fun j o h => by cases h)).trans (KeepsOthers.setCell _ _ _)
    have hkp1 : KpW w.heap.size Bd X ((X.drewN (nq + 1)).setCell ⟨Bp, 0, none⟩ (.int .i64 ((endOf 0 pre : Int) + (x.tx.length : Int) + 20))) := ⟨(below_drewN (Below.refl _ _) (nq + 1)).setCell (by simp; omega) _, Below.heap_setCell _ _ _ _ (by simp; omega)⟩
    rw [hv] at hi1
    generalize (X.drewN (nq + 1)).setCell ⟨Bp, 0, none⟩ (.int .i64 ((endOf 0 pre : Int) + (x.tx.length : Int) + 20)) = Y at *
    have cK1 := hi1.2.2.1.cell 0
    have fK1 := hi1.2.2.1.frozen 0
    have cO1 := hi1.2.1.cell 0
    have cS1 := hi1.1.1.cell 0
    simp only [List.getElem?_toArray, List.getElem?_cons_zero] at cK1 cO1 cS1
    have n1 : Bo ≠ Bk := by omega
    have n2 : Bs ≠ Bk := by omega
    have HKB := Lib.hid h0.1.2.2.2.2.2.size
    have HB0 := Lib.hid (show KpW w.heap.size Bd X Y from hkp1)
    have hv2 : (Value.int .i64 (((pre.length + 1 : Nat) : Int))) = .int .i64 ((pre.length : Int) + 1) := by simp
    have HV2 := Lib.hid hv2
    clear hv2
    have HI1 := Lib.hid hi1
    have HKO1 := Lib.hid hko1
    clear hi1 hv hkp1 hko1 hb1 HI h0 hQ cB cS cW cO cK cP x0 x1 x2 q0 q1 q2 hqq hge hge2 hne fK fP
    have fin : ∀ (Z : World), Z = Y.setCell ⟨Bk, 0, none⟩ (.int .i64 ((pre.length : Int) + 1)) → KeepsFrom W0.heap.size X Z ∧ KpW w.heap.size Bd X Z ∧ Kept (W0.heap.size + 2) 0 X Z ∧ Wi w Bs Br Bw Bd (.int .i64 stop) (.slice (some ⟨g, 0, none⟩) (whl l).length cap) v0 B ((whl l).map keyA) Bo Bk Bp rho Ds (pre ++ [x]).length (endOf 0 (pre ++ [x])) Z := by
      rintro Z rfl
      have h1 := HI1.out.setK (pre.length + 1) (by omega) (by omega) (by omega) (by omega) (by omega) (by omega) (by omega)
      rw [HV2.out] at h1
      have h2 := HKO1.out.trans (KeepsOthers.setCell Y ⟨Bk, 0, none⟩ (.int .i64 ((pre.length : Int) + 1)))
      refine ⟨h2.from _, HB0.out.t ?_, Kept.none h2.size, ?_⟩
      · exact ⟨(Below.refl _ _).setCell (by simp; omega) _, Below.heap_setCell _ _ _ _ (by simp; omega)⟩
      · rw [List.length_append, endOf_snoc, HPL.out]
        exact h1
    have FIN := Lib.hid fin
    clear fin
    rcases hrho with hh | hh
    · subst hh
      by_cases hs : stop ≤ (pre.length : Int) + 1
      · gi_wp2
        obtain ⟨a1, a2, a3, a4⟩ := FIN.out _ rfl
        refine ⟨a1, ?_, a4⟩
        simp
        rcases hr with hr | hr | hr
        · omega
        · exact ⟨by omega, .inl hr⟩
        · exact ⟨by omega, .inr hr⟩
      · gi_wp2
        obtain ⟨a1, a2, a3, a4⟩ := FIN.out _ rfl
        exact ⟨a1, a2, a3, a4, by simp; omega⟩
    · subst hh
      gi_wp2
      obtain ⟨a1, a2, a3, a4⟩ := FIN.out _ rfl
      exact ⟨a1, a2, a3, a4⟩
  case done =>
    rintro D X hD ⟨hi, hr⟩ hK
    exact (hQ0 _ _ (hQ D X _ _ hD hK hi (.inl rfl))).1
  case stop =>
    rintro D c pre X hD hp ⟨⟨rfl, h1, h2, h3⟩, hi⟩ hK
    refine wpIn_exit (hQ0 _ _ (hQ D X _ _ hD hK hi (.inr ⟨h1, hp.length_le, ?_⟩))).2
    omega
end Go.Proofs.Ytcofndegcleicaa.Lg
