/- Walk: the iterator's contract. -/
import Derived.RangeFuncNested
import Derived.RangeFuncBound
import Derived.RangeFuncCalls
import Derived.RangeFuncLeaves
import Derived.Shelf.Abstract
import Derived.Shelf.RegionOpen
import Derived.OwnWalkIn
import Derived.TacticsInMore
import Derived.LoopNIn
import Derived.LoopIn
import Derived.Test.YtndclkphglpknaaDoorFx
import Derived.Test.YtndclkphglpknaaDoorWp
namespace Go.Proofs.YtndclkphglpknaaDoor.Lg
open Go.RowKit Mm Go.Shelf
attribute [local go_sem] Oper.semAt_some
abbrev raEnc (x : RA) : Array Value := #[.int .i64 x.pl, .agg #[.int .i64 x.sq, .int .i64 x.kd, .string (str x.tx)]]
/-- what a round of a loop over Walk keeps: what lay below, and the box of the bytes -/
def KpW (n₀ Bd : Nat) (A B : World) : Prop := Below n₀ A B ∧ B.heap[Bd]? = A.heap[Bd]?
theorem KpW.t {n₀ Bd : Nat} {A B C : World} (h : KpW n₀ Bd A B) (k : KpW n₀ Bd B C) : KpW n₀ Bd A C := ⟨h.1.trans k.1, k.2.trans h.2⟩
theorem KpW.b {n₀ Bd : Nat} {w : World} (hn : n₀ ≤ w.heap.size) (hB : Bd < w.heap.size) (W : World) (l : Nat) (o o' : Obj) (hl : w.heap.size ≤ l) (h : W.heap[l]? = some o) (hc : o.isCells = false) (hw : o.isWalk = false) : KpW n₀ Bd W (W.putObj l o') :=
  ⟨belowK_b hn W l o o' hl h hc hw, World.putObj_heap_other (by omega)⟩
theorem below_grown0 {A B : World} (h : Below A.heap.size A B) : A.grownBy B none := ⟨h.os, h.tape, h.output, h.size, fun k hk _ => h.block k hk⟩
theorem abides_below {β : Type} {N : Nat} {J : β → World → Prop} (hJ : AbidesFrom N J) {s : β} {A B : World} (h : J s A) (hb : Below A.heap.size A B) : J s B := hJ s A B none h (below_grown0 hb) (fun r e => by cases e)
theorem walk_fn (a : Option Addr) (n c : Nat) (w : World) : Calls Tryd.prog 15 #[.slice a n c] w fun e w' => e = .returned (.func (.func 25) #[] #[.pointer (some ⟨w.heap.size, 0, none⟩)]) ∧ w' = w.alloc (.cells #[.slice a n c] 22) := by
  go_enter Tryd.func15, Tryd.ntmps15
  go_wp2
  go_ret
  exact ⟨rfl, rfl⟩
set_option maxRecDepth 100000 in
set_option maxHeartbeats 4000000 in
theorem walk_stops (l : List UInt8) (hl : l.length ≤ 1000000) (v : Value) (w0 : World) (hS : Sees w0 v (bytesV l)) (Bd n : Nat) (hn : 1 ≤ n) (w : World) (hB : Below w0.heap.size w0 w) (hBd : Blk w Bd 22 #[v]) :
    SeqStopsK Fence.wide n Tryd.prog 25 #[.pointer (some ⟨Bd, 0, none⟩)] raEnc (KpW w0.heap.size Bd) (fun ys => ys = whl l) (fun pre => pre <+: whl l) (whl l).length w := fun lp J Jx W hW hJ hJx hY h0 => by
  have HS := Lib.hid hS
  have HJ := Lib.hid hJ
  have HY := Lib.hid hY
  have HWB := Lib.hid (show Below w0.heap.size w0 W from hB.trans (hW.mono hB.size))
  have HBD := Lib.hid (show Blk W Bd 22 #[v] from hBd.below hW hBd.lt)
  have H0 := Lib.hid h0
  clear hS hJ hJx hY h0 hB hBd hW
  refine callsIn_of_wp Tryd.func25 rfl trivial ?_ rfl
  simp only [Tryd.ntmps25, List.size_toArray, List.length_cons, List.length_nil, Nat.reduceAdd, Nat.reduceSub, Array.replicate_succ, Array.replicate_zero, List.push_toArray, List.append_toArray, List.nil_append, List.cons_append]
  gi_wp2
  gi_loopw [3, 4] (fun a s wr => ∃ (pre : List RA) (p sq : Nat), a = .int .i64 p ∧ s = .int .i64 sq ∧ whl l = pre ++ recs l p sq ∧ p ≤ l.length ∧ sq ≤ p + 1 ∧ J pre wr ∧ Below w0.heap.size w0 wr ∧ Blk wr Bd 22 #[v]) (fun a _ _ => l.length - (intOf a).toNat)
  case atStart => exact ⟨[], 0, 1, rfl, rfl, rfl, Nat.zero_le _, by omega, H0.out, HWB.out, HBD.out⟩
  case round =>
    obtain ⟨pre, p, sq, rfl, rfl, hwh, hp, hsq, hJs, hbw, hbd⟩ := hrel
    have HWH := Lib.hid hwh
    clear hwh
    have hcb := hbd.cell 0
    simp only [List.getElem?_toArray, List.getElem?_cons_zero] at hcb
    by_cases hnx : nextOk l p sq
    · obtain ⟨r, hr, hpl, hrs, hrk, hrt, hrl, hss⟩ := recs_yes hnx
      have hlen := nextOk_len hnx
      have hv := readV_ok (l := l) (k := p) hp hnx.2.1
      rw [← hrs, ← hrk, ← hrt, ← hrl, hss] at hv
      rw [← hrl] at hr hlen
      have hRD := read_any l v p wr (HS.out.below hbw)
      rw [hv] at hRD
      have HRD := Lib.hid hRD
      have HY1 := Lib.hid (fun W1 (hJ1 : J pre W1) => HY.out pre r W1 hJ1 (by rw [HWH.out, hr]; simp))
      have HR := Lib.hid hr
      have HPL := Lib.hid hpl
      have HLN := hlen.1
      have hsl := r.ht
      have HSS := Lib.hid hss
      clear hr hpl hrs hrk hrt hrl hss hlen hv hRD hnx
      gi_wp2_with fail
      refine ⟨trivial, ?_⟩
      refine (callsIn_wide.2 HRD.out).mono ?_
      rintro e w1 ⟨rfl, hb1⟩
      have hJ1 : J pre (w1.alloc (.cells #[.int .i64 (sq : Int), .int .i64 (r.kd : Int), .string (str r.tx)] 40)) := abides_below HJ.out (abides_below HJ.out hJs hb1) ((Below.refl _ _).alloc (Nat.le_refl _) _)
      obtain ⟨fn, tmps, assign, body, hy, hR⟩ := HY1.out _ hJ1
      dsimp only [raEnc] at hy
      rw [HPL.out, HSS.out] at hy
      have hb2 : Below w0.heap.size w0 (w1.alloc (.cells #[.int .i64 (sq : Int), .int .i64 (r.kd : Int), .string (str r.tx)] 40)) := bal (bnx hbw hb1) _
      have hbd2 : Blk (w1.alloc (.cells #[.int .i64 (sq : Int), .int .i64 (r.kd : Int), .string (str r.tx)] 40)) Bd 22 #[v] := (hbd.below hb1 hbd.lt).alloc _
      clear HRD HY1
      gi_wp2
      refine hR.mono ?_
      rintro e w3 (⟨rfl, hJ3, hk3⟩ | ⟨rfl, hJx3⟩)
      · have hb3 := hb2.trans hk3.1
        have hbd3 : Blk w3 Bd 22 #[v] := hk3.2.trans hbd2
        clear hR hy hk3 hb2 hbd2 hJ1
        gi_wp2
        go_roundw
        case rel => exact ⟨pre ++ [r], p + r.tx.length + 20, sq + 1, by go_num, by go_num, by rw [HWH.out, HR.out]; simp, by omega, by omega, hJ3, hb3, hbd3⟩
        case measure => simp [intOf]; omega
      · gi_wp2
        refine bodyPost_ret (results_none rfl _ _ _) rfl ?_
        exact ⟨⟨_, rfl⟩, .inr ⟨pre ++ [r], ⟨recs l (p + r.tx.length + 20) (sq + 1), by rw [HWH.out, HR.out]; simp⟩, hJx3⟩⟩
    · have HNO := Lib.hid (show whl l = pre from by rw [HWH.out, recs_no hnx, List.append_nil])
      by_cases h0 : rdE (l.drop p) = 0
      · have hv := readV_ok (l := l) (k := p) hp h0
        have hRD := read_any l v p wr (HS.out.below hbw)
        rw [hv] at hRD
        have HRD := Lib.hid hRD
        have hne : ((n4 (l.drop p) 4 : Int) != (sq : Int)) = true := by
          rw [bne_iff_ne]
          intro h
          exact hnx ⟨hl, h0, by omega⟩
        clear hv hRD h0 hnx
        gi_wp2_with (refine ⟨trivial, ?_⟩; gi_at_call 12; refine (callsIn_wide.2 HRD.out).mono ?_; rintro e w1 ⟨rfl, hb1⟩)
        refine ⟨fun _ h => (by cases h), ?_⟩
        gi_wp2
        refine bodyPost_ret (results_none rfl _ _ _) rfl ?_
        exact ⟨⟨_, rfl⟩, .inl ⟨pre, HNO.out.symm, abides_below HJ.out (abides_below HJ.out hJs hb1) ((Below.refl _ _).alloc (Nat.le_refl _) _)⟩⟩
      · have hv := readV_err (l := l) (k := p) hp rfl h0
        have hRD := read_any l v p wr (HS.out.below hbw)
        rw [hv] at hRD
        have HRD := Lib.hid hRD
        have hne : (rdE (l.drop p) != 0) = true := by rw [bne_iff_ne]; exact h0
        clear hv hRD h0 hnx
        gi_wp2_with (refine ⟨trivial, ?_⟩; gi_at_call 12; refine (callsIn_wide.2 HRD.out).mono ?_; rintro e w1 ⟨rfl, hb1⟩)
        refine ⟨fun _ h => (by cases h), ?_⟩
        gi_wp2
        refine bodyPost_ret (results_none rfl _ _ _) rfl ?_
        exact ⟨⟨_, rfl⟩, .inl ⟨pre, HNO.out.symm, abides_below HJ.out (abides_below HJ.out hJs hb1) ((Below.refl _ _).alloc (Nat.le_refl _) _)⟩⟩
end Go.Proofs.YtndclkphglpknaaDoor.Lg
