/- Members: the iterator's contract, its headers known beforehand, with two blocks of its own. -/
import Derived.Test.YtdiijannpfogdaaMn
import Derived.Test.YtdiijannpfogdaaSt
import Derived.RangeFuncNested
import Derived.RangeFuncBound
import Derived.RangeFuncCalls
import Derived.RangeFuncLeaves
import Derived.Shelf.Abstract
import Derived.Shelf.RegionOpen
import Derived.OwnWalkIn
import Derived.TacticsInMore
import Derived.LoopNIn
import Derived.LoopIn
import Derived.Sort.LoopGhostIn
namespace Go.Proofs.Ytdiijannpfogdaa.Tn
open Go.RowKit Go.Shelf
attribute [local go_sem] Oper.semAt_some
attribute [local go_sem] cs wv
abbrev mEnc (t : List UInt8) : Array Value := #[.string (str t)]
theorem hdr_all {n : Nat} {h : Nat → Bool} {lb : List UInt8} (hl : lb.length = n) (hk : lb.take n = (hdr n h).take n) : lb = hdr n h := by
  rw [List.take_of_length_le (by omega), List.take_of_length_le (by rw [hdr_len]; exact Nat.le_refl _)] at hk
  exact hk
theorem hdr_get (n : Nat) (h : Nat → Bool) (i : Nat) (hi : i < n) : (hdr n h)[i]? = some (bitD (h i)) := up_get _ _ _ hi
/-- what holds at a round's head, but for the texts seen -/
def MIn (n : Nat) (c o h : Nat → Bool) (n₀ : Nat) (w₀ : World) (Bd S : Nat) (lb : List UInt8) (W : World) : Prop :=
  Blk W S 28 (rc h) ∧ lb.length = n ∧ Blk W (S + 1) 5 (lb.map bv).toArray ∧ Below n₀ w₀ W ∧ Blk W Bd 30 (cs n c o)
theorem MIn.below {n : Nat} {c o h : Nat → Bool} {n₀ : Nat} {w₀ : World} {Bd S : Nat} {lb : List UInt8} {X Y : World} (m : MIn n c o h n₀ w₀ Bd S lb X) (hn : n₀ ≤ X.heap.size) (hb : Below X.heap.size X Y) : MIn n c o h n₀ w₀ Bd S lb Y :=
  ⟨Blk.below m.1 hb m.1.lt, m.2.1, Blk.below m.2.2.1 hb m.2.2.1.lt, m.2.2.2.1.trans (hb.mono hn), Blk.below m.2.2.2.2 hb m.2.2.2.2.lt⟩
theorem MIn.byte {n : Nat} {c o h : Nat → Bool} {n₀ : Nat} {w₀ : World} {Bd S : Nat} {lb : List UInt8} {X : World} (m : MIn n c o h n₀ w₀ Bd S lb X) (hS : n₀ ≤ S) (hd : Bd < S) (k : Nat) (b : UInt8) : MIn n c o h n₀ w₀ Bd S (lb.set k b) (X.setCell ⟨S + 1, k, none⟩ (bv b)) :=
  ⟨m.1.far (by simp) _, by rw [List.length_set]; exact m.2.1, blk_put k b m.2.2.1, m.2.2.2.1.setCell (by simp; omega) _, m.2.2.2.2.far (by simp; omega) _⟩
set_option maxRecDepth 100000 in
set_option maxHeartbeats 4000000 in
theorem members_seq {n : Nat} {c o : Nat → Bool} (hn : n ≤ 256) (w0 : World) (Bd N : Nat) (hN : 1 ≤ N) (w : World) (hB : Below w0.heap.size w0 w) (hBd : Blk w Bd 30 (cs n c o)) :
    Mm.SeqX Fence.wide N Try.prog 74 #[.pointer (some ⟨Bd, 0, none⟩)] mEnc (Mm.KpB w0.heap.size Bd) (memAll n c o) 2 w := fun lp J Jx W hW hJ hJx hA hAx hY h0 => by
  obtain ⟨i0, hi, hz0, hz1, hz2⟩ := info_parts info_byte
  have hmk : ∀ u : World, (Instr.makeSlice 83 (.int .i64 (n : Int)) (.int .i64 (n : Int))).run Try.prog u =
      .ok (.slice (some ⟨u.heap.size, 0, none⟩) n n) (u.alloc (.cells (madeCells #[.int .u8 0] n) 5)) := fun u => by
    have h := run_make (P := Try.prog) u 83 5 i0 (.int .u8 0) Try.underlying83 hi hz0 .i64 .i64 (n : Int) (n : Int) (by omega) (Int.le_refl _) (by rw [hz2]; omega) (by omega)
    simpa [hz1, Value.cells] using h
  have hbd : Blk W Bd 30 (cs n c o) := Blk.below hBd hW hBd.lt
  have hwb : Below w0.heap.size w0 W := hB.trans (hW.mono hB.size)
  have hbl := hbd.lt
  have hc0 := hbd.cell
  have HJ := Lib.hid hJ
  have HA := Lib.hid hA
  have HY := Lib.hid hY
  have HWB := Lib.hid hwb
  have HBD := Lib.hid hbd
  have H0 := Lib.hid h0
  clear hJ hJx hA hAx hY h0 hB hBd hW hwb hbd hi hz0 hz1 hz2
  refine callsIn_of_wp Try.func74 rfl trivial ?_ rfl
  simp only [Try.ntmps74, List.size_toArray, List.length_cons, List.length_nil, Nat.reduceAdd, Nat.reduceSub, Array.replicate_succ, Array.replicate_zero, List.push_toArray, List.append_toArray, List.nil_append, List.cons_append]
  by_cases hn0 : n = 0
  · have HE := Lib.hid (show memAll n c o = [] from by unfold memAll; rw [if_pos hn0])
    have t1 : ((n : Int) == 0) = true := by rw [hn0]; rfl
    clear hn0 hmk
    gi_wp2
    refine bodyPost_ret (results_none rfl _ _ _) rfl ?_
    exact ⟨⟨_, rfl⟩, .inl (by rw [HE.out]; exact H0.out)⟩
  · have t1 : ((n : Int) == 0) = false := by rw [beq_eq_false_iff_ne]; omega
    have HALL := Lib.hid (memAll_pos (by omega : 0 < n) c o)
    clear hn0
    gi_wp2
    have hm0 : MIn n c o o w0.heap.size w0 Bd W.heap.size (List.replicate n 0) ((W.alloc (.cells (rc o) 28)).alloc (.cells (madeCells #[.int .u8 0] n) 5)) := by
      refine ⟨(Blk.new W _ _).alloc _, by simp, ?_, (HWB.out.alloc HWB.out.size _).alloc (by have := HWB.out.size; simp; omega) _, (HBD.out.alloc _).alloc _⟩
      rw [← made_bytes]
      have := Blk.new (W.alloc (.cells (rc o) 28)) 5 (madeCells #[.int .u8 0] n)
      rw [World.size_alloc] at this
      exact this
    have hj0 : J [] ((W.alloc (.cells (rc o) 28)).alloc (.cells (madeCells #[.int .u8 0] n) 5)) :=
      Mm.below_below HJ.out (Mm.below_below HJ.out H0.out ((Below.refl _ _).alloc (Nat.le_refl _) _)) ((Below.refl _ _).alloc (Nat.le_refl _) _)
    change MIn n c o o w0.heap.size w0 Bd W.heap.size (List.replicate n 0) ((W.alloc (.cells #[.int .u64 (wd o 0 : Nat), .int .u64 (wd o 1 : Nat), .int .u64 (wd o 2 : Nat), .int .u64 (wd o 3 : Nat)] 28)).alloc (.cells (madeCells #[.int .u8 0] n) 5)) at hm0
    change J [] ((W.alloc (.cells #[.int .u64 (wd o 0 : Nat), .int .u64 (wd o 1 : Nat), .int .u64 (wd o 2 : Nat), .int .u64 (wd o 3 : Nat)] 28)).alloc (.cells (madeCells #[.int .u8 0] n) 5)) at hj0
    have HZ := HWB.out.size
    generalize ((W.alloc (.cells #[.int .u64 (wd o 0 : Nat), .int .u64 (wd o 1 : Nat), .int .u64 (wd o 2 : Nat), .int .u64 (wd o 3 : Nat)] 28)).alloc (.cells (madeCells #[.int .u8 0] n) 5)) = W2 at *
    have HM0 := Lib.hid hm0
    have HJ0 := Lib.hid hj0
    clear hm0 hj0 hc0 hmk
    gi_loopg [5] (2 ^ n - vlu o n + 1) (fun g t5 wr => ∃ (m : Bool) (pre : List (List UInt8)) (h : Nat → Bool) (lb : List UInt8), t5 = .bool m ∧ J pre wr ∧ MIn n c o h w0.heap.size w0 Bd W.heap.size lb wr ∧ (m = true → memT c n o = pre ++ memT c n h ∧ g = 2 ^ n - vlu h n + 1) ∧ (m = false → memT c n o = pre))
    case atStart => exact ⟨true, [], o, _, rfl, HJ0.out, HM0.out, fun _ => ⟨rfl, rfl⟩, fun h => by cases h⟩
    case round =>
      obtain ⟨m, pre, h, lb, rfl, hj, hmi, hmt, hmf⟩ := hrel
      have HJP := Lib.hid hj
      have HMI := Lib.hid hmi
      clear hj hmi
      cases m with
      | false =>
        have HF := Lib.hid (hmf rfl)
        clear hmt hmf
        gi_wp2
        refine bodyPost_end (results_none rfl _ _ _) rfl ?_
        exact ⟨⟨_, rfl⟩, .inl (by rw [HALL.out, HF.out]; exact HJP.out)⟩
      | true =>
        obtain ⟨hmt, hgk⟩ := hmt rfl
        have HMT := Lib.hid hmt
        have HGK := Lib.hid hgk
        clear hmt hmf hgk
        have hpre : pre ++ [hdr n h] <+: memT c n o := by
          obtain ⟨tl, htl⟩ := memT_cons c n h
          exact ⟨tl, by rw [HMT.out, htl]; simp⟩
        have HPRE := Lib.hid hpre
        clear hpre
        gi_wp2
        obtain ⟨wo, hwo⟩ : ∃ wo : World, wo = wr := ⟨_, rfl⟩
        rw [← hwo] at HJP HMI ⊢
        clear hwo
        gi_loopw [20] (fun t wr => ∃ (k : Nat) (lb' : List UInt8), t = .int .i64 k ∧ k ≤ n ∧ lb'.take k = (hdr n h).take k ∧ J pre wr ∧ MIn n c o h w0.heap.size w0 Bd W.heap.size lb' wr) (fun t _ => n - (intOf t).toNat)
        case atStart => exact ⟨0, lb, rfl, Nat.zero_le _, rfl, HJP.out, HMI.out⟩
        case round =>
          obtain ⟨k, lb', rfl, hk, htk, hj, hmi⟩ := hrel
          have hll : lb'.length = n := hmi.2.1
          by_cases hlt : k < n
          · have hex : ∃ x, wr.cell? ⟨W.heap.size + 1, k, none⟩ = some x := ⟨bv lb'[k], by rw [hmi.2.2.1.cell]; simp [hll, hlt]⟩
            obtain ⟨x0, hck⟩ := hex
            have hfk := hmi.2.2.1.frozen k
            have hm1 := hmi.byte HZ hbl k 48
            have hj1 : J pre (wr.setCell ⟨W.heap.size + 1, k, none⟩ (bv 48)) := HA.out pre wr _ (W.heap.size + 1) hj (only_set wr _ k _) (by omega) (by omega)
            have h48 : bv 48 = .int .u8 48 := rfl
            have h49 : bv 49 = .int .u8 49 := rfl
            have hs0 := set_take (by omega : k < lb'.length) htk (t := hdr n h) (b := bitD (h k)) (hdr_get n h k hlt)
            rw [h48] at hm1 hj1
            have HLL := Lib.hid hll
            have HS0 := Lib.hid hs0
            have HM1 := Lib.hid hm1
            have HJ1 := Lib.hid hj1
            have h256 : k < 256 := by omega
            clear htk hj hmi hll hs0 hm1 hj1 h48
            gi_wp2_with fail
            have cz := HM1.out.2.2.1.cell k
            have fz := HM1.out.2.2.1.frozen k
            have cz2 : ((lb'.set k 48).map bv).toArray[k]? = some (.int .u8 48) := by simp [HLL.out, hlt, bv]
            rw [cz2] at cz
            have hs49 : (lb'.set k 48).set k 49 = lb'.set k 49 := List.set_set ..
            clear cz2 hck hfk
            refine ⟨trivial, ?_⟩
            generalize (wr.setCell ⟨W.heap.size + 1, k, none⟩ (.int .u8 48)) = Z at *
            cases hb : h k with
            | true =>
              rw [hb] at HS0
              refine (callsIn_wide.2 (row_at h256 HM1.out.1 true hb)).mono ?_
              rintro e w' ⟨rfl, rfl⟩
              have hm2 := HM1.out.byte HZ hbl k 49
              have hj2 : J pre (Z.setCell ⟨W.heap.size + 1, k, none⟩ (bv 49)) := HA.out pre Z _ (W.heap.size + 1) HJ1.out (only_set Z _ k _) (by omega) (by omega)
              rw [hs49] at hm2
              rw [h49] at hm2 hj2
              have HM2 := Lib.hid hm2
              have HJ2 := Lib.hid hj2
              clear hm2 hj2 h49 hb hs49
              gi_wp2
              go_roundw
              case rel => exact ⟨k + 1, _, by go_num, by omega, HS0.out, HJ2.out, HM2.out⟩
              case measure => simp [intOf]; omega
            | false =>
              rw [hb] at HS0
              refine (callsIn_wide.2 (row_at h256 HM1.out.1 false hb)).mono ?_
              rintro e w' ⟨rfl, rfl⟩
              clear h49 hb hs49
              gi_wp2
              go_roundw
              case rel => exact ⟨k + 1, _, by go_num, by omega, HS0.out, HJ1.out, HM1.out⟩
              case measure => simp [intOf]; omega
          · obtain rfl : k = n := by omega
            have hlb : lb' = hdr k h := hdr_all hll htk
            subst hlb
            have hst := run_string_blk (P := Try.prog) Try.underlying83 Try.underlying5 Try.underlying9 (g := W.heap.size + 1) (n := k) (cap := k) (hdr_len k h) hmi.2.2.1
            have hz2 : W.heap.size + 2 ≤ wr.heap.size := by have := hmi.2.2.1.lt; omega
            obtain ⟨fn, tmps, assign, body, hy, hR⟩ := HY.out pre (hdr k h) wr hj (by rw [HALL.out]; exact HPRE.out) hz2
            dsimp only [mEnc] at hy
            have HMX := Lib.hid hmi
            clear htk hj hmi hll
            gi_wp2
            refine hR.mono ?_
            rintro e w3 (⟨rfl, hJ3, hk3, hkt3⟩ | ⟨rfl, hJx3⟩)
            · have hm3 : MIn k c o h w0.heap.size w0 Bd W.heap.size (hdr k h) w3 := ⟨(hkt3.2 _ (Nat.le_refl _) (by omega)).trans HMX.out.1, HMX.out.2.1, (hkt3.2 _ (by omega) (by omega)).trans HMX.out.2.2.1, HMX.out.2.2.2.1.trans hk3.1, hk3.2.trans HMX.out.2.2.2.2⟩
              have hc3 := hm3.2.2.2.2.cell
              have HM3 := Lib.hid hm3
              have HJ3 := Lib.hid hJ3
              clear hR hy hk3 hkt3 hm3 hJ3 hst
              gi_wp2_with fail
              refine ⟨trivial, ?_⟩
              refine (callsIn_wide.2 (next_any (n := k) (c := c) (o := o) hn h W.heap.size w3 HM3.out.1)).mono ?_
              rintro e w4 ⟨h', rfl, hg4, hb4, hx4⟩
              have hne1 : some (W.heap.size + 1) ≠ some W.heap.size := by simp
              have hne2 : some Bd ≠ some W.heap.size := by intro e; cases e; omega
              have hm4 : MIn k c o h' w0.heap.size w0 Bd W.heap.size (hdr k h) w4 := ⟨hb4, hdr_len _ _, HM3.out.2.2.1.grown hg4 hne1, HM3.out.2.2.2.1.grown hg4 HM3.out.2.2.2.1.size (fun j e => by cases e; exact HZ), HM3.out.2.2.2.2.grown hg4 hne2⟩
              have hj4 : J (pre ++ [hdr k h]) w4 := HA.out _ w3 w4 W.heap.size HJ3.out hg4 (Nat.le_refl _) (by omega)
              have HM4 := Lib.hid hm4
              have HJ4 := Lib.hid hj4
              have HX4 := Lib.hid hx4
              clear hm4 hj4 hx4 hg4 hb4 hc3
              cases hnx : nextF c k h with
              | none =>
                have HE := Lib.hid (show memT c k o = pre ++ [hdr k h] from by rw [HMT.out, memT_none hnx])
                clear hnx
                gi_wp2
                gi_roundg 0
                case rel => exact ⟨false, _, h', _, rfl, HJ4.out, HM4.out, (fun e => by cases e), fun _ => HE.out⟩
                case measure => have := HGK.out; omega
              | some h2 =>
                have hh : h' = h2 := HX4.out h2 hnx
                subst hh
                have HE := Lib.hid (show memT c k o = (pre ++ [hdr k h]) ++ memT c k h' from by rw [HMT.out, memT_some hnx]; simp)
                have hlt2 := next_less hnx
                have HLT := Lib.hid hlt2
                clear hnx hlt2 HX4
                gi_wp2
                gi_roundg (2 ^ k - vlu h' k + 1)
                case rel => exact ⟨true, _, h', _, rfl, HJ4.out, HM4.out, (fun _ => ⟨HE.out, rfl⟩), fun e => by cases e⟩
                case measure => have := HGK.out; have := HLT.out; omega
            · gi_wp2
              refine bodyPost_ret (results_none rfl _ _ _) rfl ?_
              exact ⟨⟨_, rfl⟩, .inr ⟨pre ++ [hdr k h], by rw [HALL.out]; exact HPRE.out, hJx3⟩⟩
end Go.Proofs.Ytdiijannpfogdaa.Tn
