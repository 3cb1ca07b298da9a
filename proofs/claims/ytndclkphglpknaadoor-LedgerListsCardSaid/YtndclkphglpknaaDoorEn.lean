/- Encode: the walks. -/
import Derived.Test.YtndclkphglpknaaDoorBy
import Derived.Test.YtndclkphglpknaaDoorEp
import Derived.Lib.LazyBuf
import Derived.Lib.SlBuf
import Derived.Laws.MakeOwn
import Derived.Deep.RegionHeld3
namespace Go.Proofs.YtndclkphglpknaaDoor.Lg
open Go.RowKit Mm
theorem fits_yes (k s : Int) (h : recOk k s) (w : World) : Calls Tryd.prog 18 #[.int .i64 k, .int .i64 s] w fun e w' => e = .returned (.bool true) ∧ w = w' := by
  obtain ⟨h1, h2, h3, h4⟩ := h
  go_enter Tryd.func18, Tryd.ntmps18
  go_wp2
  go_ret
  exact ⟨rfl, rfl⟩
theorem fits_no (k s : Int) (h : ¬ recOk k s) (w : World) : Calls Tryd.prog 18 #[.int .i64 k, .int .i64 s] w fun e w' => e = .returned (.bool false) ∧ w = w' := by
  have h' : k < 1 ∨ (1 ≤ k ∧ 4 < k) ∨ (1 ≤ k ∧ k ≤ 4 ∧ s < 1) ∨ (1 ≤ k ∧ k ≤ 4 ∧ 1 ≤ s ∧ 2147483647 < s) := by unfold recOk at h; omega
  clear h
  rcases h' with h | ⟨h1, h2⟩ | ⟨h1, h2, h3⟩ | ⟨h1, h2, h3, h4⟩
  all_goals
    try have e9 : decide (s ≤ 2147483647) = false := decide_eq_false (by omega)
    go_enter Tryd.func18, Tryd.ntmps18
    go_wp2
    go_ret
    exact ⟨by first | rfl | rw [← e9]; rfl, rfl⟩
theorem fb_i (n k : Nat) (_ : n < 4294967296) : IntKind.u8.wrap ((n : Int) / 2 ^ (24 - 8 * k)) = ((fb n k).toNat : Int) := by
  rw [fb_nat, IntKind.wrap_u8']
  have e : ((n : Int) / 2 ^ (24 - 8 * k)) = ((n / 2 ^ (24 - 8 * k) : Nat) : Int) := by simp
  rw [e]
  omega
theorem blk_put {w : World} {g : Nat} {l : List UInt8} (k : Nat) (b : UInt8) (h : Blk w g 5 (bytesV l).toArray) : Blk (w.setCell ⟨g, k, none⟩ (.int .u8 (b.toNat : Int))) g 5 (bytesV (l.set k b)).toArray := by
  have := h.set_ k (bv b)
  unfold bytesV at this ⊢
  rw [List.map_set]
  rw [List.setIfInBounds_toArray] at this
  exact this
theorem blk_byte {w : World} {g : Nat} {l : List UInt8} (h : Blk w g 5 (bytesV l).toArray) (k : Nat) (hk : k < l.length) : w.cell? ⟨g, k, none⟩ = some (.int .u8 (l[k].toNat : Int)) := by
  rw [h.cell, List.getElem?_toArray, bytesV_at l k hk]
set_option maxRecDepth 100000 in
set_option maxHeartbeats 1000000 in
theorem put_any (g len cap i n : Nat) (l : List UInt8) (w : World) (hi : i + 4 ≤ len) (hl : l.length = len) (hn : n < 4294967296) (hm : len ≤ 1000000) (hB : Blk w g 5 (bytesV l).toArray) :
    Calls Tryd.prog 19 #[.slice (some ⟨g, 0, none⟩) len cap, .int .i64 (i : Int), .int .i64 (n : Int)] w fun e w' => e = .returned (.tuple #[]) ∧ Blk w' g 5 (bytesV (putL l i (four n))).toArray ∧ w.grownBy w' (some g) := by
  have HL := Lib.hid hl
  clear hl
  go_enter Tryd.func19, Tryd.ntmps19
  go_wp2
  go_loopw [7] (fun j wr => ∃ k : Nat, k ≤ 4 ∧ j = .int .i64 k ∧ Blk wr g 5 (bytesV (putL l i ((four n).take k))).toArray ∧ w.grownBy wr (some g)) (fun j _ => 4 - (intOf j).toNat)
  case atStart => exact ⟨0, by omega, rfl, by rw [List.take_zero, putL_nil]; exact hB, grefl _ _⟩
  case round =>
    clear hB
    obtain ⟨k, hk, rfl, hB, hg⟩ := hrel
    by_cases hk4 : k < 4
    · have e1 := fb_i n k hn
      have hf := hB.frozen
      have htk : ((four n).take k).length = k := by simp [four_len]; omega
      have hpl : (putL l i ((four n).take k)).length = len := by rw [putL_len _ _ _ (by rw [htk, HL.out]; omega), HL.out]
      have hc := blk_byte hB (i + k) (by omega)
      have hp := blk_put (i + k) (fb n k) hB
      have hsn := putL_snoc l i ((four n).take k) (fb n k) (by rw [htk, HL.out]; omega)
      rw [htk] at hsn
      have ht4 : (four n).take (k + 1) = (four n).take k ++ [fb n k] := by rw [List.take_succ_eq_append_getElem (by rw [four_len]; exact hk4), four_at n k hk4]
      have HSN := Lib.hid (ht4.symm ▸ hsn : putL l i ((four n).take (k + 1)) = _)
      generalize (putL l i ((four n).take k))[i + k] = old at hc
      clear htk hpl hsn ht4
      go_wp2
      go_roundw
      case rel => exact ⟨k + 1, by omega, by go_num, by rw [HSN.out]; exact hp, gtrans hg (only_set _ _ _ _)⟩
      case measure => simp [intOf]; omega
    · obtain rfl : k = 4 := by omega
      have e : (four n).take 4 = four n := rfl
      rw [e] at hB
      go_wp2
      go_end0
      exact ⟨rfl, hB, hg⟩
theorem put_lit (g len cap i n : Nat) (x y : Int) (hx : x = (i : Int)) (hy : y = (n : Int)) (l : List UInt8) (w : World) (hi : i + 4 ≤ len) (hl : l.length = len) (hn : n < 4294967296) (hm : len ≤ 1000000) (hB : Blk w g 5 (bytesV l).toArray) :
    Calls Tryd.prog 19 #[.slice (some ⟨g, 0, none⟩) len cap, .int .i64 x, .int .i64 y] w fun e w' => e = .returned (.tuple #[]) ∧ Blk w' g 5 (bytesV (putL l i (four n))).toArray ∧ w.grownBy w' (some g) := by
  subst hx; subst hy
  exact put_any g len cap i n l w hi hl hn hm hB
theorem blk_setCells {g : Nat} : ∀ (t : List UInt8) (l : List UInt8) (o : Nat) (w : World), o + t.length ≤ l.length → Blk w g 5 (bytesV l).toArray → Blk (w.setCells g o (bytesV t)) g 5 (bytesV (putL l o t)).toArray
  | [], l, o, w, _, h => by rw [putL_nil]; exact h
  | b :: r, l, o, w, hl, h => by
    rw [putL_cons l o b r (by simp at hl; omega)]
    exact blk_setCells r (l.set o b) (o + 1) _ (by simp at hl ⊢; omega) (blk_put o b h)
theorem grown_setCells {g : Nat} : ∀ (vs : List Value) (o : Nat) (w : World), w.grownBy (w.setCells g o vs) (some g)
  | [], _, w => grefl w _
  | v :: r, o, w => gtrans (only_set w g o v) (grown_setCells r (o + 1) _)
theorem sees_blk {w : World} {g : Nat} {l : List UInt8} (h : Blk w g 5 (bytesV l).toArray) (hl : l.length ≤ maxLen) : Sees w (.slice (some ⟨g, 0, none⟩) l.length l.length) (bytesV l) :=
  ⟨some ⟨g, 0, none⟩, l.length, by rw [bytesV_len], (fun h => by cases h), by rw [bytesV_len]; exact Nat.le_refl _, hl, .inr ⟨g, 0, rfl, h.lt, fun j u hj => by rw [Nat.zero_add, h.cell, List.getElem?_toArray]; exact hj⟩⟩
theorem own_blk {w : World} {B g : Nat} {l : List UInt8} (h : Blk w g 5 (bytesV l).toArray) (hB : B ≤ g) (hl : l.length ≤ maxLen) : w.ownsRow B 5 1 (.slice (some ⟨g, 0, none⟩) l.length l.length) l.length (bytesV l) :=
  ⟨by rw [bytesV_len]; omega, .inr ⟨g, l.length, _, rfl, hB, h, Nat.le_refl _, hl, by simp [bytesV_len], by rw [List.take_of_length_le (by simp [bytesV_len])]⟩⟩
theorem size_byte (w : World) : (Go.sizeOf 5).run Tryd.prog w = .ok 1 w := by
  obtain ⟨i0, hi, hz0, hz1, hz2⟩ := info_parts info_byte
  simp [sizeOf, typeInfo, hi, hz1]
theorem zeros_made (n : Nat) : madeCells #[Value.int .u8 0] n = (bytesV (List.replicate n 0)).toArray := by
  apply Array.toList_inj.1
  rw [toList_madeCells_one]
  simp [bytesV, bv]
theorem enc_long (seq kind : Int) (t : ByteArray) (w : World) (h : 16384 < t.size) (hs : t.size ≤ maxLen) :
    Calls Tryd.prog 11 #[.agg #[.int .i64 seq, .int .i64 kind, .string t]] w fun e w' => e = .returned (.tuple #[.slice none 0 0, .int .i64 2]) ∧ Below w.heap.size w w' := by
  unfold maxLen at hs
  go_enter Tryd.func11, Tryd.ntmps11
  go_wp2
  go_ret2
  exact ⟨rfl, by go_grown⟩
theorem enc_bad (seq kind : Int) (t : ByteArray) (w : World) (h : t.size ≤ 16384) (hb : ¬ recOk kind seq) :
    Calls Tryd.prog 11 #[.agg #[.int .i64 seq, .int .i64 kind, .string t]] w fun e w' => e = .returned (.tuple #[.slice none 0 0, .int .i64 190]) ∧ Below w.heap.size w w' := by
  have HF := Lib.hid (fits_no kind seq hb)
  clear hb
  go_enter Tryd.func11, Tryd.ntmps11
  go_wp2_with fail
  refine (HF.out _).mono ?_
  rintro e w' ⟨rfl, rfl⟩
  go_wp2
  go_ret2
  exact ⟨rfl, by go_grown⟩
set_option maxRecDepth 100000 in
set_option maxHeartbeats 2000000 in
theorem enc_yes (seq kind : Nat) (t : ByteArray) (w : World) (h : t.size ≤ 16384) (hb : recOk kind seq) :
    Calls Tryd.prog 11 #[.agg #[.int .i64 seq, .int .i64 kind, .string t]] w fun e w' => e = .returned (.tuple #[.slice (some ⟨w.heap.size + 1, 0, none⟩) (t.size + 20) (t.size + 20), .int .i64 0]) ∧ Blk w' (w.heap.size + 1) 5 (bytesV (enc kind seq t.data.toList)).toArray ∧ Below w.heap.size w w' := by
  obtain ⟨i0, hi, hz0, hz1, hz2⟩ := info_parts info_byte
  have HF := Lib.hid (fits_yes kind seq hb)
  have hkk : kind < 256 := by have := hb.2.1; omega
  have hss : seq < 4294967296 := by have := hb.2.2.2; omega
  have hmk : ∀ u : World, (Instr.makeSlice 22 (.int .i64 ((t.size : Int) + 20)) (.int .i64 ((t.size : Int) + 20))).run Tryd.prog u =
      .ok (.slice (some ⟨u.heap.size, 0, none⟩) (t.size + 20) (t.size + 20)) (u.alloc (.cells (bytesV (e0 t.size)).toArray 5)) := fun u => by
    have h := run_make (P := Tryd.prog) u 22 5 i0 (.int .u8 0) Tryd.underlying22 hi hz0 .i64 .i64 ((t.size : Int) + 20) ((t.size : Int) + 20) (by omega) (Int.le_refl _) (by rw [hz2]; omega) (by omega)
    have e : ((t.size : Int) + 20).toNat = t.size + 20 := by omega
    rw [e] at h
    have ez := zeros_made (t.size + 20)
    unfold e0
    rw [← ez]
    simpa [hz1, Value.cells] using h
  clear hb
  go_enter Tryd.func11, Tryd.ntmps11
  go_wp2_with fail
  refine (HF.out _).mono ?_
  rintro e w' ⟨rfl, rfl⟩
  go_upto_region 7 with fail
  generalize hW : World.alloc (World.alloc w _) _ = W
  have hR : Blk W w.heap.size 40 #[.int .i64 (seq : Int), .int .i64 (kind : Int), .string t] := by
    rw [← hW]; exact (Blk.new w _ _).alloc _
  have hE : Blk W (w.heap.size + 1) 5 (bytesV (e0 t.size)).toArray := by
    rw [← hW]
    have := Blk.new (w.alloc (.cells #[.int .i64 (seq : Int), .int .i64 (kind : Int), .string t] 40)) 5 (bytesV (e0 t.size)).toArray
    rw [World.size_alloc] at this
    exact this
  have hbW : Below w.heap.size w W := by rw [← hW]; go_grown
  clear hW hmk
  have l0 : (e0 t.size).length = t.size + 20 := by simp [e0]
  have c0 := blk_byte hE 0 (by omega)
  have c1 := blk_byte hE 1 (by omega)
  have c2 := blk_byte hE 2 (by omega)
  have f0 := hE.frozen
  have r0 := hR.cell
  have x1 : IntKind.u8.wrap (kind : Int) = (kind : Int) := by rw [IntKind.wrap_u8']; omega
  generalize (e0 t.size)[0] = z0 at c0
  generalize (e0 t.size)[1] = z1 at c1
  generalize (e0 t.size)[2] = z2 at c2
  go_region
  generalize hV : World.drew _ = V
  have hR1 : Blk V w.heap.size 40 #[.int .i64 (seq : Int), .int .i64 (kind : Int), .string t] := by
    rw [← hV]
    exact (((hR.far (p := ⟨w.heap.size + 1, 0, none⟩) (by simp) _).far (p := ⟨w.heap.size + 1, 1, none⟩) (by simp) _).far (p := ⟨w.heap.size + 1, 2, none⟩) (by simp) _).drew
  have hE1 : Blk V (w.heap.size + 1) 5 (bytesV (e1 kind t.size)).toArray := by
    rw [← hV]
    have h3 := blk_put 2 (UInt8.ofNat kind) (blk_put 1 76 (blk_put 0 82 hE))
    rw [show ((UInt8.ofNat kind).toNat : Int) = (kind : Int) by rw [UInt8.toNat_ofNat', Nat.mod_eq_of_lt hkk]] at h3
    exact h3.drew
  have hbV : Below w.heap.size w V := by
    rw [← hV]
    exact (((hbW.setCell (p := ⟨w.heap.size + 1, 0, none⟩) (by simp) _).setCell (p := ⟨w.heap.size + 1, 1, none⟩) (by simp) _).setCell (p := ⟨w.heap.size + 1, 2, none⟩) (by simp) _).drew
  clear hV hR hE hbW c0 c1 c2 f0 r0 x1 l0
  have ht := len_s t
  obtain ⟨s1, s2, s3, s4, s5⟩ := steps kind seq t.data.toList
  obtain ⟨k1, k2⟩ := takes kind seq t.data.toList
  have n1 := (putL_len (e1 kind t.size) 4 (four seq) (by rw [e1_eq]; simp [zs, four_len]))
  rw [ht] at s1 s2 s3 s4 s5 k1 k2
  have S1 := Lib.hid s1
  have S2 := Lib.hid s2
  have S3 := Lib.hid s3
  have S4 := Lib.hid s4
  have S5 := Lib.hid s5
  have K1 := Lib.hid k1
  have K2 := Lib.hid k2
  have L1 : (e1 kind t.size).length = t.size + 20 := by unfold e1 e0; simp
  have HT := Lib.hid ht
  clear s1 s2 s3 s4 s5 k1 k2 ht n1
  have r1 := hR1.cell
  have hl1 := hR1.lt
  go_wp2_with fail
  refine (put_lit (w.heap.size + 1) (t.size + 20) (t.size + 20) 4 seq 4 seq rfl rfl (e1 kind t.size) _ (by omega) L1 hss (by omega) hE1).mono ?_
  rintro e w2 ⟨rfl, hE2, hg2⟩
  rw [S1.out] at hE2
  have hR2 := hR1.grown hg2 (by simp)
  have hb2 : Below w.heap.size w w2 := hbV.grown hg2 (by have := hbV.size; omega) (fun j hj => by cases hj; omega)
  clear hR1 hE1 hbV hg2 r1 hl1
  have r2 := hR2.cell
  go_wp2_with fail
  have A2 : ([82, 76, UInt8.ofNat kind, 0] ++ four seq ++ zs 4 ++ zs 4 ++ zs t.size ++ zs 4).length = t.size + 20 := by simp [zs, four_len]; omega
  refine (put_lit (w.heap.size + 1) (t.size + 20) (t.size + 20) 8 t.size 8 t.size rfl rfl _ _ (by omega) A2 (by omega) (by omega) hE2).mono ?_
  rintro e w3 ⟨rfl, hE3, hg3⟩
  rw [S2.out] at hE3
  have hR3 := hR2.grown hg3 (by simp)
  have hb3 : Below w.heap.size w w3 := hb2.grown hg3 (by have := hb2.size; omega) (fun j hj => by cases hj; omega)
  clear hR2 hE2 hb2 hg3 r2 A2
  have A3 : (head0 kind seq t.size ++ zs 4 ++ zs t.size ++ zs 4).length = t.size + 20 := by simp [zs, head0_len]; omega
  have hS3 := (sees_blk hE3 (by rw [A3]; simp only [maxLen]; omega))
  have hS3' := hS3.take 12 (by rw [bytesV_len, A3]; omega)
  have e12 : (bytesV (head0 kind seq t.size ++ zs 4 ++ zs t.size ++ zs 4)).take 12 = bytesV (head0 kind seq t.size) := by unfold bytesV; rw [← List.map_take, K1.out]
  rw [A3, e12] at hS3'
  have x12 : 12 ≤ t.size + 20 := by omega
  have HE12 := Lib.hid e12
  clear e12 hS3
  go_wp2_with fail
  refine (sum_any (head0 kind seq t.size) _ _ hS3').mono ?_
  rintro e w4 ⟨rfl, hb4⟩
  have hE4 := hE3.below hb4 hE3.lt
  have hR4 := hR3.below hb4 hR3.lt
  have hb4' := bnx hb3 hb4
  clear hE3 hR3 hb3 hb4 hS3'
  have hcl := crc_lt (head0 kind seq t.size)
  go_wp2_with fail
  refine (put_lit (w.heap.size + 1) (t.size + 20) (t.size + 20) 12 (crc (head0 kind seq t.size)) 12 _ rfl rfl _ _ (by omega) A3 hcl (by omega) hE4).mono ?_
  rintro e w5 ⟨rfl, hE5, hg5⟩
  rw [S3.out] at hE5
  have hR5 := hR4.grown hg5 (by simp)
  have hb5 : Below w.heap.size w w5 := hb4'.grown hg5 (by have := hb4'.size; omega) (fun j hj => by cases hj; omega)
  clear hR4 hE4 hb4' hg5 A3 hcl
  have A5 : (head1 kind seq t.size ++ zs t.size ++ zs 4).length = t.size + 20 := by simp [zs, head1_len]; omega
  go_wp2_with fail
  refine still_tail 4 (by kernel_rfl) (by kernel_rfl) fun W5 hW5 => ?_
  simp only [List.take_succ_cons, List.take_zero, List.drop_succ_cons, List.drop_zero]
  have hE6 := hE5.at_drew hW5
  have hR6 := hR5.at_drew hW5
  have hb6 := hb5.trans (below_at_drew hW5 _)
  have r6 := hR6.cell
  have x16 : 16 ≤ t.size + 20 := by omega
  have x17 : (16 : Int) ≤ (t.size : Int) + 20 := by omega
  clear hE5 hR5 hb5 hW5
  repeat still_step
  refine wpStill_nil ?_
  have hcp := run_copy_string (P := Tryd.prog) W5 22 9 3 5 (w.heap.size + 1) 16 (t.size + 4) (t.size + 4) t Tryd.underlying22 size_byte (by omega)
    (fun j hj => by rw [blk_byte hE6 (16 + j) (by rw [A5]; omega)]; rfl) (fun j _ => hE6.frozen _)
  have hE7 := blk_setCells t.data.toList (head1 kind seq t.size ++ zs t.size ++ zs 4) 16 W5 (by rw [A5, HT.out]; omega) hE6
  rw [S4.out] at hE7
  have hg7 := grown_setCells (g := w.heap.size + 1) (bytesV t.data.toList) 16 W5
  refine Lib.wpList_copy_run _ rfl _ _ 22 9 rfl _ _ rfl rfl hcp ?_
  generalize hw7 : World.setCells W5 _ _ _ = w7
  have hw7' : World.setCells W5 (w.heap.size + 1) 16 (bytesV t.data.toList) = w7 := hw7
  rw [hw7'] at hE7 hg7
  clear hw7 hw7'
  have hR7 := hR6.grown hg7 (by simp)
  have hb7 : Below w.heap.size w w7 := hb6.grown hg7 (by have := hb6.size; omega) (fun j hj => by cases hj; omega)
  clear hcp hg7 hR6 hE6 hb6 r6 x16 x17 A5
  have A7 : (head1 kind seq t.size ++ t.data.toList ++ zs 4).length = t.size + 20 := by have := HT.out; simp [zs, head1_len]; omega
  have hS7 := (sees_blk hE7 (by rw [A7]; simp only [maxLen]; omega))
  have hS7' := hS7.take (16 + t.size) (by rw [bytesV_len, A7]; omega)
  have e16 : (bytesV (head1 kind seq t.size ++ t.data.toList ++ zs 4)).take (16 + t.size) = bytesV (head1 kind seq t.size ++ t.data.toList) := by unfold bytesV; rw [← List.map_take, K2.out]
  rw [A7, e16] at hS7'
  clear e16 hS7
  have x16 : 16 + t.size ≤ t.size + 20 := by omega
  have x17 : (16 : Int) + (t.size : Int) ≤ (t.size : Int) + 20 := by omega
  have x18 : ((16 : Int) + (t.size : Int)).toNat = 16 + t.size := by omega
  have hcl := crc_lt (head1 kind seq t.size ++ t.data.toList)
  go_wp2_with fail
  refine (sum_any (head1 kind seq t.size ++ t.data.toList) _ _ hS7').mono ?_
  rintro e w8 ⟨rfl, hb8⟩
  have hE8 := hE7.below hb8 hE7.lt
  have hb8' := bnx hb7 hb8
  clear hE7 hR7 hb7 hb8 hS7'
  go_wp2_with fail
  refine (put_lit (w.heap.size + 1) (t.size + 20) (t.size + 20) (16 + t.size) (crc (head1 kind seq t.size ++ t.data.toList)) _ _ (by simp) rfl _ _ (by omega) A7 hcl (by omega) hE8).mono ?_
  rintro e w9 ⟨rfl, hE9, hg9⟩
  rw [S5.out] at hE9
  have hb9 : Below w.heap.size w w9 := hb8'.grown hg9 (by have := hb8'.size; omega) (fun j hj => by cases hj; omega)
  clear hE8 hb8' hg9 A7 hcl
  go_wp2_with fail
  go_ret2
  exact ⟨rfl, hE9, hb9⟩
/-- Encode at any record. -/
theorem encode_any (seq kind : Int) (t : ByteArray) (w : World) (hs : t.size ≤ maxLen) :
    Calls Tryd.prog 11 #[.agg #[.int .i64 seq, .int .i64 kind, .string t]] w fun e w' => ∃ v, e = .returned (.tuple #[v, .int .i64 (encE kind seq t.data.toList)]) ∧ w'.ownsRow w.heap.size 5 1 v (encT kind seq t.data.toList).length (bytesV (encT kind seq t.data.toList)) ∧ Below w.heap.size w w' := by
  have hl := len_s t
  by_cases h : 16384 < t.size
  · have e1 : encE kind seq t.data.toList = 2 := by unfold encE; rw [if_pos (by omega)]
    have e2 : encT kind seq t.data.toList = [] := by unfold encT; rw [e1]; rfl
    rw [e1, e2]
    exact (enc_long seq kind t w h hs).mono fun e w' ⟨he, hb⟩ => ⟨_, he, World.ownsRow_nil _ _ _ _, hb⟩
  · by_cases hr : recOk kind seq
    · have e1 : encE kind seq t.data.toList = 0 := by unfold encE; rw [if_neg (by omega), if_pos hr]
      have e2 : encT kind seq t.data.toList = enc kind.toNat seq.toNat t.data.toList := by unfold encT; rw [e1]; rfl
      rw [e1, e2]
      obtain ⟨k, rfl⟩ := Int.eq_ofNat_of_zero_le (show 0 ≤ kind by have := hr.1; omega)
      obtain ⟨s, rfl⟩ := Int.eq_ofNat_of_zero_le (show 0 ≤ seq by have := hr.2.2.1; omega)
      simp only [Int.toNat_natCast]
      refine (enc_yes s k t w (by omega) hr).mono fun e w' ⟨he, hB, hb⟩ => ⟨_, he, ?_, hb⟩
      have hle := enc_len k s t.data.toList
      have := own_blk hB (Nat.le_succ w.heap.size) (by rw [hle]; simp only [maxLen]; omega)
      rw [hle, hl] at this ⊢
      exact this
    · have e1 : encE kind seq t.data.toList = 190 := by unfold encE; rw [if_neg (by omega), if_neg hr]
      have e2 : encT kind seq t.data.toList = [] := by unfold encT; rw [e1]; rfl
      rw [e1, e2]
      exact (enc_bad seq kind t w (by omega) hr).mono fun e w' ⟨he, hb⟩ => ⟨_, he, World.ownsRow_nil _ _ _ _, hb⟩
end Go.Proofs.YtndclkphglpknaaDoor.Lg
