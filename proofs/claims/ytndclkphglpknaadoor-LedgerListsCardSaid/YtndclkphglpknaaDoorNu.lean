/- Numbers of four bytes: the walks. -/
import Derived.Test.YtndclkphglpknaaDoorEn
namespace Go.Proofs.YtndclkphglpknaaDoor.Lg
open Go.RowKit Mm
theorem num4_snoc (l : List UInt8) (b : UInt8) : num4 (l ++ [b]) = num4 l * 256 + b.toNat := by unfold num4; rw [List.foldl_append]; rfl
theorem num4_lt (l : List UInt8) (h : l.length ≤ 4) : num4 l < 4294967296 := by
  match l, h with
  | [], _ => decide
  | [a], _ => have := a.toNat_lt; simp [num4]; omega
  | [a, b], _ => have := a.toNat_lt; have := b.toNat_lt; simp [num4]; omega
  | [a, b, c], _ => have := a.toNat_lt; have := b.toNat_lt; have := c.toNat_lt; simp [num4]; omega
  | [a, b, c, d], _ => have := a.toNat_lt; have := b.toNat_lt; have := c.toNat_lt; have := d.toNat_lt; simp [num4]; omega
theorem or_i64 (n b : Nat) (h : n < 4294967296) (k : b < 256) : bits .or .i64 ((n : Int) * 256) (b : Int) = ((n * 256 + b : Nat) : Int) := by
  have e : ((n : Int) * 256) = ((n * 256 : Nat) : Int) := by omega
  rw [e]
  show IntKind.i64.wrap ((BitVec.ofInt 64 ((n * 256 : Nat) : Int) ||| BitVec.ofInt 64 (b : Int)).toNat : Int) = _
  have e1 : (BitVec.ofInt 64 ((n * 256 : Nat) : Int)).toNat = n * 256 := by rw [BitVec.toNat_ofInt]; omega
  have e2 : (BitVec.ofInt 64 (b : Int)).toNat = b := by rw [BitVec.toNat_ofInt]; omega
  have e3 : n * 256 ||| b = n * 256 + b := by
    rw [Nat.mul_comm, show (256 : Nat) = 2 ^ 8 from rfl, ← Nat.two_pow_add_eq_or_of_lt (by omega : b < 2 ^ 8)]
  rw [BitVec.toNat_or, e1, e2, e3]
  exact IntWalk.i64_in _ (by omega)
set_option maxRecDepth 100000 in
set_option maxHeartbeats 1000000 in
theorem number_any (l : List UInt8) (v : Value) (w : World) (hS : Sees w v (bytesV l)) (h4 : 4 ≤ l.length) :
    Calls Tryd.prog 21 #[v] w fun e w' => e = .returned (.int .i64 (num4 (l.take 4) : Int)) ∧ w = w' := by
  obtain ⟨a0, cap0, rfl, _, hcap, hcm, hx⟩ := hS
  rw [bytesV_len] at hcap
  have hn := bytesV_len l
  rw [hn]
  obtain ⟨g, off, rfl, hg, hq⟩ : ∃ g off, a0 = some ⟨g, off, none⟩ ∧ g < w.heap.size ∧ ∀ j u, (bytesV l)[j]? = some u → w.cell? ⟨g, off + j, none⟩ = some u := by
    rcases hx with h0 | h0
    · rw [h0] at hn; simp at hn; omega
    · exact h0
  have HQ := Lib.hid hq
  unfold maxLen at hcm
  have hc4 : 4 ≤ cap0 := by omega
  clear hx hn hq
  go_enter Tryd.func21, Tryd.ntmps21
  go_wp2
  go_loop [3, 9] (fun n i => ∃ k : Nat, k ≤ 4 ∧ i = .int .i64 k ∧ n = .int .i64 (num4 (l.take k) : Int)) (fun _ i => 4 - (intOf i).toNat)
  case atStart => exact ⟨0, by omega, rfl, rfl⟩
  case round =>
    obtain ⟨k, hk, rfl, rfl⟩ := hrel
    by_cases hlt : k < 4
    · have hkl : k < l.length := by omega
      have q0 : w.cell? ⟨g, off + k, none⟩ = some (.int .u8 (l[k].toNat : Int)) := HQ.out k _ (bytesV_at l k hkl)
      have hb : l[k].toNat < 256 := by have := l[k].toNat_lt; omega
      have hs : num4 (l.take (k + 1)) = num4 (l.take k) * 256 + l[k].toNat := by rw [List.take_succ_eq_append_getElem hkl, num4_snoc]
      have hl := num4_lt (l.take k) (by simp; omega)
      have HS := Lib.hid hs
      have e1 := or_i64 _ _ hl hb
      clear hs
      generalize l[k].toNat = b at *
      generalize num4 (l.take k) = n at *
      go_wp2
      go_round
      case rel => exact ⟨k + 1, by omega, by go_num, by rw [HS.out]; go_num⟩
      case measure => simp [intOf]; omega
    · obtain rfl : k = 4 := by omega
      go_wp2
      go_ret
      exact ⟨rfl, rfl⟩
theorem num4_four (a b c d : UInt8) : num4 [a, b, c, d] = ((a.toNat * 256 + b.toNat) * 256 + c.toNat) * 256 + d.toNat := by simp [num4]
theorem wrap_nat (n : Nat) (h : n < 4294967296) : IntKind.i64.wrap (n : Int) = (n : Int) := IntWalk.i64_in _ (by omega)
theorem wrap_b (n : Nat) (h : n < 256) : IntKind.i64.wrap (n : Int) = (n : Int) := wrap_nat n (by omega)
theorem wrap_mul (a m : Nat) (h : a * m < 4294967296) : IntKind.i64.wrap ((a : Int) * (m : Int)) = (a : Int) * (m : Int) := by rw [← Int.natCast_mul]; exact wrap_nat _ h
theorem wrap_mul16777216 (a : Nat) (h : a < 256) : IntKind.i64.wrap ((a : Int) * 16777216) = (a : Int) * 16777216 := wrap_mul a 16777216 (by omega)
theorem wrap_mul65536 (a : Nat) (h : a < 256) : IntKind.i64.wrap ((a : Int) * 65536) = (a : Int) * 65536 := wrap_mul a 65536 (by omega)
theorem wrap_mul256 (a : Nat) (h : a < 256) : IntKind.i64.wrap ((a : Int) * 256) = (a : Int) * 256 := wrap_mul a 256 (by omega)
theorem shl_or (a b c d : Nat) (ha : a < 256) (hb : b < 256) (hc : c < 256) (hd : d < 256) :
    bits .or .i64 ((a : Int) * 16777216) ((b : Int) * 65536) = ((a * 16777216 + b * 65536 : Nat) : Int) ∧
    bits .or .i64 ((a * 16777216 + b * 65536 : Nat) : Int) ((c : Int) * 256) = ((a * 16777216 + b * 65536 + c * 256 : Nat) : Int) ∧
    bits .or .i64 ((a * 16777216 + b * 65536 + c * 256 : Nat) : Int) (d : Int) = ((a * 16777216 + b * 65536 + c * 256 + d : Nat) : Int) := by
  have key : ∀ x y : Nat, x < 4294967296 → y < 4294967296 → (x ||| y < 4294967296 → bits .or .i64 (x : Int) (y : Int) = ((x ||| y : Nat) : Int)) := fun x y hx hy hz => by
    show IntKind.i64.wrap ((BitVec.ofInt 64 (x : Int) ||| BitVec.ofInt 64 (y : Int)).toNat : Int) = _
    have e1 : (BitVec.ofInt 64 (x : Int)).toNat = x := by rw [BitVec.toNat_ofInt]; omega
    have e2 : (BitVec.ofInt 64 (y : Int)).toNat = y := by rw [BitVec.toNat_ofInt]; omega
    rw [BitVec.toNat_or, e1, e2]
    exact IntWalk.i64_in _ (by omega)
  have j : ∀ i q y : Nat, y < 2 ^ i → (2 ^ i * q) ||| y = 2 ^ i * q + y := fun i q y hy => (Nat.two_pow_add_eq_or_of_lt hy q).symm
  refine ⟨?_, ?_, ?_⟩
  · have e := j 24 a (b * 65536) (by omega)
    have e2 : 2 ^ 24 * a = a * 16777216 := by omega
    rw [e2] at e
    have := key (a * 16777216) (b * 65536) (by omega) (by omega) (by rw [e]; omega)
    rw [e] at this
    rw [← this]; congr 1 <;> omega
  · have e := j 16 (a * 256 + b) (c * 256) (by omega)
    have e2 : 2 ^ 16 * (a * 256 + b) = a * 16777216 + b * 65536 := by omega
    rw [e2] at e
    have := key (a * 16777216 + b * 65536) (c * 256) (by omega) (by omega) (by rw [e]; omega)
    rw [e] at this
    rw [← this]; congr 1 <;> omega
  · have e := j 8 (a * 65536 + b * 256 + c) d (by omega)
    have e2 : 2 ^ 8 * (a * 65536 + b * 256 + c) = a * 16777216 + b * 65536 + c * 256 := by omega
    rw [e2] at e
    have := key (a * 16777216 + b * 65536 + c * 256) d (by omega) (by omega) (by rw [e]; omega)
    rw [e] at this
    exact this
theorem push4 (a b c d : Nat) : (a : Int) * 16777216 + (b : Int) * 65536 + (c : Int) * 256 + (d : Int) = ((a * 16777216 + b * 65536 + c * 256 + d : Nat) : Int) := by omega
theorem push3 (a b c : Nat) : (a : Int) * 16777216 + (b : Int) * 65536 + (c : Int) * 256 = ((a * 16777216 + b * 65536 + c * 256 : Nat) : Int) := by omega
theorem push2 (a b : Nat) : (a : Int) * 16777216 + (b : Int) * 65536 = ((a * 16777216 + b * 65536 : Nat) : Int) := by omega
theorem shl_or' (a b c d : Nat) (ha : a < 256) (hb : b < 256) (hc : c < 256) (hd : d < 256) :
    bits .or .i64 ((a : Int) * 16777216) ((b : Int) * 65536) = (a : Int) * 16777216 + (b : Int) * 65536 ∧
    bits .or .i64 ((a : Int) * 16777216 + (b : Int) * 65536) ((c : Int) * 256) = (a : Int) * 16777216 + (b : Int) * 65536 + (c : Int) * 256 ∧
    bits .or .i64 ((a : Int) * 16777216 + (b : Int) * 65536 + (c : Int) * 256) (d : Int) = (a : Int) * 16777216 + (b : Int) * 65536 + (c : Int) * 256 + (d : Int) := by
  have e1 := (push2 a b).symm
  have e2 := (push3 a b c).symm
  have e3 := (push4 a b c d).symm
  obtain ⟨s1, s2, s3⟩ := shl_or a b c d ha hb hc hd
  rw [e1] at s1 s2
  rw [e2] at s2 s3
  rw [e3] at s3
  exact ⟨s1, s2, s3⟩
set_option maxRecDepth 100000 in
set_option maxHeartbeats 1000000 in
theorem rnumber_any (l : List UInt8) (v : Value) (w : World) (i : Nat) (x : Int) (hx : x = (i : Int)) (hS : Sees w v (bytesV l)) (h4 : i + 4 ≤ l.length) :
    Calls Tryd.prog 22 #[v, .int .i64 x] w fun e w' => e = .returned (.int .i64 (num4 ((l.drop i).take 4) : Int)) ∧ ∃ n, w' = w.drewN n := by
  subst hx
  have i0 : i < l.length := by omega
  have i1 : i + 1 < l.length := by omega
  have i2 : i + 2 < l.length := by omega
  have i3 : i + 3 < l.length := by omega
  obtain ⟨a0, cap0, rfl, _, hcap, hcm, hx⟩ := hS
  rw [bytesV_len] at hcap
  have hn := bytesV_len l
  rw [hn]
  obtain ⟨g, off, rfl, hg, hq⟩ : ∃ g off, a0 = some ⟨g, off, none⟩ ∧ g < w.heap.size ∧ ∀ j u, (bytesV l)[j]? = some u → w.cell? ⟨g, off + j, none⟩ = some u := by
    rcases hx with h0 | h0
    · rw [h0] at hn; simp at hn; omega
    · exact h0
  unfold maxLen at hcm
  have q0 := hq i _ (bytesV_at l i i0)
  have q1 := hq (i + 1) _ (bytesV_at l (i + 1) i1)
  have q2 := hq (i + 2) _ (bytesV_at l (i + 2) i2)
  have q3 := hq (i + 3) _ (bytesV_at l (i + 3) i3)
  have e4 : (l.drop i).take 4 = [l[i]'i0, l[i + 1]'i1, l[i + 2]'i2, l[i + 3]'i3] := by
    apply List.ext_getElem?
    intro j
    rw [List.getElem?_take]
    by_cases hj : j < 4
    · rw [if_pos hj, List.getElem?_drop]
      have : j = 0 ∨ j = 1 ∨ j = 2 ∨ j = 3 := by omega
      rcases this with rfl | rfl | rfl | rfl
      · simp only [Nat.add_zero]; rw [List.getElem?_eq_getElem (by omega)]; rfl
      · rw [List.getElem?_eq_getElem (by omega)]; rfl
      · rw [List.getElem?_eq_getElem (by omega)]; rfl
      · rw [List.getElem?_eq_getElem (by omega)]; rfl
    · rw [if_neg hj, List.getElem?_eq_none (by simp; omega)]
  have HE := Lib.hid (show num4 ((l.drop i).take 4) = (l[i]'i0).toNat * 16777216 + (l[i + 1]'i1).toNat * 65536 + (l[i + 2]'i2).toNat * 256 + (l[i + 3]'i3).toNat by rw [e4, num4_four]; omega)
  have b0 : (l[i]'i0).toNat < 256 := by have := (l[i]'i0).toNat_lt; omega
  have b1 : (l[i + 1]'i1).toNat < 256 := by have := (l[i + 1]'i1).toNat_lt; omega
  have b2 : (l[i + 2]'i2).toNat < 256 := by have := (l[i + 2]'i2).toNat_lt; omega
  have b3 : (l[i + 3]'i3).toNat < 256 := by have := (l[i + 3]'i3).toNat_lt; omega
  clear hx hn hq e4
  generalize (l[i]'i0).toNat = a at *
  generalize (l[i + 1]'i1).toNat = b at *
  generalize (l[i + 2]'i2).toNat = c at *
  generalize (l[i + 3]'i3).toNat = d at *
  have x1 : IntKind.i64.wrap ((i : Int) + 1) = (i : Int) + 1 := IntWalk.i64_in _ (by omega)
  have x2 : IntKind.i64.wrap ((i : Int) + 2) = (i : Int) + 2 := IntWalk.i64_in _ (by omega)
  have x3 : IntKind.i64.wrap ((i : Int) + 3) = (i : Int) + 3 := IntWalk.i64_in _ (by omega)
  have y1 : (i : Int) + 1 < (l.length : Int) := by omega
  have z1 : ((i : Int) + 1).toNat = i + 1 := by omega
  have v1 : 0 ≤ (i : Int) + 1 := by omega
  have y2 : (i : Int) + 2 < (l.length : Int) := by omega
  have z2 : ((i : Int) + 2).toNat = i + 2 := by omega
  have v2 : 0 ≤ (i : Int) + 2 := by omega
  have y3 : (i : Int) + 3 < (l.length : Int) := by omega
  have z3 : ((i : Int) + 3).toNat = i + 3 := by omega
  have v3 : 0 ≤ (i : Int) + 3 := by omega
  have wa := wrap_mul16777216 a b0
  have wb := wrap_mul65536 b b1
  have wc := wrap_mul256 c b2
  have ua := wrap_b a b0
  have ub := wrap_b b b1
  have uc := wrap_b c b2
  have ud := wrap_b d b3
  obtain ⟨s1, s2, s3⟩ := shl_or' a b c d b0 b1 b2 b3
  go_enter Tryd.func22, Tryd.ntmps22
  go_wp2
  go_quiet (fail)
  go_wp2
  go_ret
  refine ⟨?_, nq, rfl⟩
  rw [HE.out]
  exact congrArg (fun n : Int => Ending.returned (.int .i64 n)) (push4 a b c d)
end Go.Proofs.YtndclkphglpknaaDoor.Lg
