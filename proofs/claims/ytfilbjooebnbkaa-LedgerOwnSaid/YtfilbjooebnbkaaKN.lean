/- numbers, Read's law, merged -/
import Derived.Test.YtfilbjooebnbkaaRe
namespace Go.Proofs.Ytfilbjooebnbkaa.Lg
open Go.RowKit Mm
theorem num4_snoc (l : List UInt8) (b : UInt8) : num4 (l ++ [b]) = num4 l * 256 + b.toNat := by unfold num4; rw [List.foldl_append]; rfl
theorem num4_lt (l : List UInt8) (h : l.length ≤ 4) : num4 l < 4294967296 := by
  match l, h with
  | [], _ => decide
  | [a], _ => have := a.toNat_lt; simp [num4]; omega
  | [a, b], _ => have := a.toNat_lt; have := b.toNat_lt; simp [num4]; omega
  | [a, b, c], _ => have := a.toNat_lt; have := b.toNat_lt; have := c.toNat_lt; simp [num4]; omega
  | [a, b, c, d], _ => have := a.toNat_lt; have := b.toNat_lt; have := c.toNat_lt; have := d.toNat_lt; simp [num4]; omega
theorem or_i64 (n b : Nat) (h : n < 4294967296) (k : b < 256) : bits .or .i64 ((n : Int) * 256) (b : Int) = ((n * 256 + b : Nat) : Int) := by
  have e : ((n : Int) * 256) = ((n * 256 : Nat) : Int) := by omega
  rw [e]
  show IntKind.i64.wrap ((BitVec.ofInt 64 ((n * 256 : Nat) : Int) ||| BitVec.ofInt 64 (b : Int)).toNat : Int) = _
  have e1 : (BitVec.ofInt 64 ((n * 256 : Nat) : Int)).toNat = n * 256 := by rw [BitVec.toNat_ofInt]; omega
  have e2 : (BitVec.ofInt 64 (b : Int)).toNat = b := by rw [BitVec.toNat_ofInt]; omega
  have e3 : n * 256 ||| b = n * 256 + b := by
    rw [Nat.mul_comm, show (256 : Nat) = 2 ^ 8 from rfl, ← Nat.two_pow_add_eq_or_of_lt (by omega : b < 2 ^ 8)]
  rw [BitVec.toNat_or, e1, e2, e3]
  exact IntWalk.i64_in _ (by omega)
set_option maxRecDepth 100000 in
set_option maxHeartbeats 1000000 in
theorem number_any (l : List UInt8) (v : Value) (w : World) (hS : Sees w v (bytesV l)) (h4 : 4 ≤ l.length) :
    Calls Try.prog 14 #[v] w fun e w' => e = .returned (.int .i64 (num4 (l.take 4) : Int)) ∧ w = w' := by
  obtain ⟨a0, cap0, rfl, _, hcap, hcm, hx⟩ := hS
  rw [bytesV_len] at hcap
  have hn := bytesV_len l
  rw [hn]
  obtain ⟨g, off, rfl, hg, hq⟩ : ∃ g off, a0 = some ⟨g, off, none⟩ ∧ g < w.heap.size ∧ ∀ j u, (bytesV l)[j]? = some u → w.cell? ⟨g, off + j, none⟩ = some u := by
    rcases hx with h0 | h0
    · rw [h0] at hn; simp at hn; omega
    · exact h0
  have HQ := Lib.hid hq
  unfold maxLen at hcm
  have hc4 : 4 ≤ cap0 := by omega
  clear hx hn hq
  go_enter Try.func14, Try.ntmps14
  go_wp2
  go_loop [3, 9] (fun n i => ∃ k : Nat, k ≤ 4 ∧ i = .int .i64 k ∧ n = .int .i64 (num4 (l.take k) : Int)) (fun _ i => 4 - (intOf i).toNat)
  case atStart => exact ⟨0, by omega, rfl, rfl⟩
  case round =>
    obtain ⟨k, hk, rfl, rfl⟩ := hrel
    by_cases hlt : k < 4
    · have hkl : k < l.length := by omega
      have q0 : w.cell? ⟨g, off + k, none⟩ = some (.int .u8 (l[k].toNat : Int)) := HQ.out k _ (bytesV_at l k hkl)
      have hb : l[k].toNat < 256 := by have := l[k].toNat_lt; omega
      have hs : num4 (l.take (k + 1)) = num4 (l.take k) * 256 + l[k].toNat := by rw [List.take_succ_eq_append_getElem hkl, num4_snoc]
      have hl := num4_lt (l.take k) (by simp; omega)
      have HS := Lib.hid hs
      have e1 := or_i64 _ _ hl hb
      clear hs
      generalize l[k].toNat = b at *
      generalize num4 (l.take k) = n at *
      go_wp2
      go_round
      case rel => exact ⟨k + 1, by omega, by go_num, by rw [HS.out]; go_num⟩
      case measure => simp [intOf]; omega
    · obtain rfl : k = 4 := by omega
      go_wp2
      go_ret
      exact ⟨rfl, rfl⟩
theorem num4_four (a b c d : UInt8) : num4 [a, b, c, d] = ((a.toNat * 256 + b.toNat) * 256 + c.toNat) * 256 + d.toNat := by simp [num4]
theorem wrap_nat (n : Nat) (h : n < 4294967296) : IntKind.i64.wrap (n : Int) = (n : Int) := IntWalk.i64_in _ (by omega)
theorem wrap_b (n : Nat) (h : n < 256) : IntKind.i64.wrap (n : Int) = (n : Int) := wrap_nat n (by omega)
theorem wrap_mul (a m : Nat) (h : a * m < 4294967296) : IntKind.i64.wrap ((a : Int) * (m : Int)) = (a : Int) * (m : Int) := by rw [← Int.natCast_mul]; exact wrap_nat _ h
theorem wrap_mul16777216 (a : Nat) (h : a < 256) : IntKind.i64.wrap ((a : Int) * 16777216) = (a : Int) * 16777216 := wrap_mul a 16777216 (by omega)
theorem wrap_mul65536 (a : Nat) (h : a < 256) : IntKind.i64.wrap ((a : Int) * 65536) = (a : Int) * 65536 := wrap_mul a 65536 (by omega)
theorem wrap_mul256 (a : Nat) (h : a < 256) : IntKind.i64.wrap ((a : Int) * 256) = (a : Int) * 256 := wrap_mul a 256 (by omega)
theorem shl_or (a b c d : Nat) (ha : a < 256) (hb : b < 256) (hc : c < 256) (hd : d < 256) :
    bits .or .i64 ((a : Int) * 16777216) ((b : Int) * 65536) = ((a * 16777216 + b * 65536 : Nat) : Int) ∧
    bits .or .i64 ((a * 16777216 + b * 65536 : Nat) : Int) ((c : Int) * 256) = ((a * 16777216 + b * 65536 + c * 256 : Nat) : Int) ∧
    bits .or .i64 ((a * 16777216 + b * 65536 + c * 256 : Nat) : Int) (d : Int) = ((a * 16777216 + b * 65536 + c * 256 + d : Nat) : Int) := by
  have key : ∀ x y : Nat, x < 4294967296 → y < 4294967296 → (x ||| y < 4294967296 → bits .or .i64 (x : Int) (y : Int) = ((x ||| y : Nat) : Int)) := fun x y hx hy hz => by
    show IntKind.i64.wrap ((BitVec.ofInt 64 (x : Int) ||| BitVec.ofInt 64 (y : Int)).toNat : Int) = _
    have e1 : (BitVec.ofInt 64 (x : Int)).toNat = x := by rw [BitVec.toNat_ofInt]; omega
    have e2 : (BitVec.ofInt 64 (y : Int)).toNat = y := by rw [BitVec.toNat_ofInt]; omega
    rw [BitVec.toNat_or, e1, e2]
    exact IntWalk.i64_in _ (by omega)
  have j : ∀ i q y : Nat, y < 2 ^ i → (2 ^ i * q) ||| y = 2 ^ i * q + y := fun i q y hy => (Nat.two_pow_add_eq_or_of_lt hy q).symm
  refine ⟨?_, ?_, ?_⟩
  · have e := j 24 a (b * 65536) (by omega)
    have e2 : 2 ^ 24 * a = a * 16777216 := by omega
    rw [e2] at e
    have := key (a * 16777216) (b * 65536) (by omega) (by omega) (by rw [e]; omega)
    rw [e] at this
    rw [← this]; congr 1 <;> omega
  · have e := j 16 (a * 256 + b) (c * 256) (by omega)
    have e2 : 2 ^ 16 * (a * 256 + b) = a * 16777216 + b * 65536 := by omega
    rw [e2] at e
    have := key (a * 16777216 + b * 65536) (c * 256) (by omega) (by omega) (by rw [e]; omega)
    rw [e] at this
    rw [← this]; congr 1 <;> omega
  · have e := j 8 (a * 65536 + b * 256 + c) d (by omega)
    have e2 : 2 ^ 8 * (a * 65536 + b * 256 + c) = a * 16777216 + b * 65536 + c * 256 := by omega
    rw [e2] at e
    have := key (a * 16777216 + b * 65536 + c * 256) d (by omega) (by omega) (by rw [e]; omega)
    rw [e] at this
    exact this
theorem push4 (a b c d : Nat) : (a : Int) * 16777216 + (b : Int) * 65536 + (c : Int) * 256 + (d : Int) = ((a * 16777216 + b * 65536 + c * 256 + d : Nat) : Int) := by omega
theorem push3 (a b c : Nat) : (a : Int) * 16777216 + (b : Int) * 65536 + (c : Int) * 256 = ((a * 16777216 + b * 65536 + c * 256 : Nat) : Int) := by omega
theorem push2 (a b : Nat) : (a : Int) * 16777216 + (b : Int) * 65536 = ((a * 16777216 + b * 65536 : Nat) : Int) := by omega
theorem shl_or' (a b c d : Nat) (ha : a < 256) (hb : b < 256) (hc : c < 256) (hd : d < 256) :
    bits .or .i64 ((a : Int) * 16777216) ((b : Int) * 65536) = (a : Int) * 16777216 + (b : Int) * 65536 ∧
    bits .or .i64 ((a : Int) * 16777216 + (b : Int) * 65536) ((c : Int) * 256) = (a : Int) * 16777216 + (b : Int) * 65536 + (c : Int) * 256 ∧
    bits .or .i64 ((a : Int) * 16777216 + (b : Int) * 65536 + (c : Int) * 256) (d : Int) = (a : Int) * 16777216 + (b : Int) * 65536 + (c : Int) * 256 + (d : Int) := by
  have e1 := (push2 a b).symm
  have e2 := (push3 a b c).symm
  have e3 := (push4 a b c d).symm
  obtain ⟨s1, s2, s3⟩ := shl_or a b c d ha hb hc hd
  rw [e1] at s1 s2
  rw [e2] at s2 s3
  rw [e3] at s3
  exact ⟨s1, s2, s3⟩
end Go.Proofs.Ytfilbjooebnbkaa.Lg

namespace Go.Proofs.Ytfilbjooebnbkaa.Lg
open Go.RowKit Mm
def bt (d : List UInt8) (k : Nat) : UInt8 := d.getD k 0
def n4 (d : List UInt8) (k : Nat) : Nat := num4 ((d.drop k).take 4)
def spoilt (d : List UInt8) : Prop := bt d 0 ≠ 82 ∨ bt d 1 ≠ 76 ∨ bt d 3 ≠ 0 ∨ n4 d 12 ≠ crc (d.take 12) ∨ ¬ recOk ((bt d 2).toNat : Int) (n4 d 4 : Int) ∨ 16384 < n4 d 8
instance (d : List UInt8) : Decidable (spoilt d) := by unfold spoilt; infer_instance
def rdE (d : List UInt8) : Int := if d.length < 16 then 191 else if spoilt d then 192 else if d.length < n4 d 8 + 20 then 191 else if n4 d (16 + n4 d 8) ≠ crc (d.take (16 + n4 d 8)) then 192 else 0
def rdT (d : List UInt8) : List UInt8 := (d.drop 16).take (n4 d 8)
def readV (l : List UInt8) (at_ : Int) : Value :=
  if at_ < 0 ∨ (l.length : Int) < at_ then .tuple #[.agg #[.int .i64 0, .int .i64 0, .string (str [])], .int .i64 0, .int .i64 1]
  else if rdE (l.drop at_.toNat) = 0 then .tuple #[.agg #[.int .i64 (n4 (l.drop at_.toNat) 4 : Int), .int .i64 ((bt (l.drop at_.toNat) 2).toNat : Int), .string (str (rdT (l.drop at_.toNat)))], .int .i64 (at_ + (n4 (l.drop at_.toNat) 8 : Int) + 20), .int .i64 0]
  else .tuple #[.agg #[.int .i64 0, .int .i64 0, .string (str [])], .int .i64 0, .int .i64 (rdE (l.drop at_.toNat))]
theorem bt_get {d : List UInt8} {k : Nat} (h : k < d.length) : bt d k = d[k] := by simp [bt, h]
theorem sees_drop {w : World} {g o c k : Nat} {d : List UInt8} (h : Sees w (.slice (some ⟨g, o, none⟩) d.length c) (bytesV d)) (hk : k < d.length) : Sees w (.slice (some ⟨g, o + k, none⟩) (d.length - k) (c - k)) (bytesV (d.drop k)) := by
  obtain ⟨a, cap, hv, hN, hc, hm, hx⟩ := h
  have hbl := bytesV_len d
  rw [hbl] at hv hc
  cases hv
  have hbl2 := bytesV_len (d.drop k)
  refine ⟨some ⟨g, o + k, none⟩, c - k, by rw [hbl2]; simp, (fun h => by cases h), by rw [hbl2]; simp; omega, by omega, ?_⟩
  rcases hx with hx | ⟨g', off, ha, hg, hx⟩
  · rw [hx] at hbl; simp at hbl; omega
  · cases ha
    refine .inr ⟨g, o + k, rfl, hg, fun j u hj => ?_⟩
    rw [Nat.add_assoc]
    exact hx (k + j) u (by unfold bytesV at hj ⊢; rw [List.map_drop, List.getElem?_drop] at hj; exact hj)
theorem sees_take {w : World} {g o c k : Nat} {d : List UInt8} (h : Sees w (.slice (some ⟨g, o, none⟩) d.length c) (bytesV d)) (hk : k ≤ d.length) : Sees w (.slice (some ⟨g, o, none⟩) k c) (bytesV (d.take k)) := by
  have := h.take k (by rw [bytesV_len]; exact hk)
  unfold bytesV at this ⊢
  rw [List.map_take]
  exact this
theorem sees_byte {w : World} {g o c k : Nat} {d : List UInt8} (h : Sees w (.slice (some ⟨g, o, none⟩) d.length c) (bytesV d)) (hk : k < d.length) : w.cell? ⟨g, o + k, none⟩ = some (.int .u8 ((bt d k).toNat : Int)) := by
  obtain ⟨a, cap, hv, hN, hc, hm, hx⟩ := h
  rw [bytesV_len] at hv
  cases hv
  rcases hx with hx | ⟨g', off, ha, hg, hx⟩
  · have hbl := bytesV_len d
    rw [hx] at hbl; simp at hbl; omega
  · cases ha
    rw [hx k _ (bytesV_at d k hk), bt_get hk]
theorem byte_ne {b c : UInt8} (h : b ≠ c) : ((b.toNat : Int) != (c.toNat : Int)) = true := by
  rw [bne_iff_ne]
  intro e
  exact h (UInt8.toNat_inj.1 (by omega))
theorem byte_eq {b c : UInt8} (h : b = c) : ((b.toNat : Int) != (c.toNat : Int)) = false := by subst h; simp
theorem spoilt_cases (d : List UInt8) (h : spoilt d) : bt d 0 ≠ 82 ∨ (bt d 0 = 82 ∧ bt d 1 ≠ 76) ∨ (bt d 0 = 82 ∧ bt d 1 = 76 ∧ bt d 3 ≠ 0) ∨
    (bt d 0 = 82 ∧ bt d 1 = 76 ∧ bt d 3 = 0 ∧ n4 d 12 ≠ crc (d.take 12)) ∨
    (bt d 0 = 82 ∧ bt d 1 = 76 ∧ bt d 3 = 0 ∧ n4 d 12 = crc (d.take 12) ∧ ¬ recOk ((bt d 2).toNat : Int) (n4 d 4 : Int)) ∨
    (bt d 0 = 82 ∧ bt d 1 = 76 ∧ bt d 3 = 0 ∧ n4 d 12 = crc (d.take 12) ∧ recOk ((bt d 2).toNat : Int) (n4 d 4 : Int) ∧ 16384 < n4 d 8) := by
  unfold spoilt at h
  by_cases a : bt d 0 = 82 <;> by_cases b : bt d 1 = 76 <;> by_cases c : bt d 3 = 0 <;> by_cases e : n4 d 12 = crc (d.take 12) <;> by_cases f : recOk ((bt d 2).toNat : Int) (n4 d 4 : Int) <;> simp_all
theorem not_spoilt (d : List UInt8) (h : ¬ spoilt d) : bt d 0 = 82 ∧ bt d 1 = 76 ∧ bt d 3 = 0 ∧ n4 d 12 = crc (d.take 12) ∧ recOk ((bt d 2).toNat : Int) (n4 d 4 : Int) ∧ n4 d 8 ≤ 16384 := by
  unfold spoilt at h
  by_cases a : bt d 0 = 82 <;> by_cases b : bt d 1 = 76 <;> by_cases c : bt d 3 = 0 <;> by_cases e : n4 d 12 = crc (d.take 12) <;> by_cases f : recOk ((bt d 2).toNat : Int) (n4 d 4 : Int) <;> simp_all
theorem readV_err {l : List UInt8} {k : Nat} (hk : k ≤ l.length) {E : Int} (hE : rdE (l.drop k) = E) (h0 : E ≠ 0) : readV l (k : Int) = .tuple #[.agg #[.int .i64 0, .int .i64 0, .string (str [])], .int .i64 0, .int .i64 E] := by
  unfold readV
  rw [if_neg (by omega), Int.toNat_natCast, hE, if_neg h0]
theorem readV_ok {l : List UInt8} {k : Nat} (hk : k ≤ l.length) (hE : rdE (l.drop k) = 0) : readV l (k : Int) = .tuple #[.agg #[.int .i64 (n4 (l.drop k) 4 : Int), .int .i64 ((bt (l.drop k) 2).toNat : Int), .string (str (rdT (l.drop k)))], .int .i64 ((k : Int) + (n4 (l.drop k) 8 : Int) + 20), .int .i64 0] := by
  unfold readV
  rw [if_neg (by omega), Int.toNat_natCast, if_pos hE]
theorem rdE_spoilt {d : List UInt8} (h : 16 ≤ d.length) (hs : spoilt d) : rdE d = 192 := by unfold rdE; rw [if_neg (by omega), if_pos hs]
theorem rdE_torn {d : List UInt8} (h : 16 ≤ d.length) (hs : ¬ spoilt d) (ht : d.length < n4 d 8 + 20) : rdE d = 191 := by unfold rdE; rw [if_neg (by omega), if_neg hs, if_pos ht]
theorem rdE_sum {d : List UInt8} (h : 16 ≤ d.length) (hs : ¬ spoilt d) (ht : n4 d 8 + 20 ≤ d.length) (hc : n4 d (16 + n4 d 8) ≠ crc (d.take (16 + n4 d 8))) : rdE d = 192 := by unfold rdE; rw [if_neg (by omega), if_neg hs, if_neg (by omega), if_pos hc]
theorem rdE_ok {d : List UInt8} (h : 16 ≤ d.length) (hs : ¬ spoilt d) (ht : n4 d 8 + 20 ≤ d.length) (hc : n4 d (16 + n4 d 8) = crc (d.take (16 + n4 d 8))) : rdE d = 0 := by unfold rdE; rw [if_neg (by omega), if_neg hs, if_neg (by omega), if_neg (fun e => e hc)]
theorem run_string_sees {w : World} {g o c : Nat} {m : List UInt8} (h : Sees w (.slice (some ⟨g, o, none⟩) m.length c) (bytesV m)) : (convert 30 9 (.slice (some ⟨g, o, none⟩) m.length c)).run Try.prog w = .ok (.string (str m)) w := by
  have := run_convert_bytes_arg (P := Try.prog) w 30 5 Try.underlying30 Try.underlying5 g o m.length c (m.map fun b => (b.toNat : Int)) (by simp) (fun i hi => by
    rw [sees_byte h hi, bt_get hi]; simp [hi]) 9 Try.underlying9
  rw [this, strOf_map]
def rz : Array Value := #[.int .i64 0, .int .i64 0, .string (str [])]
theorem read_bad (l : List UInt8) (v : Value) (x : Int) (w : World) (hS : Sees w v (bytesV l)) (hx : x < 0 ∨ (l.length : Int) < x) :
    Calls Try.prog 7 #[v, .int .i64 x] w fun e w' => e = .returned (.tuple #[.agg #[.int .i64 0, .int .i64 0, .string (str [])], .int .i64 0, .int .i64 1]) ∧ Below w.heap.size w w' := by
  obtain ⟨a0, cap0, rfl, _, hcap, hcm, _⟩ := hS
  rw [bytesV_len] at hcap ⊢
  unfold maxLen at hcm
  rcases hx with hx | hx
  · go_enter Try.func7, Try.ntmps7
    go_wp2
    refine bodyPost_ret (v := .tuple #[.agg #[.int .i64 0, .int .i64 0, .string ⟨#[]⟩], .int .i64 0, .int .i64 1]) (by simp [results, Try.results7, go_sem]) rfl ⟨rfl, by go_grown⟩
  · have hx0 : 0 ≤ x := by omega
    go_enter Try.func7, Try.ntmps7
    go_wp2
    refine bodyPost_ret (v := .tuple #[.agg #[.int .i64 0, .int .i64 0, .string ⟨#[]⟩], .int .i64 0, .int .i64 1]) (by simp [results, Try.results7, go_sem]) rfl ⟨rfl, by go_grown⟩
theorem read_short (l : List UInt8) (v : Value) (k : Nat) (w : World) (hS : Sees w v (bytesV l)) (hk : k ≤ l.length) (h16 : l.length < k + 16) :
    Calls Try.prog 7 #[v, .int .i64 (k : Int)] w fun e w' => e = .returned (.tuple #[.agg #[.int .i64 0, .int .i64 0, .string (str [])], .int .i64 0, .int .i64 191]) ∧ Below w.heap.size w w' := by
  obtain ⟨a0, cap0, rfl, hN, hcap, hcm, _⟩ := hS
  rw [bytesV_len] at hcap ⊢
  unfold maxLen at hcm
  have hkc : k ≤ cap0 := by omega
  cases a0 with
  | none =>
    have hc0 := hN rfl
    have hl0 : l.length = 0 := by omega
    have hk0 : k = 0 := by omega
    subst hk0
    rw [hl0, hc0]
    clear hN hcap hcm h16 hkc hk hc0 hl0
    go_enter Try.func7, Try.ntmps7
    go_wp2
    refine bodyPost_ret (v := .tuple #[.agg #[.int .i64 0, .int .i64 0, .string ⟨#[]⟩], .int .i64 0, .int .i64 191]) (by simp [results, Try.results7, go_sem]) rfl ⟨rfl, by go_grown⟩
  | some ad =>
    clear hN
    go_enter Try.func7, Try.ntmps7
    go_wp2
    all_goals refine bodyPost_ret (v := .tuple #[.agg #[.int .i64 0, .int .i64 0, .string ⟨#[]⟩], .int .i64 0, .int .i64 191]) (by simp [results, Try.results7, go_sem]) rfl ⟨rfl, by go_grown⟩
end Go.Proofs.Ytfilbjooebnbkaa.Lg
