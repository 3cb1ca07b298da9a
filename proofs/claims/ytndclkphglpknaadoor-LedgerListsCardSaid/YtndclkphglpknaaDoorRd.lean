/- Read: what it answers; helpers of the walk. -/
import Derived.Test.YtndclkphglpknaaDoorNu
namespace Go.Proofs.YtndclkphglpknaaDoor.Lg
open Go.RowKit Mm
/-- byte k -/
def bt (d : List UInt8) (k : Nat) : UInt8 := d.getD k 0
def n4 (d : List UInt8) (k : Nat) : Nat := num4 ((d.drop k).take 4)
def spoilt (d : List UInt8) : Prop := bt d 0 ≠ 82 ∨ bt d 1 ≠ 76 ∨ bt d 3 ≠ 0 ∨ n4 d 12 ≠ crc (d.take 12) ∨ ¬ recOk ((bt d 2).toNat : Int) (n4 d 4 : Int) ∨ 16384 < n4 d 8
instance (d : List UInt8) : Decidable (spoilt d) := by unfold spoilt; infer_instance
/-- the error that bytes give, read from their beginning -/
def rdE (d : List UInt8) : Int := if d.length < 16 then 191 else if spoilt d then 192 else if d.length < n4 d 8 + 20 then 191 else if n4 d (16 + n4 d 8) ≠ crc (d.take (16 + n4 d 8)) then 192 else 0
/-- .. and the record's text -/
def rdT (d : List UInt8) : List UInt8 := (d.drop 16).take (n4 d 8)
/-- Read's three answers -/
def readV (l : List UInt8) (at_ : Int) : Value :=
  if at_ < 0 ∨ (l.length : Int) < at_ then .tuple #[.agg #[.int .i64 0, .int .i64 0, .string (str [])], .int .i64 0, .int .i64 1]
  else if rdE (l.drop at_.toNat) = 0 then .tuple #[.agg #[.int .i64 (n4 (l.drop at_.toNat) 4 : Int), .int .i64 ((bt (l.drop at_.toNat) 2).toNat : Int), .string (str (rdT (l.drop at_.toNat)))], .int .i64 (at_ + (n4 (l.drop at_.toNat) 8 : Int) + 20), .int .i64 0]
  else .tuple #[.agg #[.int .i64 0, .int .i64 0, .string (str [])], .int .i64 0, .int .i64 (rdE (l.drop at_.toNat))]
theorem bt_get {d : List UInt8} {k : Nat} (h : k < d.length) : bt d k = d[k] := by simp [bt, h]
theorem sees_drop {w : World} {g o c k : Nat} {d : List UInt8} (h : Sees w (.slice (some ⟨g, o, none⟩) d.length c) (bytesV d)) (hk : k < d.length) : Sees w (.slice (some ⟨g, o + k, none⟩) (d.length - k) (c - k)) (bytesV (d.drop k)) := by
  obtain ⟨a, cap, hv, hN, hc, hm, hx⟩ := h
  have hbl := bytesV_len d
  rw [hbl] at hv hc
  cases hv
  have hbl2 := bytesV_len (d.drop k)
  refine ⟨some ⟨g, o + k, none⟩, c - k, by rw [hbl2]; simp, (fun h => by cases h), by rw [hbl2]; simp; omega, by omega, ?_⟩
  rcases hx with hx | ⟨g', off, ha, hg, hx⟩
  · rw [hx] at hbl; simp at hbl; omega
  · cases ha
    refine .inr ⟨g, o + k, rfl, hg, fun j u hj => ?_⟩
    rw [Nat.add_assoc]
    exact hx (k + j) u (by unfold bytesV at hj ⊢; rw [List.map_drop, List.getElem?_drop] at hj; exact hj)
theorem sees_take {w : World} {g o c k : Nat} {d : List UInt8} (h : Sees w (.slice (some ⟨g, o, none⟩) d.length c) (bytesV d)) (hk : k ≤ d.length) : Sees w (.slice (some ⟨g, o, none⟩) k c) (bytesV (d.take k)) := by
  have := h.take k (by rw [bytesV_len]; exact hk)
  unfold bytesV at this ⊢
  rw [List.map_take]
  exact this
theorem sees_byte {w : World} {g o c k : Nat} {d : List UInt8} (h : Sees w (.slice (some ⟨g, o, none⟩) d.length c) (bytesV d)) (hk : k < d.length) : w.cell? ⟨g, o + k, none⟩ = some (.int .u8 ((bt d k).toNat : Int)) := by
  obtain ⟨a, cap, hv, hN, hc, hm, hx⟩ := h
  rw [bytesV_len] at hv
  cases hv
  rcases hx with hx | ⟨g', off, ha, hg, hx⟩
  · have hbl := bytesV_len d
    rw [hx] at hbl; simp at hbl; omega
  · cases ha
    rw [hx k _ (bytesV_at d k hk), bt_get hk]
theorem byte_ne {b c : UInt8} (h : b ≠ c) : ((b.toNat : Int) != (c.toNat : Int)) = true := by
  rw [bne_iff_ne]
  intro e
  exact h (UInt8.toNat_inj.1 (by omega))
theorem byte_eq {b c : UInt8} (h : b = c) : ((b.toNat : Int) != (c.toNat : Int)) = false := by subst h; simp
theorem spoilt_cases (d : List UInt8) (h : spoilt d) : bt d 0 ≠ 82 ∨ (bt d 0 = 82 ∧ bt d 1 ≠ 76) ∨ (bt d 0 = 82 ∧ bt d 1 = 76 ∧ bt d 3 ≠ 0) ∨
    (bt d 0 = 82 ∧ bt d 1 = 76 ∧ bt d 3 = 0 ∧ n4 d 12 ≠ crc (d.take 12)) ∨
    (bt d 0 = 82 ∧ bt d 1 = 76 ∧ bt d 3 = 0 ∧ n4 d 12 = crc (d.take 12) ∧ ¬ recOk ((bt d 2).toNat : Int) (n4 d 4 : Int)) ∨
    (bt d 0 = 82 ∧ bt d 1 = 76 ∧ bt d 3 = 0 ∧ n4 d 12 = crc (d.take 12) ∧ recOk ((bt d 2).toNat : Int) (n4 d 4 : Int) ∧ 16384 < n4 d 8) := by
  unfold spoilt at h
  by_cases a : bt d 0 = 82 <;> by_cases b : bt d 1 = 76 <;> by_cases c : bt d 3 = 0 <;> by_cases e : n4 d 12 = crc (d.take 12) <;> by_cases f : recOk ((bt d 2).toNat : Int) (n4 d 4 : Int) <;> simp_all
theorem not_spoilt (d : List UInt8) (h : ¬ spoilt d) : bt d 0 = 82 ∧ bt d 1 = 76 ∧ bt d 3 = 0 ∧ n4 d 12 = crc (d.take 12) ∧ recOk ((bt d 2).toNat : Int) (n4 d 4 : Int) ∧ n4 d 8 ≤ 16384 := by
  unfold spoilt at h
  by_cases a : bt d 0 = 82 <;> by_cases b : bt d 1 = 76 <;> by_cases c : bt d 3 = 0 <;> by_cases e : n4 d 12 = crc (d.take 12) <;> by_cases f : recOk ((bt d 2).toNat : Int) (n4 d 4 : Int) <;> simp_all
theorem readV_err {l : List UInt8} {k : Nat} (hk : k ≤ l.length) {E : Int} (hE : rdE (l.drop k) = E) (h0 : E ≠ 0) : readV l (k : Int) = .tuple #[.agg #[.int .i64 0, .int .i64 0, .string (str [])], .int .i64 0, .int .i64 E] := by
  unfold readV
  rw [if_neg (by omega), Int.toNat_natCast, hE, if_neg h0]
theorem readV_ok {l : List UInt8} {k : Nat} (hk : k ≤ l.length) (hE : rdE (l.drop k) = 0) : readV l (k : Int) = .tuple #[.agg #[.int .i64 (n4 (l.drop k) 4 : Int), .int .i64 ((bt (l.drop k) 2).toNat : Int), .string (str (rdT (l.drop k)))], .int .i64 ((k : Int) + (n4 (l.drop k) 8 : Int) + 20), .int .i64 0] := by
  unfold readV
  rw [if_neg (by omega), Int.toNat_natCast, if_pos hE]
theorem rdE_spoilt {d : List UInt8} (h : 16 ≤ d.length) (hs : spoilt d) : rdE d = 192 := by unfold rdE; rw [if_neg (by omega), if_pos hs]
theorem rdE_torn {d : List UInt8} (h : 16 ≤ d.length) (hs : ¬ spoilt d) (ht : d.length < n4 d 8 + 20) : rdE d = 191 := by unfold rdE; rw [if_neg (by omega), if_neg hs, if_pos ht]
theorem rdE_sum {d : List UInt8} (h : 16 ≤ d.length) (hs : ¬ spoilt d) (ht : n4 d 8 + 20 ≤ d.length) (hc : n4 d (16 + n4 d 8) ≠ crc (d.take (16 + n4 d 8))) : rdE d = 192 := by unfold rdE; rw [if_neg (by omega), if_neg hs, if_neg (by omega), if_pos hc]
theorem rdE_ok {d : List UInt8} (h : 16 ≤ d.length) (hs : ¬ spoilt d) (ht : n4 d 8 + 20 ≤ d.length) (hc : n4 d (16 + n4 d 8) = crc (d.take (16 + n4 d 8))) : rdE d = 0 := by unfold rdE; rw [if_neg (by omega), if_neg hs, if_neg (by omega), if_neg (fun e => e hc)]
theorem run_string_sees {w : World} {g o c : Nat} {m : List UInt8} (h : Sees w (.slice (some ⟨g, o, none⟩) m.length c) (bytesV m)) : (convert 22 9 (.slice (some ⟨g, o, none⟩) m.length c)).run Tryd.prog w = .ok (.string (str m)) w := by
  have := run_convert_bytes_arg (P := Tryd.prog) w 22 5 Tryd.underlying22 Tryd.underlying5 g o m.length c (m.map fun b => (b.toNat : Int)) (by simp) (fun i hi => by
    rw [sees_byte h hi, bt_get hi]; simp [hi]) 9 Tryd.underlying9
  rw [this, strOf_map]
def rz : Array Value := #[.int .i64 0, .int .i64 0, .string (str [])]
theorem read_bad (l : List UInt8) (v : Value) (x : Int) (w : World) (hS : Sees w v (bytesV l)) (hx : x < 0 ∨ (l.length : Int) < x) :
    Calls Tryd.prog 12 #[v, .int .i64 x] w fun e w' => e = .returned (.tuple #[.agg #[.int .i64 0, .int .i64 0, .string (str [])], .int .i64 0, .int .i64 1]) ∧ Below w.heap.size w w' := by
  obtain ⟨a0, cap0, rfl, _, hcap, hcm, _⟩ := hS
  rw [bytesV_len] at hcap ⊢
  unfold maxLen at hcm
  rcases hx with hx | hx
  · go_enter Tryd.func12, Tryd.ntmps12
    go_wp2
    refine bodyPost_ret (v := .tuple #[.agg #[.int .i64 0, .int .i64 0, .string ⟨#[]⟩], .int .i64 0, .int .i64 1]) (by simp [results, Tryd.results12, go_sem]) rfl ⟨rfl, by go_grown⟩
  · have hx0 : 0 ≤ x := by omega
    go_enter Tryd.func12, Tryd.ntmps12
    go_wp2
    refine bodyPost_ret (v := .tuple #[.agg #[.int .i64 0, .int .i64 0, .string ⟨#[]⟩], .int .i64 0, .int .i64 1]) (by simp [results, Tryd.results12, go_sem]) rfl ⟨rfl, by go_grown⟩
theorem read_short (l : List UInt8) (v : Value) (k : Nat) (w : World) (hS : Sees w v (bytesV l)) (hk : k ≤ l.length) (h16 : l.length < k + 16) :
    Calls Tryd.prog 12 #[v, .int .i64 (k : Int)] w fun e w' => e = .returned (.tuple #[.agg #[.int .i64 0, .int .i64 0, .string (str [])], .int .i64 0, .int .i64 191]) ∧ Below w.heap.size w w' := by
  obtain ⟨a0, cap0, rfl, hN, hcap, hcm, _⟩ := hS
  rw [bytesV_len] at hcap ⊢
  unfold maxLen at hcm
  have hkc : k ≤ cap0 := by omega
  cases a0 with
  | none =>
    have hc0 := hN rfl
    have hl0 : l.length = 0 := by omega
    have hk0 : k = 0 := by omega
    subst hk0
    rw [hl0, hc0]
    clear hN hcap hcm h16 hkc hk hc0 hl0
    go_enter Tryd.func12, Tryd.ntmps12
    go_wp2
    refine bodyPost_ret (v := .tuple #[.agg #[.int .i64 0, .int .i64 0, .string ⟨#[]⟩], .int .i64 0, .int .i64 191]) (by simp [results, Tryd.results12, go_sem]) rfl ⟨rfl, by go_grown⟩
  | some ad =>
    clear hN
    go_enter Tryd.func12, Tryd.ntmps12
    go_wp2
    all_goals refine bodyPost_ret (v := .tuple #[.agg #[.int .i64 0, .int .i64 0, .string ⟨#[]⟩], .int .i64 0, .int .i64 191]) (by simp [results, Tryd.results12, go_sem]) rfl ⟨rfl, by go_grown⟩
end Go.Proofs.YtndclkphglpknaaDoor.Lg
