/- The document's Encode. -/
import Derived.Test.YtfilbjooebnbkaaEn
import Derived.Lib.AppendStr
namespace Go.Proofs.Ytfilbjooebnbkaa.Lg
open Go.RowKit Mm
theorem w8 (x : Nat) : IntKind.u8.wrap (x : Int) = ((x % 256 : Nat) : Int) := by rw [IntKind.wrap_u8']; omega
theorem fb0 (n : Nat) : IntKind.u8.wrap ((n : Int) / 16777216) = ((fb n 0).toNat : Int) := by
  have e : ((n : Int) / 16777216) = ((n / 16777216 : Nat) : Int) := by omega
  rw [e, w8, fb_nat]
theorem fb1 (n : Nat) : IntKind.u8.wrap ((n : Int) / 65536) = ((fb n 1).toNat : Int) := by
  have e : ((n : Int) / 65536) = ((n / 65536 : Nat) : Int) := by omega
  rw [e, w8, fb_nat]
theorem fb2 (n : Nat) : IntKind.u8.wrap ((n : Int) / 256) = ((fb n 2).toNat : Int) := by
  have e : ((n : Int) / 256) = ((n / 256 : Nat) : Int) := by omega
  rw [e, w8, fb_nat]
theorem fb3 (n : Nat) : IntKind.u8.wrap (n : Int) = ((fb n 3).toNat : Int) := by
  rw [w8, fb_nat]; simp
theorem rfour (n : Nat) (x : Int) (hx : x = (n : Int)) (w : World) : Calls Try.prog 12 #[.int .i64 x] w fun e w' => ∃ v, e = .returned v ∧ Sees w' v (bytesV (four n)) ∧ Below w.heap.size w w' := by
  subst hx
  have e0 := fb0 n
  have e1 := fb1 n
  have e2 := fb2 n
  have e3 := fb3 n
  have HF := Lib.hid (show four n = [fb n 0, fb n 1, fb n 2, fb n 3] from rfl)
  generalize fb n 0 = b0 at *
  generalize fb n 1 = b1 at *
  generalize fb n 2 = b2 at *
  generalize fb n 3 = b3 at *
  go_enter Try.func12, Try.ntmps12
  go_wp2
  go_ret
  refine ⟨_, rfl, ?_, by go_grown⟩
  rw [HF.out]
  exact sees_blk (l := [b0, b1, b2, b3]) (Blk.new w _ _) (by simp [maxLen])
theorem app_text {B : Nat} {v : Value} {n : Nat} {l : List UInt8} {w : World} {t : ByteArray} {ops : Array Oper} {rest : List Oper} {op : Oper} {a : Act} {Q : Exit → Act → World → Prop} {s x : Operand}
    (hown : w.ownsRow B 5 1 v n (bytesV l)) (hgd : op.guard = none) (ho : op.op = .call { callee := .builtin .append, args := #[s, x], argTypes := #[30, 9] })
    (hs : a.eval s = v) (hx : a.eval x = .string t) (hn : n + t.size ≤ 140737488355328) (hB : B ≤ w.heap.size)
    (h : ∀ v' w', w'.ownsRow B 5 1 v' (n + t.size) (bytesV (l ++ t.data.toList)) → w.grownBy w' v.ownBlock → wpList Try.prog ops Q rest (a.put op.dst v') w') : wpList Try.prog ops Q (op :: rest) a w := by
  obtain ⟨i0, hi, hz0, hz1, hz2⟩ := info_parts info_byte
  refine Lib.wpList_append_own_string (w := w) hgd s x 30 9 ho B 5 i0 Try.underlying30 Try.underlying9 hi hz0 hz1 hz2 v n _ hs hown t hx (by simp only [maxLen]; omega) hn hB ?_
  intro v' w' h1 h2 _
  exact h v' w' (by unfold bytesV at h1 ⊢; rw [List.map_append]; exact h1) h2
theorem renc_long (seq kind : Int) (t : ByteArray) (w : World) (h : 16384 < t.size) (hs : t.size ≤ maxLen) :
    Calls Try.prog 6 #[.agg #[.int .i64 seq, .int .i64 kind, .string t]] w fun e w' => e = .returned (.tuple #[.slice none 0 0, .int .i64 2]) ∧ Below w.heap.size w w' := by
  unfold maxLen at hs
  go_enter Try.func6, Try.ntmps6
  go_wp2
  go_ret2
  exact ⟨rfl, by go_grown⟩
theorem renc_bad (seq kind : Int) (t : ByteArray) (w : World) (h : t.size ≤ 16384) (hb : ¬ recOk kind seq) :
    Calls Try.prog 6 #[.agg #[.int .i64 seq, .int .i64 kind, .string t]] w fun e w' => e = .returned (.tuple #[.slice none 0 0, .int .i64 190]) ∧ Below w.heap.size w w' := by
  have h' : kind < 1 ∨ (1 ≤ kind ∧ 4 < kind) ∨ (1 ≤ kind ∧ kind ≤ 4 ∧ seq < 1) ∨ (1 ≤ kind ∧ kind ≤ 4 ∧ 1 ≤ seq ∧ 2147483647 < seq) := by unfold recOk at hb; omega
  clear hb
  rcases h' with h | ⟨h1, h2⟩ | ⟨h1, h2, h3⟩ | ⟨h1, h2, h3, h4⟩
  all_goals
    go_enter Try.func6, Try.ntmps6
    go_wp2
    go_ret2
    exact ⟨rfl, by go_grown⟩
set_option maxRecDepth 100000 in
set_option maxHeartbeats 2000000 in
theorem renc_yes (seq kind : Nat) (t : ByteArray) (w : World) (h : t.size ≤ 16384) (hb : recOk kind seq) :
    Calls Try.prog 6 #[.agg #[.int .i64 seq, .int .i64 kind, .string t]] w fun e w' => ∃ v, e = .returned (.tuple #[v, .int .i64 0]) ∧ w'.ownsRow w.heap.size 5 1 v (t.size + 20) (bytesV (enc kind seq t.data.toList)) ∧ Below w.heap.size w w' := by
  obtain ⟨b1, b2, b3, b4⟩ := hb
  have hkk : kind < 256 := by omega
  have hss : seq < 4294967296 := by omega
  have HT := Lib.hid (len_s t)
  have x1 : IntKind.u8.wrap (kind : Int) = (kind : Int) := by rw [IntKind.wrap_u8']; omega
  go_enter Try.func6, Try.ntmps6
  go_upto_region 6 with fail
  generalize hW : World.alloc (World.alloc w _) _ = W
  have hR : Blk W w.heap.size 29 #[.int .i64 (seq : Int), .int .i64 (kind : Int), .string t] := by
    rw [← hW]; exact (Blk.new w _ _).alloc _
  have hO : W.ownsRow w.heap.size 5 1 (.slice (some ⟨w.heap.size + 1, 0, none⟩) 4 4) 4 (bytesV [82, 76, UInt8.ofNat kind, 0]) := by
    rw [← hW]
    have := Blk.new (w.alloc (.cells #[.int .i64 (seq : Int), .int .i64 (kind : Int), .string t] 29)) 5 (bytesV [82, 76, UInt8.ofNat kind, 0]).toArray
    rw [World.size_alloc] at this
    have e : (bytesV [82, 76, UInt8.ofNat kind, 0]).toArray = #[.int .u8 82, .int .u8 76, .int .u8 (kind : Int), .int .u8 0] := by
      simp only [bytesV, List.map_cons, List.map_nil, bv]
      rw [show ((UInt8.ofNat kind).toNat : Int) = (kind : Int) by rw [UInt8.toNat_ofNat', Nat.mod_eq_of_lt hkk]]
      rfl
    have h2 := own_blk this (Nat.le_succ w.heap.size) (by simp [maxLen])
    rw [e] at h2
    exact h2
  have hbW : Below w.heap.size w W := by rw [← hW]; go_grown
  clear hW x1
  have r0 := hR.cell
  have hl0 := hR.lt
  go_upto_region 7 with (first | (go_at_call 12; refine (rfour seq _ rfl _).mono ?_; rintro e w2 ⟨v2, rfl, hS2, hb2⟩; have hO2 := own_below hO hb2 (Nat.le_refl _); have hbw2 := bnx hbW hb2; have hR2 := hR.below hb2 hR.lt) | (at_builtin; refine app_bytes hO2 hS2 rfl rfl rfl rfl (by simp [four_len]) hbw2.size ?_; intro v3 w3 hO3 hg3))
  rw [four_len] at hO3
  have hR3 := hR2.grown hg3 (blk_apart hR2 hO2 (by decide))
  have hb3 : Below w.heap.size w w3 := hbw2.trans ((below_grown hO2 hg3 hbw2.size))
  clear hO hbW hR r0 hl0 hS2 hb2 hO2 hbw2 hR2 hg3
  have r0 := hR3.cell
  have hl0 := hR3.lt
  go_upto_region 8 with (first | (go_at_call 12; refine (rfour t.size _ rfl _).mono ?_; rintro e w4 ⟨v4, rfl, hS4, hb4⟩; have hO4 := own_below hO3 hb4 (Nat.le_refl _); have hbw4 := bnx hb3 hb4; have hR4 := hR3.below hb4 hR3.lt) | (at_builtin; refine app_bytes hO4 hS4 rfl rfl rfl rfl (by simp [four_len]) hbw4.size ?_; intro v5 w5 hO5 hg5))
  rw [four_len] at hO5
  have e5 : [82, 76, UInt8.ofNat kind, 0] ++ four seq ++ four t.size = head0 kind seq t.size := rfl
  rw [e5] at hO5
  have hR5 := hR4.grown hg5 (blk_apart hR4 hO4 (by decide))
  have hb5 : Below w.heap.size w w5 := hbw4.trans ((below_grown hO4 hg5 hbw4.size))
  clear hO3 hb3 hR3 r0 hl0 hS4 hb4 hO4 hbw4 hR4 hg5 e5
  go_wp2_with fail
  refine (rsum_any (head0 kind seq t.size) _ _ (Sees.of_own hO5)).mono ?_
  rintro e w' ⟨rfl, rfl⟩
  go_upto_region 10 with (first | (go_at_call 12; refine (rfour (crc (head0 kind seq t.size)) _ rfl _).mono ?_; rintro e w6 ⟨v6, rfl, hS6, hb6⟩; have hO6 := own_below hO5 hb6 (Nat.le_refl _); have hbw6 := bnx hb5 hb6; have hR6 := hR5.below hb6 hR5.lt) | (at_builtin; refine app_bytes hO6 hS6 rfl rfl rfl rfl (by simp [four_len]) hbw6.size ?_; intro v7 w7 hO7 hg7))
  rw [four_len] at hO7
  have e7 : head0 kind seq t.size ++ four (crc (head0 kind seq t.size)) = head1 kind seq t.size := rfl
  rw [e7] at hO7
  have hR7 := hR6.grown hg7 (blk_apart hR6 hO6 (by decide))
  have hb7 : Below w.heap.size w w7 := hbw6.trans ((below_grown hO6 hg7 hbw6.size))
  clear hO5 hb5 hR5 hS6 hb6 hO6 hbw6 hR6 hg7 e7
  have r0 := hR7.cell
  have hl0 := hR7.lt
  go_upto_region 11 with (at_builtin; refine app_text hO7 rfl rfl rfl rfl (by omega) hb7.size ?_; intro v8 w8 hO8 hg8)
  have hb8 : Below w.heap.size w w8 := hb7.trans ((below_grown hO7 hg8 hb7.size))
  clear hO7 hb7 hR7 hg8 r0 hl0
  go_wp2_with fail
  refine (rsum_any (head1 kind seq t.size ++ t.data.toList) _ _ (Sees.of_own hO8)).mono ?_
  rintro e w' ⟨rfl, rfl⟩
  go_wp2_with (first | (go_at_call 12; refine (rfour (crc (head1 kind seq t.size ++ t.data.toList)) _ rfl _).mono ?_; rintro e w9 ⟨v9, rfl, hS9, hb9⟩; have hO9 := own_below hO8 hb9 (Nat.le_refl _); have hbw9 := bnx hb8 hb9) | (at_builtin; refine app_bytes hO9 hS9 rfl rfl rfl rfl (by simp [four_len]; omega) hbw9.size ?_; intro v10 w10 hO10 hg10))
  rw [four_len] at hO10
  have e10 : head1 kind seq t.size ++ t.data.toList ++ four (crc (head1 kind seq t.size ++ t.data.toList)) = enc kind seq t.data.toList := by unfold enc; rw [HT.out]
  rw [e10] at hO10
  have hb10 : Below w.heap.size w w10 := hbw9.trans ((below_grown hO9 hg10 hbw9.size))
  go_ret2
  refine ⟨_, rfl, ?_, hb10⟩
  rw [show t.size + 20 = 4 + 4 + 4 + 4 + t.size + 4 by omega]
  exact hO10
/-- The document's Encode at any record. -/
theorem rencode_any (seq kind : Int) (t : ByteArray) (w : World) (hs : t.size ≤ maxLen) :
    Calls Try.prog 6 #[.agg #[.int .i64 seq, .int .i64 kind, .string t]] w fun e w' => ∃ v, e = .returned (.tuple #[v, .int .i64 (encE kind seq t.data.toList)]) ∧ w'.ownsRow w.heap.size 5 1 v (encT kind seq t.data.toList).length (bytesV (encT kind seq t.data.toList)) ∧ Below w.heap.size w w' := by
  have hl := len_s t
  by_cases h : 16384 < t.size
  · have e1 : encE kind seq t.data.toList = 2 := by unfold encE; rw [if_pos (by omega)]
    have e2 : encT kind seq t.data.toList = [] := by unfold encT; rw [e1]; rfl
    rw [e1, e2]
    exact (renc_long seq kind t w h hs).mono fun e w' ⟨he, hb⟩ => ⟨_, he, World.ownsRow_nil _ _ _ _, hb⟩
  · by_cases hr : recOk kind seq
    · have e1 : encE kind seq t.data.toList = 0 := by unfold encE; rw [if_neg (by omega), if_pos hr]
      have e2 : encT kind seq t.data.toList = enc kind.toNat seq.toNat t.data.toList := by unfold encT; rw [e1]; rfl
      rw [e1, e2]
      obtain ⟨k, rfl⟩ := Int.eq_ofNat_of_zero_le (show 0 ≤ kind by have := hr.1; omega)
      obtain ⟨s, rfl⟩ := Int.eq_ofNat_of_zero_le (show 0 ≤ seq by have := hr.2.2.1; omega)
      simp only [Int.toNat_natCast]
      refine (renc_yes s k t w (by omega) hr).mono fun e w' ⟨v, he, hO, hb⟩ => ⟨v, he, ?_, hb⟩
      rw [enc_len, hl]
      exact hO
    · have e1 : encE kind seq t.data.toList = 190 := by unfold encE; rw [if_neg (by omega), if_neg hr]
      have e2 : encT kind seq t.data.toList = [] := by unfold encT; rw [e1]; rfl
      rw [e1, e2]
      exact (renc_bad seq kind t w (by omega) hr).mono fun e w' ⟨he, hb⟩ => ⟨_, he, World.ownsRow_nil _ _ _ _, hb⟩
end Go.Proofs.Ytfilbjooebnbkaa.Lg
