/- The laws' fixed example; LedgerEncodes, LedgerReads. -/
import Derived.Test.YtcofndegcleicaaRm
import Derived.Test.YtcofndegcleicaaRr
import Derived.ChangeKeysEq
namespace Go.Proofs.Ytcofndegcleicaa.Lg
open Go.RowKit Mm
theorem rec_eql (a b : Int) (s : ByteArray) (w : World) : (binOp .eql 27 (.agg #[.int .i64 a, .int .i64 b, .string s]) (.agg #[.int .i64 a, .int .i64 b, .string s])).run Try.prog w = .ok (.bool true) w := by
  rw [run_eql_struct]
  simp [go_sem]
def ex : List UInt8 := enc 4 1 [55]
theorem ex_len : ex.length = 21 := by rfl
theorem ex_rd : rdE ex = 0 := by decide +kernel
theorem ex_parts : n4 ex 4 = 1 ∧ (bt ex 2).toNat = 4 ∧ rdT ex = [55] ∧ n4 ex 8 = 1 := by decide +kernel
theorem ex_read : readV ex 0 = .tuple #[.agg #[.int .i64 1, .int .i64 4, .string (str [55])], .int .i64 21, .int .i64 0] := by
  have h := readV_ok (l := ex) (k := 0) (Nat.zero_le _) (by rw [List.drop_zero]; exact ex_rd)
  rw [List.drop_zero] at h
  obtain ⟨p1, p2, p3, p4⟩ := ex_parts
  rw [p1, p2, p3, p4] at h
  exact h
theorem ex_enc : encE 4 1 [55] = 0 ∧ encT 4 1 [55] = ex := by
  have h : encE 4 1 [55] = 0 := by decide
  exact ⟨h, by unfold encT; rw [h]; rfl⟩
set_option maxHeartbeats 1000000 in
theorem fixed_yes (w : World) : Calls Try.prog 19 #[] w fun e w' => e = .returned (.bool true) ∧ Below w.heap.size w w' := by
  have hen := fun w => encode_any 1 4 ⟨#[55]⟩ w (by decide)
  rw [show (⟨#[55]⟩ : ByteArray).data.toList = [55] from rfl, ex_enc.1, ex_enc.2, ex_len] at hen
  have HE := Lib.hid hen
  have HR := Lib.hid (fun v w (h : Sees w v (bytesV ex)) => show Calls Try.prog 20 #[v, .int .i64 0] w fun e w' => e = .returned (.tuple #[.agg #[.int .i64 1, .int .i64 4, .string ⟨#[55]⟩], .int .i64 21, .int .i64 0]) ∧ Below w.heap.size w w' from by
    have := read_any ex v 0 w h
    rw [ex_read] at this
    exact this)
  have hq := rec_eql 1 4 ⟨#[55]⟩
  clear hen
  go_enter Try.func19, Try.ntmps19
  go_wp2_with fail
  refine (HE.out _).mono ?_
  rintro e w1 ⟨v, rfl, ho, hb1⟩
  obtain ⟨a1, cap1, hv⟩ := own_len ho
  subst hv
  have hS := Sees.of_own ho
  go_wp2_with fail
  refine (HR.out _ _ hS).mono ?_
  rintro e w2 ⟨rfl, hb2⟩
  go_wp2_with fail
  go_ret
  exact ⟨rfl, bal (bnx hb1 hb2) _⟩
theorem readV_form (l : List UInt8) (x : Int) : ∃ a b s nx E, readV l x = .tuple #[.agg #[.int .i64 a, .int .i64 b, .string s], .int .i64 nx, .int .i64 E] := by
  unfold readV
  split
  · exact ⟨_, _, _, _, _, rfl⟩
  · split
    · exact ⟨_, _, _, _, _, rfl⟩
    · exact ⟨_, _, _, _, _, rfl⟩
set_option maxRecDepth 100000 in
set_option maxHeartbeats 4000000 in
theorem reads_walk (v : Value) (l : List UInt8) (n : Int) (_ : (Lit.int .i64 n).wf = true) (x : Int) (_ : (Lit.int .i64 x).wf = true) (w : World) (hS : Sees w v (bytesV l)) :
    Calls Try.prog 5 #[v, .int .i64 n, .int .i64 x] w fun e w' => e = .returned (.bool true) ∧ Below w.heap.size w w' := by
  obtain ⟨a0, cap0, hv, hN, hcap, hcm, _⟩ := id hS
  rw [bytesV_len] at hv hcap
  subst hv
  unfold maxLen at hcm
  by_cases hl : 200000 < l.length
  · clear hS hN
    go_enter Try.func5, Try.ntmps5
    go_wp2
    go_ret
    exact ⟨rfl, Below.refl _ _⟩
  · have hl' : l.length ≤ 200000 := by omega
    clear hl
    by_cases hn0 : n < 0
    · clear hS hN
      go_enter Try.func5, Try.ntmps5
      go_wp2
      go_ret
      exact ⟨rfl, Below.refl _ _⟩
    · by_cases hn1 : (l.length : Int) < n
      · clear hS hN
        have hn0' : 0 ≤ n := by omega
        clear hn0
        go_enter Try.func5, Try.ntmps5
        go_wp2
        go_ret
        exact ⟨rfl, Below.refl _ _⟩
      · obtain ⟨k, rfl⟩ := Int.eq_ofNat_of_zero_le (show 0 ≤ n by omega)
        have hk : k ≤ l.length := by omega
        clear hn0 hn1
        have hempty : (w.alloc (.cells #[] 5)).ownsRow w.heap.size 5 1 (.slice (some ⟨w.heap.size, 0, none⟩) 0 0) 0 (bytesV []) := World.ownsRow_made w #[] 0 (Nat.le_refl _) (by decide) rfl
        have HE := Lib.hid hempty
        have HS := Lib.hid hS
        obtain ⟨r1, r2, r3, r4, r5, hr⟩ := readV_form (l.take k) x
        have HR := Lib.hid hr
        have hq := rec_eql r1 r2 r3
        have hq4 : (r4 == r4) = true := by simp
        have hq5 : (r5 == r5) = true := by simp
        have hkc : k ≤ cap0 := by omega
        clear hempty hS hr
        go_enter Try.func5, Try.ntmps5
        go_upto_region 4 with (at_builtin; refine app_bytes HE.out (HS.out.alloc _) rfl rfl rfl rfl (by omega) (by simp) ?_; intro v1 w1 hown1 hg1)
        rw [List.nil_append, Nat.zero_add] at hown1
        have hb1 : Below w.heap.size w w1 := ((Below.refl _ w).alloc (Nat.le_refl _) _).trans (below_grown HE.out hg1 (by simp))
        have hS1 := HS.out.below hb1
        have hT1 := Sees.of_own hown1
        obtain ⟨a1, cap1, hv1, hN1, hc1, _, _⟩ := id hT1
        rw [bytesV_len] at hv1 hc1
        subst hv1
        have hk1 : k ≤ cap1 := by omega
        have hSk := hS1.take k (by rw [bytesV_len]; exact hk)
        have hTk := hT1.take k (by rw [bytesV_len]; exact hk)
        rw [show (bytesV l).take k = bytesV (l.take k) by unfold bytesV; rw [List.map_take]] at hSk hTk
        clear hg1 HE
        have hR1 := fun w' (h : Below w1.heap.size w1 w') => read_any (l.take k) _ x w' (hSk.below h)
        have hR2 := fun w' (h : Below w1.heap.size w1 w') => rread_any (l.take k) _ x w' (hTk.below h)
        rw [HR.out] at hR1 hR2
        have HR1 := Lib.hid hR1
        have HR2 := Lib.hid hR2
        have HK := Lib.hid (fun w' (h : Below w1.heap.size w1 w') => kept_yes l _ _ w' (hS1.below h) (hT1.below h))
        clear hR1 hR2 hSk hTk hT1 hS1 hown1 HS
        cases a0 with
        | none =>
          have c0 := hN rfl
          have hl0 : l = [] := List.eq_nil_of_length_eq_zero (by omega)
          have hk0 : k = 0 := by omega
          subst hl0 hk0
          simp only [List.length_nil] at *
          subst c0
          clear hN hcap hcm hk hl' hkc hk1 hc1
          cases a1 with
          | none =>
            have c1 := hN1 rfl
            subst c1
            clear hN1
            go_wp2_with fail
            refine (HR1.out _ (Below.refl _ _)).mono ?_
            rintro e w2 ⟨rfl, hb2⟩
            have g2 := bal hb2 (.cells #[.int .i64 r1, .int .i64 r2, .string r3] 27)
            go_wp2_with fail
            refine (HR2.out _ g2).mono ?_
            rintro e w3 ⟨rfl, hb3⟩
            have g3 := bnx g2 hb3
            have hB2 := (Blk.new w2 27 #[.int .i64 r1, .int .i64 r2, .string r3]).below hb3 (by simp)
            have hl2 := hB2.lt
            have hc2 := hB2.cell
            have g4 := bal g3 (.cells #[.int .i64 r1, .int .i64 r2, .string r3] 27)
            go_wp2_with fail
            refine (HK.out _ g4).mono ?_
            rintro e w4 ⟨rfl, hb4⟩
            have g5 := bnx g4 hb4
            clear hc2
            go_wp2_with fail
            refine (fixed_yes _).mono ?_
            rintro e w5 ⟨rfl, hb5⟩
            go_wp2_with fail
            go_ret
            exact ⟨rfl, bnx (bnx hb1 g5) hb5⟩
          | some ad1 =>
            clear hN1
            go_wp2_with fail
            refine (HR1.out _ (Below.refl _ _)).mono ?_
            rintro e w2 ⟨rfl, hb2⟩
            have g2 := bal hb2 (.cells #[.int .i64 r1, .int .i64 r2, .string r3] 27)
            go_wp2_with fail
            refine (HR2.out _ g2).mono ?_
            rintro e w3 ⟨rfl, hb3⟩
            have g3 := bnx g2 hb3
            have hB2 := (Blk.new w2 27 #[.int .i64 r1, .int .i64 r2, .string r3]).below hb3 (by simp)
            have hl2 := hB2.lt
            have hc2 := hB2.cell
            have g4 := bal g3 (.cells #[.int .i64 r1, .int .i64 r2, .string r3] 27)
            go_wp2_with fail
            refine (HK.out _ g4).mono ?_
            rintro e w4 ⟨rfl, hb4⟩
            have g5 := bnx g4 hb4
            clear hc2
            go_wp2_with fail
            refine (fixed_yes _).mono ?_
            rintro e w5 ⟨rfl, hb5⟩
            go_wp2_with fail
            go_ret
            exact ⟨rfl, bnx (bnx hb1 g5) hb5⟩
        | some ad =>
          cases a1 with
          | none =>
            have c1 := hN1 rfl
            have hl0 : l = [] := List.eq_nil_of_length_eq_zero (by omega)
            have hk0 : k = 0 := by omega
            subst hl0 hk0
            simp only [List.length_nil] at *
            subst c1
            clear hN hN1 hcap hcm hk hl' hkc hk1 hc1
            go_wp2_with fail
            refine (HR1.out _ (Below.refl _ _)).mono ?_
            rintro e w2 ⟨rfl, hb2⟩
            have g2 := bal hb2 (.cells #[.int .i64 r1, .int .i64 r2, .string r3] 27)
            go_wp2_with fail
            refine (HR2.out _ g2).mono ?_
            rintro e w3 ⟨rfl, hb3⟩
            have g3 := bnx g2 hb3
            have hB2 := (Blk.new w2 27 #[.int .i64 r1, .int .i64 r2, .string r3]).below hb3 (by simp)
            have hl2 := hB2.lt
            have hc2 := hB2.cell
            have g4 := bal g3 (.cells #[.int .i64 r1, .int .i64 r2, .string r3] 27)
            go_wp2_with fail
            refine (HK.out _ g4).mono ?_
            rintro e w4 ⟨rfl, hb4⟩
            have g5 := bnx g4 hb4
            clear hc2
            go_wp2_with fail
            refine (fixed_yes _).mono ?_
            rintro e w5 ⟨rfl, hb5⟩
            go_wp2_with fail
            go_ret
            exact ⟨rfl, bnx (bnx hb1 g5) hb5⟩
          | some ad1 =>
            clear hN hN1
            go_wp2_with fail
            refine (HR1.out _ (Below.refl _ _)).mono ?_
            rintro e w2 ⟨rfl, hb2⟩
            have g2 := bal hb2 (.cells #[.int .i64 r1, .int .i64 r2, .string r3] 27)
            go_wp2_with fail
            refine (HR2.out _ g2).mono ?_
            rintro e w3 ⟨rfl, hb3⟩
            have g3 := bnx g2 hb3
            have hB2 := (Blk.new w2 27 #[.int .i64 r1, .int .i64 r2, .string r3]).below hb3 (by simp)
            have hl2 := hB2.lt
            have hc2 := hB2.cell
            have g4 := bal g3 (.cells #[.int .i64 r1, .int .i64 r2, .string r3] 27)
            go_wp2_with fail
            refine (HK.out _ g4).mono ?_
            rintro e w4 ⟨rfl, hb4⟩
            have g5 := bnx g4 hb4
            clear hc2
            go_wp2_with fail
            refine (fixed_yes _).mono ?_
            rintro e w5 ⟨rfl, hb5⟩
            go_wp2_with fail
            go_ret
            exact ⟨rfl, bnx (bnx hb1 g5) hb5⟩
end Go.Proofs.Ytcofndegcleicaa.Lg
