/- TernParts: the walk. -/
import Derived.Test.YtdiijannpfogdaaLm
import Derived.Test.YtdiijannpfogdaaPa
import Derived.Test.YtdiijannpfogdaaSp
namespace Go.Proofs.Ytdiijannpfogdaa.Tn
open Go.RowKit
attribute [local go_sem] cv cs wv
theorem lhead_yes (s : ByteArray) (n : Nat) (h : isHead s.data.toList n) (hs : s.size ≤ maxLen) (w : World) : Calls Try.prog 61 #[.string s, .int .i64 (n : Int)] w fun e w' => e = .returned (.bool true) ∧ w = w' := by
  have := lheader_any s hs n w; rw [decide_eq_true h] at this; exact this
theorem lhead_no (s : ByteArray) (n : Nat) (h : ¬ isHead s.data.toList n) (hs : s.size ≤ maxLen) (w : World) : Calls Try.prog 61 #[.string s, .int .i64 (n : Int)] w fun e w' => e = .returned (.bool false) ∧ w = w' := by
  have := lheader_any s hs n w; rw [decide_eq_false h] at this; exact this
theorem lholds_lit (a b : ByteArray) (hs : a.size ≤ 256) (hab : b.size = a.size) (X : Bool) (hX : decide (holdsT a.data.toList b.data.toList) = X) (w : World) : Calls Try.prog 62 #[.string a, .string b] w fun e w' => e = .returned (.bool X) ∧ Below w.heap.size w w' := by
  refine (lholds_any a b hs hab w).mono ?_
  rintro e w' ⟨rfl, m, rfl⟩
  exact ⟨by rw [hX], below_drewN (Below.refl _ _) m⟩
theorem has_lit {t : List UInt8} {n : Nat} {c o : Nat → Bool} (hC : Cub t n c o) (s : ByteArray) (X : Bool) (hX : decide (hasOk t s.data.toList) = X) (w : World) :
    Calls Try.prog 34 #[cv n c o, .string s] w fun e w' => e = .returned (.bool X) ∧ Below w.heap.size w w' := by
  have := has_any hC s w
  rw [hX] at this
  exact this
theorem parts_cases (s1 s2 s3 : ByteArray) (h : ¬ (isCube s1.data.toList ∧ isCube s2.data.toList ∧ isHead s3.data.toList s1.size ∧ s1.size = s2.size)) :
    ¬ isCube s1.data.toList ∨ (isCube s1.data.toList ∧ ¬ isCube s2.data.toList) ∨ (isCube s1.data.toList ∧ isCube s2.data.toList ∧ ¬ isHead s3.data.toList s1.size) ∨
    (isCube s1.data.toList ∧ isCube s2.data.toList ∧ isHead s3.data.toList s1.size ∧ ¬ s1.size = s2.size) := by
  by_cases a : isCube s1.data.toList <;> by_cases b : isCube s2.data.toList <;> by_cases c : isHead s3.data.toList s1.size <;> by_cases d : s1.size = s2.size <;> simp_all
set_option maxHeartbeats 4000000 in
theorem parts_not (s1 s2 s3 : ByteArray) (h1 : s1.size ≤ maxLen) (h2 : s2.size ≤ maxLen) (h3 : s3.size ≤ maxLen) (w : World)
    (h : ¬ (isCube s1.data.toList ∧ isCube s2.data.toList ∧ isHead s3.data.toList s1.size ∧ s1.size = s2.size)) :
    Calls Try.prog 19 #[.string s1, .string s2, .string s3] w fun e w' => e = .returned (.bool true) ∧ Below w.heap.size w w' := by
  obtain ⟨n1, c1, o1, hC1⟩ : ∃ n c o, Cub (cubeT s1.data.toList) n c o := ⟨_, _, _, Cub.of _⟩
  obtain ⟨n2, c2, o2, hC2⟩ : ∃ n c o, Cub (cubeT s2.data.toList) n c o := ⟨_, _, _, Cub.of _⟩
  have H1 := Lib.hid hC1
  have H2 := Lib.hid hC2
  have hx := xx_text
  have HN := Lib.hid (parts_cases s1 s2 s3 h)
  clear hC1 hC2 h
  go_enter Try.func19, Try.ntmps19
  go_wp2_with fail
  refine (parse_s s1 h1 H1.out _).mono ?_
  rintro e w1 ⟨rfl, hb1⟩
  go_wp2_with fail
  refine (parse_s s2 h2 H2.out _).mono ?_
  rintro e w2 ⟨rfl, hb2⟩
  have g2 := bnx (bal hb1 (.cells (cs n1 c1 o1) 30)) hb2
  have g4 := bal g2 (.cells (cs n2 c2 o2) 30)
  rcases HN.out with q1 | ⟨q1, q2⟩ | ⟨q1, q2, q3⟩ | ⟨q1, q2, q3, q4⟩
  · have K1 := Lib.hid (lcube_no s1 q1 h1)
    clear q1 HN
    go_wp2_with (first | (go_at_call 43; with_reducible refine (K1.out _).mono ?_; rintro e w' ⟨rfl, rfl⟩) | (go_at_call 29; refine (all_any 2 _).mono ?_; rintro e w4 ⟨n4, c4, o4, hC4, rfl, hb4⟩; have H4 := Lib.hid hC4; clear hC4) | (go_at_call 44; refine (text_any _ _ _ _ _ H4.out).mono ?_; rintro e w5 ⟨rfl, hb5⟩))
    go_ret
    exact ⟨rfl, bnx (bnx g4 hb4) hb5⟩
  · have K1 := Lib.hid (lcube_yes s1 q1 h1)
    have K2 := Lib.hid (lcube_no s2 q2 h2)
    clear q1 q2 HN
    go_wp2_with (first | (go_at_call 43; with_reducible refine (K1.out _).mono ?_; rintro e w' ⟨rfl, rfl⟩) | (go_at_call 43; with_reducible refine (K2.out _).mono ?_; rintro e w' ⟨rfl, rfl⟩) | (go_at_call 29; refine (all_any 2 _).mono ?_; rintro e w4 ⟨n4, c4, o4, hC4, rfl, hb4⟩; have H4 := Lib.hid hC4; clear hC4) | (go_at_call 44; refine (text_any _ _ _ _ _ H4.out).mono ?_; rintro e w5 ⟨rfl, hb5⟩))
    go_ret
    exact ⟨rfl, bnx (bnx g4 hb4) hb5⟩
  · have K1 := Lib.hid (lcube_yes s1 q1 h1)
    have K2 := Lib.hid (lcube_yes s2 q2 h2)
    have K3 := Lib.hid (lhead_no s3 _ q3 h3)
    clear q1 q2 q3 HN
    go_wp2_with (first | (go_at_call 43; with_reducible refine (K1.out _).mono ?_; rintro e w' ⟨rfl, rfl⟩) | (go_at_call 43; with_reducible refine (K2.out _).mono ?_; rintro e w' ⟨rfl, rfl⟩) | (go_at_call 61; with_reducible refine (K3.out _).mono ?_; rintro e w' ⟨rfl, rfl⟩) | (go_at_call 29; refine (all_any 2 _).mono ?_; rintro e w4 ⟨n4, c4, o4, hC4, rfl, hb4⟩; have H4 := Lib.hid hC4; clear hC4) | (go_at_call 44; refine (text_any _ _ _ _ _ H4.out).mono ?_; rintro e w5 ⟨rfl, hb5⟩))
    go_ret
    exact ⟨rfl, bnx (bnx g4 hb4) hb5⟩
  · have K1 := Lib.hid (lcube_yes s1 q1 h1)
    have K2 := Lib.hid (lcube_yes s2 q2 h2)
    have K3 := Lib.hid (lhead_yes s3 _ q3 h3)
    have t4 := sz_ne q4
    clear q1 q2 q3 q4 HN
    go_wp2_with (first | (go_at_call 43; with_reducible refine (K1.out _).mono ?_; rintro e w' ⟨rfl, rfl⟩) | (go_at_call 43; with_reducible refine (K2.out _).mono ?_; rintro e w' ⟨rfl, rfl⟩) | (go_at_call 61; with_reducible refine (K3.out _).mono ?_; rintro e w' ⟨rfl, rfl⟩) | (go_at_call 29; refine (all_any 2 _).mono ?_; rintro e w4 ⟨n4, c4, o4, hC4, rfl, hb4⟩; have H4 := Lib.hid hC4; clear hC4) | (go_at_call 44; refine (text_any _ _ _ _ _ H4.out).mono ?_; rintro e w5 ⟨rfl, hb5⟩))
    go_ret
    exact ⟨rfl, bnx (bnx g4 hb4) hb5⟩
theorem count_next (L : List (List UInt8)) (q : List UInt8 → Bool) (k : Nat) (h : k < L.length) : (L.take (k + 1)).countP q = (L.take k).countP q + (if q L[k] then 1 else 0) := by
  rw [List.take_add_one, List.countP_append]
  simp [List.getElem?_eq_getElem h, List.countP_cons]
set_option maxHeartbeats 4000000 in
theorem parts_yes (s1 s2 s3 : ByteArray) (h1 : s1.size ≤ maxLen) (h2 : s2.size ≤ maxLen) (h3 : s3.size ≤ maxLen) (w : World)
    (q1 : isCube s1.data.toList) (q2 : isCube s2.data.toList) (q3 : isHead s3.data.toList s1.size) (q4 : s1.size = s2.size) :
    Calls Try.prog 19 #[.string s1, .string s2, .string s3] w fun e w' => e = .returned (.bool true) ∧ Below w.heap.size w w' := by
  obtain ⟨n1, c1, o1, hC1⟩ := Cub.of_is q1
  obtain ⟨n2, c2, o2, hC2⟩ := Cub.of_is q2
  have l1 := len_s s1
  have l2 := len_s s2
  have l3 := len_s s3
  have hz1 : s1.size ≤ 256 := by have := q1.1.2; omega
  have hz2 : s2.size ≤ 256 := by omega
  have hs31 : s3.size = s1.size := by have := q3.1; omega
  have q3' : isHead s3.data.toList s1.data.toList.length := by rw [l1]; exact q3
  have hcnt := parts_count q1 q2 (by omega) q3'
  have q3'' : isHead s3.data.toList s2.data.toList.length := by rw [l2, ← q4]; exact q3
  have hi1 := has_iff q1.1.1 rfl q3'
  have hi2 := has_iff q2.1.1 rfl q3''
  generalize hX : decide (holdsT s1.data.toList s3.data.toList) = X
  generalize hY : decide (holdsT s2.data.toList s3.data.toList) = Y
  have hX' : decide (hasOk s1.data.toList s3.data.toList) = X := by rw [← hX]; simp only [hi1]
  have hY' : decide (hasOk s2.data.toList s3.data.toList) = Y := by rw [← hY]; simp only [hi2]
  have kx := lholds_lit s1 s3 hz1 hs31 X hX
  have ky := lholds_lit s2 s3 hz2 (by omega) Y hY
  have kx' := has_lit hC1 s3 X hX'
  have ky' := has_lit hC2 s3 Y hY'
  have hcnt2 : (splitT s1.data.toList s2.data.toList).countP (fun t => decide (hasOk t s3.data.toList)) = if X && !Y then 1 else 0 := by
    rw [hcnt, ← hX, ← hY]
    by_cases a : holdsT s1.data.toList s3.data.toList <;> by_cases b : holdsT s2.data.toList s3.data.toList <;> simp [a, b]
  have HCNT := Lib.hid hcnt2
  have K1 := Lib.hid (lcube_yes s1 q1 h1)
  have K2 := Lib.hid (lcube_yes s2 q2 h2)
  have K3 := Lib.hid (lhead_yes s3 _ q3 h3)
  have t4 := sz_eq q4
  simp only [cv, cs, wv] at kx' ky'
  have KX := Lib.hid kx
  have KY := Lib.hid ky
  have KXh := Lib.hid kx'
  have KYh := Lib.hid ky'
  have H1 := Lib.hid hC1
  have H2 := Lib.hid hC2
  clear q1 q2 q3 q4 q3' q3'' hcnt hcnt2 hi1 hi2 hX hY hX' hY' kx ky kx' ky' hC1 hC2 l1 l2 l3 hz1 hz2 hs31
  go_enter Try.func19, Try.ntmps19
  go_wp2_with fail
  refine (parse_of H1.out s1 rfl _).mono ?_
  rintro e w1 ⟨rfl, hb1⟩
  go_wp2_with fail
  refine (parse_of H2.out s2 rfl _).mono ?_
  rintro e w2 ⟨rfl, hb2⟩
  have hB1 : Blk w2 w1.heap.size 30 (cs n1 c1 o1) := (Blk.new w1 30 (cs n1 c1 o1)).below hb2 (by simp)
  have g3 := bnx (bal hb1 (.cells (cs n1 c1 o1) 30)) hb2
  have g4 := bal g3 (.cells (cs n2 c2 o2) 30)
  have hB1' := hB1.alloc (.cells (cs n2 c2 o2) 30)
  have hB2' := Blk.new w2 30 (cs n2 c2 o2)
  have hl1 := hB1.lt
  have hc1 := hB1.cell
  clear hb1 hb2
  go_wp2_with (first | (go_at_call 43; with_reducible refine (K1.out _).mono ?_; rintro e w' ⟨rfl, rfl⟩) | (go_at_call 43; with_reducible refine (K2.out _).mono ?_; rintro e w' ⟨rfl, rfl⟩) | (go_at_call 61; with_reducible refine (K3.out _).mono ?_; rintro e w' ⟨rfl, rfl⟩))
  refine (KXh.out _).mono ?_
  rintro e w3 ⟨rfl, hb3⟩
  have g5 := bnx g4 hb3
  have hD1 := hB1'.below hb3 hB1'.lt
  have hD2 := hB2'.below hb3 hB2'.lt
  clear hc1 hl1 hB1 hB1' hB2' g4
  have hc1 := hD1.cell
  have hc2 := hD2.cell
  go_wp2_with fail
  refine (KX.out _).mono ?_
  rintro e w4 ⟨rfl, hb4⟩
  have g6 := bnx g5 hb4
  have hE1 := hD1.below hb4 hD1.lt
  have hE2 := hD2.below hb4 hD2.lt
  clear hc1 hc2 hD1 hD2 g5
  have hc1 := hE1.cell
  have hc2 := hE2.cell
  have xx : (X != X) = false := by simp
  have yy : (Y != Y) = false := by simp
  go_wp2_with fail
  refine (KYh.out _).mono ?_
  rintro e w5 ⟨rfl, hb5⟩
  have g5 := bnx g6 hb5
  have hD1 := hE1.below hb5 hE1.lt
  have hD2 := hE2.below hb5 hE2.lt
  clear hc1 hc2 hE1 hE2 g6
  have hc1 := hD1.cell
  have hc2 := hD2.cell
  go_wp2_with fail
  refine (KY.out _).mono ?_
  rintro e w6 ⟨rfl, hb6⟩
  have g6 := bnx g5 hb6
  have hE1 := hD1.below hb6 hD1.lt
  have hE2 := hD2.below hb6 hD2.lt
  clear hc1 hc2 hD1 hD2 g5
  have hc1 := hE1.cell
  have hc2 := hE2.cell
  go_wp2_with fail
  refine (split_any H1.out H2.out _).mono ?_
  rintro e w7 ⟨v7, rfl, ho7, hb7⟩
  have g7 := bnx g6 hb7
  clear hc1 hc2 hE1 hE2 g6 hb3 hb4 hb5 hb6 hb7
  obtain ⟨a7, cap7, hv7⟩ := own_len ho7
  subst hv7
  go_wp2_with fail
  have HCB := Lib.hid (split_cubs H1.out H2.out)
  have hL := split_len (u := s2.data.toList) H1.out
  generalize splitT s1.data.toList s2.data.toList = L at *
  generalize hq : (fun t => decide (hasOk t s3.data.toList)) = q at *
  have HQ := Lib.hid hq
  clear hq
  go_loopw [11, 13] (fun v i wr => ∃ k N : Nat, k ≤ L.length ∧ i = .int .i64 k ∧ v = .int .i64 N ∧ N = (L.take k).countP q ∧ wr.ownsRow w6.heap.size 30 9 (.slice a7 L.length cap7) L.length (crow L) ∧ Below w.heap.size w wr) (fun _ i _ => L.length - (intOf i).toNat)
  case atStart => exact ⟨0, 0, Nat.zero_le _, rfl, rfl, by simp, ho7, g7⟩
  case round =>
    clear ho7 g7
    obtain ⟨k, N, hk, rfl, rfl, hN, ho7, g7⟩ := hrel
    have hNk : N ≤ k := by rw [hN]; exact Nat.le_trans List.countP_le_length (by rw [List.length_take]; omega)
    by_cases hlt : k < L.length
    · have hnx := count_next L q k hlt
      rw [← hN] at hnx
      obtain ⟨g1, c1', e1, hcap1, _, hx1⟩ := own_at ho7 (by omega)
      cases e1
      obtain ⟨n, c, o, hCk⟩ := HCB.out L[k] (List.getElem_mem hlt)
      have hg : ∀ j u, j < 9 → (cs n c o)[j]? = some u → wr.cell? ⟨g1, k * 9 + j, none⟩ = some u := fun j u hj hu => hx1 _ _ (by rw [crow_at L k hlt j hj, ← hCk.cells, Array.getElem?_toList]; exact hu)
      have q0 := hg 0 _ (by omega) rfl
      have q1 := hg 1 _ (by omega) rfl
      have q2 := hg 2 _ (by omega) rfl
      have q3 := hg 3 _ (by omega) rfl
      have q4 := hg 4 _ (by omega) rfl
      have q5 := hg 5 _ (by omega) rfl
      have q6 := hg 6 _ (by omega) rfl
      have q7 := hg 7 _ (by omega) rfl
      have q8 := hg 8 _ (by omega) rfl
      rw [Nat.add_zero] at q0
      have HN := Lib.hid hN
      generalize hZ : q L[k] = Z at hnx
      have kz := has_lit hCk s3 Z (by rw [← hZ, ← HQ.out])
      have HNX := Lib.hid hnx
      have KZ := Lib.hid kz
      clear hg hx1 hCk hN hnx kz hZ
      go_wp2_with fail
      refine (KZ.out _).mono ?_
      rintro e w8 ⟨rfl, hb8⟩
      have ho8 := own_below ho7 hb8 (Nat.le_refl _)
      have g8 := bnx g7 hb8
      clear q0 q1 q2 q3 q4 q5 q6 q7 q8 ho7 g7
      cases Z
      · go_wp2_with fail
        go_roundw
        case rel => exact ⟨k + 1, N, by omega, by go_num, rfl, by rw [HNX.out]; simp, ho8, g8⟩
        case measure => simp [intOf]; omega
      · go_wp2_with fail
        go_roundw
        case rel => exact ⟨k + 1, N + 1, by omega, by go_num, by go_num, by rw [HNX.out]; simp, ho8, g8⟩
        case measure => simp [intOf]; omega
    · obtain rfl : k = L.length := by omega
      rw [List.take_length, HCNT.out] at hN
      clear ho7
      cases X
      · obtain rfl : N = 0 := hN
        go_wp2_with (first | (go_at_call 62; with_reducible refine (KX.out _).mono ?_; rintro e w8 ⟨rfl, hb8⟩; have g8 := bnx g7 hb8))
        go_ret
        exact ⟨rfl, g8⟩
      · cases Y
        · obtain rfl : N = 1 := hN
          go_wp2_with fail
          refine (KX.out _).mono ?_
          rintro e w8 ⟨rfl, hb8⟩
          have g8 := bnx g7 hb8
          go_wp2_with fail
          refine (KY.out _).mono ?_
          rintro e w9 ⟨rfl, hb9⟩
          have g9 := bnx g8 hb9
          go_wp2_with fail
          go_ret
          exact ⟨rfl, g9⟩
        · obtain rfl : N = 0 := hN
          go_wp2_with fail
          refine (KX.out _).mono ?_
          rintro e w8 ⟨rfl, hb8⟩
          have g8 := bnx g7 hb8
          go_wp2_with fail
          refine (KY.out _).mono ?_
          rintro e w9 ⟨rfl, hb9⟩
          have g9 := bnx g8 hb9
          go_wp2_with fail
          go_ret
          exact ⟨rfl, g9⟩
theorem parts_walk (s1 : ByteArray) (h1 : s1.size ≤ maxLen) (s2 : ByteArray) (h2 : s2.size ≤ maxLen) (s3 : ByteArray) (h3 : s3.size ≤ maxLen) (w : World) : Calls Try.prog 19 #[.string s1, .string s2, .string s3] w fun e w' => e = .returned (.bool true) ∧ Below w.heap.size w w' := by
  by_cases h : isCube s1.data.toList ∧ isCube s2.data.toList ∧ isHead s3.data.toList s1.size ∧ s1.size = s2.size
  · obtain ⟨q1, q2, q3, q4⟩ := h
    exact parts_yes s1 s2 s3 h1 h2 h3 w q1 q2 q3 q4
  · exact parts_not s1 s2 s3 h1 h2 h3 w h
end Go.Proofs.Ytdiijannpfogdaa.Tn
