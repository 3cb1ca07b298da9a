/- TernImages: the walk. -/
import Derived.Test.YtdiijannpfogdaaPt
import Derived.Test.YtdiijannpfogdaaPi
import Derived.Deep.RegionHeld3
import Derived.Deep.DeepCutAuto
namespace Go.Proofs.Ytdiijannpfogdaa.Tn
open Go.RowKit
attribute [local go_sem] cv cs wv
set_option maxHeartbeats 4000000 in
theorem images_not (s1 s2 s3 : ByteArray) (h1 : s1.size ≤ maxLen) (h2 : s2.size ≤ maxLen) (h3 : s3.size ≤ maxLen) (w : World)
    (h : ¬ (isCube s1.data.toList ∧ isCube s2.data.toList ∧ isHead s3.data.toList s1.size ∧ s1.size = s2.size)) :
    Calls Try.prog 20 #[.string s1, .string s2, .string s3] w fun e w' => e = .returned (.bool true) ∧ Below w.heap.size w w' := by
  obtain ⟨n1, c1, o1, hC1⟩ : ∃ n c o, Cub (cubeT s1.data.toList) n c o := ⟨_, _, _, Cub.of _⟩
  obtain ⟨n2, c2, o2, hC2⟩ : ∃ n c o, Cub (cubeT s2.data.toList) n c o := ⟨_, _, _, Cub.of _⟩
  have H1 := Lib.hid hC1
  have H2 := Lib.hid hC2
  have hx := xx_text
  have HN := Lib.hid (parts_cases s1 s2 s3 h)
  clear hC1 hC2 h
  go_enter Try.func20, Try.ntmps20
  go_wp2_with fail
  refine (parse_s s1 h1 H1.out _).mono ?_
  rintro e w1 ⟨rfl, hb1⟩
  go_wp2_with fail
  refine (parse_s s2 h2 H2.out _).mono ?_
  rintro e w2 ⟨rfl, hb2⟩
  have g2 := bnx (bal hb1 (.cells (cs n1 c1 o1) 30)) hb2
  have g4 := bal g2 (.cells (cs n2 c2 o2) 30)
  rcases HN.out with q1 | ⟨q1, q2⟩ | ⟨q1, q2, q3⟩ | ⟨q1, q2, q3, q4⟩
  · have K1 := Lib.hid (lcube_no s1 q1 h1)
    clear q1 HN
    go_wp2_with (first | (go_at_call 43; with_reducible refine (K1.out _).mono ?_; rintro e w' ⟨rfl, rfl⟩) | (go_at_call 29; refine (all_any 2 _).mono ?_; rintro e w4 ⟨n4, c4, o4, hC4, rfl, hb4⟩; have H4 := Lib.hid hC4; clear hC4) | (go_at_call 44; refine (text_any _ _ _ _ _ H4.out).mono ?_; rintro e w5 ⟨rfl, hb5⟩))
    go_ret
    exact ⟨rfl, bnx (bnx g4 hb4) hb5⟩
  · have K1 := Lib.hid (lcube_yes s1 q1 h1)
    have K2 := Lib.hid (lcube_no s2 q2 h2)
    clear q1 q2 HN
    go_wp2_with (first | (go_at_call 43; with_reducible refine (K1.out _).mono ?_; rintro e w' ⟨rfl, rfl⟩) | (go_at_call 43; with_reducible refine (K2.out _).mono ?_; rintro e w' ⟨rfl, rfl⟩) | (go_at_call 29; refine (all_any 2 _).mono ?_; rintro e w4 ⟨n4, c4, o4, hC4, rfl, hb4⟩; have H4 := Lib.hid hC4; clear hC4) | (go_at_call 44; refine (text_any _ _ _ _ _ H4.out).mono ?_; rintro e w5 ⟨rfl, hb5⟩))
    go_ret
    exact ⟨rfl, bnx (bnx g4 hb4) hb5⟩
  · have K1 := Lib.hid (lcube_yes s1 q1 h1)
    have K2 := Lib.hid (lcube_yes s2 q2 h2)
    have K3 := Lib.hid (lhead_no s3 _ q3 h3)
    clear q1 q2 q3 HN
    go_wp2_with (first | (go_at_call 43; with_reducible refine (K1.out _).mono ?_; rintro e w' ⟨rfl, rfl⟩) | (go_at_call 43; with_reducible refine (K2.out _).mono ?_; rintro e w' ⟨rfl, rfl⟩) | (go_at_call 61; with_reducible refine (K3.out _).mono ?_; rintro e w' ⟨rfl, rfl⟩) | (go_at_call 29; refine (all_any 2 _).mono ?_; rintro e w4 ⟨n4, c4, o4, hC4, rfl, hb4⟩; have H4 := Lib.hid hC4; clear hC4) | (go_at_call 44; refine (text_any _ _ _ _ _ H4.out).mono ?_; rintro e w5 ⟨rfl, hb5⟩))
    go_ret
    exact ⟨rfl, bnx (bnx g4 hb4) hb5⟩
  · have K1 := Lib.hid (lcube_yes s1 q1 h1)
    have K2 := Lib.hid (lcube_yes s2 q2 h2)
    have K3 := Lib.hid (lhead_yes s3 _ q3 h3)
    have t4 := sz_ne q4
    clear q1 q2 q3 q4 HN
    go_wp2_with (first | (go_at_call 43; with_reducible refine (K1.out _).mono ?_; rintro e w' ⟨rfl, rfl⟩) | (go_at_call 43; with_reducible refine (K2.out _).mono ?_; rintro e w' ⟨rfl, rfl⟩) | (go_at_call 61; with_reducible refine (K3.out _).mono ?_; rintro e w' ⟨rfl, rfl⟩) | (go_at_call 29; refine (all_any 2 _).mono ?_; rintro e w4 ⟨n4, c4, o4, hC4, rfl, hb4⟩; have H4 := Lib.hid hC4; clear hC4) | (go_at_call 44; refine (text_any _ _ _ _ _ H4.out).mono ?_; rintro e w5 ⟨rfl, hb5⟩))
    go_ret
    exact ⟨rfl, bnx (bnx g4 hb4) hb5⟩
theorem before_lit {t u : List UInt8} {n m : Nat} {c o d p : Nat → Bool} (h : Cub t n c o) (h' : Cub u m d p) (b : Bool) (hb : decide (meetOk t u) = b) (w : World) :
    Calls Try.prog 45 #[cv n c o, cv m d p] w fun e w' => ∃ n' c' o', Cub (beforeT t u) n' c' o' ∧ e = .returned (.tuple #[cv n' c' o', .bool b]) ∧ Below w.heap.size w w' := by
  have := before_any h h' w
  rw [hb] at this
  exact this
theorem lwritten_of (a b : ByteArray) (l : List UInt8) (hs : a.size ≤ 256) (hab : b.size = a.size) (hl : up (writeF a.data.toList b.data.toList) a.size = l) (w : World) :
    Calls Try.prog 63 #[.string a, .string b] w fun e w' => e = .returned (.string (str l)) ∧ Below w.heap.size w w' := by
  rw [← hl]; exact lwritten_any a b hs hab w
/-- What the last region keeps: the image's block, the row of bytes. -/
def ImK (g B : Nat) (C : Array Value) (v : Value) (n : Nat) (l : List UInt8) (w w' : World) : Prop := Blk w' g 30 C ∧ w'.ownsRow B 5 1 v n (l.map bv) ∧ Below w.heap.size w w'
theorem imK0 {g B : Nat} {C : Array Value} {v : Value} {n : Nat} {l : List UInt8} {w w' : World} (h : Blk w' g 30 C) (h' : w'.ownsRow B 5 1 v n (l.map bv)) (hb : Below w.heap.size w w') :
    (∀ i, w'.drew.cell? ⟨g, i, none⟩ = C[i]?) ∧ (convert 83 9 v).run Try.prog w'.drew = .ok (.string (str l)) w'.drew ∧ ImK g B C v n l w w'.drew :=
  ⟨h.drew.cell, str_own (w := w'.drew) (own_drewN h' 1), h.drew, own_drewN h' 1, hb.drew⟩
theorem imK {g B : Nat} {C : Array Value} {v : Value} {n : Nat} {l : List UInt8} {w w' w2 : World} (h : (∀ i, w'.cell? ⟨g, i, none⟩ = C[i]?) ∧ (convert 83 9 v).run Try.prog w' = .ok (.string (str l)) w' ∧ ImK g B C v n l w w') (hb : Below w'.heap.size w' w2) :
    (∀ i, w2.cell? ⟨g, i, none⟩ = C[i]?) ∧ (convert 83 9 v).run Try.prog w2 = .ok (.string (str l)) w2 ∧ ImK g B C v n l w w2 := by
  obtain ⟨_, _, h1, h2, h3⟩ := h
  have h1 := h1.below hb h1.lt
  have h2 := own_below h2 hb (Nat.le_refl _)
  exact ⟨h1.cell, str_own h2, h1, h2, bnx h3 hb⟩
theorem imB {g B : Nat} {C : Array Value} {v : Value} {n : Nat} {l : List UInt8} {w w' : World} (h : (∀ i, w'.cell? ⟨g, i, none⟩ = C[i]?) ∧ (convert 83 9 v).run Try.prog w' = .ok (.string (str l)) w' ∧ ImK g B C v n l w w') : Below w.heap.size w w' := h.2.2.2.2
set_option maxRecDepth 8000 in
set_option maxHeartbeats 4000000 in
theorem images_yes (s1 s2 s3 : ByteArray) (h1 : s1.size ≤ maxLen) (h2 : s2.size ≤ maxLen) (h3 : s3.size ≤ maxLen) (w : World)
    (q1 : isCube s1.data.toList) (q2 : isCube s2.data.toList) (q3 : isHead s3.data.toList s1.size) (q4 : s1.size = s2.size) :
    Calls Try.prog 20 #[.string s1, .string s2, .string s3] w fun e w' => e = .returned (.bool true) ∧ Below w.heap.size w w' := by
  obtain ⟨n1, c1, o1, hC1⟩ := Cub.of_is q1
  obtain ⟨n2, c2, o2, hC2⟩ := Cub.of_is q2
  have l1 := len_s s1
  have l2 := len_s s2
  have l3 := len_s s3
  have hz1 : s1.size ≤ 256 := by have := q1.1.2; omega
  have hs31 : s3.size = s1.size := by have := q3.1; omega
  have qh : isHead s3.data.toList s3.data.toList.length := by rw [l3, hs31]; exact q3
  have e12 : s1.data.toList.length = s2.data.toList.length := by omega
  have e31 : s3.data.toList.length = s1.data.toList.length := by omega
  have ib := image_before (u := s2.data.toList) q1 e12 e31 qh
  have iw := image_write q1 q2 e12 e31 qh
  have ik := image_back q1 e12 e31 qh
  have hwl : (up (writeF s3.data.toList s2.data.toList) s3.size).length = s1.size := by simp [hs31]
  have HWR := Lib.hid fun w => lwritten_of s3 s2 (up (writeF s3.data.toList s2.data.toList) s3.size) (by omega) (by omega) rfl w
  rw [l3] at ib iw ik
  generalize hWD : up (writeF s3.data.toList s2.data.toList) s3.size = wd3 at *
  have hwz : (str wd3).size = s1.size := by rw [str_size]; exact hwl
  generalize hM : decide (meetOk s1.data.toList s2.data.toList) = M
  generalize hX : decide (hasOk (beforeT s1.data.toList s2.data.toList) s3.data.toList) = X
  generalize hY : decide (holdsT s1.data.toList wd3) = Y
  generalize hP : decide (holdsT s1.data.toList s3.data.toList) = P
  generalize hF : decide (hasOk (writeT s1.data.toList s2.data.toList) wd3) = F
  generalize hG : decide (hasOk (writeT s1.data.toList s2.data.toList) s3.data.toList) = G
  have hMXY : (M && X) = Y := by
    rw [← hM, ← hX, ← hY, Bool.eq_iff_iff]
    simp only [Bool.and_eq_true, decide_eq_true_eq]
    exact ib
  have hPF : P = true → F = true := by
    rw [← hP, ← hF]
    simp only [decide_eq_true_eq]
    exact iw
  have hGB : ((str (up (writeF (up (nearF s1.data.toList s3.data.toList) s3.size) s2.data.toList) s3.size)).toList == s3.toList) = G := by
    rw [ByteArray.toList_eq, ByteArray.toList_eq, str_list, ← hG, Bool.eq_iff_iff]
    simp only [beq_iff_eq, decide_eq_true_eq]
    exact ik.symm
  have kwr := lwritten_of (str (up (nearF s1.data.toList s3.data.toList) s3.size)) s2 (up (writeF (up (nearF s1.data.toList s3.data.toList) s3.size) s2.data.toList) s3.size) (by rw [str_size]; simp; omega) (by rw [str_size]; simp; omega) (by rw [str_list, str_size]; simp)
  have KWR := Lib.hid kwr
  have hz3 : s3.size ≤ 256 := by omega
  have HB := Lib.hid fun w => before_lit hC1 hC2 M hM w
  have ky := lholds_lit s1 (str wd3) hz1 hwz Y hY
  have kp := lholds_lit s1 s3 hz1 hs31 P hP
  have KY := Lib.hid ky
  have KP := Lib.hid kp
  have HXX := Lib.hid hX
  have HFF := Lib.hid hF
  have HGG := Lib.hid hG
  have HMXY := Lib.hid hMXY
  have HPF := Lib.hid hPF
  have HGB := Lib.hid hGB
  have K1 := Lib.hid (lcube_yes s1 q1 h1)
  have K2 := Lib.hid (lcube_yes s2 q2 h2)
  have K3 := Lib.hid (lhead_yes s3 _ q3 h3)
  have t4 := sz_eq q4
  have H1 := Lib.hid hC1
  have H2 := Lib.hid hC2
  have HS := Lib.hid hs31
  clear kwr hC1 hC2 q1 q2 q3 q4 qh ib iw ik hM hX hY hP hF hG hMXY hPF hGB ky kp hs31 e12 e31 l1 l2 l3 hwl hwz hWD
  go_enter Try.func20, Try.ntmps20
  go_wp2_with fail
  refine (parse_of H1.out s1 rfl _).mono ?_
  rintro e w1 ⟨rfl, hb1⟩
  go_wp2_with fail
  refine (parse_of H2.out s2 rfl _).mono ?_
  rintro e w2 ⟨rfl, hb2⟩
  have hB1 : Blk w2 w1.heap.size 30 (cs n1 c1 o1) := (Blk.new w1 30 (cs n1 c1 o1)).below hb2 (by simp)
  have g3 := bnx (bal hb1 (.cells (cs n1 c1 o1) 30)) hb2
  have g4 := bal g3 (.cells (cs n2 c2 o2) 30)
  have hD1 := hB1.alloc (.cells (cs n2 c2 o2) 30)
  have hD2 := Blk.new w2 30 (cs n2 c2 o2)
  clear hb1 hb2 hB1 g3
  go_wp2_with (first | (go_at_call 43; with_reducible refine (K1.out _).mono ?_; rintro e w' ⟨rfl, rfl⟩) | (go_at_call 43; with_reducible refine (K2.out _).mono ?_; rintro e w' ⟨rfl, rfl⟩) | (go_at_call 61; with_reducible refine (K3.out _).mono ?_; rintro e w' ⟨rfl, rfl⟩))
  refine (HWR.out _).mono ?_
  rintro e w3 ⟨rfl, hb3⟩
  have g5 := bnx g4 hb3
  have hE1 := hD1.below hb3 hD1.lt
  have hE2 := hD2.below hb3 hD2.lt
  clear hD1 hD2 g4 hb3
  have hc1 := hE1.cell
  have hc2 := hE2.cell
  go_wp2_with fail
  refine (HB.out _).mono ?_
  rintro e w4 ⟨n4, c4, o4, hC4, rfl, hb4⟩
  have g6 := bal (bnx g5 hb4) (.cells (cs n4 c4 o4) 30)
  have hD1 := (hE1.below hb4 hE1.lt).alloc (.cells (cs n4 c4 o4) 30)
  have hD2 := (hE2.below hb4 hE2.lt).alloc (.cells (cs n4 c4 o4) 30)
  have hl1 := (hE1.below hb4 hE1.lt).lt
  have hl2 := (hE2.below hb4 hE2.lt).lt
  have hx1 := (hE1.below hb4 hE1.lt).cell
  have hx2 := (hE2.below hb4 hE2.lt).cell
  have kx := has_lit hC4 s3 X HXX.out
  clear hE1 hE2 g5 hb4 hc1 hc2
  go_upto_region 7 with fail
  generalize hW : World.alloc w4 _ = W
  have hz : Blk W w4.heap.size 30 (cs n4 c4 o4) ∧ Blk W w1.heap.size 30 (cs n1 c1 o1) ∧ Blk W w2.heap.size 30 (cs n2 c2 o2) ∧ Below w.heap.size w W := by
    rw [← hW]
    exact ⟨Blk.new w4 30 _, hD1, hD2, g6⟩
  simp only [cv, cs, wv] at kx
  have KX := Lib.hid kx
  clear hW hD1 hD2 g6 kx hC4 hl1 hl2 hx1 hx2
  go_cut [70] (fun s70 wx => s70 = .bool false ∧ Blk wx w1.heap.size 30 (cs n1 c1 o1) ∧ Blk wx w2.heap.size 30 (cs n2 c2 o2) ∧ Below w.heap.size w wx)
  case first =>
    obtain ⟨hD4, hD1, hD2, g6⟩ := hz
    have hc4 := hD4.cell
    have hl4 := hD4.lt
    cases M
    · have hy : false = Y := HMXY.out
      subst hy
      go_wp2_with (first | (go_at_call 62; with_reducible refine (KY.out _).mono ?_; rintro e w5 ⟨rfl, hb5⟩))
      go_meet
      exact ⟨rfl, hD1.below hb5 hD1.lt, hD2.below hb5 hD2.lt, bnx g6 hb5⟩
    · have hy : X = Y := by simpa using HMXY.out
      subst hy
      go_wp2_with fail
      refine (KX.out _).mono ?_
      rintro e w5 ⟨rfl, hb5⟩
      have xx : (X != X) = false := by simp
      go_wp2_with fail
      refine (KY.out _).mono ?_
      rintro e w6 ⟨rfl, hb6⟩
      have hE1 := hD1.below hb5 hD1.lt
      have hE2 := hD2.below hb5 hD2.lt
      have g7 := bnx g6 hb5
      go_wp2_with fail
      go_meet
      exact ⟨rfl, hE1.below hb6 hE1.lt, hE2.below hb6 hE2.lt, bnx g7 hb6⟩
  case rest =>
    clear hz
    obtain ⟨rfl, hD1, hD2, g6⟩ := hcut
    have hc1 := hD1.cell
    have hc2 := hD2.cell
    go_wp2_with fail
    refine (write_any H1.out H2.out _).mono ?_
    rintro e w5 ⟨n5, c5, o5, hC5, rfl, hb5⟩
    have H5 := Lib.hid hC5
    have g7 := bnx g6 hb5
    clear hC5 hc1 hc2 hD1 hD2 g6
    go_upto_region 10 with fail
    generalize hW2 : World.alloc w5 _ = W2
    have hz : Blk W2 w5.heap.size 30 (cs n5 c5 o5) ∧ Below w.heap.size w W2 := by
      rw [← hW2]
      exact ⟨Blk.new w5 30 _, bal g7 _⟩
    have kf := has_lit H5.out (str wd3) F (by rw [str_list]; exact HFF.out)
    simp only [cv, cs, wv] at kf
    have KF := Lib.hid kf
    clear hW2 g7 kf
    go_cut [82] (fun s82 wx => s82 = .bool false ∧ Blk wx w5.heap.size 30 (cs n5 c5 o5) ∧ Below w.heap.size w wx)
    case first =>
      obtain ⟨hD5, g8⟩ := hz
      cases P
      · go_wp2_with (first | (go_at_call 62; with_reducible refine (KP.out _).mono ?_; rintro e w6 ⟨rfl, hb6⟩))
        go_meet
        exact ⟨rfl, hD5.below hb6 hD5.lt, bnx g8 hb6⟩
      · have hF : F = true := HPF.out rfl
        subst hF
        go_wp2_with fail
        refine (KP.out _).mono ?_
        rintro e w6 ⟨rfl, hb6⟩
        have hE5 := hD5.below hb6 hD5.lt
        have hc5 := hE5.cell
        have hl5 := hE5.lt
        go_wp2_with fail
        refine (KF.out _).mono ?_
        rintro e w7 ⟨rfl, hb7⟩
        have g9 := bnx g8 hb6
        go_wp2_with fail
        go_meet
        exact ⟨rfl, hE5.below hb7 hE5.lt, bnx g9 hb7⟩
    case rest =>
      clear hz
      obtain ⟨rfl, hD5, g8⟩ := hcut
      go_wp2_with fail
      have hD5lt := hD5.lt
      have hB0 : w.heap.size ≤ wc.heap.size := g8.size
      go_loopw [15, 16] (fun v i wr => ∃ k : Nat, k ≤ s3.size ∧ i = .int .i64 k ∧ wr.ownsRow wc.heap.size 5 1 v k ((up (nearF s1.data.toList s3.data.toList) k).map bv) ∧ Blk wr w5.heap.size 30 (cs n5 c5 o5) ∧ wc.heap.size ≤ wr.heap.size ∧ Below w.heap.size w wr) (fun _ i _ => s3.size - (intOf i).toNat)
      case atStart => exact ⟨0, Nat.zero_le _, rfl, own_nil _ _, hD5, Nat.le_refl _, g8⟩
      case round =>
        clear hD5 g8
        obtain ⟨k, hk, rfl, hown, hD5, hsz, g8⟩ := hrel
        by_cases hlt : k < s3.size
        · have hla : k < s1.size := by rw [← HS.out]; exact hlt
          have hba := byt_str s1 k hla
          have hbb := byt_str s3 k hlt
          by_cases hx : s1[k] = 120
          · have t1 := is120 hx
            have HV := Lib.hid (show nearF s1.data.toList s3.data.toList k = s3[k] by unfold nearF; rw [hba, if_pos hx, hbb])
            clear hba hbb hx
            go_wp2_with (at_builtin; refine app_byte s3[k] hown rfl rfl rfl rfl (by omega) hsz ?_; intro v' w6 hown2 hb2)
            go_roundw
            case rel => exact ⟨k + 1, by omega, by go_num, by rw [up_succ, HV.out]; exact hown2, hD5.below hb2 hD5lt, Nat.le_trans hsz hb2.size, g8.trans (hb2.mono hB0)⟩
            case measure => simp [intOf]; omega
          · have t1 := not120 hx
            have HV := Lib.hid (show nearF s1.data.toList s3.data.toList k = s1[k] by unfold nearF; rw [hba, if_neg hx])
            clear hba hbb hx
            go_wp2_with (at_builtin; refine app_byte s1[k] hown rfl rfl rfl rfl (by omega) hsz ?_; intro v' w6 hown2 hb2)
            go_roundw
            case rel => exact ⟨k + 1, by omega, by go_num, by rw [up_succ, HV.out]; exact hown2, hD5.below hb2 hD5lt, Nat.le_trans hsz hb2.size, g8.trans (hb2.mono hB0)⟩
            case measure => simp [intOf]; omega
        · obtain rfl : k = s3.size := by omega
          have hgb := HGB.out
          have kg := has_lit H5.out s3 G HGG.out
          simp only [cv, cs, wv] at kg
          have KG := Lib.hid kg
          clear kg
          go_wp2_with fail
          go_region_held3 (fun w' => (∀ i, w'.cell? ⟨w5.heap.size, i, none⟩ = (cs n5 c5 o5)[i]?) ∧ (convert 83 9 u15).run Try.prog w' = .ok (.string (str (up (nearF s1.data.toList s3.data.toList) s3.size))) w' ∧ ImK w5.heap.size wc.heap.size (cs n5 c5 o5) u15 s3.size (up (nearF s1.data.toList s3.data.toList) s3.size) w w')
            (first | assumption | exact imK0 hD5 hown g8 | exact hK2)
            (first | (go_at_call 34; with_reducible refine (KG.out _).mono ?_; rintro e w' ⟨rfl, hb'⟩; have hK2 := imK (by assumption) hb') | (go_at_call 63; with_reducible refine (KWR.out _).mono ?_; rintro e w' ⟨rfl, hb'⟩; have hK2 := imK (by assumption) hb'))
          all_goals
            go_wp2_with fail
            go_ret
            first | exact ⟨rfl, imB (by assumption)⟩ | (refine ⟨?_, imB (by assumption)⟩; simp)
theorem images_walk (s1 : ByteArray) (h1 : s1.size ≤ maxLen) (s2 : ByteArray) (h2 : s2.size ≤ maxLen) (s3 : ByteArray) (h3 : s3.size ≤ maxLen) (w : World) : Calls Try.prog 20 #[.string s1, .string s2, .string s3] w fun e w' => e = .returned (.bool true) ∧ Below w.heap.size w w' := by
  by_cases h : isCube s1.data.toList ∧ isCube s2.data.toList ∧ isHead s3.data.toList s1.size ∧ s1.size = s2.size
  · obtain ⟨q1, q2, q3, q4⟩ := h
    exact images_yes s1 s2 s3 h1 h2 h3 w q1 q2 q3 q4
  · exact images_not s1 s2 s3 h1 h2 h3 w h
end Go.Proofs.Ytdiijannpfogdaa.Tn
