import Derived.Test.YtdiijannpfogdaaLo
namespace Go.Proofs.Ytdiijannpfogdaa.Tn
open Go.RowKit
attribute [local go_sem] cv cs wv eq_arr
set_option maxRecDepth 8000 in
set_option maxHeartbeats 20000000 in
theorem order_yes1 (s1 s2 s3 : ByteArray) (h1 : s1.size ≤ maxLen) (h2 : s2.size ≤ maxLen) (h3 : s3.size ≤ maxLen) (w : World)
    (q1 : isCube s1.data.toList) (q2 : isCube s2.data.toList) (q3 : isCube s3.data.toList) (q4 : s1.size = s2.size) (q5 : s1.size = s3.size) (hx : ¬ withinOk s1.data.toList s2.data.toList) :
    Calls Try.prog 11 #[.string s1, .string s2, .string s3] w fun e w' => e = .returned (.bool true) ∧ Below w.heap.size w w' := by
  obtain ⟨n1, c1, o1, hC1⟩ := Cub.of_is q1
  obtain ⟨n2, c2, o2, hC2⟩ := Cub.of_is q2
  obtain ⟨n3, c3, o3, hC3⟩ := Cub.of_is q3
  have H1 := Lib.hid hC1
  have H2 := Lib.hid hC2
  have H3 := Lib.hid hC3
  have K1 := Lib.hid (lcube_yes s1 q1 h1)
  have K2 := Lib.hid (lcube_yes s2 q2 h2)
  have K3 := Lib.hid (lcube_yes s3 q3 h3)
  have t4 := sz_eq q4
  have t5 := sz_eq q5
  have HW := Lib.hid (within_both (a := s1.data.toList) (b := s2.data.toList) (d := s3.data.toList))
  have HS := Lib.hid (decide_eq_true (within_self q1))
  have q1' := q1
  clear hC1 hC2 hC3 q1 q2 q3 q4 q5
  have HX_ := Lib.hid hx
  clear hx
  go_enter Try.func11, Try.ntmps11
  go_wp2_with fail
  refine (parse_of H1.out s1 rfl _).mono ?_
  rintro e w1 ⟨rfl, hb1⟩
  go_wp2_with fail
  refine (parse_of H2.out s2 rfl _).mono ?_
  rintro e w2 ⟨rfl, hb2⟩
  have g2 := bnx (bal hb1 (.cells (cs n1 c1 o1) 30)) hb2
  have hB1 : Blk w2 w1.heap.size 30 (cs n1 c1 o1) := (Blk.new w1 30 _).below hb2 (by simp)
  go_wp2_with fail
  refine (parse_of H3.out s3 rfl _).mono ?_
  rintro e w3 ⟨rfl, hb3⟩
  have g3 := bnx (bal g2 (.cells (cs n2 c2 o2) 30)) hb3
  have g4 := bal g3 (.cells (cs n3 c3 o3) 30)
  have hB2 : Blk w3 w2.heap.size 30 (cs n2 c2 o2) := (Blk.new w2 30 _).below hb3 (by simp)
  have hB1 := (hB1.alloc (.cells (cs n2 c2 o2) 30)).below hb3 (by have := hB1.lt; simp; omega)
  have hl1 := hB1.lt
  have hl2 := hB2.lt
  have hc1 := hB1.cell
  have hc2 := hB2.cell
  go_wp2_with (first | (go_at_call 43; with_reducible refine (K1.out _).mono ?_; rintro e w' ⟨rfl, rfl⟩) | (go_at_call 43; with_reducible refine (K2.out _).mono ?_; rintro e w' ⟨rfl, rfl⟩) | (go_at_call 43; with_reducible refine (K3.out _).mono ?_; rintro e w' ⟨rfl, rfl⟩))
  clear hc1 hc2 hl1 hl2
  generalize hM : decide (meetOk s1.data.toList s2.data.toList) = M
  have HM := Lib.hid hM
  clear hM
  refine (meet_lit H1.out H2.out M HM.out _).mono ?_
  rintro e w4 ⟨n4, c4, o4, hC4, rfl, hb4⟩
  have H4 := Lib.hid hC4
  have g5 := bnx g4 hb4
  have hB3 : Blk w4 w3.heap.size 30 (cs n3 c3 o3) := (Blk.new w3 30 _).below hb4 (by simp)
  have hB2 := (hB2.alloc (.cells (cs n3 c3 o3) 30)).below hb4 (by have := hB2.lt; simp; omega)
  have hB1 := (hB1.alloc (.cells (cs n3 c3 o3) 30)).below hb4 (by have := hB1.lt; simp; omega)
  clear hC4
  have hl1 := hB1.lt
  have hl2 := hB2.lt
  have hl3 := hB3.lt
  have hc1 := hB1.cell
  have hc2 := hB2.cell
  have hc3 := hB3.cell
  go_upto_region 7 with fail
  clear hc1 hc2 hc3 hl1 hl2 hl3
  generalize hW : World.alloc w4 _ = W
  have hz : OrdS 30 w1.heap.size w2.heap.size w3.heap.size w4.heap.size (cs n1 c1 o1) (cs n2 c2 o2) (cs n3 c3 o3) (cs n4 c4 o4) w W := by
    rw [← hW]
    exact ⟨hB1.alloc _, hB2.alloc _, hB3.alloc _, Blk.new w4 30 _, bal g5 _⟩
  clear hW
  generalize hP : decide (withinOk s3.data.toList s1.data.toList) = P
  generalize hQ : decide (withinOk s3.data.toList s2.data.toList) = Q
  generalize hR : decide (withinOk s3.data.toList (meetT s1.data.toList s2.data.toList)) = R
  have k31 := within_lit H3.out H1.out P hP
  have k32 := within_lit H3.out H2.out Q hQ
  have k34 := within_lit H3.out H4.out R hR
  have k11 := within_lit H1.out H1.out true HS.out
  have HPQ := Lib.hid (show (P && Q) = (M && R) by
    rw [← hP, ← hQ, ← HM.out, ← hR, Bool.eq_iff_iff]
    simp only [Bool.and_eq_true, decide_eq_true_eq]
    exact HW.out)
  generalize hA : decide (withinOk s1.data.toList s2.data.toList) = A
  have ka := within_lit H1.out H2.out A hA
  generalize hBB : decide (withinOk s2.data.toList s1.data.toList) = B
  have kb := within_lit H2.out H1.out B hBB
  have hAB : A = false := by rw [← hA]; exact decide_eq_false HX_.out
  have hE : decide (s1.data.toList = s2.data.toList) = false := decide_eq_false fun e => HX_.out (e ▸ within_self q1')
  subst hAB
  have hE_ := hE
  clear hE
  have hE := Lib.hid hE_
  clear hE_
  simp only [cv, cs, wv] at k31 k32 k34 k11 ka kb
  have K31 := Lib.hid k31
  have K32 := Lib.hid k32
  have K34 := Lib.hid k34
  have K11 := Lib.hid k11
  have KA := Lib.hid ka
  have KB := Lib.hid kb
  clear k31 k32 k34 k11 ka kb hP hQ hR hA hBB q1' hb1 hb2 hb3 hb4 hB1 hB2 hB3 g2 g3 g4 g5
  clear HX_
  go_cut [15] (fun s15 wx => s15 = .bool (P && Q) ∧ OrdS 30 w1.heap.size w2.heap.size w3.heap.size w4.heap.size (cs n1 c1 o1) (cs n2 c2 o2) (cs n3 c3 o3) (cs n4 c4 o4) w wx)
  case first =>
    obtain ⟨hB1, hB2, hB3, hB4, g5⟩ := hz
    have hl1 := hB1.lt
    have hl2 := hB2.lt
    have hl3 := hB3.lt
    have hl4 := hB4.lt
    have hc1 := hB1.cell
    have hc2 := hB2.cell
    have hc3 := hB3.cell
    have hc4 := hB4.cell
    cases P <;> cases Q
    all_goals
      go_wp2_with (first | (go_at_call 41; with_reducible refine (K31.out _).mono ?_; rintro e w' ⟨rfl, hb'⟩; have hB1 := hB1.below hb' hB1.lt; have hB2 := hB2.below hb' hB2.lt; have hB3 := hB3.below hb' hB3.lt; have hB4 := hB4.below hb' hB4.lt; have g5 := bnx g5 hb'; clear hb' hc1 hc2 hc3 hc4 hl1 hl2 hl3 hl4; have hc1 := hB1.cell; have hc2 := hB2.cell; have hc3 := hB3.cell; have hc4 := hB4.cell; have hl1 := hB1.lt; have hl2 := hB2.lt; have hl3 := hB3.lt; have hl4 := hB4.lt) | (go_at_call 41; with_reducible refine (K32.out _).mono ?_; rintro e w' ⟨rfl, hb'⟩; have hB1 := hB1.below hb' hB1.lt; have hB2 := hB2.below hb' hB2.lt; have hB3 := hB3.below hb' hB3.lt; have hB4 := hB4.below hb' hB4.lt; have g5 := bnx g5 hb'; clear hb' hc1 hc2 hc3 hc4 hl1 hl2 hl3 hl4; have hc1 := hB1.cell; have hc2 := hB2.cell; have hc3 := hB3.cell; have hc4 := hB4.cell; have hl1 := hB1.lt; have hl2 := hB2.lt; have hl3 := hB3.lt; have hl4 := hB4.lt))
      go_meet
      exact ⟨rfl, hB1, hB2, hB3, hB4, g5⟩
  case rest =>
    clear hz
    obtain ⟨rfl, hz⟩ := hcut
    rw [HPQ.out]
    go_upto_region 8 with fail
    go_cut [88] (fun s88 wx => s88 = .bool false ∧ OrdS 30 w1.heap.size w2.heap.size w3.heap.size w4.heap.size (cs n1 c1 o1) (cs n2 c2 o2) (cs n3 c3 o3) (cs n4 c4 o4) w wx)
    case first =>
      obtain ⟨hB1, hB2, hB3, hB4, g5⟩ := hz
      have hl1 := hB1.lt
      have hl2 := hB2.lt
      have hl3 := hB3.lt
      have hl4 := hB4.lt
      have hc1 := hB1.cell
      have hc2 := hB2.cell
      have hc3 := hB3.cell
      have hc4 := hB4.cell
      cases M <;> cases R
      all_goals
        go_wp2_with (first | (go_at_call 41; with_reducible refine (K34.out _).mono ?_; rintro e w' ⟨rfl, hb'⟩; have hB1 := hB1.below hb' hB1.lt; have hB2 := hB2.below hb' hB2.lt; have hB3 := hB3.below hb' hB3.lt; have hB4 := hB4.below hb' hB4.lt; have g5 := bnx g5 hb'; clear hb' hc1 hc2 hc3 hc4 hl1 hl2 hl3 hl4; have hc1 := hB1.cell; have hc2 := hB2.cell; have hc3 := hB3.cell; have hc4 := hB4.cell; have hl1 := hB1.lt; have hl2 := hB2.lt; have hl3 := hB3.lt; have hl4 := hB4.lt) | (go_at_call 41; with_reducible refine (K11.out _).mono ?_; rintro e w' ⟨rfl, hb'⟩; have hB1 := hB1.below hb' hB1.lt; have hB2 := hB2.below hb' hB2.lt; have hB3 := hB3.below hb' hB3.lt; have hB4 := hB4.below hb' hB4.lt; have g5 := bnx g5 hb'; clear hb' hc1 hc2 hc3 hc4 hl1 hl2 hl3 hl4; have hc1 := hB1.cell; have hc2 := hB2.cell; have hc3 := hB3.cell; have hc4 := hB4.cell; have hl1 := hB1.lt; have hl2 := hB2.lt; have hl3 := hB3.lt; have hl4 := hB4.lt))
        go_meet
        exact ⟨rfl, hB1, hB2, hB3, hB4, g5⟩
    case rest =>
      clear hz
      obtain ⟨rfl, hB1, hB2, hB3, hB4, g5⟩ := hcut
      have hl1 := hB1.lt
      have hl2 := hB2.lt
      have hl3 := hB3.lt
      have hl4 := hB4.lt
      have hc1 := hB1.cell
      have hc2 := hB2.cell
      have hc3 := hB3.cell
      have hc4 := hB4.cell
      go_wp2_with fail
      clear hc1 hc2 hc3 hc4
      have hT : (s1.toList == s2.toList) = _ := sl_eq s1 s2 hE.out
      have HE : ∀ w : World, _ := fun w => eq_lit H1.out H2.out _ hE.out w
      simp only [cv, cs, wv] at HE
      refine wp_region_held_drew (S := (fun w' => (∀ i, w'.cell? ⟨w1.heap.size, i, none⟩ = (cs n1 c1 o1)[i]?) ∧ (∀ i, w'.cell? ⟨w2.heap.size, i, none⟩ = (cs n2 c2 o2)[i]?) ∧ OrdK 30 w1.heap.size w2.heap.size (cs n1 c1 o1) (cs n2 c2 o2) w w')) (by kernel_rfl) (ordK0 hB1 hB2 g5) (fun hHeld => ?_)
      refine wpAnyH_take (i := 0) (oi := { dst := some 89, op := Op.load 30 (Operand.tmp 7), type := 30, pos := "outright.go:119", after := #[], guard := none }) (v := ?_) rfl (by kernel_rfl) (by kernel_rfl) (by kernel_rfl) (fun _ _ _ h => h) (Or.inl ⟨by rfl, ?_⟩) (by assumption) ?_
      rotate_left
      · intro w hSw
        try dsimp only at hSw
        go_simp
        try with_reducible rfl
      try simp only [Act.put, List.setIfInBounds_toArray, List.set_cons_zero, List.set_cons_succ]
      refine wpAnyH_take (i := 1) (oi := { dst := some 90, op := Op.load 30 (Operand.tmp 9), type := 30, pos := "outright.go:119", after := #[], guard := none }) (v := ?_) rfl (by kernel_rfl) (by kernel_rfl) (by kernel_rfl) (fun _ _ _ h => h) (Or.inl ⟨by rfl, ?_⟩) (by assumption) ?_
      rotate_left
      · intro w hSw
        try dsimp only at hSw
        go_simp
        try with_reducible rfl
      try simp only [Act.put, List.setIfInBounds_toArray, List.set_cons_zero, List.set_cons_succ]
      refine wpAnyH_take (i := 8) (oi := { dst := some 97, op := Op.load 30 (Operand.tmp 7), type := 30, pos := "outright.go:119", after := #[], guard := none }) (v := ?_) rfl (by kernel_rfl) (by kernel_rfl) (by kernel_rfl) (fun _ _ _ h => h) (Or.inl ⟨by rfl, ?_⟩) (by assumption) ?_
      rotate_left
      · intro w hSw
        try dsimp only at hSw
        go_simp
        try with_reducible rfl
      try simp only [Act.put, List.setIfInBounds_toArray, List.set_cons_zero, List.set_cons_succ]
      refine wpAnyH_take (i := 9) (oi := { dst := some 98, op := Op.load 30 (Operand.tmp 9), type := 30, pos := "outright.go:119", after := #[], guard := none }) (v := ?_) rfl (by kernel_rfl) (by kernel_rfl) (by kernel_rfl) (fun _ _ _ h => h) (Or.inl ⟨by rfl, ?_⟩) (by assumption) ?_
      rotate_left
      · intro w hSw
        try dsimp only at hSw
        go_simp
        try with_reducible rfl
      try simp only [Act.put, List.setIfInBounds_toArray, List.set_cons_zero, List.set_cons_succ]
      refine wpAnyH_take (i := 10) (oi := { dst := some 99, op := Op.binOp BinOp.eql 30 (Operand.tmp 97) (Operand.tmp 98) 30, type := 4, pos := "outright.go:119", after := #[{ on := 8, ground := Ground.data }, { on := 9, ground := Ground.data }], guard := none }) (v := ?_) rfl (by kernel_rfl) (by kernel_rfl) (by kernel_rfl) (fun _ _ _ h => h) (Or.inl ⟨by rfl, ?_⟩) (by assumption) ?_
      rotate_left
      · intro w hSw
        try dsimp only at hSw
        go_simp
        try with_reducible rfl
      try simp only [Act.put, List.setIfInBounds_toArray, List.set_cons_zero, List.set_cons_succ]
      refine wpAnyH_ready (rs := [2]) (by kernel_rfl) (by simp) ?_
      refine AllReadyH.cons rfl (fun K hK => ?_) AllReadyH.nil
      go_simp
      go_at_call 41
      refine (KA.out _).mono ?_
      rintro e w' ⟨rfl, hb'⟩
      have hK2 := ordK hHeld hb'
      refine hK.out _ _ hK2 (fun hHeld2 => ?_)
      clear hK hHeld hK2
      try simp only [Act.put, List.setIfInBounds_toArray, List.set_cons_zero, List.set_cons_succ]
      refine wpAnyH_take (i := 3) (oi := { dst := some 92, op := Op.move (Operand.tmp 91), type := 4, pos := "outright.go:119", after := #[{ on := 2, ground := Ground.data }, { on := 2, ground := Ground.chain }], guard := none }) (v := ?_) rfl (by kernel_rfl) (by kernel_rfl) (by kernel_rfl) (fun _ _ _ h => h) (Or.inl ⟨by rfl, ?_⟩) (by assumption) ?_
      rotate_left
      · intro w hSw
        try dsimp only at hSw
        go_simp
        try with_reducible rfl
      try simp only [Act.put, List.setIfInBounds_toArray, List.set_cons_zero, List.set_cons_succ]
      refine wpAnyH_take (i := 4) (oi := { dst := some 93, op := Op.load 30 (Operand.tmp 9), type := 30, pos := "outright.go:119", after := #[{ on := 3, ground := Ground.guard }], guard := some (3, true) }) (v := undef) rfl (by kernel_rfl) (by kernel_rfl) (by kernel_rfl) (fun _ _ _ h => h) (Or.inr ⟨by rfl, rfl⟩) (by assumption) ?_
      try simp only [Act.put, List.setIfInBounds_toArray, List.set_cons_zero, List.set_cons_succ]
      refine wpAnyH_take (i := 5) (oi := { dst := some 94, op := Op.load 30 (Operand.tmp 7), type := 30, pos := "outright.go:119", after := #[{ on := 3, ground := Ground.guard }], guard := some (3, true) }) (v := undef) rfl (by kernel_rfl) (by kernel_rfl) (by kernel_rfl) (fun _ _ _ h => h) (Or.inr ⟨by rfl, rfl⟩) (by assumption) ?_
      try simp only [Act.put, List.setIfInBounds_toArray, List.set_cons_zero, List.set_cons_succ]
      refine wpAnyH_take (i := 6) (oi := { dst := some 95, op := Op.call { callee := Callee.value (Operand.func 41), args := #[Operand.tmp 93, Operand.tmp 94], argTypes := #[30, 30] }, type := 4, pos := "outright.go:119", after := #[{ on := 4, ground := Ground.data }, { on := 5, ground := Ground.data }, { on := 3, ground := Ground.chain }, { on := 3, ground := Ground.guard }], guard := some (3, true) }) (v := undef) rfl (by kernel_rfl) (by kernel_rfl) (by kernel_rfl) (fun _ _ _ h => h) (Or.inr ⟨by rfl, rfl⟩) (by assumption) ?_
      try simp only [Act.put, List.setIfInBounds_toArray, List.set_cons_zero, List.set_cons_succ]
      refine wpAnyH_take (i := 7) (oi := { dst := some 96, op := Op.pick (Operand.tmp 92) (Operand.tmp 95) (Operand.const (Value.bool false)), type := 4, pos := "outright.go:119", after := #[{ on := 3, ground := Ground.data }, { on := 6, ground := Ground.data }], guard := none }) (v := ?_) rfl (by kernel_rfl) (by kernel_rfl) (by kernel_rfl) (fun _ _ _ h => h) (Or.inl ⟨by rfl, ?_⟩) (by assumption) ?_
      rotate_left
      · intro w hSw
        try dsimp only at hSw
        go_simp
        try with_reducible rfl
      try simp only [Act.put, List.setIfInBounds_toArray, List.set_cons_zero, List.set_cons_succ]
      refine wpAnyH_take (i := 11) (oi := { dst := some 100, op := Op.binOp BinOp.eql 4 (Operand.tmp 96) (Operand.tmp 99) 4, type := 4, pos := "outright.go:119", after := #[{ on := 7, ground := Ground.data }, { on := 10, ground := Ground.data }], guard := none }) (v := ?_) rfl (by kernel_rfl) (by kernel_rfl) (by kernel_rfl) (fun _ _ _ h => h) (Or.inl ⟨by rfl, ?_⟩) (by assumption) ?_
      rotate_left
      · intro w hSw
        try dsimp only at hSw
        go_simp
        try with_reducible rfl
      try simp only [Act.put, List.setIfInBounds_toArray, List.set_cons_zero, List.set_cons_succ]
      refine wpAnyH_take (i := 12) (oi := { dst := some 101, op := Op.move (Operand.tmp 100), type := 4, pos := "outright.go:119", after := #[{ on := 11, ground := Ground.data }, { on := 6, ground := Ground.chain }], guard := none }) (v := ?_) rfl (by kernel_rfl) (by kernel_rfl) (by kernel_rfl) (fun _ _ _ h => h) (Or.inl ⟨by rfl, ?_⟩) (by assumption) ?_
      rotate_left
      · intro w hSw
        try dsimp only at hSw
        go_simp
        try with_reducible rfl
      try simp only [Act.put, List.setIfInBounds_toArray, List.set_cons_zero, List.set_cons_succ]
      refine wpAnyH_take (i := 13) (oi := { dst := some 102, op := Op.load 30 (Operand.tmp 7), type := 30, pos := "outright.go:119", after := #[{ on := 12, ground := Ground.guard }], guard := some (12, true) }) (v := ?_) rfl (by kernel_rfl) (by kernel_rfl) (by kernel_rfl) (fun _ _ _ h => h) (Or.inl ⟨by rfl, ?_⟩) (by assumption) ?_
      rotate_left
      · intro w hSw
        try dsimp only at hSw
        go_simp
        try with_reducible rfl
      try simp only [Act.put, List.setIfInBounds_toArray, List.set_cons_zero, List.set_cons_succ]
      refine wpAnyH_take (i := 14) (oi := { dst := some 103, op := Op.load 30 (Operand.tmp 9), type := 30, pos := "outright.go:119", after := #[{ on := 12, ground := Ground.guard }], guard := some (12, true) }) (v := ?_) rfl (by kernel_rfl) (by kernel_rfl) (by kernel_rfl) (fun _ _ _ h => h) (Or.inl ⟨by rfl, ?_⟩) (by assumption) ?_
      rotate_left
      · intro w hSw
        try dsimp only at hSw
        go_simp
        try with_reducible rfl
      try simp only [Act.put, List.setIfInBounds_toArray, List.set_cons_zero, List.set_cons_succ]
      refine wpAnyH_take (i := 15) (oi := { dst := some 104, op := Op.binOp BinOp.eql 30 (Operand.tmp 102) (Operand.tmp 103) 30, type := 4, pos := "outright.go:119", after := #[{ on := 13, ground := Ground.data }, { on := 14, ground := Ground.data }, { on := 12, ground := Ground.guard }], guard := some (12, true) }) (v := ?_) rfl (by kernel_rfl) (by kernel_rfl) (by kernel_rfl) (fun _ _ _ h => h) (Or.inl ⟨by rfl, ?_⟩) (by assumption) ?_
      rotate_left
      · intro w hSw
        try dsimp only at hSw
        go_simp
        try with_reducible rfl
      try simp only [Act.put, List.setIfInBounds_toArray, List.set_cons_zero, List.set_cons_succ]
      refine wpAnyH_take (i := 16) (oi := { dst := some 105, op := Op.move (Operand.tmp 0), type := 9, pos := "outright.go:119", after := #[{ on := 12, ground := Ground.guard }], guard := some (12, true) }) (v := ?_) rfl (by kernel_rfl) (by kernel_rfl) (by kernel_rfl) (fun _ _ _ h => h) (Or.inl ⟨by rfl, ?_⟩) (by assumption) ?_
      rotate_left
      · intro w hSw
        try dsimp only at hSw
        go_simp
        try with_reducible rfl
      try simp only [Act.put, List.setIfInBounds_toArray, List.set_cons_zero, List.set_cons_succ]
      refine wpAnyH_take (i := 17) (oi := { dst := some 106, op := Op.move (Operand.tmp 1), type := 9, pos := "outright.go:119", after := #[{ on := 12, ground := Ground.guard }], guard := some (12, true) }) (v := ?_) rfl (by kernel_rfl) (by kernel_rfl) (by kernel_rfl) (fun _ _ _ h => h) (Or.inl ⟨by rfl, ?_⟩) (by assumption) ?_
      rotate_left
      · intro w hSw
        try dsimp only at hSw
        go_simp
        try with_reducible rfl
      try simp only [Act.put, List.setIfInBounds_toArray, List.set_cons_zero, List.set_cons_succ]
      refine wpAnyH_take (i := 18) (oi := { dst := some 107, op := Op.binOp BinOp.eql 9 (Operand.tmp 105) (Operand.tmp 106) 9, type := 4, pos := "outright.go:119", after := #[{ on := 16, ground := Ground.data }, { on := 17, ground := Ground.data }, { on := 12, ground := Ground.guard }], guard := some (12, true) }) (v := ?_) rfl (by kernel_rfl) (by kernel_rfl) (by kernel_rfl) (fun _ _ _ h => h) (Or.inl ⟨by rfl, ?_⟩) (by assumption) ?_
      rotate_left
      · intro w hSw
        try dsimp only at hSw
        go_simp
        try with_reducible rfl
      try simp only [Act.put, List.setIfInBounds_toArray, List.set_cons_zero, List.set_cons_succ]
      refine wpAnyH_take (i := 19) (oi := { dst := some 108, op := Op.binOp BinOp.eql 4 (Operand.tmp 104) (Operand.tmp 107) 4, type := 4, pos := "outright.go:119", after := #[{ on := 15, ground := Ground.data }, { on := 18, ground := Ground.data }, { on := 12, ground := Ground.guard }], guard := some (12, true) }) (v := ?_) rfl (by kernel_rfl) (by kernel_rfl) (by kernel_rfl) (fun _ _ _ h => h) (Or.inl ⟨by rfl, ?_⟩) (by assumption) ?_
      rotate_left
      · intro w hSw
        try dsimp only at hSw
        go_simp
        try with_reducible rfl
      try simp only [Act.put, List.setIfInBounds_toArray, List.set_cons_zero, List.set_cons_succ]
      refine wpAnyH_take (i := 20) (oi := { dst := some 109, op := Op.pick (Operand.tmp 101) (Operand.tmp 108) (Operand.const (Value.bool false)), type := 4, pos := "outright.go:119", after := #[{ on := 12, ground := Ground.data }, { on := 19, ground := Ground.data }], guard := none }) (v := ?_) rfl (by kernel_rfl) (by kernel_rfl) (by kernel_rfl) (fun _ _ _ h => h) (Or.inl ⟨by rfl, ?_⟩) (by assumption) ?_
      rotate_left
      · intro w hSw
        try dsimp only at hSw
        go_simp
        try with_reducible rfl
      try simp only [Act.put, List.setIfInBounds_toArray, List.set_cons_zero, List.set_cons_succ]
      refine wpAnyH_take (i := 21) (oi := { dst := some 6, op := Op.assign (Operand.tmp 109), type := 4, pos := "outright.go:119", after := #[{ on := 20, ground := Ground.data }, { on := 12, ground := Ground.chain }, { on := 0, ground := Ground.phase }, { on := 1, ground := Ground.phase }, { on := 2, ground := Ground.phase }, { on := 3, ground := Ground.phase }, { on := 4, ground := Ground.phase }, { on := 5, ground := Ground.phase }, { on := 6, ground := Ground.phase }, { on := 7, ground := Ground.phase }, { on := 8, ground := Ground.phase }, { on := 9, ground := Ground.phase }, { on := 10, ground := Ground.phase }, { on := 11, ground := Ground.phase }, { on := 12, ground := Ground.phase }, { on := 13, ground := Ground.phase }, { on := 14, ground := Ground.phase }, { on := 15, ground := Ground.phase }, { on := 16, ground := Ground.phase }, { on := 17, ground := Ground.phase }, { on := 18, ground := Ground.phase }, { on := 19, ground := Ground.phase }, { on := 20, ground := Ground.phase }], guard := none }) (v := ?_) rfl (by kernel_rfl) (by kernel_rfl) (by kernel_rfl) (fun _ _ _ h => h) (Or.inl ⟨by rfl, ?_⟩) (by assumption) ?_
      rotate_left
      · intro w hSw
        try dsimp only at hSw
        go_simp
        try with_reducible rfl
      try simp only [Act.put, List.setIfInBounds_toArray, List.set_cons_zero, List.set_cons_succ]
      refine wpAnyH_done (by kernel_rfl) ?_ _
      go_wp2_with fail
      go_ret
      exact ⟨rfl, ordB hHeld2⟩

end Go.Proofs.Ytdiijannpfogdaa.Tn
