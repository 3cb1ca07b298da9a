/- Patterns: the statement about Compile. -/
import Derived.Test.YtlbkacabcfeaiaaKr
namespace Go.Proofs.Ytlbkacabcfeaiaa.Tl
open Go.RowKit Mm
set_option linter.unusedVariables false
set_option maxRecDepth 100000 in
set_option maxHeartbeats 2000000 in
theorem num_any (n : Int) (w : World) : Calls Try.prog 8 #[.int .i64 n] w fun e w' => e = .returned (.int .i64 n) ∧ w = w' := by
  go_enter Try.func8, Try.ntmps8
  go_wp2_with fail
  go_ret
  exact ⟨rfl, rfl⟩
set_option maxRecDepth 100000 in
set_option maxHeartbeats 8000000 in
theorem compiles_walk (s : ByteArray) (hs : s.size ≤ maxLen) (w : World) : Calls Try.prog 3 #[.string s] w fun e w' => e = .returned (.bool true) ∧ Below w.heap.size w w' := by
  have hs2 : s.size ≤ 9223372036854775807 := by simp only [maxLen] at hs; omega
  have HN := Lib.hid num_any
  have HC := Lib.hid (compile_any s w hs2)
  have HR := Lib.hid (fun X => rcompile_any s X hs2)
  clear hs
  go_enter Try.func3, Try.ntmps3
  go_wp2_with fail
  refine HC.out.mono ?_
  rintro e w1 ⟨hb1, hc1⟩
  have HB1 := Lib.hid hb1
  clear hb1
  rcases hc1 with ⟨hl, rfl⟩ | ⟨hl, k, hk, rfl⟩ | ⟨hl, t, p, ht, hg, hbt, rfl, hp⟩
  · go_wp2_with fail
    refine (HR.out w1).mono ?_
    rintro e w2 ⟨hb2, hc2⟩
    have HB2 := Lib.hid (bnx HB1.out hb2)
    clear hb2
    rcases hc2 with ⟨hl2, rfl⟩ | ⟨hl2, _⟩ | ⟨hl2, _⟩
    · go_wp2_with fail
      refine (HN.out _ _).mono ?_
      rintro e w3 ⟨rfl, rfl⟩
      go_wp2_with fail
      go_ret
      exact ⟨rfl, bal HB2.out _⟩
    · omega
    · omega
  · go_wp2_with fail
    refine (HR.out w1).mono ?_
    rintro e w2 ⟨hb2, hc2⟩
    have HB2 := Lib.hid (bnx HB1.out hb2)
    clear hb2
    rcases hc2 with ⟨hl2, _⟩ | ⟨hl2, k2, hk2, rfl⟩ | ⟨hl2, t2, p2, ht2, _⟩
    · omega
    · rw [hk] at hk2
      cases hk2
      go_wp2_with fail
      refine (HN.out _ _).mono ?_
      rintro e w3 ⟨rfl, rfl⟩
      go_wp2_with fail
      go_ret
      exact ⟨rfl, bal HB2.out _⟩
    · rw [hk] at ht2
      cases ht2
  · go_wp2_with fail
    refine (HR.out w1).mono ?_
    rintro e w2 ⟨hb2, hc2⟩
    have HB2 := Lib.hid (bnx HB1.out hb2)
    have HP2 := Lib.hid (hp.below hb2)
    clear hb2 hp
    rcases hc2 with ⟨hl2, _⟩ | ⟨hl2, k2, hk2, _⟩ | ⟨hl2, t2, p2, ht2, rfl, hp2⟩
    · omega
    · rw [ht] at hk2
      cases hk2
    · rw [ht] at ht2
      cases ht2
      obtain ⟨nv, root, N, rfl, hr1, hr2, hr3, hr4⟩ := hp2.pat
      obtain ⟨an, cn, rfl⟩ := own_len hr1
      have hA := (Below.refl _ w2).alloc (Nat.le_refl _) (.cells #[.slice an N.length cn, .int .i64 (root : Int)] 28)
      have HP := Lib.hid (hp2.below hA)
      have HP3 := Lib.hid (HP2.out.below hA)
      have hbq := Blk.new w2 28 #[.slice an N.length cn, .int .i64 (root : Int)]
      have HBQ := Lib.hid hbq
      have HB3 := Lib.hid (bal HB2.out (.cells #[.slice an N.length cn, .int .i64 (root : Int)] 28))
      have hlt : w2.heap.size < (w2.alloc (.cells #[.slice an N.length cn, .int .i64 (root : Int)] 28)).heap.size := by simp
      obtain ⟨gp, csp, hpv, _⟩ := HP2.out.pat
      subst hpv
      clear hp2 hr1 hr2 hr3 hr4 hbq hA
      go_wp2_with fail
      refine (HN.out _ _).mono ?_
      rintro e w3 ⟨rfl, rfl⟩
      generalize World.alloc w2 _ = w4 at *
      have hS0 : HdO w2.heap.size (.slice an N.length cn) (.int .i64 (root : Int)) w4.drew := ⟨HBQ.out.cell 0, HBQ.out.cell 1⟩
      have HP5 := Lib.hid (HP3.out.below (Below.refl _ w4).drew)
      have HQ5 := Lib.hid (HP.out.below (Below.refl _ w4).drew)
      have HB5 := Lib.hid HB3.out.drew
      have hlt5 : w2.heap.size < w4.drew.heap.size := hlt
      go_wp2_with fail
      refine wp_region_last 9 (fun w' => HdO w2.heap.size (.slice an N.length cn) (.int .i64 (root : Int)) w') mixed ?_
      generalize w4.drew = w5 at *
      refine wpLast_take (i := 0) (oi := { dst := some 34, op := Op.move (Operand.tmp 3), type := 22, pos := "law.go:35", after := #[], guard := none }) (v := ?_) rfl (by kernel_rfl) (by kernel_rfl) (by kernel_rfl) (by kernel_rfl) (fun _ _ _ h => h) (Or.inl ⟨by rfl, ?_⟩) (by assumption) ?_
      rotate_left
      · intro w hSw
        try dsimp only at hSw
        go_simp
        try with_reducible rfl
      try simp only [Act.put, List.setIfInBounds_toArray, List.set_cons_zero, List.set_cons_succ]
      refine wpLast_take (i := 1) (oi := { dst := some 35, op := Op.binOp BinOp.neq 22 (Operand.tmp 34) (Operand.const (Value.pointer none)) 22, type := 4, pos := "law.go:35", after := #[{ on := 0, ground := Ground.data }], guard := none }) (v := ?_) rfl (by kernel_rfl) (by kernel_rfl) (by kernel_rfl) (by kernel_rfl) (fun _ _ _ h => h) (Or.inl ⟨by rfl, ?_⟩) (by assumption) ?_
      rotate_left
      · intro w hSw
        try dsimp only at hSw
        go_simp
        try with_reducible rfl
      try simp only [Act.put, List.setIfInBounds_toArray, List.set_cons_zero, List.set_cons_succ]
      refine wpLast_take (i := 2) (oi := { dst := some 36, op := Op.move (Operand.tmp 35), type := 4, pos := "law.go:35", after := #[{ on := 1, ground := Ground.data }], guard := none }) (v := ?_) rfl (by kernel_rfl) (by kernel_rfl) (by kernel_rfl) (by kernel_rfl) (fun _ _ _ h => h) (Or.inl ⟨by rfl, ?_⟩) (by assumption) ?_
      rotate_left
      · intro w hSw
        try dsimp only at hSw
        go_simp
        try with_reducible rfl
      try simp only [Act.put, List.setIfInBounds_toArray, List.set_cons_zero, List.set_cons_succ]
      refine wpLast_take (i := 3) (oi := { dst := some 37, op := Op.move (Operand.tmp 3), type := 22, pos := "law.go:35", after := #[{ on := 2, ground := Ground.guard }], guard := some (2, true) }) (v := ?_) rfl (by kernel_rfl) (by kernel_rfl) (by kernel_rfl) (by kernel_rfl) (fun _ _ _ h => h) (Or.inl ⟨by rfl, ?_⟩) (by assumption) ?_
      rotate_left
      · intro w hSw
        try dsimp only at hSw
        go_simp
        try with_reducible rfl
      try simp only [Act.put, List.setIfInBounds_toArray, List.set_cons_zero, List.set_cons_succ]
      refine wpLast_take (i := 5) (oi := { dst := some 39, op := Op.load 28 (Operand.tmp 6), type := 28, pos := "law.go:35", after := #[{ on := 2, ground := Ground.guard }], guard := some (2, true) }) (v := ?_) rfl (by kernel_rfl) (by kernel_rfl) (by kernel_rfl) (by kernel_rfl) (fun _ _ _ h => h) (Or.inl ⟨by rfl, ?_⟩) (by assumption) ?_
      rotate_left
      · intro w hSw
        try dsimp only at hSw
        go_simp
        try with_reducible rfl
      try simp only [Act.put, List.setIfInBounds_toArray, List.set_cons_zero, List.set_cons_succ]
      refine wpLast_ready (rs := [4]) (by kernel_rfl) (by simp) ?_
      refine EachLast.cons (o := { dst := some 38, op := Op.call { callee := Callee.value (Operand.func 9), args := #[Operand.tmp 37], argTypes := #[22] }, type := 9, pos := "law.go:35", after := #[{ on := 3, ground := Ground.data }, { on := 2, ground := Ground.chain }, { on := 2, ground := Ground.guard }], guard := some (2, true) }) rfl (fun K hK => ?_) EachLast.nil
      go_simp
      refine (text_any HP5.out).mono ?_
      rintro e w6 ⟨rfl, rfl⟩
      refine hK.out _ _ (fun _ => hS0) ?_
      try simp only [Act.put, List.setIfInBounds_toArray, List.set_cons_zero, List.set_cons_succ]
      refine wpLast_ready (rs := [6]) (by kernel_rfl) (by simp) ?_
      refine EachLast.cons (o := { dst := some 40, op := Op.call { callee := Callee.value (Operand.func 10), args := #[Operand.tmp 39], argTypes := #[28] }, type := 9, pos := "law.go:35", after := #[{ on := 5, ground := Ground.data }, { on := 4, ground := Ground.chain }, { on := 2, ground := Ground.guard }], guard := some (2, true) }) rfl (fun K hK => ?_) EachLast.nil
      go_simp
      refine (rtext_any HQ5.out hg (by omega)).mono ?_
      rintro e w7 ⟨rfl, hb7⟩
      have hS7 : HdO w2.heap.size (.slice an N.length cn) (.int .i64 (root : Int)) w7 := ⟨(Below.cell hb7 (p := ⟨w2.heap.size, 0, none⟩) hlt5).trans hS0.1, (Below.cell hb7 (p := ⟨w2.heap.size, 1, none⟩) hlt5).trans hS0.2⟩
      have HB7 := Lib.hid (bnx HB5.out hb7)
      refine hK.out _ _ (fun _ => hS7) ?_
      try simp only [Act.put, List.setIfInBounds_toArray, List.set_cons_zero, List.set_cons_succ]
      generalize str (txt t) = z at *
      refine wpLast_ready (rs := [7]) (by kernel_rfl) (by simp) ?_
      refine EachLast.cons (o := { dst := some 41, op := Op.binOp BinOp.eql 9 (Operand.tmp 38) (Operand.tmp 40) 9, type := 4, pos := "law.go:35", after := #[{ on := 4, ground := Ground.data }, { on := 6, ground := Ground.data }, { on := 2, ground := Ground.guard }], guard := some (2, true) }) rfl (fun K hK => ?_) EachLast.nil
      go_simp
      refine hK.out _ _ (fun _ => hS7) ?_
      try simp only [Act.put, List.setIfInBounds_toArray, List.set_cons_zero, List.set_cons_succ]
      refine wpLast_ready (rs := [8]) (by kernel_rfl) (by simp) ?_
      refine EachLast.cons (o := { dst := some 42, op := Op.pick (Operand.tmp 36) (Operand.tmp 41) (Operand.const (Value.bool false)), type := 4, pos := "law.go:35", after := #[{ on := 2, ground := Ground.data }, { on := 7, ground := Ground.data }], guard := none }) rfl (fun K hK => ?_) EachLast.nil
      go_simp
      refine hK.out _ _ (fun _ => hS7) ?_
      try simp only [Act.put, List.setIfInBounds_toArray, List.set_cons_zero, List.set_cons_succ]
      refine wpLast_ready (rs := [9]) (by kernel_rfl) (by simp) ?_
      refine EachLast.cons (o := { dst := some 2, op := Op.assign (Operand.tmp 42), type := 4, pos := "law.go:35", after := #[{ on := 8, ground := Ground.data }, { on := 6, ground := Ground.chain }, { on := 0, ground := Ground.phase }, { on := 1, ground := Ground.phase }, { on := 2, ground := Ground.phase }, { on := 3, ground := Ground.phase }, { on := 4, ground := Ground.phase }, { on := 5, ground := Ground.phase }, { on := 6, ground := Ground.phase }, { on := 7, ground := Ground.phase }, { on := 8, ground := Ground.phase }], guard := none }) rfl (fun K hK => ?_) EachLast.nil
      go_simp
      refine hK.out _ _ (fun h => absurd rfl h) ?_
      try simp only [Act.put, List.setIfInBounds_toArray, List.set_cons_zero, List.set_cons_succ]
      refine wpLast_done (by kernel_rfl) ?_ _
      go_wp2_with fail
      go_ret
      exact ⟨rfl, HB7.out⟩
end Go.Proofs.Ytlbkacabcfeaiaa.Tl
