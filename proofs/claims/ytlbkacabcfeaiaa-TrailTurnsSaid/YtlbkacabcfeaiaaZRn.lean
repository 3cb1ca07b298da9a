/- Patterns: the program's names. -/
import Derived.Test.YtlbkacabcfeaiaaZRd
namespace Go.Proofs.Ytlbkacabcfeaiaa.Tl
open Go.RowKit Mm
set_option linter.unusedVariables false
theorem portAt_eq (x : List UInt8) (i e : Nat) (he : runEnd x i = e) : portAt x i = (x[e]? == some 46 && atB isLetter x (e + 1)) := by unfold portAt; rw [he]
theorem slice_str (s : ByteArray) (i j : Nat) (h1 : i ≤ j) (h2 : j ≤ s.size) : (s.extract i j) = str (((xs s).drop i).take (j - i)) := by
  apply ByteArray.ext
  rw [ByteArray.data_extract]
  apply Array.toList_inj.1
  rw [Array.toList_extract, List.extract_eq_take_drop]
  rfl
set_option maxRecDepth 100000 in
set_option maxHeartbeats 8000000 in
theorem name_any {W X : World} {g : Nat} {s : ByteArray} {st : St} {out : Value} {R : List Rw} {c p : Rw} {S : Nat → Prop} (h : Rd W g s st out R c p S X) (hs : s.size ≤ 1000) (hl : atB isLetter (xs s) st.pos = true) (hp : st.ps.length ≤ 100000) (d : Bool) :
    Calls Try.prog 28 #[.pointer (some ⟨g, 0, none⟩), .bool d] X fun e w' => (nameLong (xs s) st.pos = true ∧ e = .returned (.bool false) ∧ X = w') ∨
      (nameLong (xs s) st.pos = false ∧ e = .returned (.bool true) ∧ ∃ p', Rd W g s { st with pos := nameEnd (xs s) st.pos, ps := st.ps ++ [nameT (xs s) st.pos d] } out R c p' S w') := by
  have q0 := Blk.c0 h.blk
  have q1 := Blk.c1 h.blk
  have q5 := Blk.c5 h.blk
  have hxl := xs_len s
  have hpos : st.pos < s.size := by have := at_lt hl; omega
  have HW := Lib.hid (fun k (hk : k ≤ 1000) => word_any X g k s _ _ _ _ _ h.blk hs hk)
  have HLt := Lib.hid (fun k (hk : k ≤ 1000) => letter_any X g k s _ _ _ _ _ h.blk hs hk)
  have HH := Lib.hid h
  obtain ⟨ap, cp, hpv⟩ := own_len (h.q.fam.1 _ _ (at_p R c p))
  have hpn : p.n ≤ 100000 := by rw [h.q.trp.1]; exact hp
  clear h
  generalize hx : xs s = x at *
  have hne := name_end hl
  generalize hpo : st.pos = i at *
  go_enter Try.func28, Try.ntmps28
  go_wp2_with fail
  go_loopw [5] (fun s5 wr => ∃ k : Nat, i ≤ k ∧ k ≤ s.size ∧ s5 = .int .i64 (k : Int) ∧ runEnd x i = runEnd x k ∧ X = wr) (fun s5 _ => s.size - (intOf s5).toNat)
  case atStart => exact ⟨i, Nat.le_refl _, by omega, rfl, rfl, rfl⟩
  case round =>
    obtain ⟨k, hk1, hk2, rfl, hk3, rfl⟩ := hrel
    go_wp2_with fail
    refine (HW.out k (by omega)).mono ?_
    rintro e w' ⟨rfl, rfl⟩
    cases hb : atB isWord x k with
    | true =>
      have hkl := at_lt hb
      have hst := run_step hb
      go_wp2_with fail
      go_roundw
      case rel => exact ⟨k + 1, by omega, by omega, by go_num, hk3.trans hst, by first | rfl | trivial⟩
      case measure => simp [intOf]; omega
    | false =>
      have hstop := run_stop hb
      rw [hstop] at hk3
      have hP := portAt_eq x i k hk3
      go_upto_region 5 with fail
      go_cut [7] (fun s7 wx => s7 = .bool (portAt x i) ∧ X = wx)
      case first =>
        by_cases hks : k < s.size
        · by_cases h46 : s[k] = 46
          · have hxk : x[k]? = some 46 := by rw [← hx, xs_get hks, h46]
            rw [hxk] at hP
            have hn46 : ((s[k].toNat : Nat) : Int) = 46 := by rw [h46]; rfl
            have hP2 : portAt x i = atB isLetter x (k + 1) := by rw [hP]; rfl
            go_wp2_with fail
            refine (HLt.out (k + 1) (by omega)).mono ?_
            rintro e w' ⟨rfl, rfl⟩
            go_wp2_with fail
            go_meet
            exact ⟨by rw [hP2], rfl⟩
          · have hxk : x[k]? = some s[k] := by rw [← hx, xs_get hks]
            have hP2 : portAt x i = false := by rw [hP, hxk]; simp [h46]
            have hn46 : ¬ ((s[k].toNat : Nat) : Int) = 46 := fun e => h46 (by
              apply UInt8.toNat_inj.1
              have : (46 : UInt8).toNat = 46 := rfl
              omega)
            go_wp2_with fail
            go_meet
            exact ⟨by rw [hP2], rfl⟩
        · have hP2 : portAt x i = false := by rw [hP, ← hx, xs_none (by omega)]; rfl
          go_wp2_with fail
          go_meet
          exact ⟨by rw [hP2], rfl⟩
      case rest =>
      obtain ⟨rfl, rfl⟩ := hcut
      go_upto_if 46 with fail
      go_cut [5, 6, 7] (fun s5 s6 s7 wx => s5 = .int .i64 (nameEnd x i : Int) ∧ (∃ m : Int, s6 = .int .i64 m ∧ (24 < m ↔ nameLong x i = true)) ∧ s7 = .bool (portAt x i) ∧ X = wx)
      case first =>
        cases hpt : portAt x i with
        | true =>
          rw [hpt] at hP
          have hlk : atB isLetter x (k + 1) = true := (Bool.and_eq_true_iff.1 hP.symm).2
          have hk4 := at_lt hlk
          have hNE : nameEnd x i = runEnd x (k + 1) := by unfold nameEnd; rw [if_pos hpt, hk3]
          have hNL : nameLong x i = (decide (24 < k - i) || decide (24 < runEnd x (k + 1) - (k + 1))) := by unfold nameLong; rw [hpt, hk3]; rfl
          have HNE := Lib.hid hNE
          have HNL := Lib.hid hNL
          clear hP hNE hNL
          go_wp2_with fail
          go_loopw [5] (fun s5 wr => ∃ j : Nat, k + 1 ≤ j ∧ j ≤ s.size ∧ s5 = .int .i64 (j : Int) ∧ runEnd x (k + 1) = runEnd x j ∧ X = wr) (fun s5 _ => s.size - (intOf s5).toNat)
          case atStart => exact ⟨k + 1, Nat.le_refl _, by omega, by go_num, rfl, rfl⟩
          case round =>
            obtain ⟨j, hj1, hj2, rfl, hj3, rfl⟩ := hrel
            go_wp2_with fail
            refine (HW.out j (by omega)).mono ?_
            rintro e w' ⟨rfl, rfl⟩
            cases hb2 : atB isWord x j with
            | true =>
              have hkl := at_lt hb2
              have hst := run_step hb2
              go_wp2_with fail
              go_roundw
              case rel => exact ⟨j + 1, by omega, by omega, by go_num, hj3.trans hst, by first | rfl | trivial⟩
              case measure => simp [intOf]; omega
            | false =>
              have hstop2 := run_stop hb2
              rw [hstop2] at hj3
              go_wp2_with fail
              all_goals
                go_meet
                exact ⟨by rw [HNE.out, hj3], ⟨_, rfl, by rw [HNL.out, hj3, Bool.or_eq_true, decide_eq_true_eq, decide_eq_true_eq]; omega⟩, by rw [hpt], rfl⟩
        | false =>
          have HNE := Lib.hid (show nameEnd x i = k from by unfold nameEnd; rw [hpt, if_neg (by simp), hk3])
          have HNL := Lib.hid (show nameLong x i = decide (24 < k - i) from by unfold nameLong; rw [hpt, hk3]; simp)
          go_wp2_with fail
          go_meet
          exact ⟨by rw [HNE.out], ⟨_, rfl, by rw [HNL.out, decide_eq_true_eq]; omega⟩, by rw [hpt], rfl⟩
      case rest =>
      obtain ⟨rfl, ⟨m, rfl, hm⟩, rfl, rfl⟩ := hcut
      cases hnl : nameLong x i with
      | true =>
        have hm2 := hm.2 hnl
        clear hm
        go_wp2_with fail
        go_ret
        exact .inl ⟨hnl, rfl, rfl⟩
      | false =>
        have hm2 : ¬ 24 < m := fun e => by rw [hm.1 e] at hnl; cases hnl
        clear hm
        have hne1 := hne.1
        have hne2 := hne.2
        rw [hxl] at hne2
        have HSL := Lib.hid (slice_str s i (nameEnd x i) (by omega) hne2)
        generalize hee : nameEnd x i = e at *
        have HEE := Lib.hid hee
        rw [hpv] at q5
        have HR := Lib.hid (HH.out.q.fam.1 _ _ (at_p R c p))
        have hbs := HH.out.q.base
        rw [hpv] at HR
        have HQ := Lib.hid (fun (V Y : World) (v' : Value) (hb : Below X.heap.size X V) (ho : Y.ownsRow W.heap.size 57 1 v' (p.n + 1) (p.xs ++ [leafV (((xs s).drop i).take (e - i)) true (portAt x i) d])) (hk : Keeps V (.slice ap p.n cp) v' Y) => (HH.out.q.beside hb).pushed (HH.out.blk.below hb HH.out.blk.lt) (.leaf (((xs s).drop i).take (e - i)) true (portAt x i) d) ho (by rw [hpv]; exact hk))
        have HT := Lib.hid (show nameT x i d = .leaf (((xs s).drop i).take (e - i)) true (portAt x i) d from by unfold nameT; rw [HEE.out, hx])
        rw [hpo] at HQ
        clear hP
        generalize portAt x i = po at *
        go_wp2_with fail
        have hgl : g < X.heap.size := HH.out.blk.lt
        have hB0 : Blk X g 54 (rdC s i st.it out c.v (.slice ap p.n cp)) := by have h := HH.out.blk; rw [hpv, hpo] at h; exact h
        have hS0 : HdR g (.string s) (.int .i64 (i : Int)) out c.v (.slice ap p.n cp) X.drew := HdR.of hB0.drew
        have HB1 := Lib.hid (fun o => HdR.of (hB0.drew.alloc o))
        have HRd := Lib.hid (own_below HR.out (Below.refl _ _).drew (Nat.le_refl _))
        have z0 : (0 : Int) ≤ (i : Int) := by omega
        have z1 : (i : Int) ≤ (e : Int) := by omega
        have z2 : (e : Int) ≤ (s.size : Int) := by omega
        clear q0 q1 q5 hB0
        refine wp_region_last 25 (fun w' => HdR g (.string s) (.int .i64 (i : Int)) out c.v (.slice ap p.n cp) w') mixed ?_
        refine wpLast_take (i := 0) (oi := { dst := some 62, op := Op.move (Operand.tmp 0), type := 81, pos := "read.go:154", after := #[], guard := none }) (v := ?_) rfl (by kernel_rfl) (by kernel_rfl) (by kernel_rfl) (by kernel_rfl) (fun _ _ _ h => h) (Or.inl ⟨by rfl, ?_⟩) (by assumption) ?_
        rotate_left
        · intro w hSw
          try dsimp only at hSw
          go_simp
          try with_reducible rfl
        try simp only [Act.put, List.setIfInBounds_toArray, List.set_cons_zero, List.set_cons_succ]
        refine wpLast_take (i := 1) (oi := { dst := some 63, op := Op.move (Operand.tmp 0), type := 81, pos := "read.go:154", after := #[], guard := none }) (v := ?_) rfl (by kernel_rfl) (by kernel_rfl) (by kernel_rfl) (by kernel_rfl) (fun _ _ _ h => h) (Or.inl ⟨by rfl, ?_⟩) (by assumption) ?_
        rotate_left
        · intro w hSw
          try dsimp only at hSw
          go_simp
          try with_reducible rfl
        try simp only [Act.put, List.setIfInBounds_toArray, List.set_cons_zero, List.set_cons_succ]
        refine wpLast_take (i := 2) (oi := { dst := some 64, op := Op.nilCheck (Operand.tmp 63), type := 0, pos := "read.go:154", after := #[{ on := 1, ground := Ground.data }], guard := none }) (v := ?_) rfl (by kernel_rfl) (by kernel_rfl) (by kernel_rfl) (by kernel_rfl) (fun _ _ _ h => h) (Or.inl ⟨by rfl, ?_⟩) (by assumption) ?_
        rotate_left
        · intro w hSw
          try dsimp only at hSw
          go_simp
          try with_reducible rfl
        try simp only [Act.put, List.setIfInBounds_toArray, List.set_cons_zero, List.set_cons_succ]
        refine wpLast_take (i := 3) (oi := { dst := some 65, op := Op.fieldAddr 54 (Operand.tmp 64) 4, type := 0, pos := "read.go:154", after := #[{ on := 2, ground := Ground.data }], guard := none }) (v := ?_) rfl (by kernel_rfl) (by kernel_rfl) (by kernel_rfl) (by kernel_rfl) (fun _ _ _ h => h) (Or.inl ⟨by rfl, ?_⟩) (by assumption) ?_
        rotate_left
        · intro w hSw
          try dsimp only at hSw
          go_simp
          try with_reducible rfl
        try simp only [Act.put, List.setIfInBounds_toArray, List.set_cons_zero, List.set_cons_succ]
        refine wpLast_take (i := 4) (oi := { dst := some 66, op := Op.fieldAddr 52 (Operand.tmp 65) 1, type := 0, pos := "read.go:154", after := #[{ on := 3, ground := Ground.data }], guard := none }) (v := ?_) rfl (by kernel_rfl) (by kernel_rfl) (by kernel_rfl) (by kernel_rfl) (fun _ _ _ h => h) (Or.inl ⟨by rfl, ?_⟩) (by assumption) ?_
        rotate_left
        · intro w hSw
          try dsimp only at hSw
          go_simp
          try with_reducible rfl
        try simp only [Act.put, List.setIfInBounds_toArray, List.set_cons_zero, List.set_cons_succ]
        refine wpLast_take (i := 5) (oi := { dst := some 67, op := Op.load 50 (Operand.tmp 66), type := 50, pos := "read.go:154", after := #[{ on := 4, ground := Ground.data }], guard := none }) (v := ?_) rfl (by kernel_rfl) (by kernel_rfl) (by kernel_rfl) (by kernel_rfl) (fun _ _ _ h => h) (Or.inl ⟨by rfl, ?_⟩) (by assumption) ?_
        rotate_left
        · intro w hSw
          try dsimp only at hSw
          go_simp
          try with_reducible rfl
        try simp only [Act.put, List.setIfInBounds_toArray, List.set_cons_zero, List.set_cons_succ]
        refine wpLast_take (i := 6) (oi := { dst := some 68, op := Op.move (Operand.tmp 0), type := 81, pos := "read.go:154", after := #[], guard := none }) (v := ?_) rfl (by kernel_rfl) (by kernel_rfl) (by kernel_rfl) (by kernel_rfl) (fun _ _ _ h => h) (Or.inl ⟨by rfl, ?_⟩) (by assumption) ?_
        rotate_left
        · intro w hSw
          try dsimp only at hSw
          go_simp
          try with_reducible rfl
        try simp only [Act.put, List.setIfInBounds_toArray, List.set_cons_zero, List.set_cons_succ]
        refine wpLast_take (i := 7) (oi := { dst := some 69, op := Op.nilCheck (Operand.tmp 68), type := 0, pos := "read.go:154", after := #[{ on := 6, ground := Ground.data }], guard := none }) (v := ?_) rfl (by kernel_rfl) (by kernel_rfl) (by kernel_rfl) (by kernel_rfl) (fun _ _ _ h => h) (Or.inl ⟨by rfl, ?_⟩) (by assumption) ?_
        rotate_left
        · intro w hSw
          try dsimp only at hSw
          go_simp
          try with_reducible rfl
        try simp only [Act.put, List.setIfInBounds_toArray, List.set_cons_zero, List.set_cons_succ]
        refine wpLast_take (i := 8) (oi := { dst := some 70, op := Op.fieldAddr 54 (Operand.tmp 69) 0, type := 0, pos := "read.go:154", after := #[{ on := 7, ground := Ground.data }], guard := none }) (v := ?_) rfl (by kernel_rfl) (by kernel_rfl) (by kernel_rfl) (by kernel_rfl) (fun _ _ _ h => h) (Or.inl ⟨by rfl, ?_⟩) (by assumption) ?_
        rotate_left
        · intro w hSw
          try dsimp only at hSw
          go_simp
          try with_reducible rfl
        try simp only [Act.put, List.setIfInBounds_toArray, List.set_cons_zero, List.set_cons_succ]
        refine wpLast_take (i := 9) (oi := { dst := some 71, op := Op.load 9 (Operand.tmp 70), type := 9, pos := "read.go:154", after := #[{ on := 8, ground := Ground.data }], guard := none }) (v := ?_) rfl (by kernel_rfl) (by kernel_rfl) (by kernel_rfl) (by kernel_rfl) (fun _ _ _ h => h) (Or.inl ⟨by rfl, ?_⟩) (by assumption) ?_
        rotate_left
        · intro w hSw
          try dsimp only at hSw
          go_simp
          try with_reducible rfl
        try simp only [Act.put, List.setIfInBounds_toArray, List.set_cons_zero, List.set_cons_succ]
        refine wpLast_take (i := 10) (oi := { dst := some 72, op := Op.move (Operand.tmp 0), type := 81, pos := "read.go:154", after := #[], guard := none }) (v := ?_) rfl (by kernel_rfl) (by kernel_rfl) (by kernel_rfl) (by kernel_rfl) (fun _ _ _ h => h) (Or.inl ⟨by rfl, ?_⟩) (by assumption) ?_
        rotate_left
        · intro w hSw
          try dsimp only at hSw
          go_simp
          try with_reducible rfl
        try simp only [Act.put, List.setIfInBounds_toArray, List.set_cons_zero, List.set_cons_succ]
        refine wpLast_take (i := 11) (oi := { dst := some 73, op := Op.nilCheck (Operand.tmp 72), type := 0, pos := "read.go:154", after := #[{ on := 10, ground := Ground.data }], guard := none }) (v := ?_) rfl (by kernel_rfl) (by kernel_rfl) (by kernel_rfl) (by kernel_rfl) (fun _ _ _ h => h) (Or.inl ⟨by rfl, ?_⟩) (by assumption) ?_
        rotate_left
        · intro w hSw
          try dsimp only at hSw
          go_simp
          try with_reducible rfl
        try simp only [Act.put, List.setIfInBounds_toArray, List.set_cons_zero, List.set_cons_succ]
        refine wpLast_take (i := 12) (oi := { dst := some 74, op := Op.fieldAddr 54 (Operand.tmp 73) 1, type := 0, pos := "read.go:154", after := #[{ on := 11, ground := Ground.data }], guard := none }) (v := ?_) rfl (by kernel_rfl) (by kernel_rfl) (by kernel_rfl) (by kernel_rfl) (fun _ _ _ h => h) (Or.inl ⟨by rfl, ?_⟩) (by assumption) ?_
        rotate_left
        · intro w hSw
          try dsimp only at hSw
          go_simp
          try with_reducible rfl
        try simp only [Act.put, List.setIfInBounds_toArray, List.set_cons_zero, List.set_cons_succ]
        refine wpLast_take (i := 13) (oi := { dst := some 75, op := Op.load 3 (Operand.tmp 74), type := 3, pos := "read.go:154", after := #[{ on := 12, ground := Ground.data }], guard := none }) (v := ?_) rfl (by kernel_rfl) (by kernel_rfl) (by kernel_rfl) (by kernel_rfl) (fun _ _ _ h => h) (Or.inl ⟨by rfl, ?_⟩) (by assumption) ?_
        rotate_left
        · intro w hSw
          try dsimp only at hSw
          go_simp
          try with_reducible rfl
        try simp only [Act.put, List.setIfInBounds_toArray, List.set_cons_zero, List.set_cons_succ]
        refine wpLast_take (i := 14) (oi := { dst := some 76, op := Op.move (Operand.tmp 5), type := 3, pos := "read.go:154", after := #[], guard := none }) (v := ?_) rfl (by kernel_rfl) (by kernel_rfl) (by kernel_rfl) (by kernel_rfl) (fun _ _ _ h => h) (Or.inl ⟨by rfl, ?_⟩) (by assumption) ?_
        rotate_left
        · intro w hSw
          try dsimp only at hSw
          go_simp
          try with_reducible rfl
        try simp only [Act.put, List.setIfInBounds_toArray, List.set_cons_zero, List.set_cons_succ]
        refine wpLast_take (i := 15) (oi := { dst := some 77, op := Op.slice 9 (Operand.tmp 71) (some (Operand.tmp 75)) (some (Operand.tmp 76)) none, type := 9, pos := "read.go:154", after := #[{ on := 9, ground := Ground.data }, { on := 13, ground := Ground.data }, { on := 14, ground := Ground.data }], guard := none }) (v := ?_) rfl (by kernel_rfl) (by kernel_rfl) (by kernel_rfl) (by kernel_rfl) (fun _ _ _ h => h) (Or.inl ⟨by rfl, ?_⟩) (by assumption) ?_
        rotate_left
        · intro w hSw
          try dsimp only at hSw
          go_simp
          try with_reducible rfl
        try simp only [Act.put, List.setIfInBounds_toArray, List.set_cons_zero, List.set_cons_succ]
        refine wpLast_take (i := 16) (oi := { dst := some 78, op := Op.move (Operand.tmp 7), type := 4, pos := "read.go:154", after := #[], guard := none }) (v := ?_) rfl (by kernel_rfl) (by kernel_rfl) (by kernel_rfl) (by kernel_rfl) (fun _ _ _ h => h) (Or.inl ⟨by rfl, ?_⟩) (by assumption) ?_
        rotate_left
        · intro w hSw
          try dsimp only at hSw
          go_simp
          try with_reducible rfl
        try simp only [Act.put, List.setIfInBounds_toArray, List.set_cons_zero, List.set_cons_succ]
        refine wpLast_take (i := 17) (oi := { dst := some 79, op := Op.move (Operand.tmp 1), type := 4, pos := "read.go:154", after := #[], guard := none }) (v := ?_) rfl (by kernel_rfl) (by kernel_rfl) (by kernel_rfl) (by kernel_rfl) (fun _ _ _ h => h) (Or.inl ⟨by rfl, ?_⟩) (by assumption) ?_
        rotate_left
        · intro w hSw
          try dsimp only at hSw
          go_simp
          try with_reducible rfl
        try simp only [Act.put, List.setIfInBounds_toArray, List.set_cons_zero, List.set_cons_succ]
        refine wpLast_take (i := 18) (oi := { dst := some 80, op := Op.build 87 #[(0, Operand.tmp 77), (1, Operand.const (Value.bool true)), (2, Operand.tmp 78), (3, Operand.tmp 79)], type := 87, pos := "read.go:154", after := #[{ on := 15, ground := Ground.data }, { on := 16, ground := Ground.data }, { on := 17, ground := Ground.data }], guard := none }) (v := ?_) rfl (by kernel_rfl) (by kernel_rfl) (by kernel_rfl) (by kernel_rfl) (fun _ _ _ h => h) (Or.inl ⟨by rfl, ?_⟩) (by assumption) ?_
        rotate_left
        · intro w hSw
          try dsimp only at hSw
          go_simp
          try with_reducible rfl
        try simp only [Act.put, List.setIfInBounds_toArray, List.set_cons_zero, List.set_cons_succ]
        refine wpLast_take (i := 19) (oi := { dst := some 81, op := Op.makeInterface 87 (Operand.tmp 80), type := 57, pos := "read.go:154", after := #[{ on := 18, ground := Ground.data }], guard := none }) (v := ?_) rfl (by kernel_rfl) (by kernel_rfl) (by kernel_rfl) (by kernel_rfl) (fun _ _ _ h => h) (Or.inl ⟨by rfl, ?_⟩) (by assumption) ?_
        rotate_left
        · intro w hSw
          try dsimp only at hSw
          go_simp
          try with_reducible rfl
        try simp only [Act.put, List.setIfInBounds_toArray, List.set_cons_zero, List.set_cons_succ]
        refine wpLast_ready (rs := [20]) (by kernel_rfl) (by simp) ?_
        refine EachLast.cons (o := { dst := some 82, op := Op.buildSlice 50 1 #[(0, Operand.tmp 81)], type := 50, pos := "read.go:154", after := #[{ on := 19, ground := Ground.data }], guard := none }) rfl (fun K hK => ?_) EachLast.nil
        go_simp
        refine hK.out _ _ (fun _ => HB1.out _) ?_
        try simp only [Act.put, List.setIfInBounds_toArray, List.set_cons_zero, List.set_cons_succ]
        refine wpLast_ready (rs := [21]) (by kernel_rfl) (by simp) ?_
        refine EachLast.cons (o := { dst := some 83, op := Op.call { callee := Callee.builtin Builtin.append, args := #[Operand.tmp 67, Operand.tmp 82], argTypes := #[50, 50] }, type := 50, pos := "read.go:154", after := #[{ on := 5, ground := Ground.data }, { on := 20, ground := Ground.data }], guard := none }) rfl (fun K hK => ?_) EachLast.nil
        refine step_keep (w := X.drew) [.iface 87 (.agg #[.string (s.extract i e), .bool true, .bool po, .bool d])] (.tmp 67) (.tmp 82) Try.underlying50 info_tree rfl (by decide) (by simp [Value.oneCell']) rfl HRd.out ?gd ?go ?gs ?gx (by simp only [maxLen]; omega) (by omega) (Nat.le_trans hbs (Nat.le_refl _)) ?_
        case gd => rfl
        case go => rfl
        case gs => rfl
        case gx => rfl
        intro v' Y ho hk
        have hF := HQ.out _ Y v' (bal (Below.refl _ _).drew _) (by rw [leafV, ← HSL.out]; exact ho) hk
        obtain ⟨⟨a9, c9, hv9⟩, hB9, hRd9⟩ := hF
        have hS9 := HdR.of hB9
        have f5 := hB9.frozen 5
        rw [hpv] at hS9
        subst hv9
        refine hK.out _ _ (fun _ => hS9) ?_
        try simp only [Act.put, List.setIfInBounds_toArray, List.set_cons_zero, List.set_cons_succ]
        refine wpLast_ready (rs := [22]) (by kernel_rfl) (by simp) ?_
        refine EachLast.cons (o := { dst := some 84, op := Op.nilCheck (Operand.tmp 62), type := 0, pos := "read.go:154", after := #[{ on := 0, ground := Ground.data }, { on := 0, ground := Ground.phase }, { on := 1, ground := Ground.phase }, { on := 2, ground := Ground.phase }, { on := 3, ground := Ground.phase }, { on := 4, ground := Ground.phase }, { on := 5, ground := Ground.phase }, { on := 6, ground := Ground.phase }, { on := 7, ground := Ground.phase }, { on := 8, ground := Ground.phase }, { on := 9, ground := Ground.phase }, { on := 10, ground := Ground.phase }, { on := 11, ground := Ground.phase }, { on := 12, ground := Ground.phase }, { on := 13, ground := Ground.phase }, { on := 14, ground := Ground.phase }, { on := 15, ground := Ground.phase }, { on := 16, ground := Ground.phase }, { on := 17, ground := Ground.phase }, { on := 18, ground := Ground.phase }, { on := 19, ground := Ground.phase }, { on := 20, ground := Ground.phase }, { on := 21, ground := Ground.phase }], guard := none }) rfl (fun K hK => ?_) EachLast.nil
        go_simp
        refine hK.out _ _ (fun _ => hS9) ?_
        try simp only [Act.put, List.setIfInBounds_toArray, List.set_cons_zero, List.set_cons_succ]
        refine wpLast_ready (rs := [23]) (by kernel_rfl) (by simp) ?_
        refine EachLast.cons (o := { dst := some 85, op := Op.fieldAddr 54 (Operand.tmp 84) 4, type := 0, pos := "read.go:154", after := #[{ on := 22, ground := Ground.data }, { on := 0, ground := Ground.phase }, { on := 1, ground := Ground.phase }, { on := 2, ground := Ground.phase }, { on := 3, ground := Ground.phase }, { on := 4, ground := Ground.phase }, { on := 5, ground := Ground.phase }, { on := 6, ground := Ground.phase }, { on := 7, ground := Ground.phase }, { on := 8, ground := Ground.phase }, { on := 9, ground := Ground.phase }, { on := 10, ground := Ground.phase }, { on := 11, ground := Ground.phase }, { on := 12, ground := Ground.phase }, { on := 13, ground := Ground.phase }, { on := 14, ground := Ground.phase }, { on := 15, ground := Ground.phase }, { on := 16, ground := Ground.phase }, { on := 17, ground := Ground.phase }, { on := 18, ground := Ground.phase }, { on := 19, ground := Ground.phase }, { on := 20, ground := Ground.phase }, { on := 21, ground := Ground.phase }], guard := none }) rfl (fun K hK => ?_) EachLast.nil
        go_simp
        refine hK.out _ _ (fun _ => hS9) ?_
        try simp only [Act.put, List.setIfInBounds_toArray, List.set_cons_zero, List.set_cons_succ]
        refine wpLast_ready (rs := [24]) (by kernel_rfl) (by simp) ?_
        refine EachLast.cons (o := { dst := some 86, op := Op.fieldAddr 52 (Operand.tmp 85) 1, type := 0, pos := "read.go:154", after := #[{ on := 23, ground := Ground.data }, { on := 0, ground := Ground.phase }, { on := 1, ground := Ground.phase }, { on := 2, ground := Ground.phase }, { on := 3, ground := Ground.phase }, { on := 4, ground := Ground.phase }, { on := 5, ground := Ground.phase }, { on := 6, ground := Ground.phase }, { on := 7, ground := Ground.phase }, { on := 8, ground := Ground.phase }, { on := 9, ground := Ground.phase }, { on := 10, ground := Ground.phase }, { on := 11, ground := Ground.phase }, { on := 12, ground := Ground.phase }, { on := 13, ground := Ground.phase }, { on := 14, ground := Ground.phase }, { on := 15, ground := Ground.phase }, { on := 16, ground := Ground.phase }, { on := 17, ground := Ground.phase }, { on := 18, ground := Ground.phase }, { on := 19, ground := Ground.phase }, { on := 20, ground := Ground.phase }, { on := 21, ground := Ground.phase }], guard := none }) rfl (fun K hK => ?_) EachLast.nil
        go_simp
        refine hK.out _ _ (fun _ => hS9) ?_
        try simp only [Act.put, List.setIfInBounds_toArray, List.set_cons_zero, List.set_cons_succ]
        refine wpLast_ready (rs := [25]) (by kernel_rfl) (by simp) ?_
        refine EachLast.cons (o := { dst := none, op := Op.store 50 (Operand.tmp 86) (Operand.tmp 83), type := 0, pos := "read.go:154", after := #[{ on := 24, ground := Ground.data }, { on := 21, ground := Ground.data }, { on := 21, ground := Ground.chain }, { on := 0, ground := Ground.phase }, { on := 1, ground := Ground.phase }, { on := 2, ground := Ground.phase }, { on := 3, ground := Ground.phase }, { on := 4, ground := Ground.phase }, { on := 5, ground := Ground.phase }, { on := 6, ground := Ground.phase }, { on := 7, ground := Ground.phase }, { on := 8, ground := Ground.phase }, { on := 9, ground := Ground.phase }, { on := 10, ground := Ground.phase }, { on := 11, ground := Ground.phase }, { on := 12, ground := Ground.phase }, { on := 13, ground := Ground.phase }, { on := 14, ground := Ground.phase }, { on := 15, ground := Ground.phase }, { on := 16, ground := Ground.phase }, { on := 17, ground := Ground.phase }, { on := 18, ground := Ground.phase }, { on := 19, ground := Ground.phase }, { on := 20, ground := Ground.phase }, { on := 21, ground := Ground.phase }], guard := none }) rfl (fun K hK => ?_) EachLast.nil
        go_simp
        refine hK.out _ _ (fun h => absurd rfl h) ?_
        try simp only [Act.put, List.setIfInBounds_toArray, List.set_cons_zero, List.set_cons_succ]
        refine wpLast_done (by kernel_rfl) ?_ _
        have f1 := hRd9.blk.frozen 1
        have b1 := Blk.c1 hRd9.blk
        have HR9 := Lib.hid hRd9
        clear hRd9 hB9 hS9 f5 hk ho
        generalize World.setCell _ _ _ = Z at *
        go_wp2_with fail
        go_ret
        exact ⟨rfl, ⟨.slice a9 (p.n + 1) c9, p.n + 1, p.xs ++ [leafV (((xs s).drop i).take (e - i)) true po d]⟩, by rw [HT.out]; exact HR9.out.pos e⟩
end Go.Proofs.Ytlbkacabcfeaiaa.Tl
