/- Patterns: the reference says choices. Printed by mksaid.py. -/
import Derived.Test.YtlbkacabcfeaiaaKp
namespace Go.Proofs.Ytlbkacabcfeaiaa.Tl
open Go.RowKit Mm
set_option linter.unusedVariables false
set_option maxRecDepth 100000 in
set_option maxHeartbeats 16000000 in
theorem said_alt {l : List T} (hall : ∀ t ∈ l, SaidC t) (hb : bdL l ≤ 80000) : SaidC (.alt l) := by
  intro w B nv N k r hN hden
  have hlen := hN.len
  have hkl := hden.lt
  obtain ⟨d, hd, hkd, hkids, hdj⟩ : ∃ d, N[k]? = some d ∧ d.kind = 5 ∧ d.kids.length = l.length ∧ ∀ (i j : Nat) (t : T), d.kids[i]? = some j → l[i]? = some t → Den N j t := by
    cases hden with
    | alt k d l h1 h2 h3 h4 => exact ⟨d, h1, h2, h3, h4⟩
  obtain ⟨g, c, hnv, p0, p1, p2, p3⟩ := nd_cells (o := .cells #[nv, .int .i64 (r : Int)] 28) hN hd
  have c0 := (Blk.new w 28 #[nv, .int .i64 (r : Int)]).cell 0
  have c1 := (Blk.new w 28 #[nv, .int .i64 (r : Int)]).cell 1
  have hS := Sd.start w nv r d
  have hN2 := (hN.below ((Below.refl _ w).alloc (Nat.le_refl _) (.cells #[nv, .int .i64 (r : Int)] 28))).below ((Below.refl _ _).alloc (Nat.le_refl _) (.cells #[.int .i64 (d.kind : Int), .string d.name, .bool d.no, d.kv] 92))
  obtain ⟨ak, ck0, hkv, _⟩ := Fz.form (hN.kid d (List.mem_of_getElem? hd))
  rw [hkids] at hkv
  have i0 : (0 : Int) ≤ (k : Int) := by omega
  have i1 : (k : Int) < (N.length : Int) := by omega
  have hwk : IntKind.i64.wrap (k : Int) = (k : Int) := IntWalk.i64_in _ (by omega)
  have hll := bdL_len l
  have HW := Lib.hid hall
  have HKC := Lib.hid (show ∀ (X : World) (m : Nat) (h : m < l.length), NS X B nv N → ∃ gk ck j, d.kv = .slice (some ⟨gk, 0, none⟩) l.length ck ∧ gk < X.heap.size ∧ X.cell? ⟨gk, m, none⟩ = some (.int .i64 ((j : Nat) : Int)) ∧ Den N j l[m] from fun X m h hX => by
    obtain ⟨gk, ck, h1, h2, h3⟩ := kid_cell hX hd (i := m) (by omega)
    rw [hkids] at h1
    exact ⟨gk, ck, _, h1, h2, h3, hdj m _ _ (List.getElem?_eq_getElem (by omega)) (List.getElem?_eq_getElem h)⟩)
  have HTX := Lib.hid (show txt (.alt (l.take l.length)) = txt (.alt l) from by rw [List.take_length])
  have HBD := Lib.hid (show ∀ m, (txt (.alt (l.take m))).length ≤ 80010 from fun m => by have h1 := txt_bd (.alt (l.take m)); have h2 := take_bd l m; simp only [bd] at h1; omega)
  have hkI : (d.kind : Int) = 5 := by omega
  clear hall hN hden hdj hkd
  have HSt := Lib.hid (show Sd w nv r d ((w.alloc (.cells #[nv, .int .i64 (r : Int)] 28)).alloc (.cells #[.int .i64 5, .string d.name, .bool d.no, .slice ak l.length ck0] 92)) from by rw [hkI, hkv] at hS; exact hS)
  have HNt := Lib.hid (show NS ((w.alloc (.cells #[nv, .int .i64 (r : Int)] 28)).alloc (.cells #[.int .i64 5, .string d.name, .bool d.no, .slice ak l.length ck0] 92)) B nv N from by rw [hkI, hkv] at hN2; exact hN2)
  rw [hkv] at p3
  have HKV := Lib.hid hkv
  clear hS hN2 hkv hkids
  go_enter Try.func21, Try.ntmps21
  have HNV := Lib.hid hnv
  rw [hnv]
  rw [hnv] at c0 c1 p0 p1 p2 p3 HSt HNt
  clear hnv
  go_wp2_with fail
  clear c0 c1 p0 p1 p2 p3
  rw [← HNV.out] at HSt HNt
  go_loopw [6, 8] (fun sv iv wr => ∃ m : Nat, m ≤ l.length ∧ iv = .int .i64 (m : Int) ∧ sv = .string (str (txt (.alt (l.take m)))) ∧ Sd w nv r d wr ∧ NS wr B nv N) (fun _ i _ => l.length - (intOf i).toNat)
  case atStart =>
    rw [← HNV.out]
    exact ⟨0, Nat.zero_le _, rfl, rfl, HSt.out, HNt.out⟩
  case round =>
    clear HSt HNt
    obtain ⟨m, hm, rfl, rfl, hsd, hns⟩ := hrel
    have HSD := Lib.hid hsd
    have HN := Lib.hid hns
    have hx3 := hsd.x3
    rw [HKV.out] at hx3
    have hp0 := hsd.p0
    have hp1 := hsd.p1
    clear hsd hns
    by_cases hlt : m < l.length
    · obtain ⟨gk, ck, j, hkv2, hgk, hkc, hdj⟩ := HKC.out wr m hlt HN.out
      rw [hkv2] at HKV
      obtain ⟨rfl, _, rfl⟩ : ak = some ⟨gk, 0, none⟩ ∧ True ∧ ck0 = ck := by have h := HKV.out; simp only [Value.slice.injEq] at h; exact ⟨h.1.symm, trivial, h.2.2.symm⟩
      have HSX := Lib.hid hx3
      have hls := HW.out l[m] (List.getElem_mem hlt)
      have hbt := bdL_mem (List.getElem_mem hlt)
      have HST := Lib.hid (alt_step hlt)
      have hJ := HBD.out m
      have htb := txt_bd l[m]
      have m0 : (0 : Int) ≤ (m : Int) := by omega
      have m1 : (m : Int) < (l.length : Int) := by omega
      have hwm : IntKind.i64.wrap (m : Int) = (m : Int) := IntWalk.i64_in _ (by omega)
      have hzs : (str (txt (.alt (l.take m)))).size ≤ 80010 := by rw [str_size]; exact hJ
      have hz : (str (txt l[m])).size ≤ 90000 := by rw [str_size]; omega
      by_cases hm0 : m = 0
      · rw [if_pos hm0] at HST
        have hmI : ¬ (0 : Int) < (m : Int) := by omega
        by_cases hte : txt l[m] = []
        · have HBR := Lib.hid (fun (X : World) (hX : NS X B nv N) => hls X B nv N j r hX hdj)
          have e0 : str (txt l[m]) = ⟨#[]⟩ := by rw [hte]; rfl
          rw [e0] at HBR
          have hou : orUnit (txt l[m]) = [40, 41] := by unfold orUnit; rw [if_pos hte]
          rw [hou] at HST
          have HZ := Lib.hid (show str (txt (.alt (l.take m))) ++ (⟨#[40, 41]⟩ : ByteArray) = str (txt (.alt (l.take (m + 1)))) from by
            have hJ0 : txt (.alt (l.take m)) = [] := by rw [hm0]; rfl
            rw [HST.out, hJ0]
            show str _ ++ str [40, 41] = _
            rw [str_app]; rfl)
          have hz2 : ¬ 9223372036854775807 < (str (txt (.alt (l.take m)))).size + 2 := by omega
          clear hm0 HST hls hdj hJ htb hou hte e0 hz
          generalize str (txt (.alt (l.take m))) = zs at *
          go_wp2_with fail
          have hS1 : HdS w.heap.size gk m j nv r (.slice (some ⟨gk, 0, none⟩) l.length ck0) wr.drew := ⟨HSD.out.p0, HSD.out.p1, HSX.out, hkc⟩
          have HN3 := Lib.hid (HN.out.below (Below.refl _ wr).drew)
          have HSD3 := Lib.hid (HSD.out.on (Below.refl _ wr).drew)
          have ht3 : w.heap.size + 1 < wr.drew.heap.size := HSD.out.two
          have hg3 : gk < wr.drew.heap.size := hgk
          go_upto_region 25 with fail
          refine wp_region_last 7 (fun w' => HdS w.heap.size gk m j nv r (.slice (some ⟨gk, 0, none⟩) l.length ck0) w') mixed ?_
          clear hkc hx3
          generalize wr.drew = w5 at *
          refine wpLast_take (i := 0) (oi := { dst := some 65, op := Op.load 28 (Operand.tmp 2), type := 28, pos := "pattern.go:289", after := #[], guard := none }) (v := ?_) rfl (by kernel_rfl) (by kernel_rfl) (by kernel_rfl) (by kernel_rfl) (fun _ _ _ h => h) (Or.inl ⟨by rfl, ?_⟩) (by assumption) ?_
          rotate_left
          · intro w hSw
            try dsimp only at hSw
            go_simp
            try with_reducible rfl
          try simp only [Act.put, List.setIfInBounds_toArray, List.set_cons_zero, List.set_cons_succ]
          refine wpLast_take (i := 1) (oi := { dst := some 66, op := Op.fieldAddr 92 (Operand.tmp 5) 3, type := 0, pos := "pattern.go:289", after := #[], guard := none }) (v := ?_) rfl (by kernel_rfl) (by kernel_rfl) (by kernel_rfl) (by kernel_rfl) (fun _ _ _ h => h) (Or.inl ⟨by rfl, ?_⟩) (by assumption) ?_
          rotate_left
          · intro w hSw
            try dsimp only at hSw
            go_simp
            try with_reducible rfl
          try simp only [Act.put, List.setIfInBounds_toArray, List.set_cons_zero, List.set_cons_succ]
          refine wpLast_take (i := 2) (oi := { dst := some 67, op := Op.load 72 (Operand.tmp 66), type := 72, pos := "pattern.go:289", after := #[{ on := 1, ground := Ground.data }], guard := none }) (v := ?_) rfl (by kernel_rfl) (by kernel_rfl) (by kernel_rfl) (by kernel_rfl) (fun _ _ _ h => h) (Or.inl ⟨by rfl, ?_⟩) (by assumption) ?_
          rotate_left
          · intro w hSw
            try dsimp only at hSw
            go_simp
            try with_reducible rfl
          try simp only [Act.put, List.setIfInBounds_toArray, List.set_cons_zero, List.set_cons_succ]
          refine wpLast_take (i := 3) (oi := { dst := some 68, op := Op.move (Operand.tmp 8), type := 3, pos := "pattern.go:289", after := #[], guard := none }) (v := ?_) rfl (by kernel_rfl) (by kernel_rfl) (by kernel_rfl) (by kernel_rfl) (fun _ _ _ h => h) (Or.inl ⟨by rfl, ?_⟩) (by assumption) ?_
          rotate_left
          · intro w hSw
            try dsimp only at hSw
            go_simp
            try with_reducible rfl
          try simp only [Act.put, List.setIfInBounds_toArray, List.set_cons_zero, List.set_cons_succ]
          refine wpLast_take (i := 4) (oi := { dst := some 69, op := Op.indexAddr 72 (Operand.tmp 67) (Operand.tmp 68), type := 0, pos := "pattern.go:289", after := #[{ on := 2, ground := Ground.data }, { on := 3, ground := Ground.data }], guard := none }) (v := ?_) rfl (by kernel_rfl) (by kernel_rfl) (by kernel_rfl) (by kernel_rfl) (fun _ _ _ h => h) (Or.inl ⟨by rfl, ?_⟩) (by assumption) ?_
          rotate_left
          · intro w hSw
            try dsimp only at hSw
            go_simp
            try with_reducible rfl
          try simp only [Act.put, List.setIfInBounds_toArray, List.set_cons_zero, List.set_cons_succ]
          refine wpLast_take (i := 5) (oi := { dst := some 70, op := Op.load 3 (Operand.tmp 69), type := 3, pos := "pattern.go:289", after := #[{ on := 4, ground := Ground.data }], guard := none }) (v := ?_) rfl (by kernel_rfl) (by kernel_rfl) (by kernel_rfl) (by kernel_rfl) (fun _ _ _ h => h) (Or.inl ⟨by rfl, ?_⟩) (by assumption) ?_
          rotate_left
          · intro w hSw
            try dsimp only at hSw
            go_simp
            try with_reducible rfl
          try simp only [Act.put, List.setIfInBounds_toArray, List.set_cons_zero, List.set_cons_succ]
          refine wpLast_ready (rs := [6]) (by kernel_rfl) (by simp) ?_
          refine EachLast.cons (o := { dst := some 71, op := Op.call { callee := Callee.value (Operand.func 21), args := #[Operand.tmp 65, Operand.tmp 70], argTypes := #[28, 3] }, type := 9, pos := "pattern.go:289", after := #[{ on := 0, ground := Ground.data }, { on := 5, ground := Ground.data }], guard := none }) rfl (fun K hK => ?_) EachLast.nil
          go_simp
          refine (HBR.out w5 HN3.out).mono ?_
          rintro e w6 ⟨rfl, hb6⟩
          have hS6 := hS1.on hb6 ht3 hg3
          have HSD6 := Lib.hid (HSD3.out.on hb6)
          have HN6 := Lib.hid (HN3.out.below hb6)
          clear hb6
          refine hK.out _ _ (fun _ => hS6) ?_
          try simp only [Act.put, List.setIfInBounds_toArray, List.set_cons_zero, List.set_cons_succ]
          refine wpLast_ready (rs := [7]) (by kernel_rfl) (by simp) ?_
          refine EachLast.cons (o := { dst := some 9, op := Op.assign (Operand.tmp 71), type := 9, pos := "pattern.go:289", after := #[{ on := 6, ground := Ground.data }, { on := 6, ground := Ground.chain }, { on := 0, ground := Ground.phase }, { on := 1, ground := Ground.phase }, { on := 2, ground := Ground.phase }, { on := 3, ground := Ground.phase }, { on := 4, ground := Ground.phase }, { on := 5, ground := Ground.phase }, { on := 6, ground := Ground.phase }], guard := none }) rfl (fun K hK => ?_) EachLast.nil
          go_simp
          refine hK.out _ _ (fun h => absurd rfl h) ?_
          try simp only [Act.put, List.setIfInBounds_toArray, List.set_cons_zero, List.set_cons_succ]
          refine wpLast_done (by kernel_rfl) ?_ _
          go_wp2_with fail
          go_roundw
          case rel => exact ⟨m + 1, by omega, by go_num, by rw [← HZ.out], HSD6.out, HN6.out⟩
          case measure => simp [intOf]; omega
        · have HBR := Lib.hid (fun (X : World) (hX : NS X B nv N) => hls X B nv N j r hX hdj)
          have hou : orUnit (txt l[m]) = txt l[m] := by unfold orUnit; rw [if_neg hte]
          have hEm : (str (txt l[m])).toList.isEmpty = false := by
            rw [ByteArray.toList_eq]
            show (txt l[m]).isEmpty = false
            cases h : txt l[m] with
            | nil => exact absurd h hte
            | cons a b => rfl
          rw [hou] at HST
          have HZ := Lib.hid (show str (txt (.alt (l.take m))) ++ str (txt l[m]) = str (txt (.alt (l.take (m + 1)))) from by
            have hJ0 : txt (.alt (l.take m)) = [] := by rw [hm0]; rfl
            rw [HST.out, hJ0]
            show str _ ++ str (txt l[m]) = _
            rw [str_app]; rfl)
          have hz2 : ¬ 9223372036854775807 < (str (txt (.alt (l.take m)))).size + (str (txt l[m])).size := by omega
          clear hm0 HST hls hdj hJ htb hou hte 
          generalize str (txt (.alt (l.take m))) = zs at *
          generalize str (txt l[m]) = z at *
          go_wp2_with fail
          have hS1 : HdS w.heap.size gk m j nv r (.slice (some ⟨gk, 0, none⟩) l.length ck0) wr.drew := ⟨HSD.out.p0, HSD.out.p1, HSX.out, hkc⟩
          have HN3 := Lib.hid (HN.out.below (Below.refl _ wr).drew)
          have HSD3 := Lib.hid (HSD.out.on (Below.refl _ wr).drew)
          have ht3 : w.heap.size + 1 < wr.drew.heap.size := HSD.out.two
          have hg3 : gk < wr.drew.heap.size := hgk
          go_upto_region 25 with fail
          refine wp_region_last 7 (fun w' => HdS w.heap.size gk m j nv r (.slice (some ⟨gk, 0, none⟩) l.length ck0) w') mixed ?_
          clear hkc hx3
          generalize wr.drew = w5 at *
          refine wpLast_take (i := 0) (oi := { dst := some 65, op := Op.load 28 (Operand.tmp 2), type := 28, pos := "pattern.go:289", after := #[], guard := none }) (v := ?_) rfl (by kernel_rfl) (by kernel_rfl) (by kernel_rfl) (by kernel_rfl) (fun _ _ _ h => h) (Or.inl ⟨by rfl, ?_⟩) (by assumption) ?_
          rotate_left
          · intro w hSw
            try dsimp only at hSw
            go_simp
            try with_reducible rfl
          try simp only [Act.put, List.setIfInBounds_toArray, List.set_cons_zero, List.set_cons_succ]
          refine wpLast_take (i := 1) (oi := { dst := some 66, op := Op.fieldAddr 92 (Operand.tmp 5) 3, type := 0, pos := "pattern.go:289", after := #[], guard := none }) (v := ?_) rfl (by kernel_rfl) (by kernel_rfl) (by kernel_rfl) (by kernel_rfl) (fun _ _ _ h => h) (Or.inl ⟨by rfl, ?_⟩) (by assumption) ?_
          rotate_left
          · intro w hSw
            try dsimp only at hSw
            go_simp
            try with_reducible rfl
          try simp only [Act.put, List.setIfInBounds_toArray, List.set_cons_zero, List.set_cons_succ]
          refine wpLast_take (i := 2) (oi := { dst := some 67, op := Op.load 72 (Operand.tmp 66), type := 72, pos := "pattern.go:289", after := #[{ on := 1, ground := Ground.data }], guard := none }) (v := ?_) rfl (by kernel_rfl) (by kernel_rfl) (by kernel_rfl) (by kernel_rfl) (fun _ _ _ h => h) (Or.inl ⟨by rfl, ?_⟩) (by assumption) ?_
          rotate_left
          · intro w hSw
            try dsimp only at hSw
            go_simp
            try with_reducible rfl
          try simp only [Act.put, List.setIfInBounds_toArray, List.set_cons_zero, List.set_cons_succ]
          refine wpLast_take (i := 3) (oi := { dst := some 68, op := Op.move (Operand.tmp 8), type := 3, pos := "pattern.go:289", after := #[], guard := none }) (v := ?_) rfl (by kernel_rfl) (by kernel_rfl) (by kernel_rfl) (by kernel_rfl) (fun _ _ _ h => h) (Or.inl ⟨by rfl, ?_⟩) (by assumption) ?_
          rotate_left
          · intro w hSw
            try dsimp only at hSw
            go_simp
            try with_reducible rfl
          try simp only [Act.put, List.setIfInBounds_toArray, List.set_cons_zero, List.set_cons_succ]
          refine wpLast_take (i := 4) (oi := { dst := some 69, op := Op.indexAddr 72 (Operand.tmp 67) (Operand.tmp 68), type := 0, pos := "pattern.go:289", after := #[{ on := 2, ground := Ground.data }, { on := 3, ground := Ground.data }], guard := none }) (v := ?_) rfl (by kernel_rfl) (by kernel_rfl) (by kernel_rfl) (by kernel_rfl) (fun _ _ _ h => h) (Or.inl ⟨by rfl, ?_⟩) (by assumption) ?_
          rotate_left
          · intro w hSw
            try dsimp only at hSw
            go_simp
            try with_reducible rfl
          try simp only [Act.put, List.setIfInBounds_toArray, List.set_cons_zero, List.set_cons_succ]
          refine wpLast_take (i := 5) (oi := { dst := some 70, op := Op.load 3 (Operand.tmp 69), type := 3, pos := "pattern.go:289", after := #[{ on := 4, ground := Ground.data }], guard := none }) (v := ?_) rfl (by kernel_rfl) (by kernel_rfl) (by kernel_rfl) (by kernel_rfl) (fun _ _ _ h => h) (Or.inl ⟨by rfl, ?_⟩) (by assumption) ?_
          rotate_left
          · intro w hSw
            try dsimp only at hSw
            go_simp
            try with_reducible rfl
          try simp only [Act.put, List.setIfInBounds_toArray, List.set_cons_zero, List.set_cons_succ]
          refine wpLast_ready (rs := [6]) (by kernel_rfl) (by simp) ?_
          refine EachLast.cons (o := { dst := some 71, op := Op.call { callee := Callee.value (Operand.func 21), args := #[Operand.tmp 65, Operand.tmp 70], argTypes := #[28, 3] }, type := 9, pos := "pattern.go:289", after := #[{ on := 0, ground := Ground.data }, { on := 5, ground := Ground.data }], guard := none }) rfl (fun K hK => ?_) EachLast.nil
          go_simp
          refine (HBR.out w5 HN3.out).mono ?_
          rintro e w6 ⟨rfl, hb6⟩
          have hS6 := hS1.on hb6 ht3 hg3
          have HSD6 := Lib.hid (HSD3.out.on hb6)
          have HN6 := Lib.hid (HN3.out.below hb6)
          clear hb6
          refine hK.out _ _ (fun _ => hS6) ?_
          try simp only [Act.put, List.setIfInBounds_toArray, List.set_cons_zero, List.set_cons_succ]
          refine wpLast_ready (rs := [7]) (by kernel_rfl) (by simp) ?_
          refine EachLast.cons (o := { dst := some 9, op := Op.assign (Operand.tmp 71), type := 9, pos := "pattern.go:289", after := #[{ on := 6, ground := Ground.data }, { on := 6, ground := Ground.chain }, { on := 0, ground := Ground.phase }, { on := 1, ground := Ground.phase }, { on := 2, ground := Ground.phase }, { on := 3, ground := Ground.phase }, { on := 4, ground := Ground.phase }, { on := 5, ground := Ground.phase }, { on := 6, ground := Ground.phase }], guard := none }) rfl (fun K hK => ?_) EachLast.nil
          go_simp
          refine hK.out _ _ (fun h => absurd rfl h) ?_
          try simp only [Act.put, List.setIfInBounds_toArray, List.set_cons_zero, List.set_cons_succ]
          refine wpLast_done (by kernel_rfl) ?_ _
          go_wp2_with fail
          go_roundw
          case rel => exact ⟨m + 1, by omega, by go_num, by rw [← HZ.out], HSD6.out, HN6.out⟩
          case measure => simp [intOf]; omega
      · rw [if_neg hm0] at HST
        have hmI : (0 : Int) < (m : Int) := by omega
        by_cases hte : txt l[m] = []
        · have HBR := Lib.hid (fun (X : World) (hX : NS X B nv N) => hls X B nv N j r hX hdj)
          have e0 : str (txt l[m]) = ⟨#[]⟩ := by rw [hte]; rfl
          rw [e0] at HBR
          have hou : orUnit (txt l[m]) = [40, 41] := by unfold orUnit; rw [if_pos hte]
          rw [hou] at HST
          have HZ := Lib.hid (show str (txt (.alt (l.take m))) ++ ⟨#[32, 124, 32]⟩ ++ (⟨#[40, 41]⟩ : ByteArray) = str (txt (.alt (l.take (m + 1)))) from by
            rw [HST.out]
            show str _ ++ str [32, 124, 32] ++ str [40, 41] = _
            rw [str_app, str_app])
          have hzz : (str (txt (.alt (l.take m))) ++ (⟨#[32, 124, 32]⟩ : ByteArray)).size ≤ 80020 := by rw [ByteArray.size_append]; have : (⟨#[32, 124, 32]⟩ : ByteArray).size = 3 := rfl; omega
          have hz3 : ¬ 9223372036854775807 < (str (txt (.alt (l.take m)))).size + 3 := by omega
          have hz2 : ¬ 9223372036854775807 < (str (txt (.alt (l.take m))) ++ (⟨#[32, 124, 32]⟩ : ByteArray)).size + 2 := by omega
          clear hm0 HST hls hdj hJ htb hou hte e0 hz
          generalize str (txt (.alt (l.take m))) = zs0 at *
          go_wp2_with fail
          go_upto_region 25 with fail
          generalize zs0 ++ (⟨#[32, 124, 32]⟩ : ByteArray) = zs at *
          have hS1 : HdS w.heap.size gk m j nv r (.slice (some ⟨gk, 0, none⟩) l.length ck0) wr.drew := ⟨HSD.out.p0, HSD.out.p1, HSX.out, hkc⟩
          have HN3 := Lib.hid (HN.out.below (Below.refl _ wr).drew)
          have HSD3 := Lib.hid (HSD.out.on (Below.refl _ wr).drew)
          have ht3 : w.heap.size + 1 < wr.drew.heap.size := HSD.out.two
          have hg3 : gk < wr.drew.heap.size := hgk
          go_upto_region 25 with fail
          refine wp_region_last 7 (fun w' => HdS w.heap.size gk m j nv r (.slice (some ⟨gk, 0, none⟩) l.length ck0) w') mixed ?_
          clear hkc hx3
          generalize wr.drew = w5 at *
          refine wpLast_take (i := 0) (oi := { dst := some 65, op := Op.load 28 (Operand.tmp 2), type := 28, pos := "pattern.go:289", after := #[], guard := none }) (v := ?_) rfl (by kernel_rfl) (by kernel_rfl) (by kernel_rfl) (by kernel_rfl) (fun _ _ _ h => h) (Or.inl ⟨by rfl, ?_⟩) (by assumption) ?_
          rotate_left
          · intro w hSw
            try dsimp only at hSw
            go_simp
            try with_reducible rfl
          try simp only [Act.put, List.setIfInBounds_toArray, List.set_cons_zero, List.set_cons_succ]
          refine wpLast_take (i := 1) (oi := { dst := some 66, op := Op.fieldAddr 92 (Operand.tmp 5) 3, type := 0, pos := "pattern.go:289", after := #[], guard := none }) (v := ?_) rfl (by kernel_rfl) (by kernel_rfl) (by kernel_rfl) (by kernel_rfl) (fun _ _ _ h => h) (Or.inl ⟨by rfl, ?_⟩) (by assumption) ?_
          rotate_left
          · intro w hSw
            try dsimp only at hSw
            go_simp
            try with_reducible rfl
          try simp only [Act.put, List.setIfInBounds_toArray, List.set_cons_zero, List.set_cons_succ]
          refine wpLast_take (i := 2) (oi := { dst := some 67, op := Op.load 72 (Operand.tmp 66), type := 72, pos := "pattern.go:289", after := #[{ on := 1, ground := Ground.data }], guard := none }) (v := ?_) rfl (by kernel_rfl) (by kernel_rfl) (by kernel_rfl) (by kernel_rfl) (fun _ _ _ h => h) (Or.inl ⟨by rfl, ?_⟩) (by assumption) ?_
          rotate_left
          · intro w hSw
            try dsimp only at hSw
            go_simp
            try with_reducible rfl
          try simp only [Act.put, List.setIfInBounds_toArray, List.set_cons_zero, List.set_cons_succ]
          refine wpLast_take (i := 3) (oi := { dst := some 68, op := Op.move (Operand.tmp 8), type := 3, pos := "pattern.go:289", after := #[], guard := none }) (v := ?_) rfl (by kernel_rfl) (by kernel_rfl) (by kernel_rfl) (by kernel_rfl) (fun _ _ _ h => h) (Or.inl ⟨by rfl, ?_⟩) (by assumption) ?_
          rotate_left
          · intro w hSw
            try dsimp only at hSw
            go_simp
            try with_reducible rfl
          try simp only [Act.put, List.setIfInBounds_toArray, List.set_cons_zero, List.set_cons_succ]
          refine wpLast_take (i := 4) (oi := { dst := some 69, op := Op.indexAddr 72 (Operand.tmp 67) (Operand.tmp 68), type := 0, pos := "pattern.go:289", after := #[{ on := 2, ground := Ground.data }, { on := 3, ground := Ground.data }], guard := none }) (v := ?_) rfl (by kernel_rfl) (by kernel_rfl) (by kernel_rfl) (by kernel_rfl) (fun _ _ _ h => h) (Or.inl ⟨by rfl, ?_⟩) (by assumption) ?_
          rotate_left
          · intro w hSw
            try dsimp only at hSw
            go_simp
            try with_reducible rfl
          try simp only [Act.put, List.setIfInBounds_toArray, List.set_cons_zero, List.set_cons_succ]
          refine wpLast_take (i := 5) (oi := { dst := some 70, op := Op.load 3 (Operand.tmp 69), type := 3, pos := "pattern.go:289", after := #[{ on := 4, ground := Ground.data }], guard := none }) (v := ?_) rfl (by kernel_rfl) (by kernel_rfl) (by kernel_rfl) (by kernel_rfl) (fun _ _ _ h => h) (Or.inl ⟨by rfl, ?_⟩) (by assumption) ?_
          rotate_left
          · intro w hSw
            try dsimp only at hSw
            go_simp
            try with_reducible rfl
          try simp only [Act.put, List.setIfInBounds_toArray, List.set_cons_zero, List.set_cons_succ]
          refine wpLast_ready (rs := [6]) (by kernel_rfl) (by simp) ?_
          refine EachLast.cons (o := { dst := some 71, op := Op.call { callee := Callee.value (Operand.func 21), args := #[Operand.tmp 65, Operand.tmp 70], argTypes := #[28, 3] }, type := 9, pos := "pattern.go:289", after := #[{ on := 0, ground := Ground.data }, { on := 5, ground := Ground.data }], guard := none }) rfl (fun K hK => ?_) EachLast.nil
          go_simp
          refine (HBR.out w5 HN3.out).mono ?_
          rintro e w6 ⟨rfl, hb6⟩
          have hS6 := hS1.on hb6 ht3 hg3
          have HSD6 := Lib.hid (HSD3.out.on hb6)
          have HN6 := Lib.hid (HN3.out.below hb6)
          clear hb6
          refine hK.out _ _ (fun _ => hS6) ?_
          try simp only [Act.put, List.setIfInBounds_toArray, List.set_cons_zero, List.set_cons_succ]
          refine wpLast_ready (rs := [7]) (by kernel_rfl) (by simp) ?_
          refine EachLast.cons (o := { dst := some 9, op := Op.assign (Operand.tmp 71), type := 9, pos := "pattern.go:289", after := #[{ on := 6, ground := Ground.data }, { on := 6, ground := Ground.chain }, { on := 0, ground := Ground.phase }, { on := 1, ground := Ground.phase }, { on := 2, ground := Ground.phase }, { on := 3, ground := Ground.phase }, { on := 4, ground := Ground.phase }, { on := 5, ground := Ground.phase }, { on := 6, ground := Ground.phase }], guard := none }) rfl (fun K hK => ?_) EachLast.nil
          go_simp
          refine hK.out _ _ (fun h => absurd rfl h) ?_
          try simp only [Act.put, List.setIfInBounds_toArray, List.set_cons_zero, List.set_cons_succ]
          refine wpLast_done (by kernel_rfl) ?_ _
          go_wp2_with fail
          go_roundw
          case rel => exact ⟨m + 1, by omega, by go_num, by rw [← HZ.out], HSD6.out, HN6.out⟩
          case measure => simp [intOf]; omega
        · have HBR := Lib.hid (fun (X : World) (hX : NS X B nv N) => hls X B nv N j r hX hdj)
          have hou : orUnit (txt l[m]) = txt l[m] := by unfold orUnit; rw [if_neg hte]
          have hEm : (str (txt l[m])).toList.isEmpty = false := by
            rw [ByteArray.toList_eq]
            show (txt l[m]).isEmpty = false
            cases h : txt l[m] with
            | nil => exact absurd h hte
            | cons a b => rfl
          rw [hou] at HST
          have HZ := Lib.hid (show str (txt (.alt (l.take m))) ++ ⟨#[32, 124, 32]⟩ ++ str (txt l[m]) = str (txt (.alt (l.take (m + 1)))) from by
            rw [HST.out]
            show str _ ++ str [32, 124, 32] ++ str (txt l[m]) = _
            rw [str_app, str_app])
          have hzz : (str (txt (.alt (l.take m))) ++ (⟨#[32, 124, 32]⟩ : ByteArray)).size ≤ 80020 := by rw [ByteArray.size_append]; have : (⟨#[32, 124, 32]⟩ : ByteArray).size = 3 := rfl; omega
          have hz3 : ¬ 9223372036854775807 < (str (txt (.alt (l.take m)))).size + 3 := by omega
          have hz2 : ¬ 9223372036854775807 < (str (txt (.alt (l.take m))) ++ (⟨#[32, 124, 32]⟩ : ByteArray)).size + (str (txt l[m])).size := by omega
          clear hm0 HST hls hdj hJ htb hou hte 
          generalize str (txt (.alt (l.take m))) = zs0 at *
          generalize str (txt l[m]) = z at *
          go_wp2_with fail
          go_upto_region 25 with fail
          generalize zs0 ++ (⟨#[32, 124, 32]⟩ : ByteArray) = zs at *
          have hS1 : HdS w.heap.size gk m j nv r (.slice (some ⟨gk, 0, none⟩) l.length ck0) wr.drew := ⟨HSD.out.p0, HSD.out.p1, HSX.out, hkc⟩
          have HN3 := Lib.hid (HN.out.below (Below.refl _ wr).drew)
          have HSD3 := Lib.hid (HSD.out.on (Below.refl _ wr).drew)
          have ht3 : w.heap.size + 1 < wr.drew.heap.size := HSD.out.two
          have hg3 : gk < wr.drew.heap.size := hgk
          go_upto_region 25 with fail
          refine wp_region_last 7 (fun w' => HdS w.heap.size gk m j nv r (.slice (some ⟨gk, 0, none⟩) l.length ck0) w') mixed ?_
          clear hkc hx3
          generalize wr.drew = w5 at *
          refine wpLast_take (i := 0) (oi := { dst := some 65, op := Op.load 28 (Operand.tmp 2), type := 28, pos := "pattern.go:289", after := #[], guard := none }) (v := ?_) rfl (by kernel_rfl) (by kernel_rfl) (by kernel_rfl) (by kernel_rfl) (fun _ _ _ h => h) (Or.inl ⟨by rfl, ?_⟩) (by assumption) ?_
          rotate_left
          · intro w hSw
            try dsimp only at hSw
            go_simp
            try with_reducible rfl
          try simp only [Act.put, List.setIfInBounds_toArray, List.set_cons_zero, List.set_cons_succ]
          refine wpLast_take (i := 1) (oi := { dst := some 66, op := Op.fieldAddr 92 (Operand.tmp 5) 3, type := 0, pos := "pattern.go:289", after := #[], guard := none }) (v := ?_) rfl (by kernel_rfl) (by kernel_rfl) (by kernel_rfl) (by kernel_rfl) (fun _ _ _ h => h) (Or.inl ⟨by rfl, ?_⟩) (by assumption) ?_
          rotate_left
          · intro w hSw
            try dsimp only at hSw
            go_simp
            try with_reducible rfl
          try simp only [Act.put, List.setIfInBounds_toArray, List.set_cons_zero, List.set_cons_succ]
          refine wpLast_take (i := 2) (oi := { dst := some 67, op := Op.load 72 (Operand.tmp 66), type := 72, pos := "pattern.go:289", after := #[{ on := 1, ground := Ground.data }], guard := none }) (v := ?_) rfl (by kernel_rfl) (by kernel_rfl) (by kernel_rfl) (by kernel_rfl) (fun _ _ _ h => h) (Or.inl ⟨by rfl, ?_⟩) (by assumption) ?_
          rotate_left
          · intro w hSw
            try dsimp only at hSw
            go_simp
            try with_reducible rfl
          try simp only [Act.put, List.setIfInBounds_toArray, List.set_cons_zero, List.set_cons_succ]
          refine wpLast_take (i := 3) (oi := { dst := some 68, op := Op.move (Operand.tmp 8), type := 3, pos := "pattern.go:289", after := #[], guard := none }) (v := ?_) rfl (by kernel_rfl) (by kernel_rfl) (by kernel_rfl) (by kernel_rfl) (fun _ _ _ h => h) (Or.inl ⟨by rfl, ?_⟩) (by assumption) ?_
          rotate_left
          · intro w hSw
            try dsimp only at hSw
            go_simp
            try with_reducible rfl
          try simp only [Act.put, List.setIfInBounds_toArray, List.set_cons_zero, List.set_cons_succ]
          refine wpLast_take (i := 4) (oi := { dst := some 69, op := Op.indexAddr 72 (Operand.tmp 67) (Operand.tmp 68), type := 0, pos := "pattern.go:289", after := #[{ on := 2, ground := Ground.data }, { on := 3, ground := Ground.data }], guard := none }) (v := ?_) rfl (by kernel_rfl) (by kernel_rfl) (by kernel_rfl) (by kernel_rfl) (fun _ _ _ h => h) (Or.inl ⟨by rfl, ?_⟩) (by assumption) ?_
          rotate_left
          · intro w hSw
            try dsimp only at hSw
            go_simp
            try with_reducible rfl
          try simp only [Act.put, List.setIfInBounds_toArray, List.set_cons_zero, List.set_cons_succ]
          refine wpLast_take (i := 5) (oi := { dst := some 70, op := Op.load 3 (Operand.tmp 69), type := 3, pos := "pattern.go:289", after := #[{ on := 4, ground := Ground.data }], guard := none }) (v := ?_) rfl (by kernel_rfl) (by kernel_rfl) (by kernel_rfl) (by kernel_rfl) (fun _ _ _ h => h) (Or.inl ⟨by rfl, ?_⟩) (by assumption) ?_
          rotate_left
          · intro w hSw
            try dsimp only at hSw
            go_simp
            try with_reducible rfl
          try simp only [Act.put, List.setIfInBounds_toArray, List.set_cons_zero, List.set_cons_succ]
          refine wpLast_ready (rs := [6]) (by kernel_rfl) (by simp) ?_
          refine EachLast.cons (o := { dst := some 71, op := Op.call { callee := Callee.value (Operand.func 21), args := #[Operand.tmp 65, Operand.tmp 70], argTypes := #[28, 3] }, type := 9, pos := "pattern.go:289", after := #[{ on := 0, ground := Ground.data }, { on := 5, ground := Ground.data }], guard := none }) rfl (fun K hK => ?_) EachLast.nil
          go_simp
          refine (HBR.out w5 HN3.out).mono ?_
          rintro e w6 ⟨rfl, hb6⟩
          have hS6 := hS1.on hb6 ht3 hg3
          have HSD6 := Lib.hid (HSD3.out.on hb6)
          have HN6 := Lib.hid (HN3.out.below hb6)
          clear hb6
          refine hK.out _ _ (fun _ => hS6) ?_
          try simp only [Act.put, List.setIfInBounds_toArray, List.set_cons_zero, List.set_cons_succ]
          refine wpLast_ready (rs := [7]) (by kernel_rfl) (by simp) ?_
          refine EachLast.cons (o := { dst := some 9, op := Op.assign (Operand.tmp 71), type := 9, pos := "pattern.go:289", after := #[{ on := 6, ground := Ground.data }, { on := 6, ground := Ground.chain }, { on := 0, ground := Ground.phase }, { on := 1, ground := Ground.phase }, { on := 2, ground := Ground.phase }, { on := 3, ground := Ground.phase }, { on := 4, ground := Ground.phase }, { on := 5, ground := Ground.phase }, { on := 6, ground := Ground.phase }], guard := none }) rfl (fun K hK => ?_) EachLast.nil
          go_simp
          refine hK.out _ _ (fun h => absurd rfl h) ?_
          try simp only [Act.put, List.setIfInBounds_toArray, List.set_cons_zero, List.set_cons_succ]
          refine wpLast_done (by kernel_rfl) ?_ _
          go_wp2_with fail
          go_roundw
          case rel => exact ⟨m + 1, by omega, by go_num, by rw [← HZ.out], HSD6.out, HN6.out⟩
          case measure => simp [intOf]; omega
    · obtain rfl : m = l.length := by omega
      rw [HTX.out]
      generalize hzf : str (txt (.alt l)) = zf at *
      have HZF := Lib.hid hzf
      clear hzf
      have HB := Lib.hid HSD.out.bel
      go_wp2_with fail
      go_ret
      exact ⟨by rw [HZF.out]; rfl, HB.out⟩
end Go.Proofs.Ytlbkacabcfeaiaa.Tl
