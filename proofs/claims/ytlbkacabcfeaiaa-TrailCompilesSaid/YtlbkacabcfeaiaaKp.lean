/- Patterns: the reference says sequences and choices. Printed by mksaid.py. -/
import Derived.Test.YtlbkacabcfeaiaaKo
namespace Go.Proofs.Ytlbkacabcfeaiaa.Tl
open Go.RowKit Mm
set_option linter.unusedVariables false
theorem join_snoc (sep : List UInt8) (xs : List (List UInt8)) (y : List UInt8) : Lib.join (xs ++ [y]) sep = if xs = [] then y else Lib.join xs sep ++ sep ++ y := by
  cases xs with
  | nil => rw [if_pos rfl, List.nil_append, Lib.join_one]
  | cons a r =>
    rw [if_neg (by simp), List.cons_append, Lib.join_cons, Lib.join_cons]
    unfold Lib.joinTail
    rw [List.map_append, List.flatten_append]
    simp
theorem take_nil {l : List T} {k : Nat} (h : k < l.length) (f : T → List UInt8) : (l.take k).map f = [] ↔ k = 0 := by
  rw [List.map_eq_nil_iff, List.take_eq_nil_iff]
  constructor
  · rintro (h1 | h1)
    · exact h1
    · rw [h1] at h; simp at h
  · exact .inl
theorem seq_step {l : List T} {k : Nat} (h : k < l.length) : txt (.seq (l.take (k + 1))) = if k = 0 then brk (isAlt l[k]) (txt l[k]) else txt (.seq (l.take k)) ++ [32] ++ brk (isAlt l[k]) (txt l[k]) := by
  rw [txt, txt, txtS_map, txtS_map, List.take_succ_eq_append_getElem h, List.map_append, List.map_singleton, join_snoc]
  by_cases hk : k = 0
  · rw [if_pos hk, if_pos ((take_nil h _).2 hk)]
  · rw [if_neg hk, if_neg (fun e => hk ((take_nil h _).1 e))]
theorem alt_step {l : List T} {k : Nat} (h : k < l.length) : txt (.alt (l.take (k + 1))) = if k = 0 then orUnit (txt l[k]) else txt (.alt (l.take k)) ++ [32, 124, 32] ++ orUnit (txt l[k]) := by
  rw [txt, txt, txtA_map, txtA_map, List.take_succ_eq_append_getElem h, List.map_append, List.map_singleton, join_snoc]
  by_cases hk : k = 0
  · rw [if_pos hk, if_pos ((take_nil h _).2 hk)]
  · rw [if_neg hk, if_neg (fun e => hk ((take_nil h _).1 e))]
theorem take_bd (l : List T) (k : Nat) : bdL (l.take k) ≤ bdL l := by
  conv => rhs; rw [← List.take_append_drop k l, bdL_app]
  omega
set_option maxRecDepth 100000 in
set_option maxHeartbeats 16000000 in
theorem said_seq {l : List T} (hall : ∀ t ∈ l, SaidC t) (hb : bdL l ≤ 80000) : SaidC (.seq l) := by
  intro w B nv N k r hN hden
  have hlen := hN.len
  have hkl := hden.lt
  obtain ⟨d, hd, hkd, hkids, hdj⟩ : ∃ d, N[k]? = some d ∧ d.kind = 4 ∧ d.kids.length = l.length ∧ ∀ (i j : Nat) (t : T), d.kids[i]? = some j → l[i]? = some t → Den N j t := by
    cases hden with
    | seq k d l h1 h2 h3 h4 => exact ⟨d, h1, h2, h3, h4⟩
  obtain ⟨g, c, hnv, p0, p1, p2, p3⟩ := nd_cells (o := .cells #[nv, .int .i64 (r : Int)] 28) hN hd
  have c0 := (Blk.new w 28 #[nv, .int .i64 (r : Int)]).cell 0
  have c1 := (Blk.new w 28 #[nv, .int .i64 (r : Int)]).cell 1
  have hS := Sd.start w nv r d
  have hN2 := (hN.below ((Below.refl _ w).alloc (Nat.le_refl _) (.cells #[nv, .int .i64 (r : Int)] 28))).below ((Below.refl _ _).alloc (Nat.le_refl _) (.cells #[.int .i64 (d.kind : Int), .string d.name, .bool d.no, d.kv] 92))
  obtain ⟨ak, ck0, hkv, _⟩ := Fz.form (hN.kid d (List.mem_of_getElem? hd))
  rw [hkids] at hkv
  have i0 : (0 : Int) ≤ (k : Int) := by omega
  have i1 : (k : Int) < (N.length : Int) := by omega
  have hwk : IntKind.i64.wrap (k : Int) = (k : Int) := IntWalk.i64_in _ (by omega)
  have hll := bdL_len l
  have HW := Lib.hid hall
  have HKC := Lib.hid (show ∀ (X : World) (m : Nat) (h : m < l.length), NS X B nv N → ∃ gk ck j, d.kv = .slice (some ⟨gk, 0, none⟩) l.length ck ∧ gk < X.heap.size ∧ X.cell? ⟨gk, m, none⟩ = some (.int .i64 ((j : Nat) : Int)) ∧ Den N j l[m] from fun X m h hX => by
    obtain ⟨gk, ck, h1, h2, h3⟩ := kid_cell hX hd (i := m) (by omega)
    rw [hkids] at h1
    exact ⟨gk, ck, _, h1, h2, h3, hdj m _ _ (List.getElem?_eq_getElem (by omega)) (List.getElem?_eq_getElem h)⟩)
  have HTX := Lib.hid (show txt (.seq (l.take l.length)) = txt (.seq l) from by rw [List.take_length])
  have HBD := Lib.hid (show ∀ m, (txt (.seq (l.take m))).length ≤ 80010 from fun m => by have h1 := txt_bd (.seq (l.take m)); have h2 := take_bd l m; simp only [bd] at h1; omega)
  have hkI : (d.kind : Int) = 4 := by omega
  clear hall hN hden hdj hkd
  have HSt := Lib.hid (show Sd w nv r d ((w.alloc (.cells #[nv, .int .i64 (r : Int)] 28)).alloc (.cells #[.int .i64 4, .string d.name, .bool d.no, .slice ak l.length ck0] 92)) from by rw [hkI, hkv] at hS; exact hS)
  have HNt := Lib.hid (show NS ((w.alloc (.cells #[nv, .int .i64 (r : Int)] 28)).alloc (.cells #[.int .i64 4, .string d.name, .bool d.no, .slice ak l.length ck0] 92)) B nv N from by rw [hkI, hkv] at hN2; exact hN2)
  rw [hkv] at p3
  have HKV := Lib.hid hkv
  clear hS hN2 hkv hkids
  go_enter Try.func21, Try.ntmps21
  have HNV := Lib.hid hnv
  rw [hnv]
  rw [hnv] at c0 c1 p0 p1 p2 p3 HSt HNt
  clear hnv
  go_wp2_with fail
  clear c0 c1 p0 p1 p2 p3
  rw [← HNV.out] at HSt HNt
  go_loopw [6, 7] (fun sv iv wr => ∃ m : Nat, m ≤ l.length ∧ iv = .int .i64 (m : Int) ∧ sv = .string (str (txt (.seq (l.take m)))) ∧ Sd w nv r d wr ∧ NS wr B nv N) (fun _ i _ => l.length - (intOf i).toNat)
  case atStart =>
    rw [← HNV.out]
    exact ⟨0, Nat.zero_le _, rfl, rfl, HSt.out, HNt.out⟩
  case round =>
    clear HSt HNt
    obtain ⟨m, hm, rfl, rfl, hsd, hns⟩ := hrel
    have HSD := Lib.hid hsd
    have HN := Lib.hid hns
    have hx3 := hsd.x3
    rw [HKV.out] at hx3
    have hp0 := hsd.p0
    have hp1 := hsd.p1
    clear hsd hns
    by_cases hlt : m < l.length
    · obtain ⟨gk, ck, j, hkv2, hgk, hkc, hdj⟩ := HKC.out wr m hlt HN.out
      rw [hkv2] at HKV
      obtain ⟨rfl, _, rfl⟩ : ak = some ⟨gk, 0, none⟩ ∧ True ∧ ck0 = ck := by have h := HKV.out; simp only [Value.slice.injEq] at h; exact ⟨h.1.symm, trivial, h.2.2.symm⟩
      have HSX := Lib.hid hx3
      have hls := HW.out l[m] (List.getElem_mem hlt)
      have hbt := bdL_mem (List.getElem_mem hlt)
      have HST := Lib.hid (seq_step hlt)
      have hJ := HBD.out m
      have htb := txt_bd l[m]
      have m0 : (0 : Int) ≤ (m : Int) := by omega
      have m1 : (m : Int) < (l.length : Int) := by omega
      have hwm : IntKind.i64.wrap (m : Int) = (m : Int) := IntWalk.i64_in _ (by omega)
      have HBR := Lib.hid (fun (X : World) (hX : NS X B nv N) => rbracketed_any hls (by omega) true X B nv N j r hX hdj)
      have hbr : (isAlt l[m] || (!true && isSq l[m])) = isAlt l[m] := by simp
      rw [hbr] at HBR
      have hzs : (str (txt (.seq (l.take m)))).size ≤ 80010 := by rw [str_size]; exact hJ
      have hz : (str (brk (isAlt l[m]) (txt l[m]))).size ≤ 90000 := by have := brk_len (isAlt l[m]) (txt l[m]); rw [str_size]; omega
      clear hls hdj hbr hJ htb
      generalize hX : brk (isAlt l[m]) (txt l[m]) = x at *
      clear hX
      by_cases hm0 : m = 0
      · rw [if_pos hm0] at HST
        have hmI : ¬ (0 : Int) < (m : Int) := by omega
        have HZ := Lib.hid (show str (txt (.seq (l.take m))) ++ str x = str (txt (.seq (l.take (m + 1)))) from by rw [HST.out, hm0, str_app]; rfl)
        have hz2 : ¬ 9223372036854775807 < (str (txt (.seq (l.take m)))).size + (str x).size := by omega
        clear hm0 HST
        generalize str (txt (.seq (l.take m))) = zs at *
        generalize str x = z at *
        go_wp2_with fail
        have hS1 : HdS w.heap.size gk m j nv r (.slice (some ⟨gk, 0, none⟩) l.length ck0) wr.drew := ⟨HSD.out.p0, HSD.out.p1, HSX.out, hkc⟩
        have HN3 := Lib.hid (HN.out.below (Below.refl _ wr).drew)
        have HSD3 := Lib.hid (HSD.out.on (Below.refl _ wr).drew)
        have ht3 : w.heap.size + 1 < wr.drew.heap.size := HSD.out.two
        have hg3 : gk < wr.drew.heap.size := hgk
        go_upto_region 17 with fail
        refine wp_region_last 9 (fun w' => HdS w.heap.size gk m j nv r (.slice (some ⟨gk, 0, none⟩) l.length ck0) w') mixed ?_
        clear hkc hx3
        generalize wr.drew = w5 at *
        refine wpLast_take (i := 0) (oi := { dst := some 42, op := Op.move (Operand.tmp 6), type := 9, pos := "pattern.go:281", after := #[], guard := none }) (v := ?_) rfl (by kernel_rfl) (by kernel_rfl) (by kernel_rfl) (by kernel_rfl) (fun _ _ _ h => h) (Or.inl ⟨by rfl, ?_⟩) (by assumption) ?_
        rotate_left
        · intro w hSw
          try dsimp only at hSw
          go_simp
          try with_reducible rfl
        try simp only [Act.put, List.setIfInBounds_toArray, List.set_cons_zero, List.set_cons_succ]
        refine wpLast_take (i := 1) (oi := { dst := some 43, op := Op.load 28 (Operand.tmp 2), type := 28, pos := "pattern.go:281", after := #[], guard := none }) (v := ?_) rfl (by kernel_rfl) (by kernel_rfl) (by kernel_rfl) (by kernel_rfl) (fun _ _ _ h => h) (Or.inl ⟨by rfl, ?_⟩) (by assumption) ?_
        rotate_left
        · intro w hSw
          try dsimp only at hSw
          go_simp
          try with_reducible rfl
        try simp only [Act.put, List.setIfInBounds_toArray, List.set_cons_zero, List.set_cons_succ]
        refine wpLast_take (i := 2) (oi := { dst := some 44, op := Op.fieldAddr 92 (Operand.tmp 5) 3, type := 0, pos := "pattern.go:281", after := #[], guard := none }) (v := ?_) rfl (by kernel_rfl) (by kernel_rfl) (by kernel_rfl) (by kernel_rfl) (fun _ _ _ h => h) (Or.inl ⟨by rfl, ?_⟩) (by assumption) ?_
        rotate_left
        · intro w hSw
          try dsimp only at hSw
          go_simp
          try with_reducible rfl
        try simp only [Act.put, List.setIfInBounds_toArray, List.set_cons_zero, List.set_cons_succ]
        refine wpLast_take (i := 3) (oi := { dst := some 45, op := Op.load 72 (Operand.tmp 44), type := 72, pos := "pattern.go:281", after := #[{ on := 2, ground := Ground.data }], guard := none }) (v := ?_) rfl (by kernel_rfl) (by kernel_rfl) (by kernel_rfl) (by kernel_rfl) (fun _ _ _ h => h) (Or.inl ⟨by rfl, ?_⟩) (by assumption) ?_
        rotate_left
        · intro w hSw
          try dsimp only at hSw
          go_simp
          try with_reducible rfl
        try simp only [Act.put, List.setIfInBounds_toArray, List.set_cons_zero, List.set_cons_succ]
        refine wpLast_take (i := 4) (oi := { dst := some 46, op := Op.move (Operand.tmp 7), type := 3, pos := "pattern.go:281", after := #[], guard := none }) (v := ?_) rfl (by kernel_rfl) (by kernel_rfl) (by kernel_rfl) (by kernel_rfl) (fun _ _ _ h => h) (Or.inl ⟨by rfl, ?_⟩) (by assumption) ?_
        rotate_left
        · intro w hSw
          try dsimp only at hSw
          go_simp
          try with_reducible rfl
        try simp only [Act.put, List.setIfInBounds_toArray, List.set_cons_zero, List.set_cons_succ]
        refine wpLast_take (i := 5) (oi := { dst := some 47, op := Op.indexAddr 72 (Operand.tmp 45) (Operand.tmp 46), type := 0, pos := "pattern.go:281", after := #[{ on := 3, ground := Ground.data }, { on := 4, ground := Ground.data }], guard := none }) (v := ?_) rfl (by kernel_rfl) (by kernel_rfl) (by kernel_rfl) (by kernel_rfl) (fun _ _ _ h => h) (Or.inl ⟨by rfl, ?_⟩) (by assumption) ?_
        rotate_left
        · intro w hSw
          try dsimp only at hSw
          go_simp
          try with_reducible rfl
        try simp only [Act.put, List.setIfInBounds_toArray, List.set_cons_zero, List.set_cons_succ]
        refine wpLast_take (i := 6) (oi := { dst := some 48, op := Op.load 3 (Operand.tmp 47), type := 3, pos := "pattern.go:281", after := #[{ on := 5, ground := Ground.data }], guard := none }) (v := ?_) rfl (by kernel_rfl) (by kernel_rfl) (by kernel_rfl) (by kernel_rfl) (fun _ _ _ h => h) (Or.inl ⟨by rfl, ?_⟩) (by assumption) ?_
        rotate_left
        · intro w hSw
          try dsimp only at hSw
          go_simp
          try with_reducible rfl
        try simp only [Act.put, List.setIfInBounds_toArray, List.set_cons_zero, List.set_cons_succ]
        refine wpLast_ready (rs := [7]) (by kernel_rfl) (by simp) ?_
        refine EachLast.cons (o := { dst := some 49, op := Op.call { callee := Callee.value (Operand.func 34), args := #[Operand.tmp 43, Operand.tmp 48, Operand.const (Value.bool true)], argTypes := #[28, 3, 4] }, type := 9, pos := "pattern.go:281", after := #[{ on := 1, ground := Ground.data }, { on := 6, ground := Ground.data }], guard := none }) rfl (fun K hK => ?_) EachLast.nil
        go_simp
        refine (HBR.out w5 HN3.out).mono ?_
        rintro e w6 ⟨rfl, hb6⟩
        have hS6 := hS1.on hb6 ht3 hg3
        have HSD6 := Lib.hid (HSD3.out.on hb6)
        have HN6 := Lib.hid (HN3.out.below hb6)
        clear hb6
        refine hK.out _ _ (fun _ => hS6) ?_
        try simp only [Act.put, List.setIfInBounds_toArray, List.set_cons_zero, List.set_cons_succ]
        refine wpLast_ready (rs := [8]) (by kernel_rfl) (by simp) ?_
        refine EachLast.cons (o := { dst := some 50, op := Op.binOp BinOp.add 9 (Operand.tmp 42) (Operand.tmp 49) 9, type := 9, pos := "pattern.go:281", after := #[{ on := 0, ground := Ground.data }, { on := 7, ground := Ground.data }], guard := none }) rfl (fun K hK => ?_) EachLast.nil
        go_simp
        refine hK.out _ _ (fun _ => hS6) ?_
        try simp only [Act.put, List.setIfInBounds_toArray, List.set_cons_zero, List.set_cons_succ]
        refine wpLast_ready (rs := [9]) (by kernel_rfl) (by simp) ?_
        refine EachLast.cons (o := { dst := some 6, op := Op.assign (Operand.tmp 50), type := 9, pos := "pattern.go:281", after := #[{ on := 8, ground := Ground.data }, { on := 7, ground := Ground.chain }, { on := 0, ground := Ground.phase }, { on := 1, ground := Ground.phase }, { on := 2, ground := Ground.phase }, { on := 3, ground := Ground.phase }, { on := 4, ground := Ground.phase }, { on := 5, ground := Ground.phase }, { on := 6, ground := Ground.phase }, { on := 7, ground := Ground.phase }, { on := 8, ground := Ground.phase }], guard := none }) rfl (fun K hK => ?_) EachLast.nil
        go_simp
        refine hK.out _ _ (fun h => absurd rfl h) ?_
        try simp only [Act.put, List.setIfInBounds_toArray, List.set_cons_zero, List.set_cons_succ]
        refine wpLast_done (by kernel_rfl) ?_ _
        go_wp2_with fail
        go_roundw
        case rel => exact ⟨m + 1, by omega, by go_num, by rw [← HZ.out], HSD6.out, HN6.out⟩
        case measure => simp [intOf]; omega
      · rw [if_neg hm0] at HST
        have hmI : (0 : Int) < (m : Int) := by omega
        have HZ := Lib.hid (show str (txt (.seq (l.take m))) ++ ⟨#[32]⟩ ++ str x = str (txt (.seq (l.take (m + 1)))) from by
          rw [HST.out]
          show str _ ++ str [32] ++ str x = _
          rw [str_app, str_app])
        have hzz : (str (txt (.seq (l.take m))) ++ (⟨#[32]⟩ : ByteArray)).size ≤ 80020 := by rw [ByteArray.size_append]; have : (⟨#[32]⟩ : ByteArray).size = 1 := rfl; omega
        have hz3 : ¬ 9223372036854775807 < (str (txt (.seq (l.take m)))).size + 1 := by omega
        have hz2 : ¬ 9223372036854775807 < (str (txt (.seq (l.take m))) ++ (⟨#[32]⟩ : ByteArray)).size + (str x).size := by omega
        clear hm0 HST
        generalize str (txt (.seq (l.take m))) = zs0 at *
        generalize str x = z at *
        go_wp2_with fail
        go_upto_region 17 with fail
        generalize zs0 ++ (⟨#[32]⟩ : ByteArray) = zs at *
        have hS1 : HdS w.heap.size gk m j nv r (.slice (some ⟨gk, 0, none⟩) l.length ck0) wr.drew := ⟨HSD.out.p0, HSD.out.p1, HSX.out, hkc⟩
        have HN3 := Lib.hid (HN.out.below (Below.refl _ wr).drew)
        have HSD3 := Lib.hid (HSD.out.on (Below.refl _ wr).drew)
        have ht3 : w.heap.size + 1 < wr.drew.heap.size := HSD.out.two
        have hg3 : gk < wr.drew.heap.size := hgk
        go_upto_region 17 with fail
        refine wp_region_last 9 (fun w' => HdS w.heap.size gk m j nv r (.slice (some ⟨gk, 0, none⟩) l.length ck0) w') mixed ?_
        clear hkc hx3
        generalize wr.drew = w5 at *
        refine wpLast_take (i := 0) (oi := { dst := some 42, op := Op.move (Operand.tmp 6), type := 9, pos := "pattern.go:281", after := #[], guard := none }) (v := ?_) rfl (by kernel_rfl) (by kernel_rfl) (by kernel_rfl) (by kernel_rfl) (fun _ _ _ h => h) (Or.inl ⟨by rfl, ?_⟩) (by assumption) ?_
        rotate_left
        · intro w hSw
          try dsimp only at hSw
          go_simp
          try with_reducible rfl
        try simp only [Act.put, List.setIfInBounds_toArray, List.set_cons_zero, List.set_cons_succ]
        refine wpLast_take (i := 1) (oi := { dst := some 43, op := Op.load 28 (Operand.tmp 2), type := 28, pos := "pattern.go:281", after := #[], guard := none }) (v := ?_) rfl (by kernel_rfl) (by kernel_rfl) (by kernel_rfl) (by kernel_rfl) (fun _ _ _ h => h) (Or.inl ⟨by rfl, ?_⟩) (by assumption) ?_
        rotate_left
        · intro w hSw
          try dsimp only at hSw
          go_simp
          try with_reducible rfl
        try simp only [Act.put, List.setIfInBounds_toArray, List.set_cons_zero, List.set_cons_succ]
        refine wpLast_take (i := 2) (oi := { dst := some 44, op := Op.fieldAddr 92 (Operand.tmp 5) 3, type := 0, pos := "pattern.go:281", after := #[], guard := none }) (v := ?_) rfl (by kernel_rfl) (by kernel_rfl) (by kernel_rfl) (by kernel_rfl) (fun _ _ _ h => h) (Or.inl ⟨by rfl, ?_⟩) (by assumption) ?_
        rotate_left
        · intro w hSw
          try dsimp only at hSw
          go_simp
          try with_reducible rfl
        try simp only [Act.put, List.setIfInBounds_toArray, List.set_cons_zero, List.set_cons_succ]
        refine wpLast_take (i := 3) (oi := { dst := some 45, op := Op.load 72 (Operand.tmp 44), type := 72, pos := "pattern.go:281", after := #[{ on := 2, ground := Ground.data }], guard := none }) (v := ?_) rfl (by kernel_rfl) (by kernel_rfl) (by kernel_rfl) (by kernel_rfl) (fun _ _ _ h => h) (Or.inl ⟨by rfl, ?_⟩) (by assumption) ?_
        rotate_left
        · intro w hSw
          try dsimp only at hSw
          go_simp
          try with_reducible rfl
        try simp only [Act.put, List.setIfInBounds_toArray, List.set_cons_zero, List.set_cons_succ]
        refine wpLast_take (i := 4) (oi := { dst := some 46, op := Op.move (Operand.tmp 7), type := 3, pos := "pattern.go:281", after := #[], guard := none }) (v := ?_) rfl (by kernel_rfl) (by kernel_rfl) (by kernel_rfl) (by kernel_rfl) (fun _ _ _ h => h) (Or.inl ⟨by rfl, ?_⟩) (by assumption) ?_
        rotate_left
        · intro w hSw
          try dsimp only at hSw
          go_simp
          try with_reducible rfl
        try simp only [Act.put, List.setIfInBounds_toArray, List.set_cons_zero, List.set_cons_succ]
        refine wpLast_take (i := 5) (oi := { dst := some 47, op := Op.indexAddr 72 (Operand.tmp 45) (Operand.tmp 46), type := 0, pos := "pattern.go:281", after := #[{ on := 3, ground := Ground.data }, { on := 4, ground := Ground.data }], guard := none }) (v := ?_) rfl (by kernel_rfl) (by kernel_rfl) (by kernel_rfl) (by kernel_rfl) (fun _ _ _ h => h) (Or.inl ⟨by rfl, ?_⟩) (by assumption) ?_
        rotate_left
        · intro w hSw
          try dsimp only at hSw
          go_simp
          try with_reducible rfl
        try simp only [Act.put, List.setIfInBounds_toArray, List.set_cons_zero, List.set_cons_succ]
        refine wpLast_take (i := 6) (oi := { dst := some 48, op := Op.load 3 (Operand.tmp 47), type := 3, pos := "pattern.go:281", after := #[{ on := 5, ground := Ground.data }], guard := none }) (v := ?_) rfl (by kernel_rfl) (by kernel_rfl) (by kernel_rfl) (by kernel_rfl) (fun _ _ _ h => h) (Or.inl ⟨by rfl, ?_⟩) (by assumption) ?_
        rotate_left
        · intro w hSw
          try dsimp only at hSw
          go_simp
          try with_reducible rfl
        try simp only [Act.put, List.setIfInBounds_toArray, List.set_cons_zero, List.set_cons_succ]
        refine wpLast_ready (rs := [7]) (by kernel_rfl) (by simp) ?_
        refine EachLast.cons (o := { dst := some 49, op := Op.call { callee := Callee.value (Operand.func 34), args := #[Operand.tmp 43, Operand.tmp 48, Operand.const (Value.bool true)], argTypes := #[28, 3, 4] }, type := 9, pos := "pattern.go:281", after := #[{ on := 1, ground := Ground.data }, { on := 6, ground := Ground.data }], guard := none }) rfl (fun K hK => ?_) EachLast.nil
        go_simp
        refine (HBR.out w5 HN3.out).mono ?_
        rintro e w6 ⟨rfl, hb6⟩
        have hS6 := hS1.on hb6 ht3 hg3
        have HSD6 := Lib.hid (HSD3.out.on hb6)
        have HN6 := Lib.hid (HN3.out.below hb6)
        clear hb6
        refine hK.out _ _ (fun _ => hS6) ?_
        try simp only [Act.put, List.setIfInBounds_toArray, List.set_cons_zero, List.set_cons_succ]
        refine wpLast_ready (rs := [8]) (by kernel_rfl) (by simp) ?_
        refine EachLast.cons (o := { dst := some 50, op := Op.binOp BinOp.add 9 (Operand.tmp 42) (Operand.tmp 49) 9, type := 9, pos := "pattern.go:281", after := #[{ on := 0, ground := Ground.data }, { on := 7, ground := Ground.data }], guard := none }) rfl (fun K hK => ?_) EachLast.nil
        go_simp
        refine hK.out _ _ (fun _ => hS6) ?_
        try simp only [Act.put, List.setIfInBounds_toArray, List.set_cons_zero, List.set_cons_succ]
        refine wpLast_ready (rs := [9]) (by kernel_rfl) (by simp) ?_
        refine EachLast.cons (o := { dst := some 6, op := Op.assign (Operand.tmp 50), type := 9, pos := "pattern.go:281", after := #[{ on := 8, ground := Ground.data }, { on := 7, ground := Ground.chain }, { on := 0, ground := Ground.phase }, { on := 1, ground := Ground.phase }, { on := 2, ground := Ground.phase }, { on := 3, ground := Ground.phase }, { on := 4, ground := Ground.phase }, { on := 5, ground := Ground.phase }, { on := 6, ground := Ground.phase }, { on := 7, ground := Ground.phase }, { on := 8, ground := Ground.phase }], guard := none }) rfl (fun K hK => ?_) EachLast.nil
        go_simp
        refine hK.out _ _ (fun h => absurd rfl h) ?_
        try simp only [Act.put, List.setIfInBounds_toArray, List.set_cons_zero, List.set_cons_succ]
        refine wpLast_done (by kernel_rfl) ?_ _
        go_wp2_with fail
        go_roundw
        case rel => exact ⟨m + 1, by omega, by go_num, by rw [← HZ.out], HSD6.out, HN6.out⟩
        case measure => simp [intOf]; omega
    · obtain rfl : m = l.length := by omega
      rw [HTX.out]
      generalize hzf : str (txt (.seq l)) = zf at *
      have HZF := Lib.hid hzf
      clear hzf
      have HB := Lib.hid HSD.out.bel
      go_wp2_with fail
      go_ret
      exact ⟨by rw [HZF.out]; rfl, HB.out⟩
end Go.Proofs.Ytlbkacabcfeaiaa.Tl
