/- Patterns: the reference says suffixes, sequences, choices. Printed by mksaid.py. -/
import Derived.Test.YtlbkacabcfeaiaaKn
namespace Go.Proofs.Ytlbkacabcfeaiaa.Tl
open Go.RowKit Mm
set_option linter.unusedVariables false
abbrev HdS (b gk i j : Nat) (nv : Value) (r : Nat) (kv : Value) (W : World) : Prop := W.cell? ⟨b, 0, none⟩ = some nv ∧ W.cell? ⟨b, 1, none⟩ = some (.int .i64 (r : Int)) ∧ W.cell? ⟨b + 1, 3, none⟩ = some kv ∧ W.cell? ⟨gk, i, none⟩ = some (.int .i64 (j : Int))
theorem HdS.on {b gk i j : Nat} {nv : Value} {r : Nat} {kv : Value} {X Y : World} (h : HdS b gk i j nv r kv X) (hb : Below X.heap.size X Y) (h1 : b + 1 < X.heap.size) (h2 : gk < X.heap.size) : HdS b gk i j nv r kv Y :=
  ⟨(Below.cell hb (p := ⟨b, 0, none⟩) (show b < X.heap.size by omega)).trans h.1, (Below.cell hb (p := ⟨b, 1, none⟩) (show b < X.heap.size by omega)).trans h.2.1, (Below.cell hb (p := ⟨b + 1, 3, none⟩) h1).trans h.2.2.1, (Below.cell hb (p := ⟨gk, i, none⟩) h2).trans h.2.2.2⟩
/-- one kid of a node -/
theorem kid_cell {X : World} {B : Nat} {nv : Value} {N : List Nd} {k : Nat} {d : Nd} {i : Nat} (h : NS X B nv N) (hd : N[k]? = some d) (hi : i < d.kids.length) : ∃ g c, d.kv = .slice (some ⟨g, 0, none⟩) d.kids.length c ∧ g < X.heap.size ∧ X.cell? ⟨g, i, none⟩ = some (.int .i64 (d.kids[i] : Int)) := by
  have hf := h.kid d (List.mem_of_getElem? hd)
  obtain ⟨a, c, hv, _⟩ := Fz.form hf
  rw [hv] at hf
  obtain ⟨g, rfl, hg, hc⟩ := Fz.cells hf (by omega)
  exact ⟨g, c, hv, hg, hc i _ (iv_get hi)⟩
set_option maxRecDepth 100000 in
set_option maxHeartbeats 8000000 in
theorem said_suf_42 {t : T} (hs : SaidC t) (hb : bd t ≤ 80000) : SaidC (.suf t 42) := by
  intro w B nv N k r hN hden
  have hlen := hN.len
  have hkl := hden.lt
  obtain ⟨d, j, hd, hkd, hkids, hdj⟩ : ∃ d j, N[k]? = some d ∧ d.kind = 6 ∧ d.kids = [j] ∧ Den N j t := by
    cases hden with
    | suf k d j t c h1 h2 h3 h4 h5 => exact ⟨d, j, h1, h2, h3, h5⟩
  obtain ⟨g, c, rfl, p0, p1, p2, p3⟩ := nd_cells (o := .cells #[nv, .int .i64 (r : Int)] 28) hN hd
  have c0 := (Blk.new w 28 #[.slice (some ⟨g, 0, none⟩) N.length c, .int .i64 (r : Int)]).cell 0
  have c1 := (Blk.new w 28 #[.slice (some ⟨g, 0, none⟩) N.length c, .int .i64 (r : Int)]).cell 1
  have hS := Sd.start w (.slice (some ⟨g, 0, none⟩) N.length c) r d
  have hN2 := (hN.below ((Below.refl _ w).alloc (Nat.le_refl _) (.cells #[.slice (some ⟨g, 0, none⟩) N.length c, .int .i64 (r : Int)] 28))).below ((Below.refl _ _).alloc (Nat.le_refl _) (.cells #[.int .i64 (d.kind : Int), .string d.name, .bool d.no, d.kv] 92))
  obtain ⟨gk, ck, hkv, hgk, hkc⟩ := kid_cell hN2 hd (i := 0) (by simp [hkids])
  have hk0 : d.kids[0]'(by simp [hkids]) = j := by simp [hkids]
  rw [hk0] at hkc
  rw [hkids] at hkv
  have i0 : (0 : Int) ≤ (k : Int) := by omega
  have i1 : (k : Int) < (N.length : Int) := by omega
  have hwk : IntKind.i64.wrap (k : Int) = (k : Int) := IntWalk.i64_in _ (by omega)
  have htb := txt_bd t
  have hz : (str (brk (isMany t) (txt t))).size ≤ 90000 := by rw [str_size]; have := brk_len (isMany t) (txt t); omega
  have HE := Lib.hid (show str (brk (isMany t) (txt t)) ++ ⟨#[42]⟩ = str (txt (.suf t 42)) from by
    show _ ++ str [42] = _
    rw [str_app, txt])
  have hkI : (d.kind : Int) = 6 := by omega
  have HBR := Lib.hid (fun (X : World) (hX : NS X B (.slice (some ⟨g, 0, none⟩) N.length c) N) => rbracketed_any hs (by omega) false X B _ N j r hX hdj)
  have hmq : (isAlt t || (!false && isSq t)) = isMany t := by rw [many_or]; rfl
  rw [hmq] at HBR
  obtain ⟨kd, nm, no, kv, kids⟩ := d
  dsimp only at hkv hkc hkI p0 p1 p2 p3 hS hN2 hgk
  subst hkv
  have hS0 : HdS w.heap.size gk 0 j (.slice (some ⟨g, 0, none⟩) N.length c) r (.slice (some ⟨gk, 0, none⟩) 1 ck) _ := ⟨hS.p0, hS.p1, hS.x3, hkc⟩
  have hbel := hS.bel
  have htwo := hS.two
  generalize str (brk (isMany t) (txt t)) = z at *
  have hz2 : ¬ 9223372036854775807 < z.size + 1 := by omega
  have HS0 := Lib.hid (show HdS w.heap.size gk 0 j (.slice (some ⟨g, 0, none⟩) N.length c) r (.slice (some ⟨gk, 0, none⟩) 1 ck) ((w.alloc (.cells #[.slice (some ⟨g, 0, none⟩) N.length c, .int .i64 (r : Int)] 28)).alloc (.cells #[.int .i64 6, .string nm, .bool no, .slice (some ⟨gk, 0, none⟩) 1 ck] 92)) from by rw [hkI] at hS0; exact hS0)
  have HN2 := Lib.hid (show NS ((w.alloc (.cells #[.slice (some ⟨g, 0, none⟩) N.length c, .int .i64 (r : Int)] 28)).alloc (.cells #[.int .i64 6, .string nm, .bool no, .slice (some ⟨gk, 0, none⟩) 1 ck] 92)) B (.slice (some ⟨g, 0, none⟩) N.length c) N from by rw [hkI] at hN2; exact hN2)
  have HBL := Lib.hid (show Below w.heap.size w ((w.alloc (.cells #[.slice (some ⟨g, 0, none⟩) N.length c, .int .i64 (r : Int)] 28)).alloc (.cells #[.int .i64 6, .string nm, .bool no, .slice (some ⟨gk, 0, none⟩) 1 ck] 92)) from by rw [hkI] at hbel; exact hbel)
  have HT := Lib.hid (show w.heap.size + 1 < ((w.alloc (.cells #[.slice (some ⟨g, 0, none⟩) N.length c, .int .i64 (r : Int)] 28)).alloc (.cells #[.int .i64 6, .string nm, .bool no, .slice (some ⟨gk, 0, none⟩) 1 ck] 92)).heap.size ∧ gk < ((w.alloc (.cells #[.slice (some ⟨g, 0, none⟩) N.length c, .int .i64 (r : Int)] 28)).alloc (.cells #[.int .i64 6, .string nm, .bool no, .slice (some ⟨gk, 0, none⟩) 1 ck] 92)).heap.size from by rw [hkI] at htwo hgk; exact ⟨htwo, hgk⟩)
  clear hs hS hN hden hd hkids hS0 hN2 hbel htwo hgk hkc hk0 hmq htb hkd
  go_enter Try.func21, Try.ntmps21
  go_wp2_with fail
  clear c0 c1 p0 p1 p2 p3
  generalize World.alloc (World.alloc w _) _ = V at *
  have hS1 : HdS w.heap.size gk 0 j (.slice (some ⟨g, 0, none⟩) N.length c) r (.slice (some ⟨gk, 0, none⟩) 1 ck) V.drew := HS0.out
  have HN3 := Lib.hid (HN2.out.below (Below.refl _ V).drew)
  have HBL3 := Lib.hid HBL.out.drew
  have ht3 : w.heap.size + 1 < V.drew.heap.size := HT.out.1
  have hg3 : gk < V.drew.heap.size := HT.out.2
  clear HS0 HN2 HBL HT
  refine wp_region_last 7 (fun w' => HdS w.heap.size gk 0 j (.slice (some ⟨g, 0, none⟩) N.length c) r (.slice (some ⟨gk, 0, none⟩) 1 ck) w') mixed ?_
  generalize V.drew = w5 at *
  refine wpLast_take (i := 0) (oi := { dst := some 80, op := Op.load 28 (Operand.tmp 2), type := 28, pos := "pattern.go:297", after := #[], guard := none }) (v := ?_) rfl (by kernel_rfl) (by kernel_rfl) (by kernel_rfl) (by kernel_rfl) (fun _ _ _ h => h) (Or.inl ⟨by rfl, ?_⟩) (by assumption) ?_
  rotate_left
  · intro w hSw
    try dsimp only at hSw
    go_simp
    try with_reducible rfl
  try simp only [Act.put, List.setIfInBounds_toArray, List.set_cons_zero, List.set_cons_succ]
  refine wpLast_take (i := 1) (oi := { dst := some 81, op := Op.fieldAddr 92 (Operand.tmp 5) 3, type := 0, pos := "pattern.go:297", after := #[], guard := none }) (v := ?_) rfl (by kernel_rfl) (by kernel_rfl) (by kernel_rfl) (by kernel_rfl) (fun _ _ _ h => h) (Or.inl ⟨by rfl, ?_⟩) (by assumption) ?_
  rotate_left
  · intro w hSw
    try dsimp only at hSw
    go_simp
    try with_reducible rfl
  try simp only [Act.put, List.setIfInBounds_toArray, List.set_cons_zero, List.set_cons_succ]
  refine wpLast_take (i := 2) (oi := { dst := some 82, op := Op.load 72 (Operand.tmp 81), type := 72, pos := "pattern.go:297", after := #[{ on := 1, ground := Ground.data }], guard := none }) (v := ?_) rfl (by kernel_rfl) (by kernel_rfl) (by kernel_rfl) (by kernel_rfl) (fun _ _ _ h => h) (Or.inl ⟨by rfl, ?_⟩) (by assumption) ?_
  rotate_left
  · intro w hSw
    try dsimp only at hSw
    go_simp
    try with_reducible rfl
  try simp only [Act.put, List.setIfInBounds_toArray, List.set_cons_zero, List.set_cons_succ]
  refine wpLast_take (i := 3) (oi := { dst := some 83, op := Op.indexAddr 72 (Operand.tmp 82) (Operand.const (Value.int IntKind.i64 0)), type := 0, pos := "pattern.go:297", after := #[{ on := 2, ground := Ground.data }], guard := none }) (v := ?_) rfl (by kernel_rfl) (by kernel_rfl) (by kernel_rfl) (by kernel_rfl) (fun _ _ _ h => h) (Or.inl ⟨by rfl, ?_⟩) (by assumption) ?_
  rotate_left
  · intro w hSw
    try dsimp only at hSw
    go_simp
    try with_reducible rfl
  try simp only [Act.put, List.setIfInBounds_toArray, List.set_cons_zero, List.set_cons_succ]
  refine wpLast_take (i := 4) (oi := { dst := some 84, op := Op.load 3 (Operand.tmp 83), type := 3, pos := "pattern.go:297", after := #[{ on := 3, ground := Ground.data }], guard := none }) (v := ?_) rfl (by kernel_rfl) (by kernel_rfl) (by kernel_rfl) (by kernel_rfl) (fun _ _ _ h => h) (Or.inl ⟨by rfl, ?_⟩) (by assumption) ?_
  rotate_left
  · intro w hSw
    try dsimp only at hSw
    go_simp
    try with_reducible rfl
  try simp only [Act.put, List.setIfInBounds_toArray, List.set_cons_zero, List.set_cons_succ]
  refine wpLast_ready (rs := [5]) (by kernel_rfl) (by simp) ?_
  refine EachLast.cons (o := { dst := some 85, op := Op.call { callee := Callee.value (Operand.func 34), args := #[Operand.tmp 80, Operand.tmp 84, Operand.const (Value.bool false)], argTypes := #[28, 3, 4] }, type := 9, pos := "pattern.go:297", after := #[{ on := 0, ground := Ground.data }, { on := 4, ground := Ground.data }], guard := none }) rfl (fun K hK => ?_) EachLast.nil
  go_simp
  refine (HBR.out w5 HN3.out).mono ?_
  rintro e w6 ⟨rfl, hb6⟩
  have hS6 := hS1.on hb6 ht3 hg3
  have HB := Lib.hid (bnx HBL3.out hb6)
  refine hK.out _ _ (fun _ => hS6) ?_
  try simp only [Act.put, List.setIfInBounds_toArray, List.set_cons_zero, List.set_cons_succ]
  refine wpLast_ready (rs := [6]) (by kernel_rfl) (by simp) ?_
  refine EachLast.cons (o := { dst := some 86, op := Op.binOp BinOp.add 9 (Operand.tmp 85) (Operand.const (Value.string { data := #[42] })) 9, type := 9, pos := "pattern.go:297", after := #[{ on := 5, ground := Ground.data }], guard := none }) rfl (fun K hK => ?_) EachLast.nil
  go_simp
  refine hK.out _ _ (fun _ => hS6) ?_
  try simp only [Act.put, List.setIfInBounds_toArray, List.set_cons_zero, List.set_cons_succ]
  refine wpLast_ready (rs := [7]) (by kernel_rfl) (by simp) ?_
  refine EachLast.cons (o := { dst := some 4, op := Op.assign (Operand.tmp 86), type := 9, pos := "pattern.go:297", after := #[{ on := 6, ground := Ground.data }, { on := 5, ground := Ground.chain }, { on := 0, ground := Ground.phase }, { on := 1, ground := Ground.phase }, { on := 2, ground := Ground.phase }, { on := 3, ground := Ground.phase }, { on := 4, ground := Ground.phase }, { on := 5, ground := Ground.phase }, { on := 6, ground := Ground.phase }], guard := none }) rfl (fun K hK => ?_) EachLast.nil
  go_simp
  refine hK.out _ _ (fun h => absurd rfl h) ?_
  try simp only [Act.put, List.setIfInBounds_toArray, List.set_cons_zero, List.set_cons_succ]
  refine wpLast_done (by kernel_rfl) ?_ _
  go_wp2_with fail
  go_ret
  exact ⟨congrArg (fun x => Ending.returned (Value.string x)) HE.out, HB.out⟩
set_option maxRecDepth 100000 in
set_option maxHeartbeats 8000000 in
theorem said_suf_43 {t : T} (hs : SaidC t) (hb : bd t ≤ 80000) : SaidC (.suf t 43) := by
  intro w B nv N k r hN hden
  have hlen := hN.len
  have hkl := hden.lt
  obtain ⟨d, j, hd, hkd, hkids, hdj⟩ : ∃ d j, N[k]? = some d ∧ d.kind = 7 ∧ d.kids = [j] ∧ Den N j t := by
    cases hden with
    | suf k d j t c h1 h2 h3 h4 h5 => exact ⟨d, j, h1, h2, h3, h5⟩
  obtain ⟨g, c, rfl, p0, p1, p2, p3⟩ := nd_cells (o := .cells #[nv, .int .i64 (r : Int)] 28) hN hd
  have c0 := (Blk.new w 28 #[.slice (some ⟨g, 0, none⟩) N.length c, .int .i64 (r : Int)]).cell 0
  have c1 := (Blk.new w 28 #[.slice (some ⟨g, 0, none⟩) N.length c, .int .i64 (r : Int)]).cell 1
  have hS := Sd.start w (.slice (some ⟨g, 0, none⟩) N.length c) r d
  have hN2 := (hN.below ((Below.refl _ w).alloc (Nat.le_refl _) (.cells #[.slice (some ⟨g, 0, none⟩) N.length c, .int .i64 (r : Int)] 28))).below ((Below.refl _ _).alloc (Nat.le_refl _) (.cells #[.int .i64 (d.kind : Int), .string d.name, .bool d.no, d.kv] 92))
  obtain ⟨gk, ck, hkv, hgk, hkc⟩ := kid_cell hN2 hd (i := 0) (by simp [hkids])
  have hk0 : d.kids[0]'(by simp [hkids]) = j := by simp [hkids]
  rw [hk0] at hkc
  rw [hkids] at hkv
  have i0 : (0 : Int) ≤ (k : Int) := by omega
  have i1 : (k : Int) < (N.length : Int) := by omega
  have hwk : IntKind.i64.wrap (k : Int) = (k : Int) := IntWalk.i64_in _ (by omega)
  have htb := txt_bd t
  have hz : (str (brk (isMany t) (txt t))).size ≤ 90000 := by rw [str_size]; have := brk_len (isMany t) (txt t); omega
  have HE := Lib.hid (show str (brk (isMany t) (txt t)) ++ ⟨#[43]⟩ = str (txt (.suf t 43)) from by
    show _ ++ str [43] = _
    rw [str_app, txt])
  have hkI : (d.kind : Int) = 7 := by omega
  have HBR := Lib.hid (fun (X : World) (hX : NS X B (.slice (some ⟨g, 0, none⟩) N.length c) N) => rbracketed_any hs (by omega) false X B _ N j r hX hdj)
  have hmq : (isAlt t || (!false && isSq t)) = isMany t := by rw [many_or]; rfl
  rw [hmq] at HBR
  obtain ⟨kd, nm, no, kv, kids⟩ := d
  dsimp only at hkv hkc hkI p0 p1 p2 p3 hS hN2 hgk
  subst hkv
  have hS0 : HdS w.heap.size gk 0 j (.slice (some ⟨g, 0, none⟩) N.length c) r (.slice (some ⟨gk, 0, none⟩) 1 ck) _ := ⟨hS.p0, hS.p1, hS.x3, hkc⟩
  have hbel := hS.bel
  have htwo := hS.two
  generalize str (brk (isMany t) (txt t)) = z at *
  have hz2 : ¬ 9223372036854775807 < z.size + 1 := by omega
  have HS0 := Lib.hid (show HdS w.heap.size gk 0 j (.slice (some ⟨g, 0, none⟩) N.length c) r (.slice (some ⟨gk, 0, none⟩) 1 ck) ((w.alloc (.cells #[.slice (some ⟨g, 0, none⟩) N.length c, .int .i64 (r : Int)] 28)).alloc (.cells #[.int .i64 7, .string nm, .bool no, .slice (some ⟨gk, 0, none⟩) 1 ck] 92)) from by rw [hkI] at hS0; exact hS0)
  have HN2 := Lib.hid (show NS ((w.alloc (.cells #[.slice (some ⟨g, 0, none⟩) N.length c, .int .i64 (r : Int)] 28)).alloc (.cells #[.int .i64 7, .string nm, .bool no, .slice (some ⟨gk, 0, none⟩) 1 ck] 92)) B (.slice (some ⟨g, 0, none⟩) N.length c) N from by rw [hkI] at hN2; exact hN2)
  have HBL := Lib.hid (show Below w.heap.size w ((w.alloc (.cells #[.slice (some ⟨g, 0, none⟩) N.length c, .int .i64 (r : Int)] 28)).alloc (.cells #[.int .i64 7, .string nm, .bool no, .slice (some ⟨gk, 0, none⟩) 1 ck] 92)) from by rw [hkI] at hbel; exact hbel)
  have HT := Lib.hid (show w.heap.size + 1 < ((w.alloc (.cells #[.slice (some ⟨g, 0, none⟩) N.length c, .int .i64 (r : Int)] 28)).alloc (.cells #[.int .i64 7, .string nm, .bool no, .slice (some ⟨gk, 0, none⟩) 1 ck] 92)).heap.size ∧ gk < ((w.alloc (.cells #[.slice (some ⟨g, 0, none⟩) N.length c, .int .i64 (r : Int)] 28)).alloc (.cells #[.int .i64 7, .string nm, .bool no, .slice (some ⟨gk, 0, none⟩) 1 ck] 92)).heap.size from by rw [hkI] at htwo hgk; exact ⟨htwo, hgk⟩)
  clear hs hS hN hden hd hkids hS0 hN2 hbel htwo hgk hkc hk0 hmq htb hkd
  go_enter Try.func21, Try.ntmps21
  go_wp2_with fail
  clear c0 c1 p0 p1 p2 p3
  generalize World.alloc (World.alloc w _) _ = V at *
  have hS1 : HdS w.heap.size gk 0 j (.slice (some ⟨g, 0, none⟩) N.length c) r (.slice (some ⟨gk, 0, none⟩) 1 ck) V.drew := HS0.out
  have HN3 := Lib.hid (HN2.out.below (Below.refl _ V).drew)
  have HBL3 := Lib.hid HBL.out.drew
  have ht3 : w.heap.size + 1 < V.drew.heap.size := HT.out.1
  have hg3 : gk < V.drew.heap.size := HT.out.2
  clear HS0 HN2 HBL HT
  refine wp_region_last 7 (fun w' => HdS w.heap.size gk 0 j (.slice (some ⟨g, 0, none⟩) N.length c) r (.slice (some ⟨gk, 0, none⟩) 1 ck) w') mixed ?_
  generalize V.drew = w5 at *
  refine wpLast_take (i := 0) (oi := { dst := some 89, op := Op.load 28 (Operand.tmp 2), type := 28, pos := "pattern.go:299", after := #[], guard := none }) (v := ?_) rfl (by kernel_rfl) (by kernel_rfl) (by kernel_rfl) (by kernel_rfl) (fun _ _ _ h => h) (Or.inl ⟨by rfl, ?_⟩) (by assumption) ?_
  rotate_left
  · intro w hSw
    try dsimp only at hSw
    go_simp
    try with_reducible rfl
  try simp only [Act.put, List.setIfInBounds_toArray, List.set_cons_zero, List.set_cons_succ]
  refine wpLast_take (i := 1) (oi := { dst := some 90, op := Op.fieldAddr 92 (Operand.tmp 5) 3, type := 0, pos := "pattern.go:299", after := #[], guard := none }) (v := ?_) rfl (by kernel_rfl) (by kernel_rfl) (by kernel_rfl) (by kernel_rfl) (fun _ _ _ h => h) (Or.inl ⟨by rfl, ?_⟩) (by assumption) ?_
  rotate_left
  · intro w hSw
    try dsimp only at hSw
    go_simp
    try with_reducible rfl
  try simp only [Act.put, List.setIfInBounds_toArray, List.set_cons_zero, List.set_cons_succ]
  refine wpLast_take (i := 2) (oi := { dst := some 91, op := Op.load 72 (Operand.tmp 90), type := 72, pos := "pattern.go:299", after := #[{ on := 1, ground := Ground.data }], guard := none }) (v := ?_) rfl (by kernel_rfl) (by kernel_rfl) (by kernel_rfl) (by kernel_rfl) (fun _ _ _ h => h) (Or.inl ⟨by rfl, ?_⟩) (by assumption) ?_
  rotate_left
  · intro w hSw
    try dsimp only at hSw
    go_simp
    try with_reducible rfl
  try simp only [Act.put, List.setIfInBounds_toArray, List.set_cons_zero, List.set_cons_succ]
  refine wpLast_take (i := 3) (oi := { dst := some 92, op := Op.indexAddr 72 (Operand.tmp 91) (Operand.const (Value.int IntKind.i64 0)), type := 0, pos := "pattern.go:299", after := #[{ on := 2, ground := Ground.data }], guard := none }) (v := ?_) rfl (by kernel_rfl) (by kernel_rfl) (by kernel_rfl) (by kernel_rfl) (fun _ _ _ h => h) (Or.inl ⟨by rfl, ?_⟩) (by assumption) ?_
  rotate_left
  · intro w hSw
    try dsimp only at hSw
    go_simp
    try with_reducible rfl
  try simp only [Act.put, List.setIfInBounds_toArray, List.set_cons_zero, List.set_cons_succ]
  refine wpLast_take (i := 4) (oi := { dst := some 93, op := Op.load 3 (Operand.tmp 92), type := 3, pos := "pattern.go:299", after := #[{ on := 3, ground := Ground.data }], guard := none }) (v := ?_) rfl (by kernel_rfl) (by kernel_rfl) (by kernel_rfl) (by kernel_rfl) (fun _ _ _ h => h) (Or.inl ⟨by rfl, ?_⟩) (by assumption) ?_
  rotate_left
  · intro w hSw
    try dsimp only at hSw
    go_simp
    try with_reducible rfl
  try simp only [Act.put, List.setIfInBounds_toArray, List.set_cons_zero, List.set_cons_succ]
  refine wpLast_ready (rs := [5]) (by kernel_rfl) (by simp) ?_
  refine EachLast.cons (o := { dst := some 94, op := Op.call { callee := Callee.value (Operand.func 34), args := #[Operand.tmp 89, Operand.tmp 93, Operand.const (Value.bool false)], argTypes := #[28, 3, 4] }, type := 9, pos := "pattern.go:299", after := #[{ on := 0, ground := Ground.data }, { on := 4, ground := Ground.data }], guard := none }) rfl (fun K hK => ?_) EachLast.nil
  go_simp
  refine (HBR.out w5 HN3.out).mono ?_
  rintro e w6 ⟨rfl, hb6⟩
  have hS6 := hS1.on hb6 ht3 hg3
  have HB := Lib.hid (bnx HBL3.out hb6)
  refine hK.out _ _ (fun _ => hS6) ?_
  try simp only [Act.put, List.setIfInBounds_toArray, List.set_cons_zero, List.set_cons_succ]
  refine wpLast_ready (rs := [6]) (by kernel_rfl) (by simp) ?_
  refine EachLast.cons (o := { dst := some 95, op := Op.binOp BinOp.add 9 (Operand.tmp 94) (Operand.const (Value.string { data := #[43] })) 9, type := 9, pos := "pattern.go:299", after := #[{ on := 5, ground := Ground.data }], guard := none }) rfl (fun K hK => ?_) EachLast.nil
  go_simp
  refine hK.out _ _ (fun _ => hS6) ?_
  try simp only [Act.put, List.setIfInBounds_toArray, List.set_cons_zero, List.set_cons_succ]
  refine wpLast_ready (rs := [7]) (by kernel_rfl) (by simp) ?_
  refine EachLast.cons (o := { dst := some 4, op := Op.assign (Operand.tmp 95), type := 9, pos := "pattern.go:299", after := #[{ on := 6, ground := Ground.data }, { on := 5, ground := Ground.chain }, { on := 0, ground := Ground.phase }, { on := 1, ground := Ground.phase }, { on := 2, ground := Ground.phase }, { on := 3, ground := Ground.phase }, { on := 4, ground := Ground.phase }, { on := 5, ground := Ground.phase }, { on := 6, ground := Ground.phase }], guard := none }) rfl (fun K hK => ?_) EachLast.nil
  go_simp
  refine hK.out _ _ (fun h => absurd rfl h) ?_
  try simp only [Act.put, List.setIfInBounds_toArray, List.set_cons_zero, List.set_cons_succ]
  refine wpLast_done (by kernel_rfl) ?_ _
  go_wp2_with fail
  go_ret
  exact ⟨congrArg (fun x => Ending.returned (Value.string x)) HE.out, HB.out⟩
set_option maxRecDepth 100000 in
set_option maxHeartbeats 8000000 in
theorem said_suf_63 {t : T} (hs : SaidC t) (hb : bd t ≤ 80000) : SaidC (.suf t 63) := by
  intro w B nv N k r hN hden
  have hlen := hN.len
  have hkl := hden.lt
  obtain ⟨d, j, hd, hkd, hkids, hdj⟩ : ∃ d j, N[k]? = some d ∧ d.kind = 8 ∧ d.kids = [j] ∧ Den N j t := by
    cases hden with
    | suf k d j t c h1 h2 h3 h4 h5 => exact ⟨d, j, h1, h2, h3, h5⟩
  obtain ⟨g, c, rfl, p0, p1, p2, p3⟩ := nd_cells (o := .cells #[nv, .int .i64 (r : Int)] 28) hN hd
  have c0 := (Blk.new w 28 #[.slice (some ⟨g, 0, none⟩) N.length c, .int .i64 (r : Int)]).cell 0
  have c1 := (Blk.new w 28 #[.slice (some ⟨g, 0, none⟩) N.length c, .int .i64 (r : Int)]).cell 1
  have hS := Sd.start w (.slice (some ⟨g, 0, none⟩) N.length c) r d
  have hN2 := (hN.below ((Below.refl _ w).alloc (Nat.le_refl _) (.cells #[.slice (some ⟨g, 0, none⟩) N.length c, .int .i64 (r : Int)] 28))).below ((Below.refl _ _).alloc (Nat.le_refl _) (.cells #[.int .i64 (d.kind : Int), .string d.name, .bool d.no, d.kv] 92))
  obtain ⟨gk, ck, hkv, hgk, hkc⟩ := kid_cell hN2 hd (i := 0) (by simp [hkids])
  have hk0 : d.kids[0]'(by simp [hkids]) = j := by simp [hkids]
  rw [hk0] at hkc
  rw [hkids] at hkv
  have i0 : (0 : Int) ≤ (k : Int) := by omega
  have i1 : (k : Int) < (N.length : Int) := by omega
  have hwk : IntKind.i64.wrap (k : Int) = (k : Int) := IntWalk.i64_in _ (by omega)
  have htb := txt_bd t
  have hz : (str (brk (isMany t) (txt t))).size ≤ 90000 := by rw [str_size]; have := brk_len (isMany t) (txt t); omega
  have HE := Lib.hid (show str (brk (isMany t) (txt t)) ++ ⟨#[63]⟩ = str (txt (.suf t 63)) from by
    show _ ++ str [63] = _
    rw [str_app, txt])
  have hkI : (d.kind : Int) = 8 := by omega
  have HBR := Lib.hid (fun (X : World) (hX : NS X B (.slice (some ⟨g, 0, none⟩) N.length c) N) => rbracketed_any hs (by omega) false X B _ N j r hX hdj)
  have hmq : (isAlt t || (!false && isSq t)) = isMany t := by rw [many_or]; rfl
  rw [hmq] at HBR
  obtain ⟨kd, nm, no, kv, kids⟩ := d
  dsimp only at hkv hkc hkI p0 p1 p2 p3 hS hN2 hgk
  subst hkv
  have hS0 : HdS w.heap.size gk 0 j (.slice (some ⟨g, 0, none⟩) N.length c) r (.slice (some ⟨gk, 0, none⟩) 1 ck) _ := ⟨hS.p0, hS.p1, hS.x3, hkc⟩
  have hbel := hS.bel
  have htwo := hS.two
  generalize str (brk (isMany t) (txt t)) = z at *
  have hz2 : ¬ 9223372036854775807 < z.size + 1 := by omega
  have HS0 := Lib.hid (show HdS w.heap.size gk 0 j (.slice (some ⟨g, 0, none⟩) N.length c) r (.slice (some ⟨gk, 0, none⟩) 1 ck) ((w.alloc (.cells #[.slice (some ⟨g, 0, none⟩) N.length c, .int .i64 (r : Int)] 28)).alloc (.cells #[.int .i64 8, .string nm, .bool no, .slice (some ⟨gk, 0, none⟩) 1 ck] 92)) from by rw [hkI] at hS0; exact hS0)
  have HN2 := Lib.hid (show NS ((w.alloc (.cells #[.slice (some ⟨g, 0, none⟩) N.length c, .int .i64 (r : Int)] 28)).alloc (.cells #[.int .i64 8, .string nm, .bool no, .slice (some ⟨gk, 0, none⟩) 1 ck] 92)) B (.slice (some ⟨g, 0, none⟩) N.length c) N from by rw [hkI] at hN2; exact hN2)
  have HBL := Lib.hid (show Below w.heap.size w ((w.alloc (.cells #[.slice (some ⟨g, 0, none⟩) N.length c, .int .i64 (r : Int)] 28)).alloc (.cells #[.int .i64 8, .string nm, .bool no, .slice (some ⟨gk, 0, none⟩) 1 ck] 92)) from by rw [hkI] at hbel; exact hbel)
  have HT := Lib.hid (show w.heap.size + 1 < ((w.alloc (.cells #[.slice (some ⟨g, 0, none⟩) N.length c, .int .i64 (r : Int)] 28)).alloc (.cells #[.int .i64 8, .string nm, .bool no, .slice (some ⟨gk, 0, none⟩) 1 ck] 92)).heap.size ∧ gk < ((w.alloc (.cells #[.slice (some ⟨g, 0, none⟩) N.length c, .int .i64 (r : Int)] 28)).alloc (.cells #[.int .i64 8, .string nm, .bool no, .slice (some ⟨gk, 0, none⟩) 1 ck] 92)).heap.size from by rw [hkI] at htwo hgk; exact ⟨htwo, hgk⟩)
  clear hs hS hN hden hd hkids hS0 hN2 hbel htwo hgk hkc hk0 hmq htb hkd
  go_enter Try.func21, Try.ntmps21
  go_wp2_with fail
  clear c0 c1 p0 p1 p2 p3
  generalize World.alloc (World.alloc w _) _ = V at *
  have hS1 : HdS w.heap.size gk 0 j (.slice (some ⟨g, 0, none⟩) N.length c) r (.slice (some ⟨gk, 0, none⟩) 1 ck) V.drew := HS0.out
  have HN3 := Lib.hid (HN2.out.below (Below.refl _ V).drew)
  have HBL3 := Lib.hid HBL.out.drew
  have ht3 : w.heap.size + 1 < V.drew.heap.size := HT.out.1
  have hg3 : gk < V.drew.heap.size := HT.out.2
  clear HS0 HN2 HBL HT
  refine wp_region_last 7 (fun w' => HdS w.heap.size gk 0 j (.slice (some ⟨g, 0, none⟩) N.length c) r (.slice (some ⟨gk, 0, none⟩) 1 ck) w') mixed ?_
  generalize V.drew = w5 at *
  refine wpLast_take (i := 0) (oi := { dst := some 96, op := Op.load 28 (Operand.tmp 2), type := 28, pos := "pattern.go:301", after := #[], guard := none }) (v := ?_) rfl (by kernel_rfl) (by kernel_rfl) (by kernel_rfl) (by kernel_rfl) (fun _ _ _ h => h) (Or.inl ⟨by rfl, ?_⟩) (by assumption) ?_
  rotate_left
  · intro w hSw
    try dsimp only at hSw
    go_simp
    try with_reducible rfl
  try simp only [Act.put, List.setIfInBounds_toArray, List.set_cons_zero, List.set_cons_succ]
  refine wpLast_take (i := 1) (oi := { dst := some 97, op := Op.fieldAddr 92 (Operand.tmp 5) 3, type := 0, pos := "pattern.go:301", after := #[], guard := none }) (v := ?_) rfl (by kernel_rfl) (by kernel_rfl) (by kernel_rfl) (by kernel_rfl) (fun _ _ _ h => h) (Or.inl ⟨by rfl, ?_⟩) (by assumption) ?_
  rotate_left
  · intro w hSw
    try dsimp only at hSw
    go_simp
    try with_reducible rfl
  try simp only [Act.put, List.setIfInBounds_toArray, List.set_cons_zero, List.set_cons_succ]
  refine wpLast_take (i := 2) (oi := { dst := some 98, op := Op.load 72 (Operand.tmp 97), type := 72, pos := "pattern.go:301", after := #[{ on := 1, ground := Ground.data }], guard := none }) (v := ?_) rfl (by kernel_rfl) (by kernel_rfl) (by kernel_rfl) (by kernel_rfl) (fun _ _ _ h => h) (Or.inl ⟨by rfl, ?_⟩) (by assumption) ?_
  rotate_left
  · intro w hSw
    try dsimp only at hSw
    go_simp
    try with_reducible rfl
  try simp only [Act.put, List.setIfInBounds_toArray, List.set_cons_zero, List.set_cons_succ]
  refine wpLast_take (i := 3) (oi := { dst := some 99, op := Op.indexAddr 72 (Operand.tmp 98) (Operand.const (Value.int IntKind.i64 0)), type := 0, pos := "pattern.go:301", after := #[{ on := 2, ground := Ground.data }], guard := none }) (v := ?_) rfl (by kernel_rfl) (by kernel_rfl) (by kernel_rfl) (by kernel_rfl) (fun _ _ _ h => h) (Or.inl ⟨by rfl, ?_⟩) (by assumption) ?_
  rotate_left
  · intro w hSw
    try dsimp only at hSw
    go_simp
    try with_reducible rfl
  try simp only [Act.put, List.setIfInBounds_toArray, List.set_cons_zero, List.set_cons_succ]
  refine wpLast_take (i := 4) (oi := { dst := some 100, op := Op.load 3 (Operand.tmp 99), type := 3, pos := "pattern.go:301", after := #[{ on := 3, ground := Ground.data }], guard := none }) (v := ?_) rfl (by kernel_rfl) (by kernel_rfl) (by kernel_rfl) (by kernel_rfl) (fun _ _ _ h => h) (Or.inl ⟨by rfl, ?_⟩) (by assumption) ?_
  rotate_left
  · intro w hSw
    try dsimp only at hSw
    go_simp
    try with_reducible rfl
  try simp only [Act.put, List.setIfInBounds_toArray, List.set_cons_zero, List.set_cons_succ]
  refine wpLast_ready (rs := [5]) (by kernel_rfl) (by simp) ?_
  refine EachLast.cons (o := { dst := some 101, op := Op.call { callee := Callee.value (Operand.func 34), args := #[Operand.tmp 96, Operand.tmp 100, Operand.const (Value.bool false)], argTypes := #[28, 3, 4] }, type := 9, pos := "pattern.go:301", after := #[{ on := 0, ground := Ground.data }, { on := 4, ground := Ground.data }], guard := none }) rfl (fun K hK => ?_) EachLast.nil
  go_simp
  refine (HBR.out w5 HN3.out).mono ?_
  rintro e w6 ⟨rfl, hb6⟩
  have hS6 := hS1.on hb6 ht3 hg3
  have HB := Lib.hid (bnx HBL3.out hb6)
  refine hK.out _ _ (fun _ => hS6) ?_
  try simp only [Act.put, List.setIfInBounds_toArray, List.set_cons_zero, List.set_cons_succ]
  refine wpLast_ready (rs := [6]) (by kernel_rfl) (by simp) ?_
  refine EachLast.cons (o := { dst := some 102, op := Op.binOp BinOp.add 9 (Operand.tmp 101) (Operand.const (Value.string { data := #[63] })) 9, type := 9, pos := "pattern.go:301", after := #[{ on := 5, ground := Ground.data }], guard := none }) rfl (fun K hK => ?_) EachLast.nil
  go_simp
  refine hK.out _ _ (fun _ => hS6) ?_
  try simp only [Act.put, List.setIfInBounds_toArray, List.set_cons_zero, List.set_cons_succ]
  refine wpLast_ready (rs := [7]) (by kernel_rfl) (by simp) ?_
  refine EachLast.cons (o := { dst := some 4, op := Op.assign (Operand.tmp 102), type := 9, pos := "pattern.go:301", after := #[{ on := 6, ground := Ground.data }, { on := 5, ground := Ground.chain }, { on := 0, ground := Ground.phase }, { on := 1, ground := Ground.phase }, { on := 2, ground := Ground.phase }, { on := 3, ground := Ground.phase }, { on := 4, ground := Ground.phase }, { on := 5, ground := Ground.phase }, { on := 6, ground := Ground.phase }], guard := none }) rfl (fun K hK => ?_) EachLast.nil
  go_simp
  refine hK.out _ _ (fun h => absurd rfl h) ?_
  try simp only [Act.put, List.setIfInBounds_toArray, List.set_cons_zero, List.set_cons_succ]
  refine wpLast_done (by kernel_rfl) ?_ _
  go_wp2_with fail
  go_ret
  exact ⟨congrArg (fun x => Ending.returned (Value.string x)) HE.out, HB.out⟩
end Go.Proofs.Ytlbkacabcfeaiaa.Tl
