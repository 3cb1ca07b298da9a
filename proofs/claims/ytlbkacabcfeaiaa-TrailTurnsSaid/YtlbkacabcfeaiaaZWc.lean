/- Patterns: the program writes a suffix. Printed by mksuf.py. -/
import Derived.Test.YtlbkacabcfeaiaaZWb
namespace Go.Proofs.Ytlbkacabcfeaiaa.Tl
open Go.RowKit Mm
set_option linter.unusedVariables false
set_option maxRecDepth 100000 in
set_option maxHeartbeats 8000000 in
theorem suffix_seq_42 {t : T} {pay : Value} (hw : WrC t) (hb : bd t ≤ 100000) (hm : isMany t = true) (w : World) (S : Nat → Prop) (h : IsT w S (.iface 98 pay) t) :
    Calls Try.prog 68 #[.agg #[.iface 98 pay, .int .u8 42]] w fun e w' => e = .returned (.string (str (txt (.suf t 42)))) ∧ Below w.heap.size w w' := by
  have ht := txt_bd t
  have hB := Blk.new w 84 #[.iface 98 pay, .int .u8 42]
  have hbl : Below w.heap.size w (w.alloc (.cells #[.iface 98 pay, .int .u8 42] 84)) := bal (Below.refl w.heap.size w) _
  have hh := h.low hbl
  have hz : (str (brk true (txt t))).size ≤ 100010 := by rw [str_size]; have := brk_len true (txt t); omega
  have hE := Lib.hid (show str (brk true (txt t)) ++ ⟨#[42]⟩ = str (txt (.suf t 42)) from by
    show _ ++ str [42] = _
    rw [str_app, txt, hm]
    try rfl)
  have HC := Lib.hid (fun (X : World) (hX : IsT X S (.iface 98 pay) t) => bracketed_any hw hb X S (.iface 98 pay) hX)
  have hS0 : HdO w.heap.size (.iface 98 pay) (.int .u8 42) (w.alloc (.cells #[.iface 98 pay, .int .u8 42] 84)).drew := HdO.of hB.drew
  have HT := Lib.hid (hh.keep (w' := (w.alloc (.cells #[.iface 98 pay, .int .u8 42] 84)).drew) (fun _ h => h) (fun g _ hg => rfl))
  have HBL := Lib.hid hbl.drew
  have hq : (w.alloc (.cells #[.iface 98 pay, .int .u8 42] 84)).cell? ⟨w.heap.size, 0, none⟩ = some (.iface 98 pay) := hB.cell 0
  have hlt : w.heap.size < (w.alloc (.cells #[.iface 98 pay, .int .u8 42] 84)).drew.heap.size := hB.lt
  have hn1 := fun (w : World) (h : 98 ≠ 98) => as_seq_no 98 pay w h
  have hn2 := fun (w : World) (h : 98 ≠ 99) => as_alt_no 98 pay w h
  have hu : Utf8.encode (IntKind.i32.wrap 42) = (⟨#[42]⟩ : ByteArray) := by kernel_rfl
  clear hw h hB hbl hh hm
  generalize str (brk true (txt t)) = z at *
  have hz2 : ¬ 9223372036854775807 < z.size + 1 := by omega
  go_enter Try.func68, Try.ntmps68
  go_wp2_with fail
  refine wp_region_last 8 (fun w' => HdO w.heap.size (.iface 98 pay) (.int .u8 42) w') mixed ?_
  generalize (w.alloc (.cells #[.iface 98 pay, .int .u8 42] 84)).drew = w2 at *
  refine wpLast_take (i := 0) (oi := { dst := some 12, op := Op.fieldAddr 84 (Operand.tmp 1) 0, type := 0, pos := "tree.go:100", after := #[], guard := none }) (v := ?_) rfl (by kernel_rfl) (by kernel_rfl) (by kernel_rfl) (by kernel_rfl) (fun _ _ _ h => h) (Or.inl ⟨by rfl, ?_⟩) (by assumption) ?_
  rotate_left
  · intro w hSw
    try dsimp only at hSw
    go_simp
    try with_reducible rfl
  try simp only [Act.put, List.setIfInBounds_toArray, List.set_cons_zero, List.set_cons_succ]
  refine wpLast_take (i := 1) (oi := { dst := some 13, op := Op.load 57 (Operand.tmp 12), type := 57, pos := "tree.go:100", after := #[{ on := 0, ground := Ground.data }], guard := none }) (v := ?_) rfl (by kernel_rfl) (by kernel_rfl) (by kernel_rfl) (by kernel_rfl) (fun _ _ _ h => h) (Or.inl ⟨by rfl, ?_⟩) (by assumption) ?_
  rotate_left
  · intro w hSw
    try dsimp only at hSw
    go_simp
    try with_reducible rfl
  try simp only [Act.put, List.setIfInBounds_toArray, List.set_cons_zero, List.set_cons_succ]
  refine wpLast_take (i := 3) (oi := { dst := some 15, op := Op.fieldAddr 84 (Operand.tmp 1) 1, type := 0, pos := "tree.go:100", after := #[], guard := none }) (v := ?_) rfl (by kernel_rfl) (by kernel_rfl) (by kernel_rfl) (by kernel_rfl) (fun _ _ _ h => h) (Or.inl ⟨by rfl, ?_⟩) (by assumption) ?_
  rotate_left
  · intro w hSw
    try dsimp only at hSw
    go_simp
    try with_reducible rfl
  try simp only [Act.put, List.setIfInBounds_toArray, List.set_cons_zero, List.set_cons_succ]
  refine wpLast_take (i := 4) (oi := { dst := some 16, op := Op.load 5 (Operand.tmp 15), type := 5, pos := "tree.go:100", after := #[{ on := 3, ground := Ground.data }], guard := none }) (v := ?_) rfl (by kernel_rfl) (by kernel_rfl) (by kernel_rfl) (by kernel_rfl) (fun _ _ _ h => h) (Or.inl ⟨by rfl, ?_⟩) (by assumption) ?_
  rotate_left
  · intro w hSw
    try dsimp only at hSw
    go_simp
    try with_reducible rfl
  try simp only [Act.put, List.setIfInBounds_toArray, List.set_cons_zero, List.set_cons_succ]
  refine wpLast_take (i := 5) (oi := { dst := some 17, op := Op.convert 5 21 (Operand.tmp 16), type := 21, pos := "tree.go:100", after := #[{ on := 4, ground := Ground.data }], guard := none }) (v := ?_) rfl (by kernel_rfl) (by kernel_rfl) (by kernel_rfl) (by kernel_rfl) (fun _ _ _ h => h) (Or.inl ⟨by rfl, ?_⟩) (by assumption) ?_
  rotate_left
  · intro w hSw
    try dsimp only at hSw
    go_simp
    try with_reducible rfl
  try simp only [Act.put, List.setIfInBounds_toArray, List.set_cons_zero, List.set_cons_succ]
  refine wpLast_take (i := 6) (oi := { dst := some 18, op := Op.convert 21 9 (Operand.tmp 17), type := 9, pos := "tree.go:100", after := #[{ on := 5, ground := Ground.data }], guard := none }) (v := ?_) rfl (by kernel_rfl) (by kernel_rfl) (by kernel_rfl) (by kernel_rfl) (fun _ _ _ h => h) (Or.inl ⟨by rfl, ?_⟩) (by assumption) ?_
  rotate_left
  · intro w hSw
    try dsimp only at hSw
    go_simp
    try with_reducible rfl
  try simp only [Act.put, List.setIfInBounds_toArray, List.set_cons_zero, List.set_cons_succ]
  refine wpLast_ready (rs := [2]) (by kernel_rfl) (by simp) ?_
  refine EachLast.cons (o := { dst := some 14, op := Op.call { callee := Callee.value (Operand.func 69), args := #[Operand.tmp 13], argTypes := #[57] }, type := 9, pos := "tree.go:100", after := #[{ on := 1, ground := Ground.data }], guard := none }) rfl (fun K hK => ?_) EachLast.nil
  go_simp
  refine (HC.out w2 HT.out).mono ?_
  rintro e w3 ⟨rfl, hb3⟩
  have hS3 : HdO w.heap.size (.iface 98 pay) (.int .u8 42) w3 := ⟨(hb3.cell (p := ⟨w.heap.size, 0, none⟩) hlt).trans hS0.1, (hb3.cell (p := ⟨w.heap.size, 1, none⟩) hlt).trans hS0.2⟩
  have HB := Lib.hid (HBL.out.trans (hb3.mono (Nat.le_of_lt hlt)))
  refine hK.out _ _ (fun _ => hS3) ?_
  try simp only [Act.put, List.setIfInBounds_toArray, List.set_cons_zero, List.set_cons_succ]
  refine wpLast_ready (rs := [7]) (by kernel_rfl) (by simp) ?_
  refine EachLast.cons (o := { dst := some 19, op := Op.binOp BinOp.add 9 (Operand.tmp 14) (Operand.tmp 18) 9, type := 9, pos := "tree.go:100", after := #[{ on := 2, ground := Ground.data }, { on := 6, ground := Ground.data }], guard := none }) rfl (fun K hK => ?_) EachLast.nil
  go_simp
  refine hK.out _ _ (fun _ => hS3) ?_
  try simp only [Act.put, List.setIfInBounds_toArray, List.set_cons_zero, List.set_cons_succ]
  refine wpLast_ready (rs := [8]) (by kernel_rfl) (by simp) ?_
  refine EachLast.cons (o := { dst := some 2, op := Op.assign (Operand.tmp 19), type := 9, pos := "tree.go:100", after := #[{ on := 7, ground := Ground.data }, { on := 2, ground := Ground.chain }, { on := 0, ground := Ground.phase }, { on := 1, ground := Ground.phase }, { on := 2, ground := Ground.phase }, { on := 3, ground := Ground.phase }, { on := 4, ground := Ground.phase }, { on := 5, ground := Ground.phase }, { on := 6, ground := Ground.phase }, { on := 7, ground := Ground.phase }], guard := none }) rfl (fun K hK => ?_) EachLast.nil
  go_simp
  refine hK.out _ _ (fun h => absurd rfl h) ?_
  try simp only [Act.put, List.setIfInBounds_toArray, List.set_cons_zero, List.set_cons_succ]
  refine wpLast_done (by kernel_rfl) ?_ _
  go_wp2_with fail
  go_ret
  exact ⟨congrArg (fun x => Ending.returned (Value.string x)) hE.out, HB.out⟩
set_option maxRecDepth 100000 in
set_option maxHeartbeats 8000000 in
theorem suffix_seq_43 {t : T} {pay : Value} (hw : WrC t) (hb : bd t ≤ 100000) (hm : isMany t = true) (w : World) (S : Nat → Prop) (h : IsT w S (.iface 98 pay) t) :
    Calls Try.prog 68 #[.agg #[.iface 98 pay, .int .u8 43]] w fun e w' => e = .returned (.string (str (txt (.suf t 43)))) ∧ Below w.heap.size w w' := by
  have ht := txt_bd t
  have hB := Blk.new w 84 #[.iface 98 pay, .int .u8 43]
  have hbl : Below w.heap.size w (w.alloc (.cells #[.iface 98 pay, .int .u8 43] 84)) := bal (Below.refl w.heap.size w) _
  have hh := h.low hbl
  have hz : (str (brk true (txt t))).size ≤ 100010 := by rw [str_size]; have := brk_len true (txt t); omega
  have hE := Lib.hid (show str (brk true (txt t)) ++ ⟨#[43]⟩ = str (txt (.suf t 43)) from by
    show _ ++ str [43] = _
    rw [str_app, txt, hm]
    try rfl)
  have HC := Lib.hid (fun (X : World) (hX : IsT X S (.iface 98 pay) t) => bracketed_any hw hb X S (.iface 98 pay) hX)
  have hS0 : HdO w.heap.size (.iface 98 pay) (.int .u8 43) (w.alloc (.cells #[.iface 98 pay, .int .u8 43] 84)).drew := HdO.of hB.drew
  have HT := Lib.hid (hh.keep (w' := (w.alloc (.cells #[.iface 98 pay, .int .u8 43] 84)).drew) (fun _ h => h) (fun g _ hg => rfl))
  have HBL := Lib.hid hbl.drew
  have hq : (w.alloc (.cells #[.iface 98 pay, .int .u8 43] 84)).cell? ⟨w.heap.size, 0, none⟩ = some (.iface 98 pay) := hB.cell 0
  have hlt : w.heap.size < (w.alloc (.cells #[.iface 98 pay, .int .u8 43] 84)).drew.heap.size := hB.lt
  have hn1 := fun (w : World) (h : 98 ≠ 98) => as_seq_no 98 pay w h
  have hn2 := fun (w : World) (h : 98 ≠ 99) => as_alt_no 98 pay w h
  have hu : Utf8.encode (IntKind.i32.wrap 43) = (⟨#[43]⟩ : ByteArray) := by kernel_rfl
  clear hw h hB hbl hh hm
  generalize str (brk true (txt t)) = z at *
  have hz2 : ¬ 9223372036854775807 < z.size + 1 := by omega
  go_enter Try.func68, Try.ntmps68
  go_wp2_with fail
  refine wp_region_last 8 (fun w' => HdO w.heap.size (.iface 98 pay) (.int .u8 43) w') mixed ?_
  generalize (w.alloc (.cells #[.iface 98 pay, .int .u8 43] 84)).drew = w2 at *
  refine wpLast_take (i := 0) (oi := { dst := some 12, op := Op.fieldAddr 84 (Operand.tmp 1) 0, type := 0, pos := "tree.go:100", after := #[], guard := none }) (v := ?_) rfl (by kernel_rfl) (by kernel_rfl) (by kernel_rfl) (by kernel_rfl) (fun _ _ _ h => h) (Or.inl ⟨by rfl, ?_⟩) (by assumption) ?_
  rotate_left
  · intro w hSw
    try dsimp only at hSw
    go_simp
    try with_reducible rfl
  try simp only [Act.put, List.setIfInBounds_toArray, List.set_cons_zero, List.set_cons_succ]
  refine wpLast_take (i := 1) (oi := { dst := some 13, op := Op.load 57 (Operand.tmp 12), type := 57, pos := "tree.go:100", after := #[{ on := 0, ground := Ground.data }], guard := none }) (v := ?_) rfl (by kernel_rfl) (by kernel_rfl) (by kernel_rfl) (by kernel_rfl) (fun _ _ _ h => h) (Or.inl ⟨by rfl, ?_⟩) (by assumption) ?_
  rotate_left
  · intro w hSw
    try dsimp only at hSw
    go_simp
    try with_reducible rfl
  try simp only [Act.put, List.setIfInBounds_toArray, List.set_cons_zero, List.set_cons_succ]
  refine wpLast_take (i := 3) (oi := { dst := some 15, op := Op.fieldAddr 84 (Operand.tmp 1) 1, type := 0, pos := "tree.go:100", after := #[], guard := none }) (v := ?_) rfl (by kernel_rfl) (by kernel_rfl) (by kernel_rfl) (by kernel_rfl) (fun _ _ _ h => h) (Or.inl ⟨by rfl, ?_⟩) (by assumption) ?_
  rotate_left
  · intro w hSw
    try dsimp only at hSw
    go_simp
    try with_reducible rfl
  try simp only [Act.put, List.setIfInBounds_toArray, List.set_cons_zero, List.set_cons_succ]
  refine wpLast_take (i := 4) (oi := { dst := some 16, op := Op.load 5 (Operand.tmp 15), type := 5, pos := "tree.go:100", after := #[{ on := 3, ground := Ground.data }], guard := none }) (v := ?_) rfl (by kernel_rfl) (by kernel_rfl) (by kernel_rfl) (by kernel_rfl) (fun _ _ _ h => h) (Or.inl ⟨by rfl, ?_⟩) (by assumption) ?_
  rotate_left
  · intro w hSw
    try dsimp only at hSw
    go_simp
    try with_reducible rfl
  try simp only [Act.put, List.setIfInBounds_toArray, List.set_cons_zero, List.set_cons_succ]
  refine wpLast_take (i := 5) (oi := { dst := some 17, op := Op.convert 5 21 (Operand.tmp 16), type := 21, pos := "tree.go:100", after := #[{ on := 4, ground := Ground.data }], guard := none }) (v := ?_) rfl (by kernel_rfl) (by kernel_rfl) (by kernel_rfl) (by kernel_rfl) (fun _ _ _ h => h) (Or.inl ⟨by rfl, ?_⟩) (by assumption) ?_
  rotate_left
  · intro w hSw
    try dsimp only at hSw
    go_simp
    try with_reducible rfl
  try simp only [Act.put, List.setIfInBounds_toArray, List.set_cons_zero, List.set_cons_succ]
  refine wpLast_take (i := 6) (oi := { dst := some 18, op := Op.convert 21 9 (Operand.tmp 17), type := 9, pos := "tree.go:100", after := #[{ on := 5, ground := Ground.data }], guard := none }) (v := ?_) rfl (by kernel_rfl) (by kernel_rfl) (by kernel_rfl) (by kernel_rfl) (fun _ _ _ h => h) (Or.inl ⟨by rfl, ?_⟩) (by assumption) ?_
  rotate_left
  · intro w hSw
    try dsimp only at hSw
    go_simp
    try with_reducible rfl
  try simp only [Act.put, List.setIfInBounds_toArray, List.set_cons_zero, List.set_cons_succ]
  refine wpLast_ready (rs := [2]) (by kernel_rfl) (by simp) ?_
  refine EachLast.cons (o := { dst := some 14, op := Op.call { callee := Callee.value (Operand.func 69), args := #[Operand.tmp 13], argTypes := #[57] }, type := 9, pos := "tree.go:100", after := #[{ on := 1, ground := Ground.data }], guard := none }) rfl (fun K hK => ?_) EachLast.nil
  go_simp
  refine (HC.out w2 HT.out).mono ?_
  rintro e w3 ⟨rfl, hb3⟩
  have hS3 : HdO w.heap.size (.iface 98 pay) (.int .u8 43) w3 := ⟨(hb3.cell (p := ⟨w.heap.size, 0, none⟩) hlt).trans hS0.1, (hb3.cell (p := ⟨w.heap.size, 1, none⟩) hlt).trans hS0.2⟩
  have HB := Lib.hid (HBL.out.trans (hb3.mono (Nat.le_of_lt hlt)))
  refine hK.out _ _ (fun _ => hS3) ?_
  try simp only [Act.put, List.setIfInBounds_toArray, List.set_cons_zero, List.set_cons_succ]
  refine wpLast_ready (rs := [7]) (by kernel_rfl) (by simp) ?_
  refine EachLast.cons (o := { dst := some 19, op := Op.binOp BinOp.add 9 (Operand.tmp 14) (Operand.tmp 18) 9, type := 9, pos := "tree.go:100", after := #[{ on := 2, ground := Ground.data }, { on := 6, ground := Ground.data }], guard := none }) rfl (fun K hK => ?_) EachLast.nil
  go_simp
  refine hK.out _ _ (fun _ => hS3) ?_
  try simp only [Act.put, List.setIfInBounds_toArray, List.set_cons_zero, List.set_cons_succ]
  refine wpLast_ready (rs := [8]) (by kernel_rfl) (by simp) ?_
  refine EachLast.cons (o := { dst := some 2, op := Op.assign (Operand.tmp 19), type := 9, pos := "tree.go:100", after := #[{ on := 7, ground := Ground.data }, { on := 2, ground := Ground.chain }, { on := 0, ground := Ground.phase }, { on := 1, ground := Ground.phase }, { on := 2, ground := Ground.phase }, { on := 3, ground := Ground.phase }, { on := 4, ground := Ground.phase }, { on := 5, ground := Ground.phase }, { on := 6, ground := Ground.phase }, { on := 7, ground := Ground.phase }], guard := none }) rfl (fun K hK => ?_) EachLast.nil
  go_simp
  refine hK.out _ _ (fun h => absurd rfl h) ?_
  try simp only [Act.put, List.setIfInBounds_toArray, List.set_cons_zero, List.set_cons_succ]
  refine wpLast_done (by kernel_rfl) ?_ _
  go_wp2_with fail
  go_ret
  exact ⟨congrArg (fun x => Ending.returned (Value.string x)) hE.out, HB.out⟩
set_option maxRecDepth 100000 in
set_option maxHeartbeats 8000000 in
theorem suffix_seq_63 {t : T} {pay : Value} (hw : WrC t) (hb : bd t ≤ 100000) (hm : isMany t = true) (w : World) (S : Nat → Prop) (h : IsT w S (.iface 98 pay) t) :
    Calls Try.prog 68 #[.agg #[.iface 98 pay, .int .u8 63]] w fun e w' => e = .returned (.string (str (txt (.suf t 63)))) ∧ Below w.heap.size w w' := by
  have ht := txt_bd t
  have hB := Blk.new w 84 #[.iface 98 pay, .int .u8 63]
  have hbl : Below w.heap.size w (w.alloc (.cells #[.iface 98 pay, .int .u8 63] 84)) := bal (Below.refl w.heap.size w) _
  have hh := h.low hbl
  have hz : (str (brk true (txt t))).size ≤ 100010 := by rw [str_size]; have := brk_len true (txt t); omega
  have hE := Lib.hid (show str (brk true (txt t)) ++ ⟨#[63]⟩ = str (txt (.suf t 63)) from by
    show _ ++ str [63] = _
    rw [str_app, txt, hm]
    try rfl)
  have HC := Lib.hid (fun (X : World) (hX : IsT X S (.iface 98 pay) t) => bracketed_any hw hb X S (.iface 98 pay) hX)
  have hS0 : HdO w.heap.size (.iface 98 pay) (.int .u8 63) (w.alloc (.cells #[.iface 98 pay, .int .u8 63] 84)).drew := HdO.of hB.drew
  have HT := Lib.hid (hh.keep (w' := (w.alloc (.cells #[.iface 98 pay, .int .u8 63] 84)).drew) (fun _ h => h) (fun g _ hg => rfl))
  have HBL := Lib.hid hbl.drew
  have hq : (w.alloc (.cells #[.iface 98 pay, .int .u8 63] 84)).cell? ⟨w.heap.size, 0, none⟩ = some (.iface 98 pay) := hB.cell 0
  have hlt : w.heap.size < (w.alloc (.cells #[.iface 98 pay, .int .u8 63] 84)).drew.heap.size := hB.lt
  have hn1 := fun (w : World) (h : 98 ≠ 98) => as_seq_no 98 pay w h
  have hn2 := fun (w : World) (h : 98 ≠ 99) => as_alt_no 98 pay w h
  have hu : Utf8.encode (IntKind.i32.wrap 63) = (⟨#[63]⟩ : ByteArray) := by kernel_rfl
  clear hw h hB hbl hh hm
  generalize str (brk true (txt t)) = z at *
  have hz2 : ¬ 9223372036854775807 < z.size + 1 := by omega
  go_enter Try.func68, Try.ntmps68
  go_wp2_with fail
  refine wp_region_last 8 (fun w' => HdO w.heap.size (.iface 98 pay) (.int .u8 63) w') mixed ?_
  generalize (w.alloc (.cells #[.iface 98 pay, .int .u8 63] 84)).drew = w2 at *
  refine wpLast_take (i := 0) (oi := { dst := some 12, op := Op.fieldAddr 84 (Operand.tmp 1) 0, type := 0, pos := "tree.go:100", after := #[], guard := none }) (v := ?_) rfl (by kernel_rfl) (by kernel_rfl) (by kernel_rfl) (by kernel_rfl) (fun _ _ _ h => h) (Or.inl ⟨by rfl, ?_⟩) (by assumption) ?_
  rotate_left
  · intro w hSw
    try dsimp only at hSw
    go_simp
    try with_reducible rfl
  try simp only [Act.put, List.setIfInBounds_toArray, List.set_cons_zero, List.set_cons_succ]
  refine wpLast_take (i := 1) (oi := { dst := some 13, op := Op.load 57 (Operand.tmp 12), type := 57, pos := "tree.go:100", after := #[{ on := 0, ground := Ground.data }], guard := none }) (v := ?_) rfl (by kernel_rfl) (by kernel_rfl) (by kernel_rfl) (by kernel_rfl) (fun _ _ _ h => h) (Or.inl ⟨by rfl, ?_⟩) (by assumption) ?_
  rotate_left
  · intro w hSw
    try dsimp only at hSw
    go_simp
    try with_reducible rfl
  try simp only [Act.put, List.setIfInBounds_toArray, List.set_cons_zero, List.set_cons_succ]
  refine wpLast_take (i := 3) (oi := { dst := some 15, op := Op.fieldAddr 84 (Operand.tmp 1) 1, type := 0, pos := "tree.go:100", after := #[], guard := none }) (v := ?_) rfl (by kernel_rfl) (by kernel_rfl) (by kernel_rfl) (by kernel_rfl) (fun _ _ _ h => h) (Or.inl ⟨by rfl, ?_⟩) (by assumption) ?_
  rotate_left
  · intro w hSw
    try dsimp only at hSw
    go_simp
    try with_reducible rfl
  try simp only [Act.put, List.setIfInBounds_toArray, List.set_cons_zero, List.set_cons_succ]
  refine wpLast_take (i := 4) (oi := { dst := some 16, op := Op.load 5 (Operand.tmp 15), type := 5, pos := "tree.go:100", after := #[{ on := 3, ground := Ground.data }], guard := none }) (v := ?_) rfl (by kernel_rfl) (by kernel_rfl) (by kernel_rfl) (by kernel_rfl) (fun _ _ _ h => h) (Or.inl ⟨by rfl, ?_⟩) (by assumption) ?_
  rotate_left
  · intro w hSw
    try dsimp only at hSw
    go_simp
    try with_reducible rfl
  try simp only [Act.put, List.setIfInBounds_toArray, List.set_cons_zero, List.set_cons_succ]
  refine wpLast_take (i := 5) (oi := { dst := some 17, op := Op.convert 5 21 (Operand.tmp 16), type := 21, pos := "tree.go:100", after := #[{ on := 4, ground := Ground.data }], guard := none }) (v := ?_) rfl (by kernel_rfl) (by kernel_rfl) (by kernel_rfl) (by kernel_rfl) (fun _ _ _ h => h) (Or.inl ⟨by rfl, ?_⟩) (by assumption) ?_
  rotate_left
  · intro w hSw
    try dsimp only at hSw
    go_simp
    try with_reducible rfl
  try simp only [Act.put, List.setIfInBounds_toArray, List.set_cons_zero, List.set_cons_succ]
  refine wpLast_take (i := 6) (oi := { dst := some 18, op := Op.convert 21 9 (Operand.tmp 17), type := 9, pos := "tree.go:100", after := #[{ on := 5, ground := Ground.data }], guard := none }) (v := ?_) rfl (by kernel_rfl) (by kernel_rfl) (by kernel_rfl) (by kernel_rfl) (fun _ _ _ h => h) (Or.inl ⟨by rfl, ?_⟩) (by assumption) ?_
  rotate_left
  · intro w hSw
    try dsimp only at hSw
    go_simp
    try with_reducible rfl
  try simp only [Act.put, List.setIfInBounds_toArray, List.set_cons_zero, List.set_cons_succ]
  refine wpLast_ready (rs := [2]) (by kernel_rfl) (by simp) ?_
  refine EachLast.cons (o := { dst := some 14, op := Op.call { callee := Callee.value (Operand.func 69), args := #[Operand.tmp 13], argTypes := #[57] }, type := 9, pos := "tree.go:100", after := #[{ on := 1, ground := Ground.data }], guard := none }) rfl (fun K hK => ?_) EachLast.nil
  go_simp
  refine (HC.out w2 HT.out).mono ?_
  rintro e w3 ⟨rfl, hb3⟩
  have hS3 : HdO w.heap.size (.iface 98 pay) (.int .u8 63) w3 := ⟨(hb3.cell (p := ⟨w.heap.size, 0, none⟩) hlt).trans hS0.1, (hb3.cell (p := ⟨w.heap.size, 1, none⟩) hlt).trans hS0.2⟩
  have HB := Lib.hid (HBL.out.trans (hb3.mono (Nat.le_of_lt hlt)))
  refine hK.out _ _ (fun _ => hS3) ?_
  try simp only [Act.put, List.setIfInBounds_toArray, List.set_cons_zero, List.set_cons_succ]
  refine wpLast_ready (rs := [7]) (by kernel_rfl) (by simp) ?_
  refine EachLast.cons (o := { dst := some 19, op := Op.binOp BinOp.add 9 (Operand.tmp 14) (Operand.tmp 18) 9, type := 9, pos := "tree.go:100", after := #[{ on := 2, ground := Ground.data }, { on := 6, ground := Ground.data }], guard := none }) rfl (fun K hK => ?_) EachLast.nil
  go_simp
  refine hK.out _ _ (fun _ => hS3) ?_
  try simp only [Act.put, List.setIfInBounds_toArray, List.set_cons_zero, List.set_cons_succ]
  refine wpLast_ready (rs := [8]) (by kernel_rfl) (by simp) ?_
  refine EachLast.cons (o := { dst := some 2, op := Op.assign (Operand.tmp 19), type := 9, pos := "tree.go:100", after := #[{ on := 7, ground := Ground.data }, { on := 2, ground := Ground.chain }, { on := 0, ground := Ground.phase }, { on := 1, ground := Ground.phase }, { on := 2, ground := Ground.phase }, { on := 3, ground := Ground.phase }, { on := 4, ground := Ground.phase }, { on := 5, ground := Ground.phase }, { on := 6, ground := Ground.phase }, { on := 7, ground := Ground.phase }], guard := none }) rfl (fun K hK => ?_) EachLast.nil
  go_simp
  refine hK.out _ _ (fun h => absurd rfl h) ?_
  try simp only [Act.put, List.setIfInBounds_toArray, List.set_cons_zero, List.set_cons_succ]
  refine wpLast_done (by kernel_rfl) ?_ _
  go_wp2_with fail
  go_ret
  exact ⟨congrArg (fun x => Ending.returned (Value.string x)) hE.out, HB.out⟩
set_option maxRecDepth 100000 in
set_option maxHeartbeats 8000000 in
theorem suffix_alt_42 {t : T} {pay : Value} (hw : WrC t) (hb : bd t ≤ 100000) (hm : isMany t = true) (w : World) (S : Nat → Prop) (h : IsT w S (.iface 99 pay) t) :
    Calls Try.prog 68 #[.agg #[.iface 99 pay, .int .u8 42]] w fun e w' => e = .returned (.string (str (txt (.suf t 42)))) ∧ Below w.heap.size w w' := by
  have ht := txt_bd t
  have hB := Blk.new w 84 #[.iface 99 pay, .int .u8 42]
  have hbl : Below w.heap.size w (w.alloc (.cells #[.iface 99 pay, .int .u8 42] 84)) := bal (Below.refl w.heap.size w) _
  have hh := h.low hbl
  have hz : (str (brk true (txt t))).size ≤ 100010 := by rw [str_size]; have := brk_len true (txt t); omega
  have hE := Lib.hid (show str (brk true (txt t)) ++ ⟨#[42]⟩ = str (txt (.suf t 42)) from by
    show _ ++ str [42] = _
    rw [str_app, txt, hm]
    try rfl)
  have HC := Lib.hid (fun (X : World) (hX : IsT X S (.iface 99 pay) t) => bracketed_any hw hb X S (.iface 99 pay) hX)
  have hS0 : HdO w.heap.size (.iface 99 pay) (.int .u8 42) (w.alloc (.cells #[.iface 99 pay, .int .u8 42] 84)).drew := HdO.of hB.drew
  have HT := Lib.hid (hh.keep (w' := (w.alloc (.cells #[.iface 99 pay, .int .u8 42] 84)).drew) (fun _ h => h) (fun g _ hg => rfl))
  have HBL := Lib.hid hbl.drew
  have hq : (w.alloc (.cells #[.iface 99 pay, .int .u8 42] 84)).cell? ⟨w.heap.size, 0, none⟩ = some (.iface 99 pay) := hB.cell 0
  have hlt : w.heap.size < (w.alloc (.cells #[.iface 99 pay, .int .u8 42] 84)).drew.heap.size := hB.lt
  have hn1 := fun (w : World) (h : 99 ≠ 98) => as_seq_no 99 pay w h
  have hn2 := fun (w : World) (h : 99 ≠ 99) => as_alt_no 99 pay w h
  have hu : Utf8.encode (IntKind.i32.wrap 42) = (⟨#[42]⟩ : ByteArray) := by kernel_rfl
  clear hw h hB hbl hh hm
  generalize str (brk true (txt t)) = z at *
  have hz2 : ¬ 9223372036854775807 < z.size + 1 := by omega
  go_enter Try.func68, Try.ntmps68
  go_wp2_with fail
  refine wp_region_last 8 (fun w' => HdO w.heap.size (.iface 99 pay) (.int .u8 42) w') mixed ?_
  generalize (w.alloc (.cells #[.iface 99 pay, .int .u8 42] 84)).drew = w2 at *
  refine wpLast_take (i := 0) (oi := { dst := some 12, op := Op.fieldAddr 84 (Operand.tmp 1) 0, type := 0, pos := "tree.go:100", after := #[], guard := none }) (v := ?_) rfl (by kernel_rfl) (by kernel_rfl) (by kernel_rfl) (by kernel_rfl) (fun _ _ _ h => h) (Or.inl ⟨by rfl, ?_⟩) (by assumption) ?_
  rotate_left
  · intro w hSw
    try dsimp only at hSw
    go_simp
    try with_reducible rfl
  try simp only [Act.put, List.setIfInBounds_toArray, List.set_cons_zero, List.set_cons_succ]
  refine wpLast_take (i := 1) (oi := { dst := some 13, op := Op.load 57 (Operand.tmp 12), type := 57, pos := "tree.go:100", after := #[{ on := 0, ground := Ground.data }], guard := none }) (v := ?_) rfl (by kernel_rfl) (by kernel_rfl) (by kernel_rfl) (by kernel_rfl) (fun _ _ _ h => h) (Or.inl ⟨by rfl, ?_⟩) (by assumption) ?_
  rotate_left
  · intro w hSw
    try dsimp only at hSw
    go_simp
    try with_reducible rfl
  try simp only [Act.put, List.setIfInBounds_toArray, List.set_cons_zero, List.set_cons_succ]
  refine wpLast_take (i := 3) (oi := { dst := some 15, op := Op.fieldAddr 84 (Operand.tmp 1) 1, type := 0, pos := "tree.go:100", after := #[], guard := none }) (v := ?_) rfl (by kernel_rfl) (by kernel_rfl) (by kernel_rfl) (by kernel_rfl) (fun _ _ _ h => h) (Or.inl ⟨by rfl, ?_⟩) (by assumption) ?_
  rotate_left
  · intro w hSw
    try dsimp only at hSw
    go_simp
    try with_reducible rfl
  try simp only [Act.put, List.setIfInBounds_toArray, List.set_cons_zero, List.set_cons_succ]
  refine wpLast_take (i := 4) (oi := { dst := some 16, op := Op.load 5 (Operand.tmp 15), type := 5, pos := "tree.go:100", after := #[{ on := 3, ground := Ground.data }], guard := none }) (v := ?_) rfl (by kernel_rfl) (by kernel_rfl) (by kernel_rfl) (by kernel_rfl) (fun _ _ _ h => h) (Or.inl ⟨by rfl, ?_⟩) (by assumption) ?_
  rotate_left
  · intro w hSw
    try dsimp only at hSw
    go_simp
    try with_reducible rfl
  try simp only [Act.put, List.setIfInBounds_toArray, List.set_cons_zero, List.set_cons_succ]
  refine wpLast_take (i := 5) (oi := { dst := some 17, op := Op.convert 5 21 (Operand.tmp 16), type := 21, pos := "tree.go:100", after := #[{ on := 4, ground := Ground.data }], guard := none }) (v := ?_) rfl (by kernel_rfl) (by kernel_rfl) (by kernel_rfl) (by kernel_rfl) (fun _ _ _ h => h) (Or.inl ⟨by rfl, ?_⟩) (by assumption) ?_
  rotate_left
  · intro w hSw
    try dsimp only at hSw
    go_simp
    try with_reducible rfl
  try simp only [Act.put, List.setIfInBounds_toArray, List.set_cons_zero, List.set_cons_succ]
  refine wpLast_take (i := 6) (oi := { dst := some 18, op := Op.convert 21 9 (Operand.tmp 17), type := 9, pos := "tree.go:100", after := #[{ on := 5, ground := Ground.data }], guard := none }) (v := ?_) rfl (by kernel_rfl) (by kernel_rfl) (by kernel_rfl) (by kernel_rfl) (fun _ _ _ h => h) (Or.inl ⟨by rfl, ?_⟩) (by assumption) ?_
  rotate_left
  · intro w hSw
    try dsimp only at hSw
    go_simp
    try with_reducible rfl
  try simp only [Act.put, List.setIfInBounds_toArray, List.set_cons_zero, List.set_cons_succ]
  refine wpLast_ready (rs := [2]) (by kernel_rfl) (by simp) ?_
  refine EachLast.cons (o := { dst := some 14, op := Op.call { callee := Callee.value (Operand.func 69), args := #[Operand.tmp 13], argTypes := #[57] }, type := 9, pos := "tree.go:100", after := #[{ on := 1, ground := Ground.data }], guard := none }) rfl (fun K hK => ?_) EachLast.nil
  go_simp
  refine (HC.out w2 HT.out).mono ?_
  rintro e w3 ⟨rfl, hb3⟩
  have hS3 : HdO w.heap.size (.iface 99 pay) (.int .u8 42) w3 := ⟨(hb3.cell (p := ⟨w.heap.size, 0, none⟩) hlt).trans hS0.1, (hb3.cell (p := ⟨w.heap.size, 1, none⟩) hlt).trans hS0.2⟩
  have HB := Lib.hid (HBL.out.trans (hb3.mono (Nat.le_of_lt hlt)))
  refine hK.out _ _ (fun _ => hS3) ?_
  try simp only [Act.put, List.setIfInBounds_toArray, List.set_cons_zero, List.set_cons_succ]
  refine wpLast_ready (rs := [7]) (by kernel_rfl) (by simp) ?_
  refine EachLast.cons (o := { dst := some 19, op := Op.binOp BinOp.add 9 (Operand.tmp 14) (Operand.tmp 18) 9, type := 9, pos := "tree.go:100", after := #[{ on := 2, ground := Ground.data }, { on := 6, ground := Ground.data }], guard := none }) rfl (fun K hK => ?_) EachLast.nil
  go_simp
  refine hK.out _ _ (fun _ => hS3) ?_
  try simp only [Act.put, List.setIfInBounds_toArray, List.set_cons_zero, List.set_cons_succ]
  refine wpLast_ready (rs := [8]) (by kernel_rfl) (by simp) ?_
  refine EachLast.cons (o := { dst := some 2, op := Op.assign (Operand.tmp 19), type := 9, pos := "tree.go:100", after := #[{ on := 7, ground := Ground.data }, { on := 2, ground := Ground.chain }, { on := 0, ground := Ground.phase }, { on := 1, ground := Ground.phase }, { on := 2, ground := Ground.phase }, { on := 3, ground := Ground.phase }, { on := 4, ground := Ground.phase }, { on := 5, ground := Ground.phase }, { on := 6, ground := Ground.phase }, { on := 7, ground := Ground.phase }], guard := none }) rfl (fun K hK => ?_) EachLast.nil
  go_simp
  refine hK.out _ _ (fun h => absurd rfl h) ?_
  try simp only [Act.put, List.setIfInBounds_toArray, List.set_cons_zero, List.set_cons_succ]
  refine wpLast_done (by kernel_rfl) ?_ _
  go_wp2_with fail
  go_ret
  exact ⟨congrArg (fun x => Ending.returned (Value.string x)) hE.out, HB.out⟩
set_option maxRecDepth 100000 in
set_option maxHeartbeats 8000000 in
theorem suffix_alt_43 {t : T} {pay : Value} (hw : WrC t) (hb : bd t ≤ 100000) (hm : isMany t = true) (w : World) (S : Nat → Prop) (h : IsT w S (.iface 99 pay) t) :
    Calls Try.prog 68 #[.agg #[.iface 99 pay, .int .u8 43]] w fun e w' => e = .returned (.string (str (txt (.suf t 43)))) ∧ Below w.heap.size w w' := by
  have ht := txt_bd t
  have hB := Blk.new w 84 #[.iface 99 pay, .int .u8 43]
  have hbl : Below w.heap.size w (w.alloc (.cells #[.iface 99 pay, .int .u8 43] 84)) := bal (Below.refl w.heap.size w) _
  have hh := h.low hbl
  have hz : (str (brk true (txt t))).size ≤ 100010 := by rw [str_size]; have := brk_len true (txt t); omega
  have hE := Lib.hid (show str (brk true (txt t)) ++ ⟨#[43]⟩ = str (txt (.suf t 43)) from by
    show _ ++ str [43] = _
    rw [str_app, txt, hm]
    try rfl)
  have HC := Lib.hid (fun (X : World) (hX : IsT X S (.iface 99 pay) t) => bracketed_any hw hb X S (.iface 99 pay) hX)
  have hS0 : HdO w.heap.size (.iface 99 pay) (.int .u8 43) (w.alloc (.cells #[.iface 99 pay, .int .u8 43] 84)).drew := HdO.of hB.drew
  have HT := Lib.hid (hh.keep (w' := (w.alloc (.cells #[.iface 99 pay, .int .u8 43] 84)).drew) (fun _ h => h) (fun g _ hg => rfl))
  have HBL := Lib.hid hbl.drew
  have hq : (w.alloc (.cells #[.iface 99 pay, .int .u8 43] 84)).cell? ⟨w.heap.size, 0, none⟩ = some (.iface 99 pay) := hB.cell 0
  have hlt : w.heap.size < (w.alloc (.cells #[.iface 99 pay, .int .u8 43] 84)).drew.heap.size := hB.lt
  have hn1 := fun (w : World) (h : 99 ≠ 98) => as_seq_no 99 pay w h
  have hn2 := fun (w : World) (h : 99 ≠ 99) => as_alt_no 99 pay w h
  have hu : Utf8.encode (IntKind.i32.wrap 43) = (⟨#[43]⟩ : ByteArray) := by kernel_rfl
  clear hw h hB hbl hh hm
  generalize str (brk true (txt t)) = z at *
  have hz2 : ¬ 9223372036854775807 < z.size + 1 := by omega
  go_enter Try.func68, Try.ntmps68
  go_wp2_with fail
  refine wp_region_last 8 (fun w' => HdO w.heap.size (.iface 99 pay) (.int .u8 43) w') mixed ?_
  generalize (w.alloc (.cells #[.iface 99 pay, .int .u8 43] 84)).drew = w2 at *
  refine wpLast_take (i := 0) (oi := { dst := some 12, op := Op.fieldAddr 84 (Operand.tmp 1) 0, type := 0, pos := "tree.go:100", after := #[], guard := none }) (v := ?_) rfl (by kernel_rfl) (by kernel_rfl) (by kernel_rfl) (by kernel_rfl) (fun _ _ _ h => h) (Or.inl ⟨by rfl, ?_⟩) (by assumption) ?_
  rotate_left
  · intro w hSw
    try dsimp only at hSw
    go_simp
    try with_reducible rfl
  try simp only [Act.put, List.setIfInBounds_toArray, List.set_cons_zero, List.set_cons_succ]
  refine wpLast_take (i := 1) (oi := { dst := some 13, op := Op.load 57 (Operand.tmp 12), type := 57, pos := "tree.go:100", after := #[{ on := 0, ground := Ground.data }], guard := none }) (v := ?_) rfl (by kernel_rfl) (by kernel_rfl) (by kernel_rfl) (by kernel_rfl) (fun _ _ _ h => h) (Or.inl ⟨by rfl, ?_⟩) (by assumption) ?_
  rotate_left
  · intro w hSw
    try dsimp only at hSw
    go_simp
    try with_reducible rfl
  try simp only [Act.put, List.setIfInBounds_toArray, List.set_cons_zero, List.set_cons_succ]
  refine wpLast_take (i := 3) (oi := { dst := some 15, op := Op.fieldAddr 84 (Operand.tmp 1) 1, type := 0, pos := "tree.go:100", after := #[], guard := none }) (v := ?_) rfl (by kernel_rfl) (by kernel_rfl) (by kernel_rfl) (by kernel_rfl) (fun _ _ _ h => h) (Or.inl ⟨by rfl, ?_⟩) (by assumption) ?_
  rotate_left
  · intro w hSw
    try dsimp only at hSw
    go_simp
    try with_reducible rfl
  try simp only [Act.put, List.setIfInBounds_toArray, List.set_cons_zero, List.set_cons_succ]
  refine wpLast_take (i := 4) (oi := { dst := some 16, op := Op.load 5 (Operand.tmp 15), type := 5, pos := "tree.go:100", after := #[{ on := 3, ground := Ground.data }], guard := none }) (v := ?_) rfl (by kernel_rfl) (by kernel_rfl) (by kernel_rfl) (by kernel_rfl) (fun _ _ _ h => h) (Or.inl ⟨by rfl, ?_⟩) (by assumption) ?_
  rotate_left
  · intro w hSw
    try dsimp only at hSw
    go_simp
    try with_reducible rfl
  try simp only [Act.put, List.setIfInBounds_toArray, List.set_cons_zero, List.set_cons_succ]
  refine wpLast_take (i := 5) (oi := { dst := some 17, op := Op.convert 5 21 (Operand.tmp 16), type := 21, pos := "tree.go:100", after := #[{ on := 4, ground := Ground.data }], guard := none }) (v := ?_) rfl (by kernel_rfl) (by kernel_rfl) (by kernel_rfl) (by kernel_rfl) (fun _ _ _ h => h) (Or.inl ⟨by rfl, ?_⟩) (by assumption) ?_
  rotate_left
  · intro w hSw
    try dsimp only at hSw
    go_simp
    try with_reducible rfl
  try simp only [Act.put, List.setIfInBounds_toArray, List.set_cons_zero, List.set_cons_succ]
  refine wpLast_take (i := 6) (oi := { dst := some 18, op := Op.convert 21 9 (Operand.tmp 17), type := 9, pos := "tree.go:100", after := #[{ on := 5, ground := Ground.data }], guard := none }) (v := ?_) rfl (by kernel_rfl) (by kernel_rfl) (by kernel_rfl) (by kernel_rfl) (fun _ _ _ h => h) (Or.inl ⟨by rfl, ?_⟩) (by assumption) ?_
  rotate_left
  · intro w hSw
    try dsimp only at hSw
    go_simp
    try with_reducible rfl
  try simp only [Act.put, List.setIfInBounds_toArray, List.set_cons_zero, List.set_cons_succ]
  refine wpLast_ready (rs := [2]) (by kernel_rfl) (by simp) ?_
  refine EachLast.cons (o := { dst := some 14, op := Op.call { callee := Callee.value (Operand.func 69), args := #[Operand.tmp 13], argTypes := #[57] }, type := 9, pos := "tree.go:100", after := #[{ on := 1, ground := Ground.data }], guard := none }) rfl (fun K hK => ?_) EachLast.nil
  go_simp
  refine (HC.out w2 HT.out).mono ?_
  rintro e w3 ⟨rfl, hb3⟩
  have hS3 : HdO w.heap.size (.iface 99 pay) (.int .u8 43) w3 := ⟨(hb3.cell (p := ⟨w.heap.size, 0, none⟩) hlt).trans hS0.1, (hb3.cell (p := ⟨w.heap.size, 1, none⟩) hlt).trans hS0.2⟩
  have HB := Lib.hid (HBL.out.trans (hb3.mono (Nat.le_of_lt hlt)))
  refine hK.out _ _ (fun _ => hS3) ?_
  try simp only [Act.put, List.setIfInBounds_toArray, List.set_cons_zero, List.set_cons_succ]
  refine wpLast_ready (rs := [7]) (by kernel_rfl) (by simp) ?_
  refine EachLast.cons (o := { dst := some 19, op := Op.binOp BinOp.add 9 (Operand.tmp 14) (Operand.tmp 18) 9, type := 9, pos := "tree.go:100", after := #[{ on := 2, ground := Ground.data }, { on := 6, ground := Ground.data }], guard := none }) rfl (fun K hK => ?_) EachLast.nil
  go_simp
  refine hK.out _ _ (fun _ => hS3) ?_
  try simp only [Act.put, List.setIfInBounds_toArray, List.set_cons_zero, List.set_cons_succ]
  refine wpLast_ready (rs := [8]) (by kernel_rfl) (by simp) ?_
  refine EachLast.cons (o := { dst := some 2, op := Op.assign (Operand.tmp 19), type := 9, pos := "tree.go:100", after := #[{ on := 7, ground := Ground.data }, { on := 2, ground := Ground.chain }, { on := 0, ground := Ground.phase }, { on := 1, ground := Ground.phase }, { on := 2, ground := Ground.phase }, { on := 3, ground := Ground.phase }, { on := 4, ground := Ground.phase }, { on := 5, ground := Ground.phase }, { on := 6, ground := Ground.phase }, { on := 7, ground := Ground.phase }], guard := none }) rfl (fun K hK => ?_) EachLast.nil
  go_simp
  refine hK.out _ _ (fun h => absurd rfl h) ?_
  try simp only [Act.put, List.setIfInBounds_toArray, List.set_cons_zero, List.set_cons_succ]
  refine wpLast_done (by kernel_rfl) ?_ _
  go_wp2_with fail
  go_ret
  exact ⟨congrArg (fun x => Ending.returned (Value.string x)) hE.out, HB.out⟩
set_option maxRecDepth 100000 in
set_option maxHeartbeats 8000000 in
theorem suffix_alt_63 {t : T} {pay : Value} (hw : WrC t) (hb : bd t ≤ 100000) (hm : isMany t = true) (w : World) (S : Nat → Prop) (h : IsT w S (.iface 99 pay) t) :
    Calls Try.prog 68 #[.agg #[.iface 99 pay, .int .u8 63]] w fun e w' => e = .returned (.string (str (txt (.suf t 63)))) ∧ Below w.heap.size w w' := by
  have ht := txt_bd t
  have hB := Blk.new w 84 #[.iface 99 pay, .int .u8 63]
  have hbl : Below w.heap.size w (w.alloc (.cells #[.iface 99 pay, .int .u8 63] 84)) := bal (Below.refl w.heap.size w) _
  have hh := h.low hbl
  have hz : (str (brk true (txt t))).size ≤ 100010 := by rw [str_size]; have := brk_len true (txt t); omega
  have hE := Lib.hid (show str (brk true (txt t)) ++ ⟨#[63]⟩ = str (txt (.suf t 63)) from by
    show _ ++ str [63] = _
    rw [str_app, txt, hm]
    try rfl)
  have HC := Lib.hid (fun (X : World) (hX : IsT X S (.iface 99 pay) t) => bracketed_any hw hb X S (.iface 99 pay) hX)
  have hS0 : HdO w.heap.size (.iface 99 pay) (.int .u8 63) (w.alloc (.cells #[.iface 99 pay, .int .u8 63] 84)).drew := HdO.of hB.drew
  have HT := Lib.hid (hh.keep (w' := (w.alloc (.cells #[.iface 99 pay, .int .u8 63] 84)).drew) (fun _ h => h) (fun g _ hg => rfl))
  have HBL := Lib.hid hbl.drew
  have hq : (w.alloc (.cells #[.iface 99 pay, .int .u8 63] 84)).cell? ⟨w.heap.size, 0, none⟩ = some (.iface 99 pay) := hB.cell 0
  have hlt : w.heap.size < (w.alloc (.cells #[.iface 99 pay, .int .u8 63] 84)).drew.heap.size := hB.lt
  have hn1 := fun (w : World) (h : 99 ≠ 98) => as_seq_no 99 pay w h
  have hn2 := fun (w : World) (h : 99 ≠ 99) => as_alt_no 99 pay w h
  have hu : Utf8.encode (IntKind.i32.wrap 63) = (⟨#[63]⟩ : ByteArray) := by kernel_rfl
  clear hw h hB hbl hh hm
  generalize str (brk true (txt t)) = z at *
  have hz2 : ¬ 9223372036854775807 < z.size + 1 := by omega
  go_enter Try.func68, Try.ntmps68
  go_wp2_with fail
  refine wp_region_last 8 (fun w' => HdO w.heap.size (.iface 99 pay) (.int .u8 63) w') mixed ?_
  generalize (w.alloc (.cells #[.iface 99 pay, .int .u8 63] 84)).drew = w2 at *
  refine wpLast_take (i := 0) (oi := { dst := some 12, op := Op.fieldAddr 84 (Operand.tmp 1) 0, type := 0, pos := "tree.go:100", after := #[], guard := none }) (v := ?_) rfl (by kernel_rfl) (by kernel_rfl) (by kernel_rfl) (by kernel_rfl) (fun _ _ _ h => h) (Or.inl ⟨by rfl, ?_⟩) (by assumption) ?_
  rotate_left
  · intro w hSw
    try dsimp only at hSw
    go_simp
    try with_reducible rfl
  try simp only [Act.put, List.setIfInBounds_toArray, List.set_cons_zero, List.set_cons_succ]
  refine wpLast_take (i := 1) (oi := { dst := some 13, op := Op.load 57 (Operand.tmp 12), type := 57, pos := "tree.go:100", after := #[{ on := 0, ground := Ground.data }], guard := none }) (v := ?_) rfl (by kernel_rfl) (by kernel_rfl) (by kernel_rfl) (by kernel_rfl) (fun _ _ _ h => h) (Or.inl ⟨by rfl, ?_⟩) (by assumption) ?_
  rotate_left
  · intro w hSw
    try dsimp only at hSw
    go_simp
    try with_reducible rfl
  try simp only [Act.put, List.setIfInBounds_toArray, List.set_cons_zero, List.set_cons_succ]
  refine wpLast_take (i := 3) (oi := { dst := some 15, op := Op.fieldAddr 84 (Operand.tmp 1) 1, type := 0, pos := "tree.go:100", after := #[], guard := none }) (v := ?_) rfl (by kernel_rfl) (by kernel_rfl) (by kernel_rfl) (by kernel_rfl) (fun _ _ _ h => h) (Or.inl ⟨by rfl, ?_⟩) (by assumption) ?_
  rotate_left
  · intro w hSw
    try dsimp only at hSw
    go_simp
    try with_reducible rfl
  try simp only [Act.put, List.setIfInBounds_toArray, List.set_cons_zero, List.set_cons_succ]
  refine wpLast_take (i := 4) (oi := { dst := some 16, op := Op.load 5 (Operand.tmp 15), type := 5, pos := "tree.go:100", after := #[{ on := 3, ground := Ground.data }], guard := none }) (v := ?_) rfl (by kernel_rfl) (by kernel_rfl) (by kernel_rfl) (by kernel_rfl) (fun _ _ _ h => h) (Or.inl ⟨by rfl, ?_⟩) (by assumption) ?_
  rotate_left
  · intro w hSw
    try dsimp only at hSw
    go_simp
    try with_reducible rfl
  try simp only [Act.put, List.setIfInBounds_toArray, List.set_cons_zero, List.set_cons_succ]
  refine wpLast_take (i := 5) (oi := { dst := some 17, op := Op.convert 5 21 (Operand.tmp 16), type := 21, pos := "tree.go:100", after := #[{ on := 4, ground := Ground.data }], guard := none }) (v := ?_) rfl (by kernel_rfl) (by kernel_rfl) (by kernel_rfl) (by kernel_rfl) (fun _ _ _ h => h) (Or.inl ⟨by rfl, ?_⟩) (by assumption) ?_
  rotate_left
  · intro w hSw
    try dsimp only at hSw
    go_simp
    try with_reducible rfl
  try simp only [Act.put, List.setIfInBounds_toArray, List.set_cons_zero, List.set_cons_succ]
  refine wpLast_take (i := 6) (oi := { dst := some 18, op := Op.convert 21 9 (Operand.tmp 17), type := 9, pos := "tree.go:100", after := #[{ on := 5, ground := Ground.data }], guard := none }) (v := ?_) rfl (by kernel_rfl) (by kernel_rfl) (by kernel_rfl) (by kernel_rfl) (fun _ _ _ h => h) (Or.inl ⟨by rfl, ?_⟩) (by assumption) ?_
  rotate_left
  · intro w hSw
    try dsimp only at hSw
    go_simp
    try with_reducible rfl
  try simp only [Act.put, List.setIfInBounds_toArray, List.set_cons_zero, List.set_cons_succ]
  refine wpLast_ready (rs := [2]) (by kernel_rfl) (by simp) ?_
  refine EachLast.cons (o := { dst := some 14, op := Op.call { callee := Callee.value (Operand.func 69), args := #[Operand.tmp 13], argTypes := #[57] }, type := 9, pos := "tree.go:100", after := #[{ on := 1, ground := Ground.data }], guard := none }) rfl (fun K hK => ?_) EachLast.nil
  go_simp
  refine (HC.out w2 HT.out).mono ?_
  rintro e w3 ⟨rfl, hb3⟩
  have hS3 : HdO w.heap.size (.iface 99 pay) (.int .u8 63) w3 := ⟨(hb3.cell (p := ⟨w.heap.size, 0, none⟩) hlt).trans hS0.1, (hb3.cell (p := ⟨w.heap.size, 1, none⟩) hlt).trans hS0.2⟩
  have HB := Lib.hid (HBL.out.trans (hb3.mono (Nat.le_of_lt hlt)))
  refine hK.out _ _ (fun _ => hS3) ?_
  try simp only [Act.put, List.setIfInBounds_toArray, List.set_cons_zero, List.set_cons_succ]
  refine wpLast_ready (rs := [7]) (by kernel_rfl) (by simp) ?_
  refine EachLast.cons (o := { dst := some 19, op := Op.binOp BinOp.add 9 (Operand.tmp 14) (Operand.tmp 18) 9, type := 9, pos := "tree.go:100", after := #[{ on := 2, ground := Ground.data }, { on := 6, ground := Ground.data }], guard := none }) rfl (fun K hK => ?_) EachLast.nil
  go_simp
  refine hK.out _ _ (fun _ => hS3) ?_
  try simp only [Act.put, List.setIfInBounds_toArray, List.set_cons_zero, List.set_cons_succ]
  refine wpLast_ready (rs := [8]) (by kernel_rfl) (by simp) ?_
  refine EachLast.cons (o := { dst := some 2, op := Op.assign (Operand.tmp 19), type := 9, pos := "tree.go:100", after := #[{ on := 7, ground := Ground.data }, { on := 2, ground := Ground.chain }, { on := 0, ground := Ground.phase }, { on := 1, ground := Ground.phase }, { on := 2, ground := Ground.phase }, { on := 3, ground := Ground.phase }, { on := 4, ground := Ground.phase }, { on := 5, ground := Ground.phase }, { on := 6, ground := Ground.phase }, { on := 7, ground := Ground.phase }], guard := none }) rfl (fun K hK => ?_) EachLast.nil
  go_simp
  refine hK.out _ _ (fun h => absurd rfl h) ?_
  try simp only [Act.put, List.setIfInBounds_toArray, List.set_cons_zero, List.set_cons_succ]
  refine wpLast_done (by kernel_rfl) ?_ _
  go_wp2_with fail
  go_ret
  exact ⟨congrArg (fun x => Ending.returned (Value.string x)) hE.out, HB.out⟩
set_option maxRecDepth 100000 in
set_option maxHeartbeats 8000000 in
theorem suffix_leaf_42 {t : T} {pay : Value} (hw : ∀ (w : World) (S : Nat → Prop), IsT w S (.iface 87 pay) t → Calls Try.prog 71 #[pay] w fun e w' => e = .returned (.string (str (txt t))) ∧ Below w.heap.size w w') (hb : bd t ≤ 100000) (hm : isMany t = false) (w : World) (S : Nat → Prop) (h : IsT w S (.iface 87 pay) t) :
    Calls Try.prog 68 #[.agg #[.iface 87 pay, .int .u8 42]] w fun e w' => e = .returned (.string (str (txt (.suf t 42)))) ∧ Below w.heap.size w w' := by
  have ht := txt_bd t
  have hB := Blk.new w 84 #[.iface 87 pay, .int .u8 42]
  have hbl : Below w.heap.size w (w.alloc (.cells #[.iface 87 pay, .int .u8 42] 84)) := bal (Below.refl w.heap.size w) _
  have hh := h.low hbl
  have hz : (str (txt t)).size ≤ 100010 := by rw [str_size]; have := brk_len true (txt t); omega
  have hE := Lib.hid (show str (txt t) ++ ⟨#[42]⟩ = str (txt (.suf t 42)) from by
    show _ ++ str [42] = _
    rw [str_app, txt, hm]
    try rfl)
  have HC := Lib.hid (fun (X : World) (hX : IsT X S (.iface 87 pay) t) => hw X S hX)
  have hS0 : HdO w.heap.size (.iface 87 pay) (.int .u8 42) (w.alloc (.cells #[.iface 87 pay, .int .u8 42] 84)).drew := HdO.of hB.drew
  have HT := Lib.hid (hh.keep (w' := (w.alloc (.cells #[.iface 87 pay, .int .u8 42] 84)).drew) (fun _ h => h) (fun g _ hg => rfl))
  have HBL := Lib.hid hbl.drew
  have hq : (w.alloc (.cells #[.iface 87 pay, .int .u8 42] 84)).cell? ⟨w.heap.size, 0, none⟩ = some (.iface 87 pay) := hB.cell 0
  have hlt : w.heap.size < (w.alloc (.cells #[.iface 87 pay, .int .u8 42] 84)).drew.heap.size := hB.lt
  have hn1 := fun (w : World) (h : 87 ≠ 98) => as_seq_no 87 pay w h
  have hn2 := fun (w : World) (h : 87 ≠ 99) => as_alt_no 87 pay w h
  have hu : Utf8.encode (IntKind.i32.wrap 42) = (⟨#[42]⟩ : ByteArray) := by kernel_rfl
  clear hw h hB hbl hh hm
  generalize str (txt t) = z at *
  have hz2 : ¬ 9223372036854775807 < z.size + 1 := by omega
  go_enter Try.func68, Try.ntmps68
  go_wp2_with fail
  refine wp_region_last 8 (fun w' => HdO w.heap.size (.iface 87 pay) (.int .u8 42) w') mixed ?_
  generalize (w.alloc (.cells #[.iface 87 pay, .int .u8 42] 84)).drew = w2 at *
  refine wpLast_take (i := 0) (oi := { dst := some 20, op := Op.fieldAddr 84 (Operand.tmp 1) 0, type := 0, pos := "tree.go:102", after := #[], guard := none }) (v := ?_) rfl (by kernel_rfl) (by kernel_rfl) (by kernel_rfl) (by kernel_rfl) (fun _ _ _ h => h) (Or.inl ⟨by rfl, ?_⟩) (by assumption) ?_
  rotate_left
  · intro w hSw
    try dsimp only at hSw
    go_simp
    try with_reducible rfl
  try simp only [Act.put, List.setIfInBounds_toArray, List.set_cons_zero, List.set_cons_succ]
  refine wpLast_take (i := 1) (oi := { dst := some 21, op := Op.load 57 (Operand.tmp 20), type := 57, pos := "tree.go:102", after := #[{ on := 0, ground := Ground.data }], guard := none }) (v := ?_) rfl (by kernel_rfl) (by kernel_rfl) (by kernel_rfl) (by kernel_rfl) (fun _ _ _ h => h) (Or.inl ⟨by rfl, ?_⟩) (by assumption) ?_
  rotate_left
  · intro w hSw
    try dsimp only at hSw
    go_simp
    try with_reducible rfl
  try simp only [Act.put, List.setIfInBounds_toArray, List.set_cons_zero, List.set_cons_succ]
  refine wpLast_take (i := 3) (oi := { dst := some 23, op := Op.fieldAddr 84 (Operand.tmp 1) 1, type := 0, pos := "tree.go:102", after := #[], guard := none }) (v := ?_) rfl (by kernel_rfl) (by kernel_rfl) (by kernel_rfl) (by kernel_rfl) (fun _ _ _ h => h) (Or.inl ⟨by rfl, ?_⟩) (by assumption) ?_
  rotate_left
  · intro w hSw
    try dsimp only at hSw
    go_simp
    try with_reducible rfl
  try simp only [Act.put, List.setIfInBounds_toArray, List.set_cons_zero, List.set_cons_succ]
  refine wpLast_take (i := 4) (oi := { dst := some 24, op := Op.load 5 (Operand.tmp 23), type := 5, pos := "tree.go:102", after := #[{ on := 3, ground := Ground.data }], guard := none }) (v := ?_) rfl (by kernel_rfl) (by kernel_rfl) (by kernel_rfl) (by kernel_rfl) (fun _ _ _ h => h) (Or.inl ⟨by rfl, ?_⟩) (by assumption) ?_
  rotate_left
  · intro w hSw
    try dsimp only at hSw
    go_simp
    try with_reducible rfl
  try simp only [Act.put, List.setIfInBounds_toArray, List.set_cons_zero, List.set_cons_succ]
  refine wpLast_take (i := 5) (oi := { dst := some 25, op := Op.convert 5 21 (Operand.tmp 24), type := 21, pos := "tree.go:102", after := #[{ on := 4, ground := Ground.data }], guard := none }) (v := ?_) rfl (by kernel_rfl) (by kernel_rfl) (by kernel_rfl) (by kernel_rfl) (fun _ _ _ h => h) (Or.inl ⟨by rfl, ?_⟩) (by assumption) ?_
  rotate_left
  · intro w hSw
    try dsimp only at hSw
    go_simp
    try with_reducible rfl
  try simp only [Act.put, List.setIfInBounds_toArray, List.set_cons_zero, List.set_cons_succ]
  refine wpLast_take (i := 6) (oi := { dst := some 26, op := Op.convert 21 9 (Operand.tmp 25), type := 9, pos := "tree.go:102", after := #[{ on := 5, ground := Ground.data }], guard := none }) (v := ?_) rfl (by kernel_rfl) (by kernel_rfl) (by kernel_rfl) (by kernel_rfl) (fun _ _ _ h => h) (Or.inl ⟨by rfl, ?_⟩) (by assumption) ?_
  rotate_left
  · intro w hSw
    try dsimp only at hSw
    go_simp
    try with_reducible rfl
  try simp only [Act.put, List.setIfInBounds_toArray, List.set_cons_zero, List.set_cons_succ]
  refine wpLast_ready (rs := [2]) (by kernel_rfl) (by simp) ?_
  refine EachLast.cons (o := { dst := some 22, op := Op.call { callee := Callee.invoke (Operand.tmp 21) "reach/trail.write", args := #[], argTypes := #[] }, type := 9, pos := "tree.go:102", after := #[{ on := 1, ground := Ground.data }], guard := none }) rfl (fun K hK => ?_) EachLast.nil
  go_simp
  refine (HC.out w2 HT.out).mono ?_
  rintro e w3 ⟨rfl, hb3⟩
  have hS3 : HdO w.heap.size (.iface 87 pay) (.int .u8 42) w3 := ⟨(hb3.cell (p := ⟨w.heap.size, 0, none⟩) hlt).trans hS0.1, (hb3.cell (p := ⟨w.heap.size, 1, none⟩) hlt).trans hS0.2⟩
  have HB := Lib.hid (HBL.out.trans (hb3.mono (Nat.le_of_lt hlt)))
  refine hK.out _ _ (fun _ => hS3) ?_
  try simp only [Act.put, List.setIfInBounds_toArray, List.set_cons_zero, List.set_cons_succ]
  refine wpLast_ready (rs := [7]) (by kernel_rfl) (by simp) ?_
  refine EachLast.cons (o := { dst := some 27, op := Op.binOp BinOp.add 9 (Operand.tmp 22) (Operand.tmp 26) 9, type := 9, pos := "tree.go:102", after := #[{ on := 2, ground := Ground.data }, { on := 6, ground := Ground.data }], guard := none }) rfl (fun K hK => ?_) EachLast.nil
  go_simp
  refine hK.out _ _ (fun _ => hS3) ?_
  try simp only [Act.put, List.setIfInBounds_toArray, List.set_cons_zero, List.set_cons_succ]
  refine wpLast_ready (rs := [8]) (by kernel_rfl) (by simp) ?_
  refine EachLast.cons (o := { dst := some 2, op := Op.assign (Operand.tmp 27), type := 9, pos := "tree.go:102", after := #[{ on := 7, ground := Ground.data }, { on := 2, ground := Ground.chain }, { on := 0, ground := Ground.phase }, { on := 1, ground := Ground.phase }, { on := 2, ground := Ground.phase }, { on := 3, ground := Ground.phase }, { on := 4, ground := Ground.phase }, { on := 5, ground := Ground.phase }, { on := 6, ground := Ground.phase }, { on := 7, ground := Ground.phase }], guard := none }) rfl (fun K hK => ?_) EachLast.nil
  go_simp
  refine hK.out _ _ (fun h => absurd rfl h) ?_
  try simp only [Act.put, List.setIfInBounds_toArray, List.set_cons_zero, List.set_cons_succ]
  refine wpLast_done (by kernel_rfl) ?_ _
  go_wp2_with fail
  go_ret
  exact ⟨congrArg (fun x => Ending.returned (Value.string x)) hE.out, HB.out⟩
set_option maxRecDepth 100000 in
set_option maxHeartbeats 8000000 in
theorem suffix_leaf_43 {t : T} {pay : Value} (hw : ∀ (w : World) (S : Nat → Prop), IsT w S (.iface 87 pay) t → Calls Try.prog 71 #[pay] w fun e w' => e = .returned (.string (str (txt t))) ∧ Below w.heap.size w w') (hb : bd t ≤ 100000) (hm : isMany t = false) (w : World) (S : Nat → Prop) (h : IsT w S (.iface 87 pay) t) :
    Calls Try.prog 68 #[.agg #[.iface 87 pay, .int .u8 43]] w fun e w' => e = .returned (.string (str (txt (.suf t 43)))) ∧ Below w.heap.size w w' := by
  have ht := txt_bd t
  have hB := Blk.new w 84 #[.iface 87 pay, .int .u8 43]
  have hbl : Below w.heap.size w (w.alloc (.cells #[.iface 87 pay, .int .u8 43] 84)) := bal (Below.refl w.heap.size w) _
  have hh := h.low hbl
  have hz : (str (txt t)).size ≤ 100010 := by rw [str_size]; have := brk_len true (txt t); omega
  have hE := Lib.hid (show str (txt t) ++ ⟨#[43]⟩ = str (txt (.suf t 43)) from by
    show _ ++ str [43] = _
    rw [str_app, txt, hm]
    try rfl)
  have HC := Lib.hid (fun (X : World) (hX : IsT X S (.iface 87 pay) t) => hw X S hX)
  have hS0 : HdO w.heap.size (.iface 87 pay) (.int .u8 43) (w.alloc (.cells #[.iface 87 pay, .int .u8 43] 84)).drew := HdO.of hB.drew
  have HT := Lib.hid (hh.keep (w' := (w.alloc (.cells #[.iface 87 pay, .int .u8 43] 84)).drew) (fun _ h => h) (fun g _ hg => rfl))
  have HBL := Lib.hid hbl.drew
  have hq : (w.alloc (.cells #[.iface 87 pay, .int .u8 43] 84)).cell? ⟨w.heap.size, 0, none⟩ = some (.iface 87 pay) := hB.cell 0
  have hlt : w.heap.size < (w.alloc (.cells #[.iface 87 pay, .int .u8 43] 84)).drew.heap.size := hB.lt
  have hn1 := fun (w : World) (h : 87 ≠ 98) => as_seq_no 87 pay w h
  have hn2 := fun (w : World) (h : 87 ≠ 99) => as_alt_no 87 pay w h
  have hu : Utf8.encode (IntKind.i32.wrap 43) = (⟨#[43]⟩ : ByteArray) := by kernel_rfl
  clear hw h hB hbl hh hm
  generalize str (txt t) = z at *
  have hz2 : ¬ 9223372036854775807 < z.size + 1 := by omega
  go_enter Try.func68, Try.ntmps68
  go_wp2_with fail
  refine wp_region_last 8 (fun w' => HdO w.heap.size (.iface 87 pay) (.int .u8 43) w') mixed ?_
  generalize (w.alloc (.cells #[.iface 87 pay, .int .u8 43] 84)).drew = w2 at *
  refine wpLast_take (i := 0) (oi := { dst := some 20, op := Op.fieldAddr 84 (Operand.tmp 1) 0, type := 0, pos := "tree.go:102", after := #[], guard := none }) (v := ?_) rfl (by kernel_rfl) (by kernel_rfl) (by kernel_rfl) (by kernel_rfl) (fun _ _ _ h => h) (Or.inl ⟨by rfl, ?_⟩) (by assumption) ?_
  rotate_left
  · intro w hSw
    try dsimp only at hSw
    go_simp
    try with_reducible rfl
  try simp only [Act.put, List.setIfInBounds_toArray, List.set_cons_zero, List.set_cons_succ]
  refine wpLast_take (i := 1) (oi := { dst := some 21, op := Op.load 57 (Operand.tmp 20), type := 57, pos := "tree.go:102", after := #[{ on := 0, ground := Ground.data }], guard := none }) (v := ?_) rfl (by kernel_rfl) (by kernel_rfl) (by kernel_rfl) (by kernel_rfl) (fun _ _ _ h => h) (Or.inl ⟨by rfl, ?_⟩) (by assumption) ?_
  rotate_left
  · intro w hSw
    try dsimp only at hSw
    go_simp
    try with_reducible rfl
  try simp only [Act.put, List.setIfInBounds_toArray, List.set_cons_zero, List.set_cons_succ]
  refine wpLast_take (i := 3) (oi := { dst := some 23, op := Op.fieldAddr 84 (Operand.tmp 1) 1, type := 0, pos := "tree.go:102", after := #[], guard := none }) (v := ?_) rfl (by kernel_rfl) (by kernel_rfl) (by kernel_rfl) (by kernel_rfl) (fun _ _ _ h => h) (Or.inl ⟨by rfl, ?_⟩) (by assumption) ?_
  rotate_left
  · intro w hSw
    try dsimp only at hSw
    go_simp
    try with_reducible rfl
  try simp only [Act.put, List.setIfInBounds_toArray, List.set_cons_zero, List.set_cons_succ]
  refine wpLast_take (i := 4) (oi := { dst := some 24, op := Op.load 5 (Operand.tmp 23), type := 5, pos := "tree.go:102", after := #[{ on := 3, ground := Ground.data }], guard := none }) (v := ?_) rfl (by kernel_rfl) (by kernel_rfl) (by kernel_rfl) (by kernel_rfl) (fun _ _ _ h => h) (Or.inl ⟨by rfl, ?_⟩) (by assumption) ?_
  rotate_left
  · intro w hSw
    try dsimp only at hSw
    go_simp
    try with_reducible rfl
  try simp only [Act.put, List.setIfInBounds_toArray, List.set_cons_zero, List.set_cons_succ]
  refine wpLast_take (i := 5) (oi := { dst := some 25, op := Op.convert 5 21 (Operand.tmp 24), type := 21, pos := "tree.go:102", after := #[{ on := 4, ground := Ground.data }], guard := none }) (v := ?_) rfl (by kernel_rfl) (by kernel_rfl) (by kernel_rfl) (by kernel_rfl) (fun _ _ _ h => h) (Or.inl ⟨by rfl, ?_⟩) (by assumption) ?_
  rotate_left
  · intro w hSw
    try dsimp only at hSw
    go_simp
    try with_reducible rfl
  try simp only [Act.put, List.setIfInBounds_toArray, List.set_cons_zero, List.set_cons_succ]
  refine wpLast_take (i := 6) (oi := { dst := some 26, op := Op.convert 21 9 (Operand.tmp 25), type := 9, pos := "tree.go:102", after := #[{ on := 5, ground := Ground.data }], guard := none }) (v := ?_) rfl (by kernel_rfl) (by kernel_rfl) (by kernel_rfl) (by kernel_rfl) (fun _ _ _ h => h) (Or.inl ⟨by rfl, ?_⟩) (by assumption) ?_
  rotate_left
  · intro w hSw
    try dsimp only at hSw
    go_simp
    try with_reducible rfl
  try simp only [Act.put, List.setIfInBounds_toArray, List.set_cons_zero, List.set_cons_succ]
  refine wpLast_ready (rs := [2]) (by kernel_rfl) (by simp) ?_
  refine EachLast.cons (o := { dst := some 22, op := Op.call { callee := Callee.invoke (Operand.tmp 21) "reach/trail.write", args := #[], argTypes := #[] }, type := 9, pos := "tree.go:102", after := #[{ on := 1, ground := Ground.data }], guard := none }) rfl (fun K hK => ?_) EachLast.nil
  go_simp
  refine (HC.out w2 HT.out).mono ?_
  rintro e w3 ⟨rfl, hb3⟩
  have hS3 : HdO w.heap.size (.iface 87 pay) (.int .u8 43) w3 := ⟨(hb3.cell (p := ⟨w.heap.size, 0, none⟩) hlt).trans hS0.1, (hb3.cell (p := ⟨w.heap.size, 1, none⟩) hlt).trans hS0.2⟩
  have HB := Lib.hid (HBL.out.trans (hb3.mono (Nat.le_of_lt hlt)))
  refine hK.out _ _ (fun _ => hS3) ?_
  try simp only [Act.put, List.setIfInBounds_toArray, List.set_cons_zero, List.set_cons_succ]
  refine wpLast_ready (rs := [7]) (by kernel_rfl) (by simp) ?_
  refine EachLast.cons (o := { dst := some 27, op := Op.binOp BinOp.add 9 (Operand.tmp 22) (Operand.tmp 26) 9, type := 9, pos := "tree.go:102", after := #[{ on := 2, ground := Ground.data }, { on := 6, ground := Ground.data }], guard := none }) rfl (fun K hK => ?_) EachLast.nil
  go_simp
  refine hK.out _ _ (fun _ => hS3) ?_
  try simp only [Act.put, List.setIfInBounds_toArray, List.set_cons_zero, List.set_cons_succ]
  refine wpLast_ready (rs := [8]) (by kernel_rfl) (by simp) ?_
  refine EachLast.cons (o := { dst := some 2, op := Op.assign (Operand.tmp 27), type := 9, pos := "tree.go:102", after := #[{ on := 7, ground := Ground.data }, { on := 2, ground := Ground.chain }, { on := 0, ground := Ground.phase }, { on := 1, ground := Ground.phase }, { on := 2, ground := Ground.phase }, { on := 3, ground := Ground.phase }, { on := 4, ground := Ground.phase }, { on := 5, ground := Ground.phase }, { on := 6, ground := Ground.phase }, { on := 7, ground := Ground.phase }], guard := none }) rfl (fun K hK => ?_) EachLast.nil
  go_simp
  refine hK.out _ _ (fun h => absurd rfl h) ?_
  try simp only [Act.put, List.setIfInBounds_toArray, List.set_cons_zero, List.set_cons_succ]
  refine wpLast_done (by kernel_rfl) ?_ _
  go_wp2_with fail
  go_ret
  exact ⟨congrArg (fun x => Ending.returned (Value.string x)) hE.out, HB.out⟩
set_option maxRecDepth 100000 in
set_option maxHeartbeats 8000000 in
theorem suffix_leaf_63 {t : T} {pay : Value} (hw : ∀ (w : World) (S : Nat → Prop), IsT w S (.iface 87 pay) t → Calls Try.prog 71 #[pay] w fun e w' => e = .returned (.string (str (txt t))) ∧ Below w.heap.size w w') (hb : bd t ≤ 100000) (hm : isMany t = false) (w : World) (S : Nat → Prop) (h : IsT w S (.iface 87 pay) t) :
    Calls Try.prog 68 #[.agg #[.iface 87 pay, .int .u8 63]] w fun e w' => e = .returned (.string (str (txt (.suf t 63)))) ∧ Below w.heap.size w w' := by
  have ht := txt_bd t
  have hB := Blk.new w 84 #[.iface 87 pay, .int .u8 63]
  have hbl : Below w.heap.size w (w.alloc (.cells #[.iface 87 pay, .int .u8 63] 84)) := bal (Below.refl w.heap.size w) _
  have hh := h.low hbl
  have hz : (str (txt t)).size ≤ 100010 := by rw [str_size]; have := brk_len true (txt t); omega
  have hE := Lib.hid (show str (txt t) ++ ⟨#[63]⟩ = str (txt (.suf t 63)) from by
    show _ ++ str [63] = _
    rw [str_app, txt, hm]
    try rfl)
  have HC := Lib.hid (fun (X : World) (hX : IsT X S (.iface 87 pay) t) => hw X S hX)
  have hS0 : HdO w.heap.size (.iface 87 pay) (.int .u8 63) (w.alloc (.cells #[.iface 87 pay, .int .u8 63] 84)).drew := HdO.of hB.drew
  have HT := Lib.hid (hh.keep (w' := (w.alloc (.cells #[.iface 87 pay, .int .u8 63] 84)).drew) (fun _ h => h) (fun g _ hg => rfl))
  have HBL := Lib.hid hbl.drew
  have hq : (w.alloc (.cells #[.iface 87 pay, .int .u8 63] 84)).cell? ⟨w.heap.size, 0, none⟩ = some (.iface 87 pay) := hB.cell 0
  have hlt : w.heap.size < (w.alloc (.cells #[.iface 87 pay, .int .u8 63] 84)).drew.heap.size := hB.lt
  have hn1 := fun (w : World) (h : 87 ≠ 98) => as_seq_no 87 pay w h
  have hn2 := fun (w : World) (h : 87 ≠ 99) => as_alt_no 87 pay w h
  have hu : Utf8.encode (IntKind.i32.wrap 63) = (⟨#[63]⟩ : ByteArray) := by kernel_rfl
  clear hw h hB hbl hh hm
  generalize str (txt t) = z at *
  have hz2 : ¬ 9223372036854775807 < z.size + 1 := by omega
  go_enter Try.func68, Try.ntmps68
  go_wp2_with fail
  refine wp_region_last 8 (fun w' => HdO w.heap.size (.iface 87 pay) (.int .u8 63) w') mixed ?_
  generalize (w.alloc (.cells #[.iface 87 pay, .int .u8 63] 84)).drew = w2 at *
  refine wpLast_take (i := 0) (oi := { dst := some 20, op := Op.fieldAddr 84 (Operand.tmp 1) 0, type := 0, pos := "tree.go:102", after := #[], guard := none }) (v := ?_) rfl (by kernel_rfl) (by kernel_rfl) (by kernel_rfl) (by kernel_rfl) (fun _ _ _ h => h) (Or.inl ⟨by rfl, ?_⟩) (by assumption) ?_
  rotate_left
  · intro w hSw
    try dsimp only at hSw
    go_simp
    try with_reducible rfl
  try simp only [Act.put, List.setIfInBounds_toArray, List.set_cons_zero, List.set_cons_succ]
  refine wpLast_take (i := 1) (oi := { dst := some 21, op := Op.load 57 (Operand.tmp 20), type := 57, pos := "tree.go:102", after := #[{ on := 0, ground := Ground.data }], guard := none }) (v := ?_) rfl (by kernel_rfl) (by kernel_rfl) (by kernel_rfl) (by kernel_rfl) (fun _ _ _ h => h) (Or.inl ⟨by rfl, ?_⟩) (by assumption) ?_
  rotate_left
  · intro w hSw
    try dsimp only at hSw
    go_simp
    try with_reducible rfl
  try simp only [Act.put, List.setIfInBounds_toArray, List.set_cons_zero, List.set_cons_succ]
  refine wpLast_take (i := 3) (oi := { dst := some 23, op := Op.fieldAddr 84 (Operand.tmp 1) 1, type := 0, pos := "tree.go:102", after := #[], guard := none }) (v := ?_) rfl (by kernel_rfl) (by kernel_rfl) (by kernel_rfl) (by kernel_rfl) (fun _ _ _ h => h) (Or.inl ⟨by rfl, ?_⟩) (by assumption) ?_
  rotate_left
  · intro w hSw
    try dsimp only at hSw
    go_simp
    try with_reducible rfl
  try simp only [Act.put, List.setIfInBounds_toArray, List.set_cons_zero, List.set_cons_succ]
  refine wpLast_take (i := 4) (oi := { dst := some 24, op := Op.load 5 (Operand.tmp 23), type := 5, pos := "tree.go:102", after := #[{ on := 3, ground := Ground.data }], guard := none }) (v := ?_) rfl (by kernel_rfl) (by kernel_rfl) (by kernel_rfl) (by kernel_rfl) (fun _ _ _ h => h) (Or.inl ⟨by rfl, ?_⟩) (by assumption) ?_
  rotate_left
  · intro w hSw
    try dsimp only at hSw
    go_simp
    try with_reducible rfl
  try simp only [Act.put, List.setIfInBounds_toArray, List.set_cons_zero, List.set_cons_succ]
  refine wpLast_take (i := 5) (oi := { dst := some 25, op := Op.convert 5 21 (Operand.tmp 24), type := 21, pos := "tree.go:102", after := #[{ on := 4, ground := Ground.data }], guard := none }) (v := ?_) rfl (by kernel_rfl) (by kernel_rfl) (by kernel_rfl) (by kernel_rfl) (fun _ _ _ h => h) (Or.inl ⟨by rfl, ?_⟩) (by assumption) ?_
  rotate_left
  · intro w hSw
    try dsimp only at hSw
    go_simp
    try with_reducible rfl
  try simp only [Act.put, List.setIfInBounds_toArray, List.set_cons_zero, List.set_cons_succ]
  refine wpLast_take (i := 6) (oi := { dst := some 26, op := Op.convert 21 9 (Operand.tmp 25), type := 9, pos := "tree.go:102", after := #[{ on := 5, ground := Ground.data }], guard := none }) (v := ?_) rfl (by kernel_rfl) (by kernel_rfl) (by kernel_rfl) (by kernel_rfl) (fun _ _ _ h => h) (Or.inl ⟨by rfl, ?_⟩) (by assumption) ?_
  rotate_left
  · intro w hSw
    try dsimp only at hSw
    go_simp
    try with_reducible rfl
  try simp only [Act.put, List.setIfInBounds_toArray, List.set_cons_zero, List.set_cons_succ]
  refine wpLast_ready (rs := [2]) (by kernel_rfl) (by simp) ?_
  refine EachLast.cons (o := { dst := some 22, op := Op.call { callee := Callee.invoke (Operand.tmp 21) "reach/trail.write", args := #[], argTypes := #[] }, type := 9, pos := "tree.go:102", after := #[{ on := 1, ground := Ground.data }], guard := none }) rfl (fun K hK => ?_) EachLast.nil
  go_simp
  refine (HC.out w2 HT.out).mono ?_
  rintro e w3 ⟨rfl, hb3⟩
  have hS3 : HdO w.heap.size (.iface 87 pay) (.int .u8 63) w3 := ⟨(hb3.cell (p := ⟨w.heap.size, 0, none⟩) hlt).trans hS0.1, (hb3.cell (p := ⟨w.heap.size, 1, none⟩) hlt).trans hS0.2⟩
  have HB := Lib.hid (HBL.out.trans (hb3.mono (Nat.le_of_lt hlt)))
  refine hK.out _ _ (fun _ => hS3) ?_
  try simp only [Act.put, List.setIfInBounds_toArray, List.set_cons_zero, List.set_cons_succ]
  refine wpLast_ready (rs := [7]) (by kernel_rfl) (by simp) ?_
  refine EachLast.cons (o := { dst := some 27, op := Op.binOp BinOp.add 9 (Operand.tmp 22) (Operand.tmp 26) 9, type := 9, pos := "tree.go:102", after := #[{ on := 2, ground := Ground.data }, { on := 6, ground := Ground.data }], guard := none }) rfl (fun K hK => ?_) EachLast.nil
  go_simp
  refine hK.out _ _ (fun _ => hS3) ?_
  try simp only [Act.put, List.setIfInBounds_toArray, List.set_cons_zero, List.set_cons_succ]
  refine wpLast_ready (rs := [8]) (by kernel_rfl) (by simp) ?_
  refine EachLast.cons (o := { dst := some 2, op := Op.assign (Operand.tmp 27), type := 9, pos := "tree.go:102", after := #[{ on := 7, ground := Ground.data }, { on := 2, ground := Ground.chain }, { on := 0, ground := Ground.phase }, { on := 1, ground := Ground.phase }, { on := 2, ground := Ground.phase }, { on := 3, ground := Ground.phase }, { on := 4, ground := Ground.phase }, { on := 5, ground := Ground.phase }, { on := 6, ground := Ground.phase }, { on := 7, ground := Ground.phase }], guard := none }) rfl (fun K hK => ?_) EachLast.nil
  go_simp
  refine hK.out _ _ (fun h => absurd rfl h) ?_
  try simp only [Act.put, List.setIfInBounds_toArray, List.set_cons_zero, List.set_cons_succ]
  refine wpLast_done (by kernel_rfl) ?_ _
  go_wp2_with fail
  go_ret
  exact ⟨congrArg (fun x => Ending.returned (Value.string x)) hE.out, HB.out⟩
set_option maxRecDepth 100000 in
set_option maxHeartbeats 8000000 in
theorem suffix_suf_42 {t : T} {pay : Value} (hw : ∀ (w : World) (S : Nat → Prop), IsT w S (.iface 84 pay) t → Calls Try.prog 68 #[pay] w fun e w' => e = .returned (.string (str (txt t))) ∧ Below w.heap.size w w') (hb : bd t ≤ 100000) (hm : isMany t = false) (w : World) (S : Nat → Prop) (h : IsT w S (.iface 84 pay) t) :
    Calls Try.prog 68 #[.agg #[.iface 84 pay, .int .u8 42]] w fun e w' => e = .returned (.string (str (txt (.suf t 42)))) ∧ Below w.heap.size w w' := by
  have ht := txt_bd t
  have hB := Blk.new w 84 #[.iface 84 pay, .int .u8 42]
  have hbl : Below w.heap.size w (w.alloc (.cells #[.iface 84 pay, .int .u8 42] 84)) := bal (Below.refl w.heap.size w) _
  have hh := h.low hbl
  have hz : (str (txt t)).size ≤ 100010 := by rw [str_size]; have := brk_len true (txt t); omega
  have hE := Lib.hid (show str (txt t) ++ ⟨#[42]⟩ = str (txt (.suf t 42)) from by
    show _ ++ str [42] = _
    rw [str_app, txt, hm]
    try rfl)
  have HC := Lib.hid (fun (X : World) (hX : IsT X S (.iface 84 pay) t) => hw X S hX)
  have hS0 : HdO w.heap.size (.iface 84 pay) (.int .u8 42) (w.alloc (.cells #[.iface 84 pay, .int .u8 42] 84)).drew := HdO.of hB.drew
  have HT := Lib.hid (hh.keep (w' := (w.alloc (.cells #[.iface 84 pay, .int .u8 42] 84)).drew) (fun _ h => h) (fun g _ hg => rfl))
  have HBL := Lib.hid hbl.drew
  have hq : (w.alloc (.cells #[.iface 84 pay, .int .u8 42] 84)).cell? ⟨w.heap.size, 0, none⟩ = some (.iface 84 pay) := hB.cell 0
  have hlt : w.heap.size < (w.alloc (.cells #[.iface 84 pay, .int .u8 42] 84)).drew.heap.size := hB.lt
  have hn1 := fun (w : World) (h : 84 ≠ 98) => as_seq_no 84 pay w h
  have hn2 := fun (w : World) (h : 84 ≠ 99) => as_alt_no 84 pay w h
  have hu : Utf8.encode (IntKind.i32.wrap 42) = (⟨#[42]⟩ : ByteArray) := by kernel_rfl
  clear hw h hB hbl hh hm
  generalize str (txt t) = z at *
  have hz2 : ¬ 9223372036854775807 < z.size + 1 := by omega
  go_enter Try.func68, Try.ntmps68
  go_wp2_with fail
  refine wp_region_last 8 (fun w' => HdO w.heap.size (.iface 84 pay) (.int .u8 42) w') mixed ?_
  generalize (w.alloc (.cells #[.iface 84 pay, .int .u8 42] 84)).drew = w2 at *
  refine wpLast_take (i := 0) (oi := { dst := some 20, op := Op.fieldAddr 84 (Operand.tmp 1) 0, type := 0, pos := "tree.go:102", after := #[], guard := none }) (v := ?_) rfl (by kernel_rfl) (by kernel_rfl) (by kernel_rfl) (by kernel_rfl) (fun _ _ _ h => h) (Or.inl ⟨by rfl, ?_⟩) (by assumption) ?_
  rotate_left
  · intro w hSw
    try dsimp only at hSw
    go_simp
    try with_reducible rfl
  try simp only [Act.put, List.setIfInBounds_toArray, List.set_cons_zero, List.set_cons_succ]
  refine wpLast_take (i := 1) (oi := { dst := some 21, op := Op.load 57 (Operand.tmp 20), type := 57, pos := "tree.go:102", after := #[{ on := 0, ground := Ground.data }], guard := none }) (v := ?_) rfl (by kernel_rfl) (by kernel_rfl) (by kernel_rfl) (by kernel_rfl) (fun _ _ _ h => h) (Or.inl ⟨by rfl, ?_⟩) (by assumption) ?_
  rotate_left
  · intro w hSw
    try dsimp only at hSw
    go_simp
    try with_reducible rfl
  try simp only [Act.put, List.setIfInBounds_toArray, List.set_cons_zero, List.set_cons_succ]
  refine wpLast_take (i := 3) (oi := { dst := some 23, op := Op.fieldAddr 84 (Operand.tmp 1) 1, type := 0, pos := "tree.go:102", after := #[], guard := none }) (v := ?_) rfl (by kernel_rfl) (by kernel_rfl) (by kernel_rfl) (by kernel_rfl) (fun _ _ _ h => h) (Or.inl ⟨by rfl, ?_⟩) (by assumption) ?_
  rotate_left
  · intro w hSw
    try dsimp only at hSw
    go_simp
    try with_reducible rfl
  try simp only [Act.put, List.setIfInBounds_toArray, List.set_cons_zero, List.set_cons_succ]
  refine wpLast_take (i := 4) (oi := { dst := some 24, op := Op.load 5 (Operand.tmp 23), type := 5, pos := "tree.go:102", after := #[{ on := 3, ground := Ground.data }], guard := none }) (v := ?_) rfl (by kernel_rfl) (by kernel_rfl) (by kernel_rfl) (by kernel_rfl) (fun _ _ _ h => h) (Or.inl ⟨by rfl, ?_⟩) (by assumption) ?_
  rotate_left
  · intro w hSw
    try dsimp only at hSw
    go_simp
    try with_reducible rfl
  try simp only [Act.put, List.setIfInBounds_toArray, List.set_cons_zero, List.set_cons_succ]
  refine wpLast_take (i := 5) (oi := { dst := some 25, op := Op.convert 5 21 (Operand.tmp 24), type := 21, pos := "tree.go:102", after := #[{ on := 4, ground := Ground.data }], guard := none }) (v := ?_) rfl (by kernel_rfl) (by kernel_rfl) (by kernel_rfl) (by kernel_rfl) (fun _ _ _ h => h) (Or.inl ⟨by rfl, ?_⟩) (by assumption) ?_
  rotate_left
  · intro w hSw
    try dsimp only at hSw
    go_simp
    try with_reducible rfl
  try simp only [Act.put, List.setIfInBounds_toArray, List.set_cons_zero, List.set_cons_succ]
  refine wpLast_take (i := 6) (oi := { dst := some 26, op := Op.convert 21 9 (Operand.tmp 25), type := 9, pos := "tree.go:102", after := #[{ on := 5, ground := Ground.data }], guard := none }) (v := ?_) rfl (by kernel_rfl) (by kernel_rfl) (by kernel_rfl) (by kernel_rfl) (fun _ _ _ h => h) (Or.inl ⟨by rfl, ?_⟩) (by assumption) ?_
  rotate_left
  · intro w hSw
    try dsimp only at hSw
    go_simp
    try with_reducible rfl
  try simp only [Act.put, List.setIfInBounds_toArray, List.set_cons_zero, List.set_cons_succ]
  refine wpLast_ready (rs := [2]) (by kernel_rfl) (by simp) ?_
  refine EachLast.cons (o := { dst := some 22, op := Op.call { callee := Callee.invoke (Operand.tmp 21) "reach/trail.write", args := #[], argTypes := #[] }, type := 9, pos := "tree.go:102", after := #[{ on := 1, ground := Ground.data }], guard := none }) rfl (fun K hK => ?_) EachLast.nil
  go_simp
  refine (HC.out w2 HT.out).mono ?_
  rintro e w3 ⟨rfl, hb3⟩
  have hS3 : HdO w.heap.size (.iface 84 pay) (.int .u8 42) w3 := ⟨(hb3.cell (p := ⟨w.heap.size, 0, none⟩) hlt).trans hS0.1, (hb3.cell (p := ⟨w.heap.size, 1, none⟩) hlt).trans hS0.2⟩
  have HB := Lib.hid (HBL.out.trans (hb3.mono (Nat.le_of_lt hlt)))
  refine hK.out _ _ (fun _ => hS3) ?_
  try simp only [Act.put, List.setIfInBounds_toArray, List.set_cons_zero, List.set_cons_succ]
  refine wpLast_ready (rs := [7]) (by kernel_rfl) (by simp) ?_
  refine EachLast.cons (o := { dst := some 27, op := Op.binOp BinOp.add 9 (Operand.tmp 22) (Operand.tmp 26) 9, type := 9, pos := "tree.go:102", after := #[{ on := 2, ground := Ground.data }, { on := 6, ground := Ground.data }], guard := none }) rfl (fun K hK => ?_) EachLast.nil
  go_simp
  refine hK.out _ _ (fun _ => hS3) ?_
  try simp only [Act.put, List.setIfInBounds_toArray, List.set_cons_zero, List.set_cons_succ]
  refine wpLast_ready (rs := [8]) (by kernel_rfl) (by simp) ?_
  refine EachLast.cons (o := { dst := some 2, op := Op.assign (Operand.tmp 27), type := 9, pos := "tree.go:102", after := #[{ on := 7, ground := Ground.data }, { on := 2, ground := Ground.chain }, { on := 0, ground := Ground.phase }, { on := 1, ground := Ground.phase }, { on := 2, ground := Ground.phase }, { on := 3, ground := Ground.phase }, { on := 4, ground := Ground.phase }, { on := 5, ground := Ground.phase }, { on := 6, ground := Ground.phase }, { on := 7, ground := Ground.phase }], guard := none }) rfl (fun K hK => ?_) EachLast.nil
  go_simp
  refine hK.out _ _ (fun h => absurd rfl h) ?_
  try simp only [Act.put, List.setIfInBounds_toArray, List.set_cons_zero, List.set_cons_succ]
  refine wpLast_done (by kernel_rfl) ?_ _
  go_wp2_with fail
  go_ret
  exact ⟨congrArg (fun x => Ending.returned (Value.string x)) hE.out, HB.out⟩
set_option maxRecDepth 100000 in
set_option maxHeartbeats 8000000 in
theorem suffix_suf_43 {t : T} {pay : Value} (hw : ∀ (w : World) (S : Nat → Prop), IsT w S (.iface 84 pay) t → Calls Try.prog 68 #[pay] w fun e w' => e = .returned (.string (str (txt t))) ∧ Below w.heap.size w w') (hb : bd t ≤ 100000) (hm : isMany t = false) (w : World) (S : Nat → Prop) (h : IsT w S (.iface 84 pay) t) :
    Calls Try.prog 68 #[.agg #[.iface 84 pay, .int .u8 43]] w fun e w' => e = .returned (.string (str (txt (.suf t 43)))) ∧ Below w.heap.size w w' := by
  have ht := txt_bd t
  have hB := Blk.new w 84 #[.iface 84 pay, .int .u8 43]
  have hbl : Below w.heap.size w (w.alloc (.cells #[.iface 84 pay, .int .u8 43] 84)) := bal (Below.refl w.heap.size w) _
  have hh := h.low hbl
  have hz : (str (txt t)).size ≤ 100010 := by rw [str_size]; have := brk_len true (txt t); omega
  have hE := Lib.hid (show str (txt t) ++ ⟨#[43]⟩ = str (txt (.suf t 43)) from by
    show _ ++ str [43] = _
    rw [str_app, txt, hm]
    try rfl)
  have HC := Lib.hid (fun (X : World) (hX : IsT X S (.iface 84 pay) t) => hw X S hX)
  have hS0 : HdO w.heap.size (.iface 84 pay) (.int .u8 43) (w.alloc (.cells #[.iface 84 pay, .int .u8 43] 84)).drew := HdO.of hB.drew
  have HT := Lib.hid (hh.keep (w' := (w.alloc (.cells #[.iface 84 pay, .int .u8 43] 84)).drew) (fun _ h => h) (fun g _ hg => rfl))
  have HBL := Lib.hid hbl.drew
  have hq : (w.alloc (.cells #[.iface 84 pay, .int .u8 43] 84)).cell? ⟨w.heap.size, 0, none⟩ = some (.iface 84 pay) := hB.cell 0
  have hlt : w.heap.size < (w.alloc (.cells #[.iface 84 pay, .int .u8 43] 84)).drew.heap.size := hB.lt
  have hn1 := fun (w : World) (h : 84 ≠ 98) => as_seq_no 84 pay w h
  have hn2 := fun (w : World) (h : 84 ≠ 99) => as_alt_no 84 pay w h
  have hu : Utf8.encode (IntKind.i32.wrap 43) = (⟨#[43]⟩ : ByteArray) := by kernel_rfl
  clear hw h hB hbl hh hm
  generalize str (txt t) = z at *
  have hz2 : ¬ 9223372036854775807 < z.size + 1 := by omega
  go_enter Try.func68, Try.ntmps68
  go_wp2_with fail
  refine wp_region_last 8 (fun w' => HdO w.heap.size (.iface 84 pay) (.int .u8 43) w') mixed ?_
  generalize (w.alloc (.cells #[.iface 84 pay, .int .u8 43] 84)).drew = w2 at *
  refine wpLast_take (i := 0) (oi := { dst := some 20, op := Op.fieldAddr 84 (Operand.tmp 1) 0, type := 0, pos := "tree.go:102", after := #[], guard := none }) (v := ?_) rfl (by kernel_rfl) (by kernel_rfl) (by kernel_rfl) (by kernel_rfl) (fun _ _ _ h => h) (Or.inl ⟨by rfl, ?_⟩) (by assumption) ?_
  rotate_left
  · intro w hSw
    try dsimp only at hSw
    go_simp
    try with_reducible rfl
  try simp only [Act.put, List.setIfInBounds_toArray, List.set_cons_zero, List.set_cons_succ]
  refine wpLast_take (i := 1) (oi := { dst := some 21, op := Op.load 57 (Operand.tmp 20), type := 57, pos := "tree.go:102", after := #[{ on := 0, ground := Ground.data }], guard := none }) (v := ?_) rfl (by kernel_rfl) (by kernel_rfl) (by kernel_rfl) (by kernel_rfl) (fun _ _ _ h => h) (Or.inl ⟨by rfl, ?_⟩) (by assumption) ?_
  rotate_left
  · intro w hSw
    try dsimp only at hSw
    go_simp
    try with_reducible rfl
  try simp only [Act.put, List.setIfInBounds_toArray, List.set_cons_zero, List.set_cons_succ]
  refine wpLast_take (i := 3) (oi := { dst := some 23, op := Op.fieldAddr 84 (Operand.tmp 1) 1, type := 0, pos := "tree.go:102", after := #[], guard := none }) (v := ?_) rfl (by kernel_rfl) (by kernel_rfl) (by kernel_rfl) (by kernel_rfl) (fun _ _ _ h => h) (Or.inl ⟨by rfl, ?_⟩) (by assumption) ?_
  rotate_left
  · intro w hSw
    try dsimp only at hSw
    go_simp
    try with_reducible rfl
  try simp only [Act.put, List.setIfInBounds_toArray, List.set_cons_zero, List.set_cons_succ]
  refine wpLast_take (i := 4) (oi := { dst := some 24, op := Op.load 5 (Operand.tmp 23), type := 5, pos := "tree.go:102", after := #[{ on := 3, ground := Ground.data }], guard := none }) (v := ?_) rfl (by kernel_rfl) (by kernel_rfl) (by kernel_rfl) (by kernel_rfl) (fun _ _ _ h => h) (Or.inl ⟨by rfl, ?_⟩) (by assumption) ?_
  rotate_left
  · intro w hSw
    try dsimp only at hSw
    go_simp
    try with_reducible rfl
  try simp only [Act.put, List.setIfInBounds_toArray, List.set_cons_zero, List.set_cons_succ]
  refine wpLast_take (i := 5) (oi := { dst := some 25, op := Op.convert 5 21 (Operand.tmp 24), type := 21, pos := "tree.go:102", after := #[{ on := 4, ground := Ground.data }], guard := none }) (v := ?_) rfl (by kernel_rfl) (by kernel_rfl) (by kernel_rfl) (by kernel_rfl) (fun _ _ _ h => h) (Or.inl ⟨by rfl, ?_⟩) (by assumption) ?_
  rotate_left
  · intro w hSw
    try dsimp only at hSw
    go_simp
    try with_reducible rfl
  try simp only [Act.put, List.setIfInBounds_toArray, List.set_cons_zero, List.set_cons_succ]
  refine wpLast_take (i := 6) (oi := { dst := some 26, op := Op.convert 21 9 (Operand.tmp 25), type := 9, pos := "tree.go:102", after := #[{ on := 5, ground := Ground.data }], guard := none }) (v := ?_) rfl (by kernel_rfl) (by kernel_rfl) (by kernel_rfl) (by kernel_rfl) (fun _ _ _ h => h) (Or.inl ⟨by rfl, ?_⟩) (by assumption) ?_
  rotate_left
  · intro w hSw
    try dsimp only at hSw
    go_simp
    try with_reducible rfl
  try simp only [Act.put, List.setIfInBounds_toArray, List.set_cons_zero, List.set_cons_succ]
  refine wpLast_ready (rs := [2]) (by kernel_rfl) (by simp) ?_
  refine EachLast.cons (o := { dst := some 22, op := Op.call { callee := Callee.invoke (Operand.tmp 21) "reach/trail.write", args := #[], argTypes := #[] }, type := 9, pos := "tree.go:102", after := #[{ on := 1, ground := Ground.data }], guard := none }) rfl (fun K hK => ?_) EachLast.nil
  go_simp
  refine (HC.out w2 HT.out).mono ?_
  rintro e w3 ⟨rfl, hb3⟩
  have hS3 : HdO w.heap.size (.iface 84 pay) (.int .u8 43) w3 := ⟨(hb3.cell (p := ⟨w.heap.size, 0, none⟩) hlt).trans hS0.1, (hb3.cell (p := ⟨w.heap.size, 1, none⟩) hlt).trans hS0.2⟩
  have HB := Lib.hid (HBL.out.trans (hb3.mono (Nat.le_of_lt hlt)))
  refine hK.out _ _ (fun _ => hS3) ?_
  try simp only [Act.put, List.setIfInBounds_toArray, List.set_cons_zero, List.set_cons_succ]
  refine wpLast_ready (rs := [7]) (by kernel_rfl) (by simp) ?_
  refine EachLast.cons (o := { dst := some 27, op := Op.binOp BinOp.add 9 (Operand.tmp 22) (Operand.tmp 26) 9, type := 9, pos := "tree.go:102", after := #[{ on := 2, ground := Ground.data }, { on := 6, ground := Ground.data }], guard := none }) rfl (fun K hK => ?_) EachLast.nil
  go_simp
  refine hK.out _ _ (fun _ => hS3) ?_
  try simp only [Act.put, List.setIfInBounds_toArray, List.set_cons_zero, List.set_cons_succ]
  refine wpLast_ready (rs := [8]) (by kernel_rfl) (by simp) ?_
  refine EachLast.cons (o := { dst := some 2, op := Op.assign (Operand.tmp 27), type := 9, pos := "tree.go:102", after := #[{ on := 7, ground := Ground.data }, { on := 2, ground := Ground.chain }, { on := 0, ground := Ground.phase }, { on := 1, ground := Ground.phase }, { on := 2, ground := Ground.phase }, { on := 3, ground := Ground.phase }, { on := 4, ground := Ground.phase }, { on := 5, ground := Ground.phase }, { on := 6, ground := Ground.phase }, { on := 7, ground := Ground.phase }], guard := none }) rfl (fun K hK => ?_) EachLast.nil
  go_simp
  refine hK.out _ _ (fun h => absurd rfl h) ?_
  try simp only [Act.put, List.setIfInBounds_toArray, List.set_cons_zero, List.set_cons_succ]
  refine wpLast_done (by kernel_rfl) ?_ _
  go_wp2_with fail
  go_ret
  exact ⟨congrArg (fun x => Ending.returned (Value.string x)) hE.out, HB.out⟩
set_option maxRecDepth 100000 in
set_option maxHeartbeats 8000000 in
theorem suffix_suf_63 {t : T} {pay : Value} (hw : ∀ (w : World) (S : Nat → Prop), IsT w S (.iface 84 pay) t → Calls Try.prog 68 #[pay] w fun e w' => e = .returned (.string (str (txt t))) ∧ Below w.heap.size w w') (hb : bd t ≤ 100000) (hm : isMany t = false) (w : World) (S : Nat → Prop) (h : IsT w S (.iface 84 pay) t) :
    Calls Try.prog 68 #[.agg #[.iface 84 pay, .int .u8 63]] w fun e w' => e = .returned (.string (str (txt (.suf t 63)))) ∧ Below w.heap.size w w' := by
  have ht := txt_bd t
  have hB := Blk.new w 84 #[.iface 84 pay, .int .u8 63]
  have hbl : Below w.heap.size w (w.alloc (.cells #[.iface 84 pay, .int .u8 63] 84)) := bal (Below.refl w.heap.size w) _
  have hh := h.low hbl
  have hz : (str (txt t)).size ≤ 100010 := by rw [str_size]; have := brk_len true (txt t); omega
  have hE := Lib.hid (show str (txt t) ++ ⟨#[63]⟩ = str (txt (.suf t 63)) from by
    show _ ++ str [63] = _
    rw [str_app, txt, hm]
    try rfl)
  have HC := Lib.hid (fun (X : World) (hX : IsT X S (.iface 84 pay) t) => hw X S hX)
  have hS0 : HdO w.heap.size (.iface 84 pay) (.int .u8 63) (w.alloc (.cells #[.iface 84 pay, .int .u8 63] 84)).drew := HdO.of hB.drew
  have HT := Lib.hid (hh.keep (w' := (w.alloc (.cells #[.iface 84 pay, .int .u8 63] 84)).drew) (fun _ h => h) (fun g _ hg => rfl))
  have HBL := Lib.hid hbl.drew
  have hq : (w.alloc (.cells #[.iface 84 pay, .int .u8 63] 84)).cell? ⟨w.heap.size, 0, none⟩ = some (.iface 84 pay) := hB.cell 0
  have hlt : w.heap.size < (w.alloc (.cells #[.iface 84 pay, .int .u8 63] 84)).drew.heap.size := hB.lt
  have hn1 := fun (w : World) (h : 84 ≠ 98) => as_seq_no 84 pay w h
  have hn2 := fun (w : World) (h : 84 ≠ 99) => as_alt_no 84 pay w h
  have hu : Utf8.encode (IntKind.i32.wrap 63) = (⟨#[63]⟩ : ByteArray) := by kernel_rfl
  clear hw h hB hbl hh hm
  generalize str (txt t) = z at *
  have hz2 : ¬ 9223372036854775807 < z.size + 1 := by omega
  go_enter Try.func68, Try.ntmps68
  go_wp2_with fail
  refine wp_region_last 8 (fun w' => HdO w.heap.size (.iface 84 pay) (.int .u8 63) w') mixed ?_
  generalize (w.alloc (.cells #[.iface 84 pay, .int .u8 63] 84)).drew = w2 at *
  refine wpLast_take (i := 0) (oi := { dst := some 20, op := Op.fieldAddr 84 (Operand.tmp 1) 0, type := 0, pos := "tree.go:102", after := #[], guard := none }) (v := ?_) rfl (by kernel_rfl) (by kernel_rfl) (by kernel_rfl) (by kernel_rfl) (fun _ _ _ h => h) (Or.inl ⟨by rfl, ?_⟩) (by assumption) ?_
  rotate_left
  · intro w hSw
    try dsimp only at hSw
    go_simp
    try with_reducible rfl
  try simp only [Act.put, List.setIfInBounds_toArray, List.set_cons_zero, List.set_cons_succ]
  refine wpLast_take (i := 1) (oi := { dst := some 21, op := Op.load 57 (Operand.tmp 20), type := 57, pos := "tree.go:102", after := #[{ on := 0, ground := Ground.data }], guard := none }) (v := ?_) rfl (by kernel_rfl) (by kernel_rfl) (by kernel_rfl) (by kernel_rfl) (fun _ _ _ h => h) (Or.inl ⟨by rfl, ?_⟩) (by assumption) ?_
  rotate_left
  · intro w hSw
    try dsimp only at hSw
    go_simp
    try with_reducible rfl
  try simp only [Act.put, List.setIfInBounds_toArray, List.set_cons_zero, List.set_cons_succ]
  refine wpLast_take (i := 3) (oi := { dst := some 23, op := Op.fieldAddr 84 (Operand.tmp 1) 1, type := 0, pos := "tree.go:102", after := #[], guard := none }) (v := ?_) rfl (by kernel_rfl) (by kernel_rfl) (by kernel_rfl) (by kernel_rfl) (fun _ _ _ h => h) (Or.inl ⟨by rfl, ?_⟩) (by assumption) ?_
  rotate_left
  · intro w hSw
    try dsimp only at hSw
    go_simp
    try with_reducible rfl
  try simp only [Act.put, List.setIfInBounds_toArray, List.set_cons_zero, List.set_cons_succ]
  refine wpLast_take (i := 4) (oi := { dst := some 24, op := Op.load 5 (Operand.tmp 23), type := 5, pos := "tree.go:102", after := #[{ on := 3, ground := Ground.data }], guard := none }) (v := ?_) rfl (by kernel_rfl) (by kernel_rfl) (by kernel_rfl) (by kernel_rfl) (fun _ _ _ h => h) (Or.inl ⟨by rfl, ?_⟩) (by assumption) ?_
  rotate_left
  · intro w hSw
    try dsimp only at hSw
    go_simp
    try with_reducible rfl
  try simp only [Act.put, List.setIfInBounds_toArray, List.set_cons_zero, List.set_cons_succ]
  refine wpLast_take (i := 5) (oi := { dst := some 25, op := Op.convert 5 21 (Operand.tmp 24), type := 21, pos := "tree.go:102", after := #[{ on := 4, ground := Ground.data }], guard := none }) (v := ?_) rfl (by kernel_rfl) (by kernel_rfl) (by kernel_rfl) (by kernel_rfl) (fun _ _ _ h => h) (Or.inl ⟨by rfl, ?_⟩) (by assumption) ?_
  rotate_left
  · intro w hSw
    try dsimp only at hSw
    go_simp
    try with_reducible rfl
  try simp only [Act.put, List.setIfInBounds_toArray, List.set_cons_zero, List.set_cons_succ]
  refine wpLast_take (i := 6) (oi := { dst := some 26, op := Op.convert 21 9 (Operand.tmp 25), type := 9, pos := "tree.go:102", after := #[{ on := 5, ground := Ground.data }], guard := none }) (v := ?_) rfl (by kernel_rfl) (by kernel_rfl) (by kernel_rfl) (by kernel_rfl) (fun _ _ _ h => h) (Or.inl ⟨by rfl, ?_⟩) (by assumption) ?_
  rotate_left
  · intro w hSw
    try dsimp only at hSw
    go_simp
    try with_reducible rfl
  try simp only [Act.put, List.setIfInBounds_toArray, List.set_cons_zero, List.set_cons_succ]
  refine wpLast_ready (rs := [2]) (by kernel_rfl) (by simp) ?_
  refine EachLast.cons (o := { dst := some 22, op := Op.call { callee := Callee.invoke (Operand.tmp 21) "reach/trail.write", args := #[], argTypes := #[] }, type := 9, pos := "tree.go:102", after := #[{ on := 1, ground := Ground.data }], guard := none }) rfl (fun K hK => ?_) EachLast.nil
  go_simp
  refine (HC.out w2 HT.out).mono ?_
  rintro e w3 ⟨rfl, hb3⟩
  have hS3 : HdO w.heap.size (.iface 84 pay) (.int .u8 63) w3 := ⟨(hb3.cell (p := ⟨w.heap.size, 0, none⟩) hlt).trans hS0.1, (hb3.cell (p := ⟨w.heap.size, 1, none⟩) hlt).trans hS0.2⟩
  have HB := Lib.hid (HBL.out.trans (hb3.mono (Nat.le_of_lt hlt)))
  refine hK.out _ _ (fun _ => hS3) ?_
  try simp only [Act.put, List.setIfInBounds_toArray, List.set_cons_zero, List.set_cons_succ]
  refine wpLast_ready (rs := [7]) (by kernel_rfl) (by simp) ?_
  refine EachLast.cons (o := { dst := some 27, op := Op.binOp BinOp.add 9 (Operand.tmp 22) (Operand.tmp 26) 9, type := 9, pos := "tree.go:102", after := #[{ on := 2, ground := Ground.data }, { on := 6, ground := Ground.data }], guard := none }) rfl (fun K hK => ?_) EachLast.nil
  go_simp
  refine hK.out _ _ (fun _ => hS3) ?_
  try simp only [Act.put, List.setIfInBounds_toArray, List.set_cons_zero, List.set_cons_succ]
  refine wpLast_ready (rs := [8]) (by kernel_rfl) (by simp) ?_
  refine EachLast.cons (o := { dst := some 2, op := Op.assign (Operand.tmp 27), type := 9, pos := "tree.go:102", after := #[{ on := 7, ground := Ground.data }, { on := 2, ground := Ground.chain }, { on := 0, ground := Ground.phase }, { on := 1, ground := Ground.phase }, { on := 2, ground := Ground.phase }, { on := 3, ground := Ground.phase }, { on := 4, ground := Ground.phase }, { on := 5, ground := Ground.phase }, { on := 6, ground := Ground.phase }, { on := 7, ground := Ground.phase }], guard := none }) rfl (fun K hK => ?_) EachLast.nil
  go_simp
  refine hK.out _ _ (fun h => absurd rfl h) ?_
  try simp only [Act.put, List.setIfInBounds_toArray, List.set_cons_zero, List.set_cons_succ]
  refine wpLast_done (by kernel_rfl) ?_ _
  go_wp2_with fail
  go_ret
  exact ⟨congrArg (fun x => Ending.returned (Value.string x)) hE.out, HB.out⟩
end Go.Proofs.Ytlbkacabcfeaiaa.Tl
