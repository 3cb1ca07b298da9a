/- Patterns: the program reads a text, label by label. Printed by mkrun.py. -/
import Derived.Test.YtlbkacabcfeaiaaZRb
namespace Go.Proofs.Ytlbkacabcfeaiaa.Tl
open Go.RowKit Mm
set_option linter.unusedVariables false
set_option maxRecDepth 100000 in
set_option maxHeartbeats 8000000 in
theorem pass4 {W : World} {g : Nat} {s : ByteArray} {st0 : St} (hs : s.size ≤ 1000) (a : Act) (w : World) (hJ : JR W g s st0 4 a w) (rest : Code) (hr : findLabel runC 4 = some rest) : rest.wp Try.prog (QR W g s st0 4 a w) a w := by
  obtain ⟨u1, d, us, st, out, R, c, p, S, hl, rfl, hrd, ok, hL⟩ := hJ
  obtain ⟨u4, u5, u6, u7, u8, u9, u10, u11, u12, u13, u14, u15, u16, u17, u18, u19, t4, rfl, h4⟩ := list16 hl
  obtain ⟨u20, u21, u22, u23, u24, u25, u26, u27, u28, u29, u30, u31, u32, u33, u34, u35, t20, rfl, h20⟩ := list16 h4
  obtain ⟨u36, u37, u38, u39, u40, u41, u42, u43, u44, u45, u46, u47, u48, u49, u50, u51, t36, rfl, h36⟩ := list16 h20
  obtain ⟨u52, u53, u54, u55, u56, u57, u58, u59, u60, u61, u62, u63, u64, u65, u66, u67, t52, rfl, h52⟩ := list16 h36
  obtain ⟨u68, u69, u70, u71, u72, u73, u74, u75, u76, u77, u78, u79, u80, u81, u82, u83, t68, rfl, h68⟩ := list16 h52
  obtain ⟨u84, u85, u86, u87, u88, u89, u90, u91, u92, u93, u94, u95, u96, u97, u98, u99, t84, rfl, h84⟩ := list16 h68
  obtain ⟨u100, u101, u102, u103, u104, u105, u106, u107, u108, u109, u110, u111, u112, u113, u114, u115, t100, rfl, h100⟩ := list16 h84
  obtain ⟨u116, u117, u118, u119, u120, u121, u122, u123, u124, u125, u126, u127, u128, u129, u130, u131, t116, rfl, h116⟩ := list16 h100
  obtain ⟨u132, u133, u134, u135, u136, u137, u138, u139, u140, u141, u142, u143, u144, u145, u146, u147, t132, rfl, h132⟩ := list16 h116
  obtain ⟨u148, u149, u150, u151, u152, u153, u154, u155, u156, u157, u158, u159, u160, u161, u162, u163, t148, rfl, h148⟩ := list16 h132
  obtain ⟨u164, u165, u166, u167, u168, u169, u170, u171, u172, u173, u174, u175, u176, u177, u178, u179, t164, rfl, h164⟩ := list16 h148
  obtain ⟨u180, u181, u182, u183, u184, u185, u186, u187, u188, u189, u190, u191, u192, u193, u194, u195, t180, rfl, h180⟩ := list16 h164
  obtain ⟨u196, u197, u198, u199, u200, u201, u202, u203, u204, u205, u206, u207, u208, u209, u210, u211, t196, rfl, h196⟩ := list16 h180
  obtain ⟨u212, t212, rfl, h212⟩ := cons_len h196
  obtain ⟨u213, t213, rfl, h213⟩ := cons_len h212
  obtain ⟨u214, t214, rfl, h214⟩ := cons_len h213
  obtain ⟨u215, t215, rfl, h215⟩ := cons_len h214
  obtain ⟨u216, t216, rfl, h216⟩ := cons_len h215
  obtain ⟨u217, t217, rfl, h217⟩ := cons_len h216
  obtain ⟨u218, t218, rfl, h218⟩ := cons_len h217
  obtain ⟨u219, t219, rfl, h219⟩ := cons_len h218
  obtain ⟨u220, t220, rfl, h220⟩ := cons_len h219
  obtain ⟨u221, t221, rfl, h221⟩ := cons_len h220
  obtain ⟨u222, t222, rfl, h222⟩ := cons_len h221
  obtain ⟨u223, t223, rfl, h223⟩ := cons_len h222
  obtain ⟨u224, t224, rfl, h224⟩ := cons_len h223
  obtain ⟨u225, t225, rfl, h225⟩ := cons_len h224
  obtain ⟨u226, t226, rfl, h226⟩ := cons_len h225
  obtain rfl := nil_len h226
  obtain ⟨pos, it, stk, ch, ps⟩ := st
  obtain rfl := Option.some.inj (hr.symm.trans (rfl : findLabel runC 4 = some _))
  obtain ⟨ac, cc, xc, rfl⟩ := hrd.q.cForm
  obtain ⟨ap, cp, xp, rfl⟩ := hrd.q.pForm
  obtain ⟨ao, co, rfl⟩ := own_len hrd.q.row
  have q0 := Blk.c0 hrd.blk
  have q1 := Blk.c1 hrd.blk
  have q3 := Blk.c3 hrd.blk
  have q4 := Blk.c4 hrd.blk
  have q5 := Blk.c5 hrd.blk
  have f1 := hrd.blk.frozen 1
  dsimp only at q0 q1 q3 q4 q5
  have HR := Lib.hid hrd
  have HO := Lib.hid ok
  have HL := Lib.hid hL
  have hxl := xs_len s
  obtain ⟨hp1, hi48, hd32, hbd⟩ := ok
  dsimp only at hp1 hi48 hd32
  rw [hxl] at hp1
  clear hr hl hrd hL hbd h4 h20 h36 h52 h68 h84 h100 h116 h132 h148 h164 h180 h196 h212 h213 h214 h215 h216 h217 h218 h219 h220 h221 h222 h223 h224 h225 h226
  dsimp only [Lab] at HL
  have HIt := Lib.hid (item_any w g s pos it _ _ _ HR.out.blk (by omega))
  go_wp2_with fail
  refine HIt.out.mono ?_
  rintro e w1 ⟨rfl, hB1, hg1⟩
  have HR1 := Lib.hid (HR.out.it (it + 1) hB1 hg1)
  clear hB1 hg1
  by_cases hi : it < 48
  case neg =>
    rw [decide_eq_false hi]
    go_wp2_with fail
    exact QR.ret HR1.out rfl rfl (.inr ⟨rfl, HL.out.1.trans (st_124e HL.out.2 (by omega))⟩)
  case pos =>
  rw [decide_eq_true hi]
  have HS := Lib.hid (ok_of (st_124 (stk := stk) (ch := ch) (ps := ps) HL.out.2 hi) HO.out)
  have hcl := bdL_len ch
  have hbo := HO.out.2.2.2
  have hbp := bdS_parts ⟨pos, it, stk, ch, ps⟩
  dsimp only at hbo hbp
  have HN := Lib.hid (newSeq_any w1.drew S _ _ ps (Fz.of_own (HR1.out.drew.q.fam.1 _ _ (at_p R _ _))) HR1.out.drew.q.trp.2 (by omega))
  dsimp only at HN
  have hbs := HR1.out.q.base
  have hS0 : HdR g (.string s) (.int .i64 (pos : Int)) (.slice ao stk.length co) (.slice ac ch.length cc) (.slice ap ps.length cp) w1.drew := HdR.of HR1.out.drew.blk
  clear q0 q1 q3 q4 q5 f1
  go_wp2_with fail
  refine wp_region_last 17 (fun w' => HdR g (.string s) (.int .i64 (pos : Int)) (.slice ao stk.length co) (.slice ac ch.length cc) (.slice ap ps.length cp) w') mixed ?_
  refine wpLast_take (i := 0) (oi := { dst := some 155, op := Op.move (Operand.tmp 0), type := 81, pos := "read.go:89", after := #[], guard := none }) (v := ?_) rfl (by kernel_rfl) (by kernel_rfl) (by kernel_rfl) (by kernel_rfl) (fun _ _ _ h => h) (Or.inl ⟨by rfl, ?_⟩) (by assumption) ?_
  rotate_left
  · intro w hSw
    try dsimp only at hSw
    go_simp
    try with_reducible rfl
  try simp only [Act.put, List.setIfInBounds_toArray, List.set_cons_zero, List.set_cons_succ]
  refine wpLast_take (i := 1) (oi := { dst := some 156, op := Op.move (Operand.tmp 0), type := 81, pos := "read.go:89", after := #[], guard := none }) (v := ?_) rfl (by kernel_rfl) (by kernel_rfl) (by kernel_rfl) (by kernel_rfl) (fun _ _ _ h => h) (Or.inl ⟨by rfl, ?_⟩) (by assumption) ?_
  rotate_left
  · intro w hSw
    try dsimp only at hSw
    go_simp
    try with_reducible rfl
  try simp only [Act.put, List.setIfInBounds_toArray, List.set_cons_zero, List.set_cons_succ]
  refine wpLast_take (i := 2) (oi := { dst := some 157, op := Op.nilCheck (Operand.tmp 156), type := 0, pos := "read.go:89", after := #[{ on := 1, ground := Ground.data }], guard := none }) (v := ?_) rfl (by kernel_rfl) (by kernel_rfl) (by kernel_rfl) (by kernel_rfl) (fun _ _ _ h => h) (Or.inl ⟨by rfl, ?_⟩) (by assumption) ?_
  rotate_left
  · intro w hSw
    try dsimp only at hSw
    go_simp
    try with_reducible rfl
  try simp only [Act.put, List.setIfInBounds_toArray, List.set_cons_zero, List.set_cons_succ]
  refine wpLast_take (i := 3) (oi := { dst := some 158, op := Op.fieldAddr 54 (Operand.tmp 157) 4, type := 0, pos := "read.go:89", after := #[{ on := 2, ground := Ground.data }], guard := none }) (v := ?_) rfl (by kernel_rfl) (by kernel_rfl) (by kernel_rfl) (by kernel_rfl) (fun _ _ _ h => h) (Or.inl ⟨by rfl, ?_⟩) (by assumption) ?_
  rotate_left
  · intro w hSw
    try dsimp only at hSw
    go_simp
    try with_reducible rfl
  try simp only [Act.put, List.setIfInBounds_toArray, List.set_cons_zero, List.set_cons_succ]
  refine wpLast_take (i := 4) (oi := { dst := some 159, op := Op.fieldAddr 52 (Operand.tmp 158) 0, type := 0, pos := "read.go:89", after := #[{ on := 3, ground := Ground.data }], guard := none }) (v := ?_) rfl (by kernel_rfl) (by kernel_rfl) (by kernel_rfl) (by kernel_rfl) (fun _ _ _ h => h) (Or.inl ⟨by rfl, ?_⟩) (by assumption) ?_
  rotate_left
  · intro w hSw
    try dsimp only at hSw
    go_simp
    try with_reducible rfl
  try simp only [Act.put, List.setIfInBounds_toArray, List.set_cons_zero, List.set_cons_succ]
  refine wpLast_take (i := 5) (oi := { dst := some 160, op := Op.load 50 (Operand.tmp 159), type := 50, pos := "read.go:89", after := #[{ on := 4, ground := Ground.data }], guard := none }) (v := ?_) rfl (by kernel_rfl) (by kernel_rfl) (by kernel_rfl) (by kernel_rfl) (fun _ _ _ h => h) (Or.inl ⟨by rfl, ?_⟩) (by assumption) ?_
  rotate_left
  · intro w hSw
    try dsimp only at hSw
    go_simp
    try with_reducible rfl
  try simp only [Act.put, List.setIfInBounds_toArray, List.set_cons_zero, List.set_cons_succ]
  refine wpLast_take (i := 6) (oi := { dst := some 161, op := Op.move (Operand.tmp 0), type := 81, pos := "read.go:89", after := #[], guard := none }) (v := ?_) rfl (by kernel_rfl) (by kernel_rfl) (by kernel_rfl) (by kernel_rfl) (fun _ _ _ h => h) (Or.inl ⟨by rfl, ?_⟩) (by assumption) ?_
  rotate_left
  · intro w hSw
    try dsimp only at hSw
    go_simp
    try with_reducible rfl
  try simp only [Act.put, List.setIfInBounds_toArray, List.set_cons_zero, List.set_cons_succ]
  refine wpLast_take (i := 7) (oi := { dst := some 162, op := Op.nilCheck (Operand.tmp 161), type := 0, pos := "read.go:89", after := #[{ on := 6, ground := Ground.data }], guard := none }) (v := ?_) rfl (by kernel_rfl) (by kernel_rfl) (by kernel_rfl) (by kernel_rfl) (fun _ _ _ h => h) (Or.inl ⟨by rfl, ?_⟩) (by assumption) ?_
  rotate_left
  · intro w hSw
    try dsimp only at hSw
    go_simp
    try with_reducible rfl
  try simp only [Act.put, List.setIfInBounds_toArray, List.set_cons_zero, List.set_cons_succ]
  refine wpLast_take (i := 8) (oi := { dst := some 163, op := Op.fieldAddr 54 (Operand.tmp 162) 4, type := 0, pos := "read.go:89", after := #[{ on := 7, ground := Ground.data }], guard := none }) (v := ?_) rfl (by kernel_rfl) (by kernel_rfl) (by kernel_rfl) (by kernel_rfl) (fun _ _ _ h => h) (Or.inl ⟨by rfl, ?_⟩) (by assumption) ?_
  rotate_left
  · intro w hSw
    try dsimp only at hSw
    go_simp
    try with_reducible rfl
  try simp only [Act.put, List.setIfInBounds_toArray, List.set_cons_zero, List.set_cons_succ]
  refine wpLast_take (i := 9) (oi := { dst := some 164, op := Op.fieldAddr 52 (Operand.tmp 163) 1, type := 0, pos := "read.go:89", after := #[{ on := 8, ground := Ground.data }], guard := none }) (v := ?_) rfl (by kernel_rfl) (by kernel_rfl) (by kernel_rfl) (by kernel_rfl) (fun _ _ _ h => h) (Or.inl ⟨by rfl, ?_⟩) (by assumption) ?_
  rotate_left
  · intro w hSw
    try dsimp only at hSw
    go_simp
    try with_reducible rfl
  try simp only [Act.put, List.setIfInBounds_toArray, List.set_cons_zero, List.set_cons_succ]
  refine wpLast_take (i := 10) (oi := { dst := some 165, op := Op.load 50 (Operand.tmp 164), type := 50, pos := "read.go:89", after := #[{ on := 9, ground := Ground.data }], guard := none }) (v := ?_) rfl (by kernel_rfl) (by kernel_rfl) (by kernel_rfl) (by kernel_rfl) (fun _ _ _ h => h) (Or.inl ⟨by rfl, ?_⟩) (by assumption) ?_
  rotate_left
  · intro w hSw
    try dsimp only at hSw
    go_simp
    try with_reducible rfl
  try simp only [Act.put, List.setIfInBounds_toArray, List.set_cons_zero, List.set_cons_succ]
  refine wpLast_ready (rs := [11]) (by kernel_rfl) (by simp) ?_
  refine EachLast.cons (o := { dst := some 166, op := Op.call { callee := Callee.value (Operand.func 27), args := #[Operand.tmp 165], argTypes := #[50] }, type := 57, pos := "read.go:89", after := #[{ on := 10, ground := Ground.data }], guard := none }) rfl (fun K hK => ?_) EachLast.nil
  go_simp
  refine HN.out.mono ?_
  rintro e w3 ⟨u, rfl, hu, hb3⟩
  obtain ⟨ty, pay, rfl⟩ := hu.form
  have HQ3 := Lib.hid (HR1.out.drew.q.more hb3)
  have HB3 := Lib.hid (HR1.out.drew.blk.below hb3 HR1.out.drew.blk.lt)
  have HU := Lib.hid (made hu)
  have hS3 := HdR.of HB3.out
  have HRow := Lib.hid (HQ3.out.fam.1 _ _ (at_c R _ _))
  have hb3s := hb3.size
  have hdz : w1.drew.heap.size = w1.heap.size := rfl
  refine hK.out _ _ (fun _ => hS3) ?_
  try simp only [Act.put, List.setIfInBounds_toArray, List.set_cons_zero, List.set_cons_succ]
  have HB4 := Lib.hid (fun o => HdR.of (HB3.out.alloc o))
  have HQ := Lib.hid (fun (Y : World) (v' : Value) ho hk => (HQ3.out.beside (bal (Below.refl _ _) (.cells #[.iface ty pay] 57))).barred (Y := Y) (v' := v') (HB3.out.alloc (.cells #[.iface ty pay] 57)) (HU.out.low (bal (Below.refl _ _) _)) ho hk)
  clear hS0 hu hb3
  refine wpLast_ready (rs := [12]) (by kernel_rfl) (by simp) ?_
  refine EachLast.cons (o := { dst := some 167, op := Op.buildSlice 50 1 #[(0, Operand.tmp 166)], type := 50, pos := "read.go:89", after := #[{ on := 11, ground := Ground.data }], guard := none }) rfl (fun K hK => ?_) EachLast.nil
  go_simp
  refine hK.out _ _ (fun _ => HB4.out _) ?_
  try simp only [Act.put, List.setIfInBounds_toArray, List.set_cons_zero, List.set_cons_succ]
  refine wpLast_ready (rs := [13]) (by kernel_rfl) (by simp) ?_
  refine EachLast.cons (o := { dst := some 168, op := Op.call { callee := Callee.builtin Builtin.append, args := #[Operand.tmp 160, Operand.tmp 167], argTypes := #[50, 50] }, type := 50, pos := "read.go:89", after := #[{ on := 5, ground := Ground.data }, { on := 12, ground := Ground.data }, { on := 11, ground := Ground.chain }], guard := none }) rfl (fun K hK => ?_) EachLast.nil
  refine step_keep (w := w3) [.iface ty pay] (.tmp 160) (.tmp 167) Try.underlying50 info_tree rfl (by decide) (by simp [Value.oneCell']) rfl HRow.out ?gd ?go ?gs ?gx (by dsimp only; simp only [maxLen]; omega) (by dsimp only; omega) (by omega) ?_
  case gd => rfl
  case go => rfl
  case gs => rfl
  case gx => rfl
  intro v' Y ho hk
  have hF := HQ.out Y v' ho hk
  obtain ⟨⟨a9, c9, hv9⟩, hB9, hRd9⟩ := hF
  have hS9 := HdR.of hB9
  have g4 := hB9.frozen 4
  have g5 := hB9.frozen 5
  have g1 := hB9.frozen 1
  have b1 := Blk.c1 hB9
  have b4 := Blk.c4 hB9
  have b5 := Blk.c5 hB9
  subst hv9
  refine hK.out _ _ (fun _ => hS9) ?_
  try simp only [Act.put, List.setIfInBounds_toArray, List.set_cons_zero, List.set_cons_succ]
  refine wpLast_ready (rs := [14]) (by kernel_rfl) (by simp) ?_
  refine EachLast.cons (o := { dst := some 169, op := Op.nilCheck (Operand.tmp 155), type := 0, pos := "read.go:89", after := #[{ on := 0, ground := Ground.data }, { on := 0, ground := Ground.phase }, { on := 1, ground := Ground.phase }, { on := 2, ground := Ground.phase }, { on := 3, ground := Ground.phase }, { on := 4, ground := Ground.phase }, { on := 5, ground := Ground.phase }, { on := 6, ground := Ground.phase }, { on := 7, ground := Ground.phase }, { on := 8, ground := Ground.phase }, { on := 9, ground := Ground.phase }, { on := 10, ground := Ground.phase }, { on := 11, ground := Ground.phase }, { on := 12, ground := Ground.phase }, { on := 13, ground := Ground.phase }], guard := none }) rfl (fun K hK => ?_) EachLast.nil
  go_simp
  refine hK.out _ _ (fun _ => hS9) ?_
  try simp only [Act.put, List.setIfInBounds_toArray, List.set_cons_zero, List.set_cons_succ]
  refine wpLast_ready (rs := [15]) (by kernel_rfl) (by simp) ?_
  refine EachLast.cons (o := { dst := some 170, op := Op.fieldAddr 54 (Operand.tmp 169) 4, type := 0, pos := "read.go:89", after := #[{ on := 14, ground := Ground.data }, { on := 0, ground := Ground.phase }, { on := 1, ground := Ground.phase }, { on := 2, ground := Ground.phase }, { on := 3, ground := Ground.phase }, { on := 4, ground := Ground.phase }, { on := 5, ground := Ground.phase }, { on := 6, ground := Ground.phase }, { on := 7, ground := Ground.phase }, { on := 8, ground := Ground.phase }, { on := 9, ground := Ground.phase }, { on := 10, ground := Ground.phase }, { on := 11, ground := Ground.phase }, { on := 12, ground := Ground.phase }, { on := 13, ground := Ground.phase }], guard := none }) rfl (fun K hK => ?_) EachLast.nil
  go_simp
  refine hK.out _ _ (fun _ => hS9) ?_
  try simp only [Act.put, List.setIfInBounds_toArray, List.set_cons_zero, List.set_cons_succ]
  refine wpLast_ready (rs := [16]) (by kernel_rfl) (by simp) ?_
  refine EachLast.cons (o := { dst := some 171, op := Op.fieldAddr 52 (Operand.tmp 170) 0, type := 0, pos := "read.go:89", after := #[{ on := 15, ground := Ground.data }, { on := 0, ground := Ground.phase }, { on := 1, ground := Ground.phase }, { on := 2, ground := Ground.phase }, { on := 3, ground := Ground.phase }, { on := 4, ground := Ground.phase }, { on := 5, ground := Ground.phase }, { on := 6, ground := Ground.phase }, { on := 7, ground := Ground.phase }, { on := 8, ground := Ground.phase }, { on := 9, ground := Ground.phase }, { on := 10, ground := Ground.phase }, { on := 11, ground := Ground.phase }, { on := 12, ground := Ground.phase }, { on := 13, ground := Ground.phase }], guard := none }) rfl (fun K hK => ?_) EachLast.nil
  go_simp
  refine hK.out _ _ (fun _ => hS9) ?_
  try simp only [Act.put, List.setIfInBounds_toArray, List.set_cons_zero, List.set_cons_succ]
  refine wpLast_ready (rs := [17]) (by kernel_rfl) (by simp) ?_
  refine EachLast.cons (o := { dst := none, op := Op.store 50 (Operand.tmp 171) (Operand.tmp 168), type := 0, pos := "read.go:89", after := #[{ on := 16, ground := Ground.data }, { on := 13, ground := Ground.data }, { on := 13, ground := Ground.chain }, { on := 0, ground := Ground.phase }, { on := 1, ground := Ground.phase }, { on := 2, ground := Ground.phase }, { on := 3, ground := Ground.phase }, { on := 4, ground := Ground.phase }, { on := 5, ground := Ground.phase }, { on := 6, ground := Ground.phase }, { on := 7, ground := Ground.phase }, { on := 8, ground := Ground.phase }, { on := 9, ground := Ground.phase }, { on := 10, ground := Ground.phase }, { on := 11, ground := Ground.phase }, { on := 12, ground := Ground.phase }, { on := 13, ground := Ground.phase }], guard := none }) rfl (fun K hK => ?_) EachLast.nil
  go_simp
  refine hK.out _ _ (fun h => absurd rfl h) ?_
  try simp only [Act.put, List.setIfInBounds_toArray, List.set_cons_zero, List.set_cons_succ]
  refine wpLast_done (by kernel_rfl) ?_ _
  have HR9 := Lib.hid (Rd.pos (show Rd W g s ⟨pos, it + 1, stk, ch ++ [mkSeq ps], []⟩ _ _ _ nilRow _ _ from ⟨hRd9.q.fresh.set 5 (.slice none 0 0), hRd9.blk.set_ 5 (.slice none 0 0)⟩) (pos + 1))
  clear hRd9 hB9 hS9 ho hk hS3 HB3 HB4 HRow HQ HU HQ3 HN
  go_wp2_with fail
  go_step3
  exact QR.go (st := ⟨pos + 1, it + 1, stk, ch ++ [mkSeq ps], []⟩) HR.out hs rfl ⟨_, rfl⟩ HR9.out HS.out.2 (HL.out.1.trans HS.out.1) (by first | (simp; done) | (simp; omega))
end Go.Proofs.Ytlbkacabcfeaiaa.Tl
