/- Patterns: the program reads a text, label by label. Printed by mkrun.py. -/
import Derived.Test.YtlbkacabcfeaiaaZRf
namespace Go.Proofs.Ytlbkacabcfeaiaa.Tl
open Go.RowKit Mm
set_option linter.unusedVariables false
set_option maxRecDepth 100000 in
set_option maxHeartbeats 8000000 in
theorem pass3 {W : World} {g : Nat} {s : ByteArray} {st0 : St} (hs : s.size ≤ 1000) (a : Act) (w : World) (hJ : JR W g s st0 3 a w) (rest : Code) (hr : findLabel runC 3 = some rest) : rest.wp Try.prog (QR W g s st0 3 a w) a w := by
  obtain ⟨u1, d, us, st, out, R, c, p, S, hl, rfl, hrd, ok, hL⟩ := hJ
  obtain ⟨u4, u5, u6, u7, u8, u9, u10, u11, u12, u13, u14, u15, u16, u17, u18, u19, t4, rfl, h4⟩ := list16 hl
  obtain ⟨u20, u21, u22, u23, u24, u25, u26, u27, u28, u29, u30, u31, u32, u33, u34, u35, t20, rfl, h20⟩ := list16 h4
  obtain ⟨u36, u37, u38, u39, u40, u41, u42, u43, u44, u45, u46, u47, u48, u49, u50, u51, t36, rfl, h36⟩ := list16 h20
  obtain ⟨u52, u53, u54, u55, u56, u57, u58, u59, u60, u61, u62, u63, u64, u65, u66, u67, t52, rfl, h52⟩ := list16 h36
  obtain ⟨u68, u69, u70, u71, u72, u73, u74, u75, u76, u77, u78, u79, u80, u81, u82, u83, t68, rfl, h68⟩ := list16 h52
  obtain ⟨u84, u85, u86, u87, u88, u89, u90, u91, u92, u93, u94, u95, u96, u97, u98, u99, t84, rfl, h84⟩ := list16 h68
  obtain ⟨u100, u101, u102, u103, u104, u105, u106, u107, u108, u109, u110, u111, u112, u113, u114, u115, t100, rfl, h100⟩ := list16 h84
  obtain ⟨u116, u117, u118, u119, u120, u121, u122, u123, u124, u125, u126, u127, u128, u129, u130, u131, t116, rfl, h116⟩ := list16 h100
  obtain ⟨u132, u133, u134, u135, u136, u137, u138, u139, u140, u141, u142, u143, u144, u145, u146, u147, t132, rfl, h132⟩ := list16 h116
  obtain ⟨u148, u149, u150, u151, u152, u153, u154, u155, u156, u157, u158, u159, u160, u161, u162, u163, t148, rfl, h148⟩ := list16 h132
  obtain ⟨u164, u165, u166, u167, u168, u169, u170, u171, u172, u173, u174, u175, u176, u177, u178, u179, t164, rfl, h164⟩ := list16 h148
  obtain ⟨u180, u181, u182, u183, u184, u185, u186, u187, u188, u189, u190, u191, u192, u193, u194, u195, t180, rfl, h180⟩ := list16 h164
  obtain ⟨u196, u197, u198, u199, u200, u201, u202, u203, u204, u205, u206, u207, u208, u209, u210, u211, t196, rfl, h196⟩ := list16 h180
  obtain ⟨u212, t212, rfl, h212⟩ := cons_len h196
  obtain ⟨u213, t213, rfl, h213⟩ := cons_len h212
  obtain ⟨u214, t214, rfl, h214⟩ := cons_len h213
  obtain ⟨u215, t215, rfl, h215⟩ := cons_len h214
  obtain ⟨u216, t216, rfl, h216⟩ := cons_len h215
  obtain ⟨u217, t217, rfl, h217⟩ := cons_len h216
  obtain ⟨u218, t218, rfl, h218⟩ := cons_len h217
  obtain ⟨u219, t219, rfl, h219⟩ := cons_len h218
  obtain ⟨u220, t220, rfl, h220⟩ := cons_len h219
  obtain ⟨u221, t221, rfl, h221⟩ := cons_len h220
  obtain ⟨u222, t222, rfl, h222⟩ := cons_len h221
  obtain ⟨u223, t223, rfl, h223⟩ := cons_len h222
  obtain ⟨u224, t224, rfl, h224⟩ := cons_len h223
  obtain ⟨u225, t225, rfl, h225⟩ := cons_len h224
  obtain ⟨u226, t226, rfl, h226⟩ := cons_len h225
  obtain rfl := nil_len h226
  obtain ⟨pos, it, stk, ch, ps⟩ := st
  obtain rfl := Option.some.inj (hr.symm.trans (rfl : findLabel runC 3 = some _))
  obtain ⟨ac, cc, xc, rfl⟩ := hrd.q.cForm
  obtain ⟨ap, cp, xp, rfl⟩ := hrd.q.pForm
  obtain ⟨ao, co, rfl⟩ := own_len hrd.q.row
  have q0 := Blk.c0 hrd.blk
  have q1 := Blk.c1 hrd.blk
  have q3 := Blk.c3 hrd.blk
  have q4 := Blk.c4 hrd.blk
  have q5 := Blk.c5 hrd.blk
  have f1 := hrd.blk.frozen 1
  dsimp only at q0 q1 q3 q4 q5
  have HR := Lib.hid hrd
  have HO := Lib.hid ok
  have HL := Lib.hid hL
  have hxl := xs_len s
  obtain ⟨hp1, hi48, hd32, hbd⟩ := ok
  dsimp only at hp1 hi48 hd32
  rw [hxl] at hp1
  clear hr hl hrd hL hbd h4 h20 h36 h52 h68 h84 h100 h116 h132 h148 h164 h180 h196 h212 h213 h214 h215 h216 h217 h218 h219 h220 h221 h222 h223 h224 h225 h226
  dsimp only [Lab] at HL
  obtain ⟨hL1, cb, hcb, hx⟩ := HL.out
  dsimp only at hx
  have hlt : pos < s.size := by rw [← hxl]; exact (List.getElem?_eq_some_iff.1 hx).1
  have hcx : s[pos] = cb := by have h := xs_get hlt; rw [hx] at h; exact (Option.some.inj h).symm
  have HLa := Lib.hid hL1
  clear HL
  rcases List.eq_nil_or_concat ps with rfl | ⟨l, t, rfl⟩
  · dsimp only [List.length_nil] at q5
    go_wp2_with fail
    exact QR.ret HR.out rfl rfl (.inr ⟨rfl, HLa.out.trans (st_42e hcb hx (.inl rfl))⟩)
  · rw [List.concat_eq_append] at *
    rw [List.length_append, List.length_singleton] at q5
    have HIt := Lib.hid (item_any w g s pos it _ _ _ HR.out.blk (by omega))
    have hpl := bdL_len (l ++ [t])
    rw [List.length_append, List.length_singleton] at hpl
    have hbo := HO.out.2.2.2
    have hbp := bdS_parts ⟨pos, it, stk, ch, l ++ [t]⟩
    dsimp only at hbo hbp
    have hll : l.length ≤ 100000 := by omega
    clear hpl hbo hbp
    go_wp2_with fail
    refine HIt.out.mono ?_
    rintro e w1 ⟨rfl, hB1, hg1⟩
    have HR1 := Lib.hid (HR.out.it (it + 1) hB1 hg1)
    clear hB1 hg1
    by_cases hi : it < 48
    case neg =>
      rw [decide_eq_false hi]
      go_wp2_with fail
      exact QR.ret HR1.out rfl rfl (.inr ⟨rfl, HLa.out.trans (st_42e hcb hx (.inr (by omega)))⟩)
    case pos =>
    rw [decide_eq_true hi]
    have HS := Lib.hid (ok_of (st_42 (stk := stk) (ch := ch) hcb hx hi) HO.out)
    obtain ⟨gp, cap, u, hv, hc1, hc2, hgp, hne, hcell, hfz, ht, hput⟩ := HR1.out.drew.q.tip
    dsimp only at hv
    rw [List.length_append, List.length_singleton] at hv
    obtain ⟨rfl, _, rfl⟩ : ap = some ⟨gp, 0, none⟩ ∧ True ∧ cp = cap := by
      simp only [Value.slice.injEq] at hv
      exact ⟨hv.1, trivial, hv.2.2⟩
    obtain ⟨ty, pay, rfl⟩ := ht.form
    have HP := Lib.hid (hput _ _ (.suf (.iface ty pay) t s[pos] ht))
    have hS0 : HdR g (.string s) (.int .i64 (pos : Int)) (.slice ao stk.length co) (.slice ac ch.length cc) (.slice (some ⟨gp, 0, none⟩) (l.length + 1) cp) w1.drew ∧ w1.drew.cell? ⟨gp, l.length, none⟩ = some (.iface ty pay) := ⟨by have h := HdR.of HR1.out.drew.blk; dsimp only at h; rw [List.length_append, List.length_singleton] at h; exact h, hcell⟩
    have HB := Lib.hid (HR1.out.drew.blk.far (p := ⟨gp, l.length, none⟩) (show g ≠ gp from Ne.symm hne) (.iface 84 (.agg #[.iface ty pay, bv s[pos]])))
    unfold maxLen at hc2
    have hwr : IntKind.i64.wrap (l.length : Int) = (l.length : Int) := IntWalk.i64_in _ (by omega)
    have hll1 : (l.length : Int) < (l.length : Int) + 1 := by omega
    clear q0 q1 q3 q4 q5 f1 hput ht hv hx
    go_wp2_with fail
    refine wp_region_last 38 (fun w' => HdR g (.string s) (.int .i64 (pos : Int)) (.slice ao stk.length co) (.slice ac ch.length cc) (.slice (some ⟨gp, 0, none⟩) (l.length + 1) cp) w' ∧ w'.cell? ⟨gp, l.length, none⟩ = some (.iface ty pay)) mixed ?_
    refine wpLast_take (i := 0) (oi := { dst := some 107, op := Op.move (Operand.tmp 0), type := 81, pos := "read.go:82", after := #[], guard := none }) (v := ?_) rfl (by kernel_rfl) (by kernel_rfl) (by kernel_rfl) (by kernel_rfl) (fun _ _ _ h => h) (Or.inl ⟨by rfl, ?_⟩) (by assumption) ?_
    rotate_left
    · intro w hSw
      try dsimp only at hSw
      go_simp
      try with_reducible rfl
    try simp only [Act.put, List.setIfInBounds_toArray, List.set_cons_zero, List.set_cons_succ]
    refine wpLast_take (i := 1) (oi := { dst := some 108, op := Op.nilCheck (Operand.tmp 107), type := 0, pos := "read.go:82", after := #[{ on := 0, ground := Ground.data }], guard := none }) (v := ?_) rfl (by kernel_rfl) (by kernel_rfl) (by kernel_rfl) (by kernel_rfl) (fun _ _ _ h => h) (Or.inl ⟨by rfl, ?_⟩) (by assumption) ?_
    rotate_left
    · intro w hSw
      try dsimp only at hSw
      go_simp
      try with_reducible rfl
    try simp only [Act.put, List.setIfInBounds_toArray, List.set_cons_zero, List.set_cons_succ]
    refine wpLast_take (i := 2) (oi := { dst := some 109, op := Op.fieldAddr 54 (Operand.tmp 108) 4, type := 0, pos := "read.go:82", after := #[{ on := 1, ground := Ground.data }], guard := none }) (v := ?_) rfl (by kernel_rfl) (by kernel_rfl) (by kernel_rfl) (by kernel_rfl) (fun _ _ _ h => h) (Or.inl ⟨by rfl, ?_⟩) (by assumption) ?_
    rotate_left
    · intro w hSw
      try dsimp only at hSw
      go_simp
      try with_reducible rfl
    try simp only [Act.put, List.setIfInBounds_toArray, List.set_cons_zero, List.set_cons_succ]
    refine wpLast_take (i := 3) (oi := { dst := some 110, op := Op.fieldAddr 52 (Operand.tmp 109) 1, type := 0, pos := "read.go:82", after := #[{ on := 2, ground := Ground.data }], guard := none }) (v := ?_) rfl (by kernel_rfl) (by kernel_rfl) (by kernel_rfl) (by kernel_rfl) (fun _ _ _ h => h) (Or.inl ⟨by rfl, ?_⟩) (by assumption) ?_
    rotate_left
    · intro w hSw
      try dsimp only at hSw
      go_simp
      try with_reducible rfl
    try simp only [Act.put, List.setIfInBounds_toArray, List.set_cons_zero, List.set_cons_succ]
    refine wpLast_take (i := 4) (oi := { dst := some 111, op := Op.load 50 (Operand.tmp 110), type := 50, pos := "read.go:82", after := #[{ on := 3, ground := Ground.data }], guard := none }) (v := ?_) rfl (by kernel_rfl) (by kernel_rfl) (by kernel_rfl) (by kernel_rfl) (fun _ _ _ h => h) (Or.inl ⟨by rfl, ?_⟩) (by assumption) ?_
    rotate_left
    · intro w hSw
      try dsimp only at hSw
      go_simp
      try with_reducible rfl
    try simp only [Act.put, List.setIfInBounds_toArray, List.set_cons_zero, List.set_cons_succ]
    refine wpLast_take (i := 5) (oi := { dst := some 112, op := Op.move (Operand.tmp 0), type := 81, pos := "read.go:82", after := #[], guard := none }) (v := ?_) rfl (by kernel_rfl) (by kernel_rfl) (by kernel_rfl) (by kernel_rfl) (fun _ _ _ h => h) (Or.inl ⟨by rfl, ?_⟩) (by assumption) ?_
    rotate_left
    · intro w hSw
      try dsimp only at hSw
      go_simp
      try with_reducible rfl
    try simp only [Act.put, List.setIfInBounds_toArray, List.set_cons_zero, List.set_cons_succ]
    refine wpLast_take (i := 6) (oi := { dst := some 113, op := Op.nilCheck (Operand.tmp 112), type := 0, pos := "read.go:82", after := #[{ on := 5, ground := Ground.data }], guard := none }) (v := ?_) rfl (by kernel_rfl) (by kernel_rfl) (by kernel_rfl) (by kernel_rfl) (fun _ _ _ h => h) (Or.inl ⟨by rfl, ?_⟩) (by assumption) ?_
    rotate_left
    · intro w hSw
      try dsimp only at hSw
      go_simp
      try with_reducible rfl
    try simp only [Act.put, List.setIfInBounds_toArray, List.set_cons_zero, List.set_cons_succ]
    refine wpLast_take (i := 7) (oi := { dst := some 114, op := Op.fieldAddr 54 (Operand.tmp 113) 4, type := 0, pos := "read.go:82", after := #[{ on := 6, ground := Ground.data }], guard := none }) (v := ?_) rfl (by kernel_rfl) (by kernel_rfl) (by kernel_rfl) (by kernel_rfl) (fun _ _ _ h => h) (Or.inl ⟨by rfl, ?_⟩) (by assumption) ?_
    rotate_left
    · intro w hSw
      try dsimp only at hSw
      go_simp
      try with_reducible rfl
    try simp only [Act.put, List.setIfInBounds_toArray, List.set_cons_zero, List.set_cons_succ]
    refine wpLast_take (i := 8) (oi := { dst := some 115, op := Op.fieldAddr 52 (Operand.tmp 114) 1, type := 0, pos := "read.go:82", after := #[{ on := 7, ground := Ground.data }], guard := none }) (v := ?_) rfl (by kernel_rfl) (by kernel_rfl) (by kernel_rfl) (by kernel_rfl) (fun _ _ _ h => h) (Or.inl ⟨by rfl, ?_⟩) (by assumption) ?_
    rotate_left
    · intro w hSw
      try dsimp only at hSw
      go_simp
      try with_reducible rfl
    try simp only [Act.put, List.setIfInBounds_toArray, List.set_cons_zero, List.set_cons_succ]
    refine wpLast_take (i := 9) (oi := { dst := some 116, op := Op.load 50 (Operand.tmp 115), type := 50, pos := "read.go:82", after := #[{ on := 8, ground := Ground.data }], guard := none }) (v := ?_) rfl (by kernel_rfl) (by kernel_rfl) (by kernel_rfl) (by kernel_rfl) (fun _ _ _ h => h) (Or.inl ⟨by rfl, ?_⟩) (by assumption) ?_
    rotate_left
    · intro w hSw
      try dsimp only at hSw
      go_simp
      try with_reducible rfl
    try simp only [Act.put, List.setIfInBounds_toArray, List.set_cons_zero, List.set_cons_succ]
    refine wpLast_take (i := 10) (oi := { dst := some 117, op := Op.call { callee := Callee.builtin Builtin.len, args := #[Operand.tmp 116], argTypes := #[50] }, type := 3, pos := "read.go:82", after := #[{ on := 9, ground := Ground.data }], guard := none }) (v := ?_) rfl (by kernel_rfl) (by kernel_rfl) (by kernel_rfl) (by kernel_rfl) (fun _ _ _ h => h) (Or.inl ⟨by rfl, ?_⟩) (by assumption) ?_
    rotate_left
    · intro w hSw
      try dsimp only at hSw
      go_simp
      try with_reducible rfl
    try simp only [Act.put, List.setIfInBounds_toArray, List.set_cons_zero, List.set_cons_succ]
    refine wpLast_take (i := 11) (oi := { dst := some 118, op := Op.binOp BinOp.sub 3 (Operand.tmp 117) (Operand.const (Value.int IntKind.i64 1)) 3, type := 3, pos := "read.go:82", after := #[{ on := 10, ground := Ground.data }], guard := none }) (v := ?_) rfl (by kernel_rfl) (by kernel_rfl) (by kernel_rfl) (by kernel_rfl) (fun _ _ _ h => h) (Or.inl ⟨by rfl, ?_⟩) (by assumption) ?_
    rotate_left
    · intro w hSw
      try dsimp only at hSw
      go_simp
      try with_reducible rfl
    try simp only [Act.put, List.setIfInBounds_toArray, List.set_cons_zero, List.set_cons_succ]
    refine wpLast_take (i := 12) (oi := { dst := some 119, op := Op.move (Operand.tmp 0), type := 81, pos := "read.go:82", after := #[], guard := none }) (v := ?_) rfl (by kernel_rfl) (by kernel_rfl) (by kernel_rfl) (by kernel_rfl) (fun _ _ _ h => h) (Or.inl ⟨by rfl, ?_⟩) (by assumption) ?_
    rotate_left
    · intro w hSw
      try dsimp only at hSw
      go_simp
      try with_reducible rfl
    try simp only [Act.put, List.setIfInBounds_toArray, List.set_cons_zero, List.set_cons_succ]
    refine wpLast_take (i := 13) (oi := { dst := some 120, op := Op.nilCheck (Operand.tmp 119), type := 0, pos := "read.go:82", after := #[{ on := 12, ground := Ground.data }], guard := none }) (v := ?_) rfl (by kernel_rfl) (by kernel_rfl) (by kernel_rfl) (by kernel_rfl) (fun _ _ _ h => h) (Or.inl ⟨by rfl, ?_⟩) (by assumption) ?_
    rotate_left
    · intro w hSw
      try dsimp only at hSw
      go_simp
      try with_reducible rfl
    try simp only [Act.put, List.setIfInBounds_toArray, List.set_cons_zero, List.set_cons_succ]
    refine wpLast_take (i := 14) (oi := { dst := some 121, op := Op.fieldAddr 54 (Operand.tmp 120) 4, type := 0, pos := "read.go:82", after := #[{ on := 13, ground := Ground.data }], guard := none }) (v := ?_) rfl (by kernel_rfl) (by kernel_rfl) (by kernel_rfl) (by kernel_rfl) (fun _ _ _ h => h) (Or.inl ⟨by rfl, ?_⟩) (by assumption) ?_
    rotate_left
    · intro w hSw
      try dsimp only at hSw
      go_simp
      try with_reducible rfl
    try simp only [Act.put, List.setIfInBounds_toArray, List.set_cons_zero, List.set_cons_succ]
    refine wpLast_take (i := 15) (oi := { dst := some 122, op := Op.fieldAddr 52 (Operand.tmp 121) 1, type := 0, pos := "read.go:82", after := #[{ on := 14, ground := Ground.data }], guard := none }) (v := ?_) rfl (by kernel_rfl) (by kernel_rfl) (by kernel_rfl) (by kernel_rfl) (fun _ _ _ h => h) (Or.inl ⟨by rfl, ?_⟩) (by assumption) ?_
    rotate_left
    · intro w hSw
      try dsimp only at hSw
      go_simp
      try with_reducible rfl
    try simp only [Act.put, List.setIfInBounds_toArray, List.set_cons_zero, List.set_cons_succ]
    refine wpLast_take (i := 16) (oi := { dst := some 123, op := Op.load 50 (Operand.tmp 122), type := 50, pos := "read.go:82", after := #[{ on := 15, ground := Ground.data }], guard := none }) (v := ?_) rfl (by kernel_rfl) (by kernel_rfl) (by kernel_rfl) (by kernel_rfl) (fun _ _ _ h => h) (Or.inl ⟨by rfl, ?_⟩) (by assumption) ?_
    rotate_left
    · intro w hSw
      try dsimp only at hSw
      go_simp
      try with_reducible rfl
    try simp only [Act.put, List.setIfInBounds_toArray, List.set_cons_zero, List.set_cons_succ]
    refine wpLast_take (i := 17) (oi := { dst := some 124, op := Op.move (Operand.tmp 0), type := 81, pos := "read.go:82", after := #[], guard := none }) (v := ?_) rfl (by kernel_rfl) (by kernel_rfl) (by kernel_rfl) (by kernel_rfl) (fun _ _ _ h => h) (Or.inl ⟨by rfl, ?_⟩) (by assumption) ?_
    rotate_left
    · intro w hSw
      try dsimp only at hSw
      go_simp
      try with_reducible rfl
    try simp only [Act.put, List.setIfInBounds_toArray, List.set_cons_zero, List.set_cons_succ]
    refine wpLast_take (i := 18) (oi := { dst := some 125, op := Op.nilCheck (Operand.tmp 124), type := 0, pos := "read.go:82", after := #[{ on := 17, ground := Ground.data }], guard := none }) (v := ?_) rfl (by kernel_rfl) (by kernel_rfl) (by kernel_rfl) (by kernel_rfl) (fun _ _ _ h => h) (Or.inl ⟨by rfl, ?_⟩) (by assumption) ?_
    rotate_left
    · intro w hSw
      try dsimp only at hSw
      go_simp
      try with_reducible rfl
    try simp only [Act.put, List.setIfInBounds_toArray, List.set_cons_zero, List.set_cons_succ]
    refine wpLast_take (i := 19) (oi := { dst := some 126, op := Op.fieldAddr 54 (Operand.tmp 125) 4, type := 0, pos := "read.go:82", after := #[{ on := 18, ground := Ground.data }], guard := none }) (v := ?_) rfl (by kernel_rfl) (by kernel_rfl) (by kernel_rfl) (by kernel_rfl) (fun _ _ _ h => h) (Or.inl ⟨by rfl, ?_⟩) (by assumption) ?_
    rotate_left
    · intro w hSw
      try dsimp only at hSw
      go_simp
      try with_reducible rfl
    try simp only [Act.put, List.setIfInBounds_toArray, List.set_cons_zero, List.set_cons_succ]
    refine wpLast_take (i := 20) (oi := { dst := some 127, op := Op.fieldAddr 52 (Operand.tmp 126) 1, type := 0, pos := "read.go:82", after := #[{ on := 19, ground := Ground.data }], guard := none }) (v := ?_) rfl (by kernel_rfl) (by kernel_rfl) (by kernel_rfl) (by kernel_rfl) (fun _ _ _ h => h) (Or.inl ⟨by rfl, ?_⟩) (by assumption) ?_
    rotate_left
    · intro w hSw
      try dsimp only at hSw
      go_simp
      try with_reducible rfl
    try simp only [Act.put, List.setIfInBounds_toArray, List.set_cons_zero, List.set_cons_succ]
    refine wpLast_take (i := 21) (oi := { dst := some 128, op := Op.load 50 (Operand.tmp 127), type := 50, pos := "read.go:82", after := #[{ on := 20, ground := Ground.data }], guard := none }) (v := ?_) rfl (by kernel_rfl) (by kernel_rfl) (by kernel_rfl) (by kernel_rfl) (fun _ _ _ h => h) (Or.inl ⟨by rfl, ?_⟩) (by assumption) ?_
    rotate_left
    · intro w hSw
      try dsimp only at hSw
      go_simp
      try with_reducible rfl
    try simp only [Act.put, List.setIfInBounds_toArray, List.set_cons_zero, List.set_cons_succ]
    refine wpLast_take (i := 22) (oi := { dst := some 129, op := Op.call { callee := Callee.builtin Builtin.len, args := #[Operand.tmp 128], argTypes := #[50] }, type := 3, pos := "read.go:82", after := #[{ on := 21, ground := Ground.data }], guard := none }) (v := ?_) rfl (by kernel_rfl) (by kernel_rfl) (by kernel_rfl) (by kernel_rfl) (fun _ _ _ h => h) (Or.inl ⟨by rfl, ?_⟩) (by assumption) ?_
    rotate_left
    · intro w hSw
      try dsimp only at hSw
      go_simp
      try with_reducible rfl
    try simp only [Act.put, List.setIfInBounds_toArray, List.set_cons_zero, List.set_cons_succ]
    refine wpLast_take (i := 23) (oi := { dst := some 130, op := Op.binOp BinOp.sub 3 (Operand.tmp 129) (Operand.const (Value.int IntKind.i64 1)) 3, type := 3, pos := "read.go:82", after := #[{ on := 22, ground := Ground.data }], guard := none }) (v := ?_) rfl (by kernel_rfl) (by kernel_rfl) (by kernel_rfl) (by kernel_rfl) (fun _ _ _ h => h) (Or.inl ⟨by rfl, ?_⟩) (by assumption) ?_
    rotate_left
    · intro w hSw
      try dsimp only at hSw
      go_simp
      try with_reducible rfl
    try simp only [Act.put, List.setIfInBounds_toArray, List.set_cons_zero, List.set_cons_succ]
    refine wpLast_take (i := 24) (oi := { dst := some 131, op := Op.indexAddr 50 (Operand.tmp 123) (Operand.tmp 130), type := 0, pos := "read.go:82", after := #[{ on := 16, ground := Ground.data }, { on := 23, ground := Ground.data }], guard := none }) (v := ?_) rfl (by kernel_rfl) (by kernel_rfl) (by kernel_rfl) (by kernel_rfl) (fun _ _ _ h => h) (Or.inl ⟨by rfl, ?_⟩) (by assumption) ?_
    rotate_left
    · intro w hSw
      try dsimp only at hSw
      go_simp
      try with_reducible rfl
    try simp only [Act.put, List.setIfInBounds_toArray, List.set_cons_zero, List.set_cons_succ]
    refine wpLast_take (i := 25) (oi := { dst := some 132, op := Op.load 57 (Operand.tmp 131), type := 57, pos := "read.go:82", after := #[{ on := 24, ground := Ground.data }], guard := none }) (v := ?_) rfl (by kernel_rfl) (by kernel_rfl) (by kernel_rfl) (by kernel_rfl) (fun _ _ _ h => h) (Or.inl ⟨by rfl, ?_⟩) (by assumption) ?_
    rotate_left
    · intro w hSw
      try dsimp only at hSw
      go_simp
      try with_reducible rfl
    try simp only [Act.put, List.setIfInBounds_toArray, List.set_cons_zero, List.set_cons_succ]
    refine wpLast_take (i := 26) (oi := { dst := some 133, op := Op.move (Operand.tmp 0), type := 81, pos := "read.go:82", after := #[], guard := none }) (v := ?_) rfl (by kernel_rfl) (by kernel_rfl) (by kernel_rfl) (by kernel_rfl) (fun _ _ _ h => h) (Or.inl ⟨by rfl, ?_⟩) (by assumption) ?_
    rotate_left
    · intro w hSw
      try dsimp only at hSw
      go_simp
      try with_reducible rfl
    try simp only [Act.put, List.setIfInBounds_toArray, List.set_cons_zero, List.set_cons_succ]
    refine wpLast_take (i := 27) (oi := { dst := some 134, op := Op.nilCheck (Operand.tmp 133), type := 0, pos := "read.go:82", after := #[{ on := 26, ground := Ground.data }], guard := none }) (v := ?_) rfl (by kernel_rfl) (by kernel_rfl) (by kernel_rfl) (by kernel_rfl) (fun _ _ _ h => h) (Or.inl ⟨by rfl, ?_⟩) (by assumption) ?_
    rotate_left
    · intro w hSw
      try dsimp only at hSw
      go_simp
      try with_reducible rfl
    try simp only [Act.put, List.setIfInBounds_toArray, List.set_cons_zero, List.set_cons_succ]
    refine wpLast_take (i := 28) (oi := { dst := some 135, op := Op.fieldAddr 54 (Operand.tmp 134) 0, type := 0, pos := "read.go:82", after := #[{ on := 27, ground := Ground.data }], guard := none }) (v := ?_) rfl (by kernel_rfl) (by kernel_rfl) (by kernel_rfl) (by kernel_rfl) (fun _ _ _ h => h) (Or.inl ⟨by rfl, ?_⟩) (by assumption) ?_
    rotate_left
    · intro w hSw
      try dsimp only at hSw
      go_simp
      try with_reducible rfl
    try simp only [Act.put, List.setIfInBounds_toArray, List.set_cons_zero, List.set_cons_succ]
    refine wpLast_take (i := 29) (oi := { dst := some 136, op := Op.load 9 (Operand.tmp 135), type := 9, pos := "read.go:82", after := #[{ on := 28, ground := Ground.data }], guard := none }) (v := ?_) rfl (by kernel_rfl) (by kernel_rfl) (by kernel_rfl) (by kernel_rfl) (fun _ _ _ h => h) (Or.inl ⟨by rfl, ?_⟩) (by assumption) ?_
    rotate_left
    · intro w hSw
      try dsimp only at hSw
      go_simp
      try with_reducible rfl
    try simp only [Act.put, List.setIfInBounds_toArray, List.set_cons_zero, List.set_cons_succ]
    refine wpLast_take (i := 30) (oi := { dst := some 137, op := Op.move (Operand.tmp 0), type := 81, pos := "read.go:82", after := #[], guard := none }) (v := ?_) rfl (by kernel_rfl) (by kernel_rfl) (by kernel_rfl) (by kernel_rfl) (fun _ _ _ h => h) (Or.inl ⟨by rfl, ?_⟩) (by assumption) ?_
    rotate_left
    · intro w hSw
      try dsimp only at hSw
      go_simp
      try with_reducible rfl
    try simp only [Act.put, List.setIfInBounds_toArray, List.set_cons_zero, List.set_cons_succ]
    refine wpLast_take (i := 31) (oi := { dst := some 138, op := Op.nilCheck (Operand.tmp 137), type := 0, pos := "read.go:82", after := #[{ on := 30, ground := Ground.data }], guard := none }) (v := ?_) rfl (by kernel_rfl) (by kernel_rfl) (by kernel_rfl) (by kernel_rfl) (fun _ _ _ h => h) (Or.inl ⟨by rfl, ?_⟩) (by assumption) ?_
    rotate_left
    · intro w hSw
      try dsimp only at hSw
      go_simp
      try with_reducible rfl
    try simp only [Act.put, List.setIfInBounds_toArray, List.set_cons_zero, List.set_cons_succ]
    refine wpLast_take (i := 32) (oi := { dst := some 139, op := Op.fieldAddr 54 (Operand.tmp 138) 1, type := 0, pos := "read.go:82", after := #[{ on := 31, ground := Ground.data }], guard := none }) (v := ?_) rfl (by kernel_rfl) (by kernel_rfl) (by kernel_rfl) (by kernel_rfl) (fun _ _ _ h => h) (Or.inl ⟨by rfl, ?_⟩) (by assumption) ?_
    rotate_left
    · intro w hSw
      try dsimp only at hSw
      go_simp
      try with_reducible rfl
    try simp only [Act.put, List.setIfInBounds_toArray, List.set_cons_zero, List.set_cons_succ]
    refine wpLast_take (i := 33) (oi := { dst := some 140, op := Op.load 3 (Operand.tmp 139), type := 3, pos := "read.go:82", after := #[{ on := 32, ground := Ground.data }], guard := none }) (v := ?_) rfl (by kernel_rfl) (by kernel_rfl) (by kernel_rfl) (by kernel_rfl) (fun _ _ _ h => h) (Or.inl ⟨by rfl, ?_⟩) (by assumption) ?_
    rotate_left
    · intro w hSw
      try dsimp only at hSw
      go_simp
      try with_reducible rfl
    try simp only [Act.put, List.setIfInBounds_toArray, List.set_cons_zero, List.set_cons_succ]
    refine wpLast_take (i := 34) (oi := { dst := some 141, op := Op.index 9 (Operand.tmp 136) (Operand.tmp 140), type := 5, pos := "read.go:82", after := #[{ on := 29, ground := Ground.data }, { on := 33, ground := Ground.data }], guard := none }) (v := ?_) rfl (by kernel_rfl) (by kernel_rfl) (by kernel_rfl) (by kernel_rfl) (fun _ _ _ h => h) (Or.inl ⟨by rfl, ?_⟩) (by assumption) ?_
    rotate_left
    · intro w hSw
      try dsimp only at hSw
      go_simp
      try with_reducible rfl
    try simp only [Act.put, List.setIfInBounds_toArray, List.set_cons_zero, List.set_cons_succ]
    refine wpLast_take (i := 35) (oi := { dst := some 142, op := Op.build 84 #[(0, Operand.tmp 132), (1, Operand.tmp 141)], type := 84, pos := "read.go:82", after := #[{ on := 25, ground := Ground.data }, { on := 34, ground := Ground.data }], guard := none }) (v := ?_) rfl (by kernel_rfl) (by kernel_rfl) (by kernel_rfl) (by kernel_rfl) (fun _ _ _ h => h) (Or.inl ⟨by rfl, ?_⟩) (by assumption) ?_
    rotate_left
    · intro w hSw
      try dsimp only at hSw
      go_simp
      try with_reducible rfl
    try simp only [Act.put, List.setIfInBounds_toArray, List.set_cons_zero, List.set_cons_succ]
    refine wpLast_take (i := 36) (oi := { dst := some 143, op := Op.makeInterface 84 (Operand.tmp 142), type := 57, pos := "read.go:82", after := #[{ on := 35, ground := Ground.data }], guard := none }) (v := ?_) rfl (by kernel_rfl) (by kernel_rfl) (by kernel_rfl) (by kernel_rfl) (fun _ _ _ h => h) (Or.inl ⟨by rfl, ?_⟩) (by assumption) ?_
    rotate_left
    · intro w hSw
      try dsimp only at hSw
      go_simp
      try with_reducible rfl
    try simp only [Act.put, List.setIfInBounds_toArray, List.set_cons_zero, List.set_cons_succ]
    refine wpLast_ready (rs := [37]) (by kernel_rfl) (by simp) ?_
    refine EachLast.cons (o := { dst := some 144, op := Op.indexAddr 50 (Operand.tmp 111) (Operand.tmp 118), type := 0, pos := "read.go:82", after := #[{ on := 4, ground := Ground.data }, { on := 11, ground := Ground.data }, { on := 0, ground := Ground.phase }, { on := 1, ground := Ground.phase }, { on := 2, ground := Ground.phase }, { on := 3, ground := Ground.phase }, { on := 4, ground := Ground.phase }, { on := 5, ground := Ground.phase }, { on := 6, ground := Ground.phase }, { on := 7, ground := Ground.phase }, { on := 8, ground := Ground.phase }, { on := 9, ground := Ground.phase }, { on := 10, ground := Ground.phase }, { on := 11, ground := Ground.phase }, { on := 12, ground := Ground.phase }, { on := 13, ground := Ground.phase }, { on := 14, ground := Ground.phase }, { on := 15, ground := Ground.phase }, { on := 16, ground := Ground.phase }, { on := 17, ground := Ground.phase }, { on := 18, ground := Ground.phase }, { on := 19, ground := Ground.phase }, { on := 20, ground := Ground.phase }, { on := 21, ground := Ground.phase }, { on := 22, ground := Ground.phase }, { on := 23, ground := Ground.phase }, { on := 24, ground := Ground.phase }, { on := 25, ground := Ground.phase }, { on := 26, ground := Ground.phase }, { on := 27, ground := Ground.phase }, { on := 28, ground := Ground.phase }, { on := 29, ground := Ground.phase }, { on := 30, ground := Ground.phase }, { on := 31, ground := Ground.phase }, { on := 32, ground := Ground.phase }, { on := 33, ground := Ground.phase }, { on := 34, ground := Ground.phase }, { on := 35, ground := Ground.phase }, { on := 36, ground := Ground.phase }], guard := none }) rfl (fun K hK => ?_) EachLast.nil
    go_simp
    refine hK.out _ _ (fun _ => hS0) ?_
    try simp only [Act.put, List.setIfInBounds_toArray, List.set_cons_zero, List.set_cons_succ]
    refine wpLast_ready (rs := [38]) (by kernel_rfl) (by simp) ?_
    refine EachLast.cons (o := { dst := none, op := Op.store 57 (Operand.tmp 144) (Operand.tmp 143), type := 0, pos := "read.go:82", after := #[{ on := 37, ground := Ground.data }, { on := 36, ground := Ground.data }, { on := 0, ground := Ground.phase }, { on := 1, ground := Ground.phase }, { on := 2, ground := Ground.phase }, { on := 3, ground := Ground.phase }, { on := 4, ground := Ground.phase }, { on := 5, ground := Ground.phase }, { on := 6, ground := Ground.phase }, { on := 7, ground := Ground.phase }, { on := 8, ground := Ground.phase }, { on := 9, ground := Ground.phase }, { on := 10, ground := Ground.phase }, { on := 11, ground := Ground.phase }, { on := 12, ground := Ground.phase }, { on := 13, ground := Ground.phase }, { on := 14, ground := Ground.phase }, { on := 15, ground := Ground.phase }, { on := 16, ground := Ground.phase }, { on := 17, ground := Ground.phase }, { on := 18, ground := Ground.phase }, { on := 19, ground := Ground.phase }, { on := 20, ground := Ground.phase }, { on := 21, ground := Ground.phase }, { on := 22, ground := Ground.phase }, { on := 23, ground := Ground.phase }, { on := 24, ground := Ground.phase }, { on := 25, ground := Ground.phase }, { on := 26, ground := Ground.phase }, { on := 27, ground := Ground.phase }, { on := 28, ground := Ground.phase }, { on := 29, ground := Ground.phase }, { on := 30, ground := Ground.phase }, { on := 31, ground := Ground.phase }, { on := 32, ground := Ground.phase }, { on := 33, ground := Ground.phase }, { on := 34, ground := Ground.phase }, { on := 35, ground := Ground.phase }, { on := 36, ground := Ground.phase }], guard := none }) rfl (fun K hK => ?_) EachLast.nil
    go_simp
    refine hK.out _ _ (fun h => absurd rfl h) ?_
    try simp only [Act.put, List.setIfInBounds_toArray, List.set_cons_zero, List.set_cons_succ]
    refine wpLast_done (by kernel_rfl) ?_ _
    have HR9 := Lib.hid (show Rd W g s ⟨pos, it + 1, stk, ch, l ++ [.suf t cb]⟩ _ _ _ _ _ ((w1.setCell ⟨gp, l.length, none⟩ (.iface 84 (.agg #[.iface ty pay, .int .u8 (cb.toNat : Int)]))).drew) from by rw [← hcx]; exact ⟨HP.out, HB.out⟩)
    have f1 := HR9.out.blk.frozen 1
    have b1 := Blk.c1 HR9.out.blk
    clear hS0 HP HB hcell hfz
    generalize (w1.setCell ⟨gp, l.length, none⟩ (.iface 84 (.agg #[.iface ty pay, .int .u8 (cb.toNat : Int)]))).drew = Z at *
    go_wp2_with fail
    go_step3
    exact QR.go (st := ⟨pos + 1, it + 1, stk, ch, l ++ [.suf t cb]⟩) HR.out hs rfl ⟨_, rfl⟩ (HR9.out.pos (pos + 1)) HS.out.2 (HLa.out.trans HS.out.1) (by first | (simp; done) | (simp; omega))
end Go.Proofs.Ytlbkacabcfeaiaa.Tl
