/- Patterns: the program reads a text, label by label. Printed by mkrun.py. -/
import Derived.Test.YtlbkacabcfeaiaaZRa
namespace Go.Proofs.Ytlbkacabcfeaiaa.Tl
open Go.RowKit Mm
set_option linter.unusedVariables false
set_option maxRecDepth 100000 in
set_option maxHeartbeats 8000000 in
theorem pass5 {W : World} {g : Nat} {s : ByteArray} {st0 : St} (hs : s.size ≤ 1000) (a : Act) (w : World) (hJ : JR W g s st0 5 a w) (rest : Code) (hr : findLabel runC 5 = some rest) : rest.wp Try.prog (QR W g s st0 5 a w) a w := by
  obtain ⟨u1, d, us, st, out, R, c, p, S, hl, rfl, hrd, ok, hL⟩ := hJ
  obtain ⟨u4, u5, u6, u7, u8, u9, u10, u11, u12, u13, u14, u15, u16, u17, u18, u19, t4, rfl, h4⟩ := list16 hl
  obtain ⟨u20, u21, u22, u23, u24, u25, u26, u27, u28, u29, u30, u31, u32, u33, u34, u35, t20, rfl, h20⟩ := list16 h4
  obtain ⟨u36, u37, u38, u39, u40, u41, u42, u43, u44, u45, u46, u47, u48, u49, u50, u51, t36, rfl, h36⟩ := list16 h20
  obtain ⟨u52, u53, u54, u55, u56, u57, u58, u59, u60, u61, u62, u63, u64, u65, u66, u67, t52, rfl, h52⟩ := list16 h36
  obtain ⟨u68, u69, u70, u71, u72, u73, u74, u75, u76, u77, u78, u79, u80, u81, u82, u83, t68, rfl, h68⟩ := list16 h52
  obtain ⟨u84, u85, u86, u87, u88, u89, u90, u91, u92, u93, u94, u95, u96, u97, u98, u99, t84, rfl, h84⟩ := list16 h68
  obtain ⟨u100, u101, u102, u103, u104, u105, u106, u107, u108, u109, u110, u111, u112, u113, u114, u115, t100, rfl, h100⟩ := list16 h84
  obtain ⟨u116, u117, u118, u119, u120, u121, u122, u123, u124, u125, u126, u127, u128, u129, u130, u131, t116, rfl, h116⟩ := list16 h100
  obtain ⟨u132, u133, u134, u135, u136, u137, u138, u139, u140, u141, u142, u143, u144, u145, u146, u147, t132, rfl, h132⟩ := list16 h116
  obtain ⟨u148, u149, u150, u151, u152, u153, u154, u155, u156, u157, u158, u159, u160, u161, u162, u163, t148, rfl, h148⟩ := list16 h132
  obtain ⟨u164, u165, u166, u167, u168, u169, u170, u171, u172, u173, u174, u175, u176, u177, u178, u179, t164, rfl, h164⟩ := list16 h148
  obtain ⟨u180, u181, u182, u183, u184, u185, u186, u187, u188, u189, u190, u191, u192, u193, u194, u195, t180, rfl, h180⟩ := list16 h164
  obtain ⟨u196, u197, u198, u199, u200, u201, u202, u203, u204, u205, u206, u207, u208, u209, u210, u211, t196, rfl, h196⟩ := list16 h180
  obtain ⟨u212, t212, rfl, h212⟩ := cons_len h196
  obtain ⟨u213, t213, rfl, h213⟩ := cons_len h212
  obtain ⟨u214, t214, rfl, h214⟩ := cons_len h213
  obtain ⟨u215, t215, rfl, h215⟩ := cons_len h214
  obtain ⟨u216, t216, rfl, h216⟩ := cons_len h215
  obtain ⟨u217, t217, rfl, h217⟩ := cons_len h216
  obtain ⟨u218, t218, rfl, h218⟩ := cons_len h217
  obtain ⟨u219, t219, rfl, h219⟩ := cons_len h218
  obtain ⟨u220, t220, rfl, h220⟩ := cons_len h219
  obtain ⟨u221, t221, rfl, h221⟩ := cons_len h220
  obtain ⟨u222, t222, rfl, h222⟩ := cons_len h221
  obtain ⟨u223, t223, rfl, h223⟩ := cons_len h222
  obtain ⟨u224, t224, rfl, h224⟩ := cons_len h223
  obtain ⟨u225, t225, rfl, h225⟩ := cons_len h224
  obtain ⟨u226, t226, rfl, h226⟩ := cons_len h225
  obtain rfl := nil_len h226
  obtain ⟨pos, it, stk, ch, ps⟩ := st
  obtain rfl := Option.some.inj (hr.symm.trans (rfl : findLabel runC 5 = some _))
  obtain ⟨ac, cc, xc, rfl⟩ := hrd.q.cForm
  obtain ⟨ap, cp, xp, rfl⟩ := hrd.q.pForm
  obtain ⟨ao, co, rfl⟩ := own_len hrd.q.row
  have q0 := Blk.c0 hrd.blk
  have q1 := Blk.c1 hrd.blk
  have q3 := Blk.c3 hrd.blk
  have q4 := Blk.c4 hrd.blk
  have q5 := Blk.c5 hrd.blk
  have f1 := hrd.blk.frozen 1
  dsimp only at q0 q1 q3 q4 q5
  have HR := Lib.hid hrd
  have HO := Lib.hid ok
  have HL := Lib.hid hL
  have hxl := xs_len s
  obtain ⟨hp1, hi48, hd32, hbd⟩ := ok
  dsimp only at hp1 hi48 hd32
  rw [hxl] at hp1
  clear hr hl hrd hL hbd h4 h20 h36 h52 h68 h84 h100 h116 h132 h148 h164 h180 h196 h212 h213 h214 h215 h216 h217 h218 h219 h220 h221 h222 h223 h224 h225 h226
  dsimp only [Lab] at HL
  have HIt := Lib.hid (item_any w g s pos it _ _ _ HR.out.blk (by omega))
  go_wp2_with fail
  refine HIt.out.mono ?_
  rintro e w1 ⟨rfl, hB1, hg1⟩
  have HR1 := Lib.hid (HR.out.it (it + 1) hB1 hg1)
  clear hB1 hg1
  by_cases hi : it < 48
  case neg =>
    rw [decide_eq_false hi]
    go_wp2_with fail
    exact QR.ret HR1.out rfl rfl (.inr ⟨rfl, HL.out.1.trans (st_46e HL.out.2 (by omega))⟩)
  case pos =>
  rw [decide_eq_true hi]
  have q0 := Blk.c0 HR1.out.blk
  have q1 := Blk.c1 HR1.out.blk
  have q4 := Blk.c4 HR1.out.blk
  have q5 := Blk.c5 HR1.out.blk
  have f1 := HR1.out.blk.frozen 1
  have f5 := HR1.out.blk.frozen 5
  dsimp only at q0 q1 q4 q5
  have HS := Lib.hid (ok_of (st_46 (stk := stk) (ch := ch) (ps := ps) HL.out.2 hi) HO.out)
  have hpl := bdL_len ps
  have hbo := HO.out.2.2.2
  have hbp := bdS_parts ⟨pos, it, stk, ch, ps⟩
  dsimp only at hbo hbp
  have HQ := Lib.hid (fun (Y : World) (v' : Value) ho hk => (HR1.out.q.beside (bal (Below.refl _ _) (.cells #[leafV [46] false false false] 57))).pushed (Y := Y) (v' := v') (HR1.out.blk.alloc (.cells #[leafV [46] false false false] 57)) (.leaf [46] false false false) ho hk)
  have HRow := Lib.hid (HR1.out.q.fam.1 _ _ (at_p R _ _))
  have hbs := HR1.out.q.base
  dsimp only at HRow
  go_wp2_with (at_builtin; refine app_tree Try.underlying50 rfl HRow.out rfl rfl rfl rfl (by omega) hbs ?_; intro v' Y ho hk9; have hF := HQ.out Y v' ho hk9; obtain ⟨⟨a9, c9, hv9⟩, hB9, hRd9⟩ := hF; have g5 := hB9.frozen 5; have b5 := Blk.c5 hB9; have b1 := Blk.c1 hB9; have g1 := hB9.frozen 1; subst hv9)
  go_step3
  exact QR.go (st := ⟨pos + 1, it + 1, stk, ch, ps ++ [.leaf [46] false false false]⟩) HR.out hs rfl ⟨_, rfl⟩ (hRd9.pos (pos + 1)) HS.out.2 (HL.out.1.trans HS.out.1) (by first | (simp; done) | (simp; omega))
set_option maxRecDepth 100000 in
set_option maxHeartbeats 8000000 in
theorem pass6 {W : World} {g : Nat} {s : ByteArray} {st0 : St} (hs : s.size ≤ 1000) (a : Act) (w : World) (hJ : JR W g s st0 6 a w) (rest : Code) (hr : findLabel runC 6 = some rest) : rest.wp Try.prog (QR W g s st0 6 a w) a w := by
  obtain ⟨u1, d, us, st, out, R, c, p, S, hl, rfl, hrd, ok, hL⟩ := hJ
  obtain ⟨u4, u5, u6, u7, u8, u9, u10, u11, u12, u13, u14, u15, u16, u17, u18, u19, t4, rfl, h4⟩ := list16 hl
  obtain ⟨u20, u21, u22, u23, u24, u25, u26, u27, u28, u29, u30, u31, u32, u33, u34, u35, t20, rfl, h20⟩ := list16 h4
  obtain ⟨u36, u37, u38, u39, u40, u41, u42, u43, u44, u45, u46, u47, u48, u49, u50, u51, t36, rfl, h36⟩ := list16 h20
  obtain ⟨u52, u53, u54, u55, u56, u57, u58, u59, u60, u61, u62, u63, u64, u65, u66, u67, t52, rfl, h52⟩ := list16 h36
  obtain ⟨u68, u69, u70, u71, u72, u73, u74, u75, u76, u77, u78, u79, u80, u81, u82, u83, t68, rfl, h68⟩ := list16 h52
  obtain ⟨u84, u85, u86, u87, u88, u89, u90, u91, u92, u93, u94, u95, u96, u97, u98, u99, t84, rfl, h84⟩ := list16 h68
  obtain ⟨u100, u101, u102, u103, u104, u105, u106, u107, u108, u109, u110, u111, u112, u113, u114, u115, t100, rfl, h100⟩ := list16 h84
  obtain ⟨u116, u117, u118, u119, u120, u121, u122, u123, u124, u125, u126, u127, u128, u129, u130, u131, t116, rfl, h116⟩ := list16 h100
  obtain ⟨u132, u133, u134, u135, u136, u137, u138, u139, u140, u141, u142, u143, u144, u145, u146, u147, t132, rfl, h132⟩ := list16 h116
  obtain ⟨u148, u149, u150, u151, u152, u153, u154, u155, u156, u157, u158, u159, u160, u161, u162, u163, t148, rfl, h148⟩ := list16 h132
  obtain ⟨u164, u165, u166, u167, u168, u169, u170, u171, u172, u173, u174, u175, u176, u177, u178, u179, t164, rfl, h164⟩ := list16 h148
  obtain ⟨u180, u181, u182, u183, u184, u185, u186, u187, u188, u189, u190, u191, u192, u193, u194, u195, t180, rfl, h180⟩ := list16 h164
  obtain ⟨u196, u197, u198, u199, u200, u201, u202, u203, u204, u205, u206, u207, u208, u209, u210, u211, t196, rfl, h196⟩ := list16 h180
  obtain ⟨u212, t212, rfl, h212⟩ := cons_len h196
  obtain ⟨u213, t213, rfl, h213⟩ := cons_len h212
  obtain ⟨u214, t214, rfl, h214⟩ := cons_len h213
  obtain ⟨u215, t215, rfl, h215⟩ := cons_len h214
  obtain ⟨u216, t216, rfl, h216⟩ := cons_len h215
  obtain ⟨u217, t217, rfl, h217⟩ := cons_len h216
  obtain ⟨u218, t218, rfl, h218⟩ := cons_len h217
  obtain ⟨u219, t219, rfl, h219⟩ := cons_len h218
  obtain ⟨u220, t220, rfl, h220⟩ := cons_len h219
  obtain ⟨u221, t221, rfl, h221⟩ := cons_len h220
  obtain ⟨u222, t222, rfl, h222⟩ := cons_len h221
  obtain ⟨u223, t223, rfl, h223⟩ := cons_len h222
  obtain ⟨u224, t224, rfl, h224⟩ := cons_len h223
  obtain ⟨u225, t225, rfl, h225⟩ := cons_len h224
  obtain ⟨u226, t226, rfl, h226⟩ := cons_len h225
  obtain rfl := nil_len h226
  obtain ⟨pos, it, stk, ch, ps⟩ := st
  obtain rfl := Option.some.inj (hr.symm.trans (rfl : findLabel runC 6 = some _))
  obtain ⟨ac, cc, xc, rfl⟩ := hrd.q.cForm
  obtain ⟨ap, cp, xp, rfl⟩ := hrd.q.pForm
  obtain ⟨ao, co, rfl⟩ := own_len hrd.q.row
  have q0 := Blk.c0 hrd.blk
  have q1 := Blk.c1 hrd.blk
  have q3 := Blk.c3 hrd.blk
  have q4 := Blk.c4 hrd.blk
  have q5 := Blk.c5 hrd.blk
  have f1 := hrd.blk.frozen 1
  dsimp only at q0 q1 q3 q4 q5
  have HR := Lib.hid hrd
  have HO := Lib.hid ok
  have HL := Lib.hid hL
  have hxl := xs_len s
  obtain ⟨hp1, hi48, hd32, hbd⟩ := ok
  dsimp only at hp1 hi48 hd32
  rw [hxl] at hp1
  clear hr hl hrd hL hbd h4 h20 h36 h52 h68 h84 h100 h116 h132 h148 h164 h180 h196 h212 h213 h214 h215 h216 h217 h218 h219 h220 h221 h222 h223 h224 h225 h226
  dsimp only [Lab] at HL
  have HIt := Lib.hid (item_any w g s pos it _ _ _ HR.out.blk (by omega))
  go_wp2_with fail
  refine HIt.out.mono ?_
  rintro e w1 ⟨rfl, hB1, hg1⟩
  have HR1 := Lib.hid (HR.out.it (it + 1) hB1 hg1)
  clear hB1 hg1
  by_cases hi : it < 48
  case neg =>
    rw [decide_eq_false hi]
    go_wp2_with fail
    exact QR.ret HR1.out rfl rfl (.inr ⟨rfl, HL.out.1.trans (st_33e HL.out.2 (by omega))⟩)
  case pos =>
  rw [decide_eq_true hi]
  have q0 := Blk.c0 HR1.out.blk
  have q1 := Blk.c1 HR1.out.blk
  have q4 := Blk.c4 HR1.out.blk
  have q5 := Blk.c5 HR1.out.blk
  have f1 := HR1.out.blk.frozen 1
  have f5 := HR1.out.blk.frozen 5
  dsimp only at q0 q1 q4 q5
  have HR2 := Lib.hid (HR1.out.pos (pos + 1))
  have hpx := at_lt (p := fun _ => true) (x := xs s) (i := pos) (by unfold atB; rw [HL.out.2]; rfl)
  rw [hxl] at hpx
  have HLt := Lib.hid (letter_any _ g (pos + 1) s _ _ _ _ _ HR2.out.blk hs (by omega))
  go_wp2_with fail
  refine HLt.out.mono ?_
  rintro e w2 ⟨rfl, rfl⟩
  have HR2b := Lib.hid HR2.out
  clear q0 q1 q4 q5 f1 f5
  cases hle : atB isLetter (xs s) (pos + 1) with
  | false =>
    go_wp2_with fail
    exact QR.ret HR2.out rfl rfl (.inr ⟨rfl, HL.out.1.trans (st_33f HL.out.2 hi hle)⟩)
  | true =>
    have hpl := bdL_len ps
    have hbo := HO.out.2.2.2
    have hbp := bdS_parts ⟨pos, it, stk, ch, ps⟩
    dsimp only at hbo hbp
    have hok2 : Ok (xs s).length ⟨pos + 1, it + 1, stk, ch, ps⟩ := ⟨show pos + 1 ≤ (xs s).length by rw [hxl]; omega, show it + 1 ≤ 48 by omega, HO.out.2.2.1, by unfold bdS at *; dsimp only at *; omega⟩
    have HN := Lib.hid (name_any HR2.out hs hle (by dsimp only; omega) true)
    have HE := Lib.hid (HL.out.1.trans (st_33 (stk := stk) (ch := ch) (ps := ps) HL.out.2 hi hle))
    have HK := Lib.hid (ok_named (deny := true) hok2 hle)
    clear hbo hbp hok2
    go_wp2_with fail
    go_step3
    go_wp2_with fail
    refine HN.out.mono ?_
    rintro e w1 (⟨hnl, rfl, rfl⟩ | ⟨hnl, rfl, p', hR3⟩)
    · go_wp2_with fail
      exact QR.ret HR2.out rfl rfl (.inr ⟨rfl, by rw [HE.out]; unfold namR; rw [if_pos hnl]⟩)
    · have HR3 := Lib.hid hR3
      have HL1 := Lib.hid hnl
      clear hR3 hnl
      go_wp2_with fail
      go_step3
      exact QR.go HR.out hs rfl ⟨_, rfl⟩ HR3.out HK.out (show res (xs s) st0 = res (xs s) _ by rw [HE.out]; unfold namR; rw [if_neg (by rw [HL1.out]; decide)]) (by have := name_end hle; simp; omega)
set_option maxRecDepth 100000 in
set_option maxHeartbeats 8000000 in
theorem pass7 {W : World} {g : Nat} {s : ByteArray} {st0 : St} (hs : s.size ≤ 1000) (a : Act) (w : World) (hJ : JR W g s st0 7 a w) (rest : Code) (hr : findLabel runC 7 = some rest) : rest.wp Try.prog (QR W g s st0 7 a w) a w := by
  obtain ⟨u1, d, us, st, out, R, c, p, S, hl, rfl, hrd, ok, hL⟩ := hJ
  obtain ⟨u4, u5, u6, u7, u8, u9, u10, u11, u12, u13, u14, u15, u16, u17, u18, u19, t4, rfl, h4⟩ := list16 hl
  obtain ⟨u20, u21, u22, u23, u24, u25, u26, u27, u28, u29, u30, u31, u32, u33, u34, u35, t20, rfl, h20⟩ := list16 h4
  obtain ⟨u36, u37, u38, u39, u40, u41, u42, u43, u44, u45, u46, u47, u48, u49, u50, u51, t36, rfl, h36⟩ := list16 h20
  obtain ⟨u52, u53, u54, u55, u56, u57, u58, u59, u60, u61, u62, u63, u64, u65, u66, u67, t52, rfl, h52⟩ := list16 h36
  obtain ⟨u68, u69, u70, u71, u72, u73, u74, u75, u76, u77, u78, u79, u80, u81, u82, u83, t68, rfl, h68⟩ := list16 h52
  obtain ⟨u84, u85, u86, u87, u88, u89, u90, u91, u92, u93, u94, u95, u96, u97, u98, u99, t84, rfl, h84⟩ := list16 h68
  obtain ⟨u100, u101, u102, u103, u104, u105, u106, u107, u108, u109, u110, u111, u112, u113, u114, u115, t100, rfl, h100⟩ := list16 h84
  obtain ⟨u116, u117, u118, u119, u120, u121, u122, u123, u124, u125, u126, u127, u128, u129, u130, u131, t116, rfl, h116⟩ := list16 h100
  obtain ⟨u132, u133, u134, u135, u136, u137, u138, u139, u140, u141, u142, u143, u144, u145, u146, u147, t132, rfl, h132⟩ := list16 h116
  obtain ⟨u148, u149, u150, u151, u152, u153, u154, u155, u156, u157, u158, u159, u160, u161, u162, u163, t148, rfl, h148⟩ := list16 h132
  obtain ⟨u164, u165, u166, u167, u168, u169, u170, u171, u172, u173, u174, u175, u176, u177, u178, u179, t164, rfl, h164⟩ := list16 h148
  obtain ⟨u180, u181, u182, u183, u184, u185, u186, u187, u188, u189, u190, u191, u192, u193, u194, u195, t180, rfl, h180⟩ := list16 h164
  obtain ⟨u196, u197, u198, u199, u200, u201, u202, u203, u204, u205, u206, u207, u208, u209, u210, u211, t196, rfl, h196⟩ := list16 h180
  obtain ⟨u212, t212, rfl, h212⟩ := cons_len h196
  obtain ⟨u213, t213, rfl, h213⟩ := cons_len h212
  obtain ⟨u214, t214, rfl, h214⟩ := cons_len h213
  obtain ⟨u215, t215, rfl, h215⟩ := cons_len h214
  obtain ⟨u216, t216, rfl, h216⟩ := cons_len h215
  obtain ⟨u217, t217, rfl, h217⟩ := cons_len h216
  obtain ⟨u218, t218, rfl, h218⟩ := cons_len h217
  obtain ⟨u219, t219, rfl, h219⟩ := cons_len h218
  obtain ⟨u220, t220, rfl, h220⟩ := cons_len h219
  obtain ⟨u221, t221, rfl, h221⟩ := cons_len h220
  obtain ⟨u222, t222, rfl, h222⟩ := cons_len h221
  obtain ⟨u223, t223, rfl, h223⟩ := cons_len h222
  obtain ⟨u224, t224, rfl, h224⟩ := cons_len h223
  obtain ⟨u225, t225, rfl, h225⟩ := cons_len h224
  obtain ⟨u226, t226, rfl, h226⟩ := cons_len h225
  obtain rfl := nil_len h226
  obtain ⟨pos, it, stk, ch, ps⟩ := st
  obtain rfl := Option.some.inj (hr.symm.trans (rfl : findLabel runC 7 = some _))
  obtain ⟨ac, cc, xc, rfl⟩ := hrd.q.cForm
  obtain ⟨ap, cp, xp, rfl⟩ := hrd.q.pForm
  obtain ⟨ao, co, rfl⟩ := own_len hrd.q.row
  have q0 := Blk.c0 hrd.blk
  have q1 := Blk.c1 hrd.blk
  have q3 := Blk.c3 hrd.blk
  have q4 := Blk.c4 hrd.blk
  have q5 := Blk.c5 hrd.blk
  have f1 := hrd.blk.frozen 1
  dsimp only at q0 q1 q3 q4 q5
  have HR := Lib.hid hrd
  have HO := Lib.hid ok
  have HL := Lib.hid hL
  have hxl := xs_len s
  obtain ⟨hp1, hi48, hd32, hbd⟩ := ok
  dsimp only at hp1 hi48 hd32
  rw [hxl] at hp1
  clear hr hl hrd hL hbd h4 h20 h36 h52 h68 h84 h100 h116 h132 h148 h164 h180 h196 h212 h213 h214 h215 h216 h217 h218 h219 h220 h221 h222 h223 h224 h225 h226
  dsimp only [Lab] at HL
  obtain ⟨deny, rfl, hle, hre⟩ := HL.out
  have hpl := bdL_len ps
  have hbo := HO.out.2.2.2
  have hbp := bdS_parts ⟨pos, it, stk, ch, ps⟩
  dsimp only at hbo hbp hle
  have HN := Lib.hid (name_any HR.out hs hle (by dsimp only; omega) deny)
  have HE := Lib.hid hre
  have HK := Lib.hid (ok_named (deny := deny) HO.out hle)
  clear hbo hbp hre HL
  go_wp2_with fail
  refine HN.out.mono ?_
  rintro e w1 (⟨hnl, rfl, rfl⟩ | ⟨hnl, rfl, p', hR1⟩)
  · go_wp2_with fail
    exact QR.ret HR.out rfl rfl (.inr ⟨rfl, by rw [HE.out]; unfold namR; rw [if_pos hnl]⟩)
  · have HR1 := Lib.hid hR1
    have HL1 := Lib.hid hnl
    clear hR1 hnl
    go_wp2_with fail
    go_step3
    exact QR.go HR.out hs rfl ⟨_, rfl⟩ HR1.out HK.out (show res (xs s) st0 = res (xs s) _ by rw [HE.out]; unfold namR; rw [if_neg (by rw [HL1.out]; decide)]) (by have := name_end hle; simp; omega)
end Go.Proofs.Ytlbkacabcfeaiaa.Tl
