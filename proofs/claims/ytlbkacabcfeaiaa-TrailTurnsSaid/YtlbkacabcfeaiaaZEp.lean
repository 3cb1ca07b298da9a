/- Patterns: the program's code of a suffix, and of any tree. Printed by mkem.py. -/
import Derived.Test.YtlbkacabcfeaiaaZEo
namespace Go.Proofs.Ytlbkacabcfeaiaa.Tl
open Go.RowKit Mm
set_option linter.unusedVariables false
set_option maxRecDepth 100000 in
set_option maxHeartbeats 8000000 in
theorem suffix_emit_43 {t : T} (hem : EmC t) (w : World) (S : Nat → Prop) (x : Value) (B : Nat) (v : Value) (c : List Sp) (h : IsT w S x t) (hSB : ∀ g, S g → g < B) (hB : B ≤ w.heap.size) (hrow : w.ownsRow B 64 4 v c.length (spC c)) (hbd : c.length + bd t + 8 ≤ 90000) :
    Calls Try.prog 67 #[.agg #[x, .int .u8 43], v] w fun e w' => ∃ v', e = .returned v' ∧ EmW w B v (em (.suf t 43) c) v' w' := by
  obtain ⟨ty, pay, rfl⟩ := h.form
  have hbx := Blk.new w 84 #[.iface ty pay, .int .u8 43]
  have hc0 : (w.alloc (.cells #[.iface ty pay, .int .u8 43] 84)).cell? ⟨w.heap.size, 0, none⟩ = some (.iface ty pay) := hbx.cell 0
  have hc1 : (w.alloc (.cells #[.iface ty pay, .int .u8 43] 84)).cell? ⟨w.heap.size, 1, none⟩ = some (.int .u8 43) := hbx.cell 1
  have HKP := Lib.hid (show ∀ X, Below B w X → IsT X S (.iface ty pay) t from fun X hb => h.keep (fun _ h => h) (fun g h _ => hb.block g (hSB g h)))
  have HB := Lib.hid (fun (X : World) (c1 : List Sp) (v1 : Value) (h : EmW w B v c1 v1 X) => h.below hrow hB)
  have HS := Lib.hid ((EmW.start hrow).alloc (.cells #[.iface ty pay, .int .u8 43] 84))
  have HBX := Lib.hid hbx
  obtain ⟨a0, cap, rfl⟩ := own_len hrow
  have HX := Lib.hid (hem _ S ty pay B _ _ (HKP.out _ (HB.out _ _ _ HS.out)) hSB (Nat.le_trans hB HS.out.grow.size) HS.out.row (by omega))
  have hel := em_len t c
  have HEM := Lib.hid (show em (.suf t 43) c = if (em t c).length = c.length then em t c else em t c ++ [⟨none, c.length, (em t c).length + 1, false⟩] from by rw [em]; rfl)
  clear hem hrow hbx hc1
  generalize em t c = C1 at *
  cases h
  all_goals
    go_enter Try.func67, Try.ntmps67
    have hc1 := HBX.out.cell 1
    clear HBX
    go_wp2_with fail
    refine HX.out.mono ?_
    rintro e w3 ⟨v', rfl, hE3⟩
    have HF := Lib.hid (HS.out.trans hE3)
    obtain ⟨a3, cap3, rfl⟩ := hE3.len
    clear hE3 hc0 hc1
    by_cases heq : C1.length = c.length
    · have hq : ((C1.length : Int) == (c.length : Int)) = true := by rw [heq]; simp
      rw [if_pos heq] at HEM
      have HQ := Lib.hid heq
      clear heq
      go_wp2_with fail
      go_ret
      exact ⟨_, rfl, by rw [HEM.out]; exact HF.out⟩
    · have hq : ((C1.length : Int) == (c.length : Int)) = false := by rw [beq_eq_false_iff_ne]; omega
      rw [if_neg heq] at HEM
      clear heq
      go_wp2_with (at_builtin; refine EmW.push ⟨none, c.length, C1.length + 1, false⟩ rfl HF.out hB (by omega) rfl rfl rfl rfl (by simp) (fun g2 cap2 w2 HF2 => ?_))
      go_ret
      exact ⟨_, rfl, by rw [HEM.out]; exact HF2⟩
set_option maxRecDepth 100000 in
set_option maxHeartbeats 8000000 in
theorem suffix_emit_42 {t : T} (hem : EmC t) (w : World) (S : Nat → Prop) (x : Value) (B : Nat) (v : Value) (c : List Sp) (h : IsT w S x t) (hSB : ∀ g, S g → g < B) (hB : B ≤ w.heap.size) (hrow : w.ownsRow B 64 4 v c.length (spC c)) (hbd : c.length + bd t + 8 ≤ 90000) :
    Calls Try.prog 67 #[.agg #[x, .int .u8 42], v] w fun e w' => ∃ v', e = .returned v' ∧ EmW w B v (em (.suf t 42) c) v' w' := by
  obtain ⟨ty, pay, rfl⟩ := h.form
  have hbx := Blk.new w 84 #[.iface ty pay, .int .u8 42]
  have hc0 : (w.alloc (.cells #[.iface ty pay, .int .u8 42] 84)).cell? ⟨w.heap.size, 0, none⟩ = some (.iface ty pay) := hbx.cell 0
  have hc1 : (w.alloc (.cells #[.iface ty pay, .int .u8 42] 84)).cell? ⟨w.heap.size, 1, none⟩ = some (.int .u8 42) := hbx.cell 1
  have HKP := Lib.hid (show ∀ X, Below B w X → IsT X S (.iface ty pay) t from fun X hb => h.keep (fun _ h => h) (fun g h _ => hb.block g (hSB g h)))
  have HB := Lib.hid (fun (X : World) (c1 : List Sp) (v1 : Value) (h : EmW w B v c1 v1 X) => h.below hrow hB)
  have HS := Lib.hid ((EmW.start hrow).alloc (.cells #[.iface ty pay, .int .u8 42] 84))
  have HBX := Lib.hid hbx
  obtain ⟨a0, cap, rfl⟩ := own_len hrow
  have HX := Lib.hid (fun (X : World) (v1 : Value) (hX : EmW w B (.slice a0 c.length cap) (c ++ [⟨none, c.length + 1, 0, false⟩]) v1 X) => hem X S ty pay B v1 _ (HKP.out X (HB.out X _ _ hX)) hSB (Nat.le_trans hB hX.grow.size) hX.row (by rw [List.length_append, List.length_cons, List.length_nil]; omega))
  have hel := em_len t (c ++ [⟨none, c.length + 1, 0, false⟩])
  rw [List.length_append, List.length_cons, List.length_nil] at hel
  have HEM := Lib.hid (show em (.suf t 42) c = setOt (em t (c ++ [⟨none, c.length + 1, 0, false⟩]) ++ [⟨none, c.length, 0, false⟩]) c.length ((em t (c ++ [⟨none, c.length + 1, 0, false⟩])).length + 1) from by rw [em, if_neg (by decide)]; simp)
  have HIX : IntKind.i64.wrap (c.length : Int) = (c.length : Int) := IntWalk.i64_in _ (by omega)
  clear hem hrow hbx hc1
  generalize em t (c ++ [⟨none, c.length + 1, 0, false⟩]) = C1 at *
  have hl1 : c.length < C1.length ∧ C1.length ≤ 90010 := by omega
  have hlt5 : c.length < C1.length + 1 := by omega
  have hlt6 : c.length < C1.length := hl1.1
  cases h
  all_goals
    go_enter Try.func67, Try.ntmps67
    have hc1 := HBX.out.cell 1
    go_wp2_with (at_builtin; refine EmW.push ⟨none, c.length + 1, 0, false⟩ rfl (EmW.start HS.out.row) (Nat.le_trans hB HS.out.grow.size) (by omega) rfl rfl rfl rfl (by simp) ?_; intro g2 cap2 w2 HF0; have hbx2 := HBX.out.grown HF0.grow (blk_apart HBX.out HS.out.row (by decide)); have hc20 := hbx2.cell 0)
    refine (HX.out _ _ (HS.out.trans HF0)).mono ?_
    rintro e w3 ⟨v', rfl, hE3⟩
    have HF := Lib.hid (HS.out.trans (HF0.trans hE3))
    have hbx3 := hbx2.grown hE3.grow (blk_apart hbx2 HF0.row (by decide))
    have hc31 := hbx3.cell 1
    obtain ⟨a3, cap3, rfl⟩ := hE3.len
    clear hE3 HF0 hc0 hc1 hbx2 hc20 hbx3
    go_wp2_with (at_builtin; refine EmW.push ⟨none, c.length, 0, false⟩ rfl HF.out hB (by omega) rfl rfl rfl rfl (by simp) ?_; intro g5 cap5 w5 hF5; obtain ⟨⟨x5, hx5⟩, _, hf5, _⟩ := hF5.cell (i := c.length) (by simp; omega))
    go_ret
    exact ⟨_, rfl, by rw [HEM.out]; exact hF5.storeOt (i := c.length) (k := C1.length + 1) (by simp) (by simp; omega)⟩
set_option maxRecDepth 100000 in
set_option maxHeartbeats 8000000 in
theorem suffix_emit_63 {t : T} (hem : EmC t) (w : World) (S : Nat → Prop) (x : Value) (B : Nat) (v : Value) (c : List Sp) (h : IsT w S x t) (hSB : ∀ g, S g → g < B) (hB : B ≤ w.heap.size) (hrow : w.ownsRow B 64 4 v c.length (spC c)) (hbd : c.length + bd t + 8 ≤ 90000) :
    Calls Try.prog 67 #[.agg #[x, .int .u8 63], v] w fun e w' => ∃ v', e = .returned v' ∧ EmW w B v (em (.suf t 63) c) v' w' := by
  obtain ⟨ty, pay, rfl⟩ := h.form
  have hbx := Blk.new w 84 #[.iface ty pay, .int .u8 63]
  have hc0 : (w.alloc (.cells #[.iface ty pay, .int .u8 63] 84)).cell? ⟨w.heap.size, 0, none⟩ = some (.iface ty pay) := hbx.cell 0
  have hc1 : (w.alloc (.cells #[.iface ty pay, .int .u8 63] 84)).cell? ⟨w.heap.size, 1, none⟩ = some (.int .u8 63) := hbx.cell 1
  have HKP := Lib.hid (show ∀ X, Below B w X → IsT X S (.iface ty pay) t from fun X hb => h.keep (fun _ h => h) (fun g h _ => hb.block g (hSB g h)))
  have HB := Lib.hid (fun (X : World) (c1 : List Sp) (v1 : Value) (h : EmW w B v c1 v1 X) => h.below hrow hB)
  have HS := Lib.hid ((EmW.start hrow).alloc (.cells #[.iface ty pay, .int .u8 63] 84))
  have HBX := Lib.hid hbx
  obtain ⟨a0, cap, rfl⟩ := own_len hrow
  have HX := Lib.hid (fun (X : World) (v1 : Value) (hX : EmW w B (.slice a0 c.length cap) (c ++ [⟨none, c.length + 1, 0, false⟩]) v1 X) => hem X S ty pay B v1 _ (HKP.out X (HB.out X _ _ hX)) hSB (Nat.le_trans hB hX.grow.size) hX.row (by rw [List.length_append, List.length_cons, List.length_nil]; omega))
  have hel := em_len t (c ++ [⟨none, c.length + 1, 0, false⟩])
  rw [List.length_append, List.length_cons, List.length_nil] at hel
  have HEM := Lib.hid (show em (.suf t 63) c = setOt (em t (c ++ [⟨none, c.length + 1, 0, false⟩])) c.length (em t (c ++ [⟨none, c.length + 1, 0, false⟩])).length from by rw [em, if_neg (by decide)]; simp)
  have HIX : IntKind.i64.wrap (c.length : Int) = (c.length : Int) := IntWalk.i64_in _ (by omega)
  clear hem hrow hbx hc1
  generalize em t (c ++ [⟨none, c.length + 1, 0, false⟩]) = C1 at *
  have hl1 : c.length < C1.length ∧ C1.length ≤ 90010 := by omega
  have hlt5 : c.length < C1.length + 1 := by omega
  have hlt6 : c.length < C1.length := hl1.1
  cases h
  all_goals
    go_enter Try.func67, Try.ntmps67
    have hc1 := HBX.out.cell 1
    go_wp2_with (at_builtin; refine EmW.push ⟨none, c.length + 1, 0, false⟩ rfl (EmW.start HS.out.row) (Nat.le_trans hB HS.out.grow.size) (by omega) rfl rfl rfl rfl (by simp) ?_; intro g2 cap2 w2 HF0; have hbx2 := HBX.out.grown HF0.grow (blk_apart HBX.out HS.out.row (by decide)); have hc20 := hbx2.cell 0)
    refine (HX.out _ _ (HS.out.trans HF0)).mono ?_
    rintro e w3 ⟨v', rfl, hE3⟩
    have HF := Lib.hid (HS.out.trans (HF0.trans hE3))
    have hbx3 := hbx2.grown hE3.grow (blk_apart hbx2 HF0.row (by decide))
    have hc31 := hbx3.cell 1
    obtain ⟨a3, cap3, rfl⟩ := hE3.len
    obtain ⟨g5, cap5, hev, _, _⟩ := own_form hE3.row (by omega)
    simp only [Value.slice.injEq] at hev
    obtain ⟨rfl, hz, rfl⟩ := hev
    clear hz
    obtain ⟨⟨x5, hx5⟩, _, hf5, _⟩ := HF.out.cell (i := c.length) (by omega)
    clear hE3 HF0 hc0 hc1 hbx2 hc20 hbx3
    go_wp2_with fail
    go_ret
    exact ⟨_, rfl, by rw [HEM.out]; exact HF.out.storeOt (i := c.length) (k := C1.length) rfl (by omega)⟩
end Go.Proofs.Ytlbkacabcfeaiaa.Tl
