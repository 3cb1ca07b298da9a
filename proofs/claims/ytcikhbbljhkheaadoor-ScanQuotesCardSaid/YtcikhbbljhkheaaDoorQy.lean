/- strings.IndexRune at the escapes' text. -/
import Derived.Test.YtcikhbbljhkheaaDoorQx
import Derived.Laws.Runes
import Derived.WalkMore
namespace Go.Proofs.YtcikhbbljhkheaaDoor.Sn
open Go.RowKit Mm
set_option linter.unusedVariables false
abbrev meantS : ByteArray := ⟨#[34, 92, 10, 13, 9]⟩
theorem quiet_again {P : Program} {f : FuncId} {args : Array Value} {w : World} {m n : Nat} {v : Value} (h : Calls P f args (w.drewN (m + n)) fun e w' => e = .returned v ∧ w' = w.drewN (m + n)) :
    Calls P f args (w.drewN (m + n)) fun e w'' => e = .returned v ∧ ∃ k, w'' = w.drewN (m + k) := h.mono fun _ _ ⟨he, hm⟩ => ⟨he, n, hm⟩
theorem idx_none (l : List UInt8) (b : UInt8) (hl : ∀ x ∈ l, x.toNat < 128) (hb : 128 ≤ b.toNat) : Lib.indexByte l b = -1 := by
  induction l with
  | nil => rfl
  | cons x t ih =>
    have h1 := ih (fun y hy => hl y (List.mem_cons_of_mem _ hy))
    have h2 := hl x List.mem_cons_self
    have h3 : (x == b) = false := by
      rw [beq_eq_false_iff_ne]
      intro e
      subst e
      omega
    unfold Lib.indexByte
    rw [h3, h1]
    rfl
theorem meant_low (k : Nat) : ∀ x ∈ (meantS.extract k 5).data.toList, x.toNat < 128 := by
  intro x hx
  have h1 : x ∈ meantS.data.toList := by
    rw [ByteArray.data_extract, Array.toList_extract] at hx
    exact List.mem_of_mem_drop (List.mem_of_mem_take hx)
  have h2 : ∀ y ∈ meantS.data.toList, y.toNat < 128 := by decide
  exact h2 x h1
set_option maxRecDepth 100000 in
set_option maxHeartbeats 8000000 in
theorem idx_high_2 (c : Nat) (hc : 128 ≤ c) (hne : c ≠ 65533) (hok : okR c) (z : ByteArray) (hz : Utf8.encode (c : Int) = z) (h : z.size = 2) (w : World) : Calls Tryd.prog 19 #[.string meantS, .int .i32 (c : Int)] w fun e w' => e = .returned (.int .i64 (-1)) ∧ Below w.heap.size w w' := by
  have hval : Utf8.valid (c : Int) = true := by unfold okR at hok; unfold Utf8.valid; simp; omega
  have hz3 := (encode_facts (c : Int) hval (by omega)).2.2
  have HV := Lib.hid (Tryd.utf8_ValidRune (c : Int))
  have hvr : Lib.validRune (c : Int) = true := by unfold okR at hok; unfold Lib.validRune; simp; omega
  rw [hvr] at HV
  rw [hz] at hz3
  have f0 : ¬ (c : Int) < 128 := by omega
  have f1 : ((c : Int) == 65533) = false := by simp; omega
  have f2 : (0 : Int) ≤ (c : Int) := by omega
  have hk : 1 < z.size := by omega
  have hb : 128 ≤ (z[1]'hk).toNat := by
    have := hz3 (by omega)
    simpa [h] using this
  obtain ⟨b, hzb⟩ : ∃ b, ∀ hk, z[1]'hk = b := ⟨z[1]'hk, fun _ => rfl⟩
  rw [hzb hk] at hb
  have HIB := Lib.hid (Tryd.strings_IndexByte (meantS.extract 2 5) (b.toNat : Int))
  rw [show (((b.toNat : Nat) : Int).toNat).toUInt8 = b from by simp, idx_none _ _ (meant_low 2) hb] at HIB
  have g1 : (((meantS[1]'(by decide)).toNat : Int) != (b.toNat : Int)) = true := by
    have : ((92 : Int) == (b.toNat : Int)) = false := by rw [beq_eq_false_iff_ne]; omega
    show (!((92 : Int) == (b.toNat : Int))) = true
    rw [this]; rfl
  have HB := Lib.hid hb
  have hcv : ∀ w, (convert 21 9 (.int .i32 (c : Int))).run Tryd.prog w = .ok (.string z) w := fun w => by rw [run_convert_int_string (P := Tryd.prog) w 21 9 .i32 (c : Int) (by kernel_rfl) Tryd.underlying9, hz]
  have HZ := Lib.hid hz
  clear hz3 hval hvr hok hb hc hne hz hk
  go_enter Tryd.func19, Tryd.ntmps19
  go_wp2_with (go_at_call 30; refine (HV.out _).mono ?_; rintro e w' ⟨rfl, hw⟩; rw [hw]; clear hw)
  go_wp2
  go_step3
  go_wp2
  go_loopw [9] (fun i wr => i = .int .i64 1 ∧ wr = w) (fun _ _ => 0)
  case atStart => exact ⟨by simp, rfl⟩
  case round =>
    obtain ⟨rfl, rfl⟩ := hrel
    go_wp2
    go_step3
    go_wp2
    go_quiet (fail)
    go_wp2
    go_quiet ((go_at_call 29; exact quiet_again (HIB.out _)))
    go_wp2
    rw [Exit.noGoto_ret]
    go_wp2
    rw [Exit.noGoto_ret]
    go_ret
    exact ⟨rfl, below_drewN (Below.refl _ _) _⟩
set_option maxRecDepth 100000 in
set_option maxHeartbeats 8000000 in
theorem idx_high_3 (c : Nat) (hc : 128 ≤ c) (hne : c ≠ 65533) (hok : okR c) (z : ByteArray) (hz : Utf8.encode (c : Int) = z) (h : z.size = 3) (w : World) : Calls Tryd.prog 19 #[.string meantS, .int .i32 (c : Int)] w fun e w' => e = .returned (.int .i64 (-1)) ∧ Below w.heap.size w w' := by
  have hval : Utf8.valid (c : Int) = true := by unfold okR at hok; unfold Utf8.valid; simp; omega
  have hz3 := (encode_facts (c : Int) hval (by omega)).2.2
  have HV := Lib.hid (Tryd.utf8_ValidRune (c : Int))
  have hvr : Lib.validRune (c : Int) = true := by unfold okR at hok; unfold Lib.validRune; simp; omega
  rw [hvr] at HV
  rw [hz] at hz3
  have f0 : ¬ (c : Int) < 128 := by omega
  have f1 : ((c : Int) == 65533) = false := by simp; omega
  have f2 : (0 : Int) ≤ (c : Int) := by omega
  have hk : 2 < z.size := by omega
  have hb : 128 ≤ (z[2]'hk).toNat := by
    have := hz3 (by omega)
    simpa [h] using this
  obtain ⟨b, hzb⟩ : ∃ b, ∀ hk, z[2]'hk = b := ⟨z[2]'hk, fun _ => rfl⟩
  rw [hzb hk] at hb
  have HIB := Lib.hid (Tryd.strings_IndexByte (meantS.extract 3 5) (b.toNat : Int))
  rw [show (((b.toNat : Nat) : Int).toNat).toUInt8 = b from by simp, idx_none _ _ (meant_low 3) hb] at HIB
  have g1 : (((meantS[2]'(by decide)).toNat : Int) != (b.toNat : Int)) = true := by
    have : ((10 : Int) == (b.toNat : Int)) = false := by rw [beq_eq_false_iff_ne]; omega
    show (!((10 : Int) == (b.toNat : Int))) = true
    rw [this]; rfl
  have HB := Lib.hid hb
  have hcv : ∀ w, (convert 21 9 (.int .i32 (c : Int))).run Tryd.prog w = .ok (.string z) w := fun w => by rw [run_convert_int_string (P := Tryd.prog) w 21 9 .i32 (c : Int) (by kernel_rfl) Tryd.underlying9, hz]
  have HZ := Lib.hid hz
  clear hz3 hval hvr hok hb hc hne hz hk
  go_enter Tryd.func19, Tryd.ntmps19
  go_wp2_with (go_at_call 30; refine (HV.out _).mono ?_; rintro e w' ⟨rfl, hw⟩; rw [hw]; clear hw)
  go_wp2
  go_step3
  go_wp2
  go_loopw [9] (fun i wr => i = .int .i64 2 ∧ wr = w) (fun _ _ => 0)
  case atStart => exact ⟨by simp, rfl⟩
  case round =>
    obtain ⟨rfl, rfl⟩ := hrel
    go_wp2
    go_step3
    go_wp2
    go_quiet (fail)
    go_wp2
    go_quiet ((go_at_call 29; exact quiet_again (HIB.out _)))
    go_wp2
    rw [Exit.noGoto_ret]
    go_wp2
    rw [Exit.noGoto_ret]
    go_ret
    exact ⟨rfl, below_drewN (Below.refl _ _) _⟩
set_option maxRecDepth 100000 in
set_option maxHeartbeats 8000000 in
theorem idx_high_4 (c : Nat) (hc : 128 ≤ c) (hne : c ≠ 65533) (hok : okR c) (z : ByteArray) (hz : Utf8.encode (c : Int) = z) (h : z.size = 4) (w : World) : Calls Tryd.prog 19 #[.string meantS, .int .i32 (c : Int)] w fun e w' => e = .returned (.int .i64 (-1)) ∧ Below w.heap.size w w' := by
  have hval : Utf8.valid (c : Int) = true := by unfold okR at hok; unfold Utf8.valid; simp; omega
  have hz3 := (encode_facts (c : Int) hval (by omega)).2.2
  have HV := Lib.hid (Tryd.utf8_ValidRune (c : Int))
  have hvr : Lib.validRune (c : Int) = true := by unfold okR at hok; unfold Lib.validRune; simp; omega
  rw [hvr] at HV
  rw [hz] at hz3
  have f0 : ¬ (c : Int) < 128 := by omega
  have f1 : ((c : Int) == 65533) = false := by simp; omega
  have f2 : (0 : Int) ≤ (c : Int) := by omega
  have hk : 3 < z.size := by omega
  have hb : 128 ≤ (z[3]'hk).toNat := by
    have := hz3 (by omega)
    simpa [h] using this
  obtain ⟨b, hzb⟩ : ∃ b, ∀ hk, z[3]'hk = b := ⟨z[3]'hk, fun _ => rfl⟩
  rw [hzb hk] at hb
  have HIB := Lib.hid (Tryd.strings_IndexByte (meantS.extract 4 5) (b.toNat : Int))
  rw [show (((b.toNat : Nat) : Int).toNat).toUInt8 = b from by simp, idx_none _ _ (meant_low 4) hb] at HIB
  have g1 : (((meantS[3]'(by decide)).toNat : Int) != (b.toNat : Int)) = true := by
    have : ((13 : Int) == (b.toNat : Int)) = false := by rw [beq_eq_false_iff_ne]; omega
    show (!((13 : Int) == (b.toNat : Int))) = true
    rw [this]; rfl
  have HB := Lib.hid hb
  have hcv : ∀ w, (convert 21 9 (.int .i32 (c : Int))).run Tryd.prog w = .ok (.string z) w := fun w => by rw [run_convert_int_string (P := Tryd.prog) w 21 9 .i32 (c : Int) (by kernel_rfl) Tryd.underlying9, hz]
  have HZ := Lib.hid hz
  clear hz3 hval hvr hok hb hc hne hz hk
  go_enter Tryd.func19, Tryd.ntmps19
  go_wp2_with (go_at_call 30; refine (HV.out _).mono ?_; rintro e w' ⟨rfl, hw⟩; rw [hw]; clear hw)
  go_wp2
  go_step3
  go_wp2
  go_loopw [9] (fun i wr => i = .int .i64 3 ∧ wr = w) (fun _ _ => 0)
  case atStart => exact ⟨by simp, rfl⟩
  case round =>
    obtain ⟨rfl, rfl⟩ := hrel
    go_wp2
    go_step3
    go_wp2
    go_quiet (fail)
    go_wp2
    go_quiet ((go_at_call 29; exact quiet_again (HIB.out _)))
    go_wp2
    rw [Exit.noGoto_ret]
    go_wp2
    rw [Exit.noGoto_ret]
    go_ret
    exact ⟨rfl, below_drewN (Below.refl _ _) _⟩
set_option maxRecDepth 100000 in
set_option maxHeartbeats 8000000 in
theorem idx_fffd (w : World) : Calls Tryd.prog 19 #[.string meantS, .int .i32 65533] w fun e w' => e = .returned (.int .i64 (-1)) ∧ Below w.heap.size w w' := by
  have HLOW := Lib.hid (show ∀ (p : Nat) (hp : p < meantS.size), (meantS[p]'hp).toNat < 128 from by decide)
  go_enter Tryd.func19, Tryd.ntmps19
  go_wp2
  go_loopw [] (fun wr => ∃ p : Nat, p ≤ 5 ∧ wr.heap[w.heap.size]? = some (.stringIter meantS p) ∧ Below w.heap.size w wr) (fun wr => 5 - wr.iterPos w.heap.size)
  case atStart =>
    refine ⟨0, by omega, ?_, ?_⟩
    · exact World.iter_heap w meantS 0
    · exact (Below.refl _ w).alloc (Nat.le_refl _) _
  case round =>
    obtain ⟨p, hp5, hit, hbel⟩ := hrel
    have hsz : w.heap.size < wr.heap.size := (Array.getElem?_eq_some_iff.1 hit).1
    by_cases hp : p < meantS.size
    · have hlow := HLOW.out p hp
      have hnx : ∀ ty, (Instr.next (.pointer (some ⟨w.heap.size, 0, none⟩)) true ty).run Tryd.prog wr = _ := fun ty => Lib.run_next_ascii_at wr w.heap.size meantS p ty hit hp hlow
      have hit2 := Lib.iterAt_heap wr w.heap.size meantS p (p + 1) hit
      have hbw2 := Lib.below_iterAt hbel (k := w.heap.size) (Nat.le_refl _) meantS (p + 1)
      have f0 : (((meantS[p]'hp).toNat : Int) == 65533) = false := by rw [beq_eq_false_iff_ne]; omega
      have hp5' : p < 5 := hp
      go_wp2
      exact ⟨⟨p + 1, by omega, hit2, hbw2⟩, by simp only [World.iterPos, hit2, hit]; omega⟩
    · have hnx : ∀ ty, (Instr.next (.pointer (some ⟨w.heap.size, 0, none⟩)) true ty).run Tryd.prog wr = _ := fun ty => Lib.run_next_end_at wr w.heap.size meantS p ty hit hp
      go_wp2
      go_ret
      exact ⟨rfl, hbel⟩
def escI (c : Nat) : Int := if c = 34 then 0 else if c = 92 then 1 else if c = 10 then 2 else if c = 13 then 3 else if c = 9 then 4 else -1
set_option maxRecDepth 100000 in
theorem esc_low : ∀ c : Nat, c < 128 → Lib.indexByte [34, 92, 10, 13, 9] ((c : Int).toNat.toUInt8) = escI c := by decide
theorem idx_any (c : Nat) (hok : okR c) (w : World) : Calls Tryd.prog 19 #[.string meantS, .int .i32 (c : Int)] w fun e w' => e = .returned (.int .i64 (escI c)) ∧ Below w.heap.size w w' := by
  by_cases h : c < 128
  · refine (Tryd.strings_IndexRune_ascii meantS (c : Int) w (by omega) (by omega)).mono ?_
    rintro e w' ⟨he, rfl⟩
    have h1 := esc_low c h
    rw [← h1]
    exact ⟨he, Below.refl _ _⟩
  · have h1 : escI c = -1 := by unfold escI; rw [if_neg (by omega), if_neg (by omega), if_neg (by omega), if_neg (by omega), if_neg (by omega)]
    rw [h1]
    by_cases h2 : c = 65533
    · subst h2; exact idx_fffd w
    · have hval : Utf8.valid (c : Int) = true := by unfold okR at hok; unfold Utf8.valid; simp; omega
      obtain ⟨hz1, hz2, _⟩ := encode_facts (c : Int) hval (by omega)
      have hm : (Utf8.encode (c : Int)).size = 2 ∨ (Utf8.encode (c : Int)).size = 3 ∨ (Utf8.encode (c : Int)).size = 4 := by omega
      rcases hm with h3 | h3 | h3
      · exact idx_high_2 c (by omega) h2 hok _ rfl h3 w
      · exact idx_high_3 c (by omega) h2 hok _ rfl h3 w
      · exact idx_high_4 c (by omega) h2 hok _ rfl h3 w
end Go.Proofs.YtcikhbbljhkheaaDoor.Sn
