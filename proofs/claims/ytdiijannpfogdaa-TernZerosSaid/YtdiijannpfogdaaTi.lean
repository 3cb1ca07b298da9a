import Derived.Test.YtdiijannpfogdaaTx
import Derived.Test.YtdiijannpfogdaaTe
namespace Go.Proofs.Ytdiijannpfogdaa.Tn
open Go.RowKit
attribute [local go_sem] cv cs wv eq_arr
theorem parse_of {t : List UInt8} {n : Nat} {c o : Nat → Bool} (hC : Cub t n c o) (s : ByteArray) (hs : s.data.toList = t) (w : World) :
    Calls Try.prog 27 #[.string s] w fun e w' => e = .returned (.tuple #[cv n c o, .int .i64 (parseE t)]) ∧ Below w.heap.size w w' := by
  have hl : s.size ≤ maxLen := by
    rw [← len_s, hs]; have := hC.le; simp only [maxLen]; omega
  have h := parse_any s w hl
  rw [hs, cubeT_cub hC, ← hC.val] at h
  exact h
theorem eq_self (n : Nat) (c o : Nat → Bool) (w : World) : (binOp .eql 30 (cv n c o) (cv n c o)).run Try.prog w = .ok (.bool true) w := by
  unfold cv cs wv
  rw [run_eql_struct, eq_cube]
  simp
theorem isEmpty_iff (s : ByteArray) : s.toList.isEmpty = decide (s.data.toList = []) := by
  rw [ByteArray.toList_eq]
  cases s.data.toList <;> simp
theorem is_yes {t : List UInt8} {n : Nat} {c o : Nat → Bool} (hC : Cub t n c o) (s : ByteArray) (hs : s.data.toList = t) (h0 : t ≠ []) (w : World) :
    Calls Try.prog 28 #[cv n c o, .string s] w fun e w' => e = .returned (.bool true) ∧ Below w.heap.size w w' := by
  have he : s.toList.isEmpty = false := by rw [isEmpty_iff, hs]; simpa using h0
  have HE := eq_self n c o
  have HC := Lib.hid hC
  have HS := Lib.hid hs
  clear hC hs h0
  unfold cv cs wv at *
  go_enter Try.func28, Try.ntmps28
  go_wp2_with fail
  refine (parse_of HC.out s HS.out _).mono ?_
  rintro e w1 ⟨rfl, hb1⟩
  have hB : Blk w1 w.heap.size 30 (cs n c o) := (Blk.new w 30 (cs n c o)).below hb1 (by simp)
  have hz : w.heap.size < w1.heap.size := hB.lt
  have hc1 := hB.cell
  go_wp2_with fail
  refine (text_any t n c o _ HC.out).mono ?_
  rintro e w2 ⟨rfl, hb2⟩
  have hB2 : Blk w2 w.heap.size 30 (cs n c o) := (hB.alloc _).below hb2 (by simp; omega)
  have hB3 : Blk w2 w1.heap.size 30 (cs n c o) := (Blk.new w1 30 (cs n c o)).below hb2 (by simp)
  clear hc1
  have hc2 := hB2.cell
  have hc3 := hB3.cell
  have hst : (s.toList == (str t).toList) = true := by rw [← HS.out, str_of]; simp
  have hst2 : ((str t).toList == s.toList) = true := by rw [← HS.out, str_of]; simp
  go_wp2_with fail
  go_ret
  have hz2 : w1.heap.size < w2.heap.size := hB3.lt
  refine ⟨rfl, ?_⟩
  have g1 : Below w.heap.size w w1 := Below.trans ((Below.refl _ w).alloc (Nat.le_refl _) _) (hb1.mono (by simp))
  have g2 : Below w.heap.size w (w1.alloc (.cells (cs n c o) 30)) := g1.alloc (by omega) _
  exact g2.trans (hb2.mono (by simp; omega))
theorem Cub.nil {n : Nat} {c o : Nat → Bool} (h : Cub [] n c o) : n = 0 ∧ c = no ∧ o = no := ⟨h.hn, by rw [h.hc, careF_nil], by rw [h.ho, onesF_nil]⟩
theorem nilCub : Cub [] 0 no no := ⟨rfl, careF_nil.symm, onesF_nil.symm, by simp, rfl⟩
theorem is_nil (s : ByteArray) (hs : s.data.toList = []) (w : World) :
    Calls Try.prog 28 #[cv 0 no no, .string s] w fun e w' => e = .returned (.bool true) ∧ Below w.heap.size w w' := by
  have he : s.toList.isEmpty = true := by rw [isEmpty_iff, hs]; simp
  have HS := Lib.hid hs
  clear hs
  rw [cv_zero]
  go_enter Try.func28, Try.ntmps28
  go_wp2_with fail
  have hp := parse_of nilCub s HS.out (w.alloc (.cells #[.int .i64 0, .int .u64 0, .int .u64 0, .int .u64 0, .int .u64 0, .int .u64 0, .int .u64 0, .int .u64 0, .int .u64 0] 30))
  rw [cv_zero] at hp
  refine hp.mono ?_
  clear hp
  rintro e w1 ⟨rfl, hb1⟩
  have hB : Blk w1 w.heap.size 30 #[.int .i64 0, .int .u64 0, .int .u64 0, .int .u64 0, .int .u64 0, .int .u64 0, .int .u64 0, .int .u64 0, .int .u64 0] := (Blk.new w 30 _).below hb1 (by simp)
  have hz : w.heap.size < w1.heap.size := hB.lt
  have hc1 := hB.cell
  go_wp2_with fail
  have ht := text_any [] 0 no no (w1.alloc (.cells #[.int .i64 0, .int .u64 0, .int .u64 0, .int .u64 0, .int .u64 0, .int .u64 0, .int .u64 0, .int .u64 0, .int .u64 0] 30)) nilCub
  rw [cv_zero] at ht
  refine ht.mono ?_
  clear ht
  rintro e w2 ⟨rfl, hb2⟩
  have hB2 : Blk w2 w.heap.size 30 #[.int .i64 0, .int .u64 0, .int .u64 0, .int .u64 0, .int .u64 0, .int .u64 0, .int .u64 0, .int .u64 0, .int .u64 0] := (hB.alloc _).below hb2 (by simp; omega)
  have hB3 : Blk w2 w1.heap.size 30 #[.int .i64 0, .int .u64 0, .int .u64 0, .int .u64 0, .int .u64 0, .int .u64 0, .int .u64 0, .int .u64 0, .int .u64 0] := (Blk.new w1 30 _).below hb2 (by simp)
  clear hc1
  have hc2 := hB2.cell
  have hc3 := hB3.cell
  have hst2 : ((str []).toList == s.toList) = true := by rw [ByteArray.toList_eq, ByteArray.toList_eq, HS.out]; rfl
  go_wp2_with fail
  go_ret
  have hz2 : w1.heap.size < w2.heap.size := hB3.lt
  refine ⟨rfl, ?_⟩
  have g1 : Below w.heap.size w w1 := Below.trans ((Below.refl _ w).alloc (Nat.le_refl _) _) (hb1.mono (by simp))
  exact (g1.alloc (by omega) _).trans (hb2.mono (by simp; omega))
/-- is(c, text) for the cube of that text. -/
theorem is_any {t : List UInt8} {n : Nat} {c o : Nat → Bool} (hC : Cub t n c o) (s : ByteArray) (hs : s.data.toList = t) (w : World) :
    Calls Try.prog 28 #[cv n c o, .string s] w fun e w' => e = .returned (.bool true) ∧ Below w.heap.size w w' := by
  by_cases h0 : t = []
  · subst h0
    obtain ⟨rfl, rfl, rfl⟩ := hC.nil
    exact is_nil s hs w
  · exact is_yes hC s hs h0 w
end Go.Proofs.Ytdiijannpfogdaa.Tn
