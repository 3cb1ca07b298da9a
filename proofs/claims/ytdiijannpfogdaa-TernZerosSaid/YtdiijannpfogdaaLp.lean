import Derived.Test.YtdiijannpfogdaaM
namespace Go.Proofs.Ytdiijannpfogdaa.Tn
open Go.RowKit
attribute [local go_sem] cv cs wv eq_arr
theorem Cub.eq_iff {t t' : List UInt8} {n n' : Nat} {c c' o o' : Nat → Bool} (h : Cub t n c o) (h' : Cub t' n' c' o') : (n = n' ∧ (∀ i, i < 256 → c i = c' i) ∧ ∀ i, i < 256 → o i = o' i) ↔ t = t' := by
  constructor
  · rintro ⟨h1, h2, h3⟩
    apply List.ext_getElem?
    intro i
    by_cases hi : i < n
    · have h256 : i < 256 := by have := h.hn; have := h.le; omega
      rw [h.byte i hi, h'.byte i (by omega), h2 i h256, h3 i h256]
    · rw [List.getElem?_eq_none (by have := h.hn; omega), List.getElem?_eq_none (by have := h'.hn; omega)]
  · intro e
    subst e
    obtain ⟨rfl, rfl, rfl⟩ := h.same h'
    exact ⟨rfl, fun _ _ => rfl, fun _ _ => rfl⟩
theorem eq_two {t t' : List UInt8} {n n' : Nat} {c c' o o' : Nat → Bool} (h : Cub t n c o) (h' : Cub t' n' c' o') (w : World) : (binOp .eql 30 (cv n c o) (cv n' c' o')).run Try.prog w = .ok (.bool (decide (t = t'))) w := by
  unfold cv cs wv
  rw [run_eql_struct, eq_cube]
  simp only [Result.andThen_ok]
  congr 2
  rw [Bool.eq_iff_iff, wd_beq, h.eq_iff h']
  simp
def l10x : List UInt8 := [49, 48, 120]
theorem parses_end (s : ByteArray) : (decide (cubeT s.data.toList = cubeT l10x) == (s.toList == l10x)) = true := by
  have e : cubeT l10x = l10x := by decide
  rw [e, ByteArray.toList_eq, beq_iff_eq, Bool.eq_iff_iff, decide_eq_true_eq, beq_iff_eq]
  constructor
  · intro h
    unfold cubeT at h
    split at h
    · exact h
    · simp [l10x] at h
  · intro h; rw [h, e]
set_option maxHeartbeats 1000000 in
theorem parses_walk (s : ByteArray) (hs : s.size ≤ maxLen) (w : World) : Calls Try.prog 4 #[.string s] w fun e w' => e = .returned (.bool true) ∧ Below w.heap.size w w' := by
  obtain ⟨n, c, o, hC⟩ : ∃ n c o, Cub (cubeT s.data.toList) n c o := ⟨_, _, _, Cub.of _⟩
  obtain ⟨n', c', o', hD⟩ : ∃ n c o, Cub (cubeT l10x) n c o := ⟨_, _, _, Cub.of _⟩
  have HC := Lib.hid hC
  have HD := Lib.hid hD
  clear hC hD
  go_enter Try.func4, Try.ntmps4
  go_wp2_with fail
  refine (made_any s hs HC.out _).mono ?_
  rintro e w1 ⟨rfl, hb1⟩
  go_wp2_with fail
  refine (made_any (str l10x) (by decide) HD.out _).mono ?_
  rintro e w2 ⟨rfl, hb2⟩
  have hz : w1.heap.size < w2.heap.size := by have := hb2.size; simp at this; omega
  go_wp2_with fail
  refine (parse_s s hs HC.out _).mono ?_
  rintro e w3 ⟨rfl, hb3⟩
  have hz3 : w2.heap.size < w3.heap.size := by have := hb3.size; simp at this; omega
  have h1 : Blk w3 w1.heap.size 30 (cs n c o) := (((Blk.new w1 30 (cs n c o)).below hb2 (by simp)).alloc _).below hb3 (by simp; omega)
  have h2 : Blk w3 w2.heap.size 30 (cs n' c' o') := (Blk.new w2 30 (cs n' c' o')).below hb3 (by simp)
  have hl1 := h1.lt
  have hc1 := h1.cell
  have hc2 := h2.cell
  have HE := eq_two HC.out HD.out
  have HE2 := eq_two HC.out HC.out
  simp only [cv, cs, wv, decide_true] at HE HE2
  go_wp2_with fail
  go_ret
  refine ⟨?_, ?_⟩
  · show Ending.returned (.bool (decide (cubeT s.data.toList = cubeT l10x) == (s.toList == l10x))) = _
    rw [parses_end]
  · have g1 : Below w.heap.size w (w1.alloc (.cells (cs n c o) 30)) := hb1.alloc hb1.size _
    have g2 : Below w.heap.size w w2 := g1.trans (hb2.mono g1.size)
    have g3 : Below w.heap.size w (w2.alloc (.cells (cs n' c' o') 30)) := g2.alloc g2.size _
    have g4 : Below w.heap.size w w3 := g3.trans (hb3.mono g3.size)
    exact g4.alloc g4.size _
end Go.Proofs.Ytdiijannpfogdaa.Tn
