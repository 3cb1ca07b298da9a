import Derived.Test.YtdiijannpfogdaaTo
import Derived.Deep.Cut
namespace Go.Proofs.Ytdiijannpfogdaa.Tn
open Go.RowKit
attribute [local go_sem] cv cs wv or_wd and_wd xor_wd andNot_wd
theorem decide_not_eq_false {p : Prop} [Decidable p] (h : p) : (!decide p) = false := by simp [h]
theorem decide_not_eq_true {p : Prop} [Decidable p] (h : ¬ p) : (!decide p) = true := by simp [h]
set_option maxHeartbeats 1000000 in
theorem before_yes {t u : List UInt8} {n : Nat} {c o d p : Nat → Bool} (h : Cub t n c o) (h' : Cub u n d p) (hok : meetOk t u) (w : World) :
    Calls Try.prog 45 #[cv n c o, cv n d p] w fun e w' => e = .returned (.tuple #[cv n (bnot c d) (bnot o d), .bool true]) ∧ Below w.heap.size w w' := by
  have hm := meet_any h h'
  rw [decide_eq_true hok] at hm
  have HM := Lib.hid hm
  clear hm hok h h'
  unfold cv cs wv
  go_enter Try.func45, Try.ntmps45
  go_wp2_with fail
  refine (HM.out _).mono ?_
  rintro e w1 ⟨n1, c1, o1, hC1, rfl, hb1⟩
  obtain ⟨h1, h2, h3, hbel⟩ := boxes3 hb1
  clear hb1
  have HC1 := Lib.hid hC1
  clear hC1
  have l1 := h1.lt
  have l2 := h2.lt
  have l3 := h3.lt
  go_wp2_with fail
  have h1 := h1.alloc (.cells (cs n1 c1 o1) 30)
  have h2 := h2.alloc (.cells (cs n1 c1 o1) 30)
  have h3 := h3.alloc (.cells (cs n1 c1 o1) 30)
  have hbel := hbel.alloc hbel.size (.cells (cs n1 c1 o1) 30)
  go_loopw [18] (fun i wr => ∃ k : Nat, k ≤ 4 ∧ i = .int .i64 k ∧ Blk wr w.heap.size 30 (cs n (upd k c (bnot c d)) (upd k o (bnot o d))) ∧ Blk wr (w.heap.size + 1) 30 (cs n d p) ∧ Blk wr (w.heap.size + 1 + 1) 30 zs ∧ Below w.heap.size w wr) (fun i _ => 4 - (intOf i).toNat)
  case atStart => exact ⟨0, by omega, rfl, by rw [upd_zero, upd_zero]; exact h1, h2, h3, hbel⟩
  case round =>
    clear h1 h2 h3 hbel
    obtain ⟨k, hk, rfl, h1, h2, h3, hbel⟩ := hrel
    by_cases hlt : k < 4
    · have c1 : wr.cell? ⟨w.heap.size, 1 + k, none⟩ = some (.int .u64 ((wd c k : Nat) : Int)) := by rw [h1.cell, cs_care _ _ _ _ hlt, wv, wd_upd_at]
      have c2 : wr.cell? ⟨w.heap.size, 5 + k, none⟩ = some (.int .u64 ((wd o k : Nat) : Int)) := by rw [h1.cell, cs_ones _ _ _ _ hlt, wv, wd_upd_at]
      have c3 : wr.cell? ⟨w.heap.size + 1, 1 + k, none⟩ = some (.int .u64 ((wd d k : Nat) : Int)) := by rw [h2.cell, cs_care _ _ _ _ hlt, wv]
      have f1 := h1.frozen
      have ha : (⟨w.heap.size, 1 + k, none⟩ : Addr) ≠ ⟨w.heap.size, 5 + k, none⟩ := ne_off (by omega)
      have c2' : (wr.setCell ⟨w.heap.size, 1 + k, none⟩ (.int .u64 ((wd (bnot c d) k : Nat) : Int))).cell? ⟨w.heap.size, 5 + k, none⟩ = some (.int .u64 ((wd o k : Nat) : Int)) := by
        rw [World.cell?_setCell_other _ _ _ _ ha, c2]
      have c3' : (wr.setCell ⟨w.heap.size, 1 + k, none⟩ (.int .u64 ((wd (bnot c d) k : Nat) : Int))).cell? ⟨w.heap.size + 1, 1 + k, none⟩ = some (.int .u64 ((wd d k : Nat) : Int)) := by
        rw [World.cell?_setCell_other _ _ _ _ (by simp), c3]
      clear ha
      go_wp2
      go_region
      go_wp2
      go_region
      go_wp2
      go_roundw
      case rel =>
        have g1 := h1.set_ (1 + k) (wv (bnot c d) k)
        rw [cs_next_care n k hlt] at g1
        have g2 := g1.set_ (5 + k) (wv (bnot o d) k)
        rw [cs_next_ones n k hlt] at g2
        refine ⟨k + 1, by omega, by go_num, g2, ?_, ?_, ?_⟩
        · exact (h2.far (p := ⟨w.heap.size, 1 + k, none⟩) (by simp) _).far (p := ⟨w.heap.size, 5 + k, none⟩) (by simp) _
        · exact (h3.far (p := ⟨w.heap.size, 1 + k, none⟩) (by simp; omega) _).far (p := ⟨w.heap.size, 5 + k, none⟩) (by simp; omega) _
        · exact ((hbel.setCell (p := ⟨w.heap.size, 1 + k, none⟩) (by simp) _).setCell (p := ⟨w.heap.size, 5 + k, none⟩) (by simp) _).drew.drew
      case measure => simp [intOf]; omega
    · obtain rfl : k = 4 := by omega
      rw [cs_upd4] at h1
      have c1 := h1.cell
      have c3 := h3.cell
      have f3 := h3.frozen
      unfold zs at c3
      go_wp2
      refine bodyPost_ret (v := .tuple #[.agg (cs n (bnot c d) (bnot o d)), .bool true]) (by simp [results, Try.results45, go_sem, c3]) rfl ⟨rfl, ?_⟩
      refine Below.trans hbel ?_
      go_grown
set_option maxHeartbeats 1000000 in
theorem before_no {t u : List UInt8} {n m : Nat} {c o d p : Nat → Bool} (h : Cub t n c o) (h' : Cub u m d p) (hok : ¬ meetOk t u) (w : World) :
    Calls Try.prog 45 #[cv n c o, cv m d p] w fun e w' => e = .returned (.tuple #[cv 0 no no, .bool false]) ∧ Below w.heap.size w w' := by
  have hm := meet_any h h'
  rw [decide_eq_false hok] at hm
  have HM := Lib.hid hm
  clear hm hok h h'
  rw [cv_zero]
  unfold cv cs wv
  go_enter Try.func45, Try.ntmps45
  go_wp2_with fail
  refine (HM.out _).mono ?_
  rintro e w1 ⟨n1, c1, o1, hC1, rfl, hb1⟩
  obtain ⟨h1, h2, h3, hbel⟩ := boxes3 hb1
  clear hb1
  have HC1 := Lib.hid hC1
  clear hC1
  go_upto_region 2 with (fail)
  generalize hW : World.alloc w1 _ = W
  have h3 : Blk W (w.heap.size + 1 + 1) 30 zs := by rw [← hW]; exact h3.alloc _
  have hbel : Below w.heap.size w W := by rw [← hW]; exact hbel.alloc hbel.size _
  clear hW
  have c3 := h3.cell
  have f3 := h3.frozen
  unfold zs at c3
  go_wp2_with fail
  refine bodyPost_ret (v := .tuple #[.agg #[.int .i64 0, .int .u64 0, .int .u64 0, .int .u64 0, .int .u64 0, .int .u64 0, .int .u64 0, .int .u64 0, .int .u64 0], .bool false]) (by simp [results, Try.results45, go_sem, c3]) rfl ⟨rfl, ?_⟩
  refine Below.trans hbel ?_
  go_grown
theorem before_any {t u : List UInt8} {n m : Nat} {c o d p : Nat → Bool} (h : Cub t n c o) (h' : Cub u m d p) (w : World) :
    Calls Try.prog 45 #[cv n c o, cv m d p] w fun e w' => ∃ n' c' o', Cub (beforeT t u) n' c' o' ∧ e = .returned (.tuple #[cv n' c' o', .bool (decide (meetOk t u))]) ∧ Below w.heap.size w w' := by
  by_cases hok : meetOk t u
  · obtain ⟨rfl, h0⟩ := (fit_iff h h').1 hok.1
    rw [decide_eq_true hok]
    exact (before_yes h h' hok w).mono fun e w' ⟨he, hb⟩ => ⟨_, _, _, before_cub h h' ((noconf_iff h h').1 hok.2) hok, he, hb⟩
  · have e1 : beforeT t u = [] := by unfold beforeT; rw [if_neg hok]
    rw [e1, decide_eq_false hok]
    exact (before_no h h' hok w).mono fun e w' ⟨he, hb⟩ => ⟨_, _, _, nilCub, he, hb⟩
set_option maxHeartbeats 1000000 in
theorem within_any {t u : List UInt8} {n m : Nat} {c o d p : Nat → Bool} (h : Cub t n c o) (h' : Cub u m d p) (w : World) :
    Calls Try.prog 41 #[cv n c o, cv m d p] w fun e w' => e = .returned (.bool (decide (withinOk t u))) ∧ Below w.heap.size w w' := by
  by_cases hok : meetOk t u
  · have hm := meet_any h h'
    rw [decide_eq_true hok] at hm
    have HM := Lib.hid hm
    have HW := Lib.hid (within_cub hok)
    have H := Lib.hid h
    clear hm hok h h'
    unfold cv cs wv
    go_enter Try.func41, Try.ntmps41
    go_wp2_with fail
    refine (HM.out _).mono ?_
    rintro e w1 ⟨n1, c1, o1, hC1, rfl, hb1⟩
    have h1 := ((Blk.new w 30 (cs n c o)).alloc (.cells (cs m d p) 30)).below hb1 (by simp; omega)
    have hbel : Below w.heap.size w w1 := Below.trans (by go_grown) (hb1.mono (by simp; omega))
    clear hb1
    have HE := eq_two hC1 H.out
    simp only [cv, cs, wv] at HE
    clear hC1
    have l1 := h1.lt
    have c1' := h1.cell
    have e1 : decide (meetT t u = t) = decide (withinOk t u) := by rw [Bool.eq_iff_iff, decide_eq_true_eq, decide_eq_true_eq]; exact HW.out
    rw [e1] at HE
    clear e1
    go_wp2_with fail
    go_ret
    exact ⟨rfl, hbel.alloc hbel.size _⟩
  · have hm := meet_any h h'
    rw [decide_eq_false hok] at hm
    have hw : decide (withinOk t u) = false := decide_eq_false fun H => hok (within_meet H)
    rw [hw]
    have HM := Lib.hid hm
    clear hm hok h h' hw
    unfold cv cs wv
    go_enter Try.func41, Try.ntmps41
    go_wp2_with fail
    refine (HM.out _).mono ?_
    rintro e w1 ⟨n1, c1, o1, hC1, rfl, hb1⟩
    have hbel : Below w.heap.size w w1 := Below.trans (by go_grown) (hb1.mono (by simp; omega))
    clear hb1
    have HC1 := Lib.hid hC1
    clear hC1
    go_wp2_with fail
    go_ret
    exact ⟨rfl, hbel.alloc hbel.size _⟩
end Go.Proofs.Ytdiijannpfogdaa.Tn
