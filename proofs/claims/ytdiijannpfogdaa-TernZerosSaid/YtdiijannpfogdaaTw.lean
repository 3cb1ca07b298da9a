import Derived.Test.YtdiijannpfogdaaTi
import Derived.Test.YtdiijannpfogdaaUp
namespace Go.Proofs.Ytdiijannpfogdaa.Tn
open Go.RowKit
attribute [local go_sem] cv cs wv
def bor (f g : Nat → Bool) : Nat → Bool := fun i => f i || g i
def band (f g : Nat → Bool) : Nat → Bool := fun i => f i && g i
def bxor (f g : Nat → Bool) : Nat → Bool := fun i => f i ^^ g i
def bnot (f g : Nat → Bool) : Nat → Bool := fun i => f i && !g i
theorem or_wd (f g : Nat → Bool) (k : Nat) : bits .or .u64 ((wd f k : Nat) : Int) ((wd g k : Nat) : Int) = ((wd (bor f g) k : Nat) : Int) := by
  rw [u64_or_nat _ _ (wd_lt f k) (wd_lt g k), wd_or]; rfl
theorem and_wd (f g : Nat → Bool) (k : Nat) : bits .and .u64 ((wd f k : Nat) : Int) ((wd g k : Nat) : Int) = ((wd (band f g) k : Nat) : Int) := by
  rw [u64_and_nat _ _ (wd_lt f k) (wd_lt g k), wd_and]; rfl
theorem xor_wd (f g : Nat → Bool) (k : Nat) : bits .xor .u64 ((wd f k : Nat) : Int) ((wd g k : Nat) : Int) = ((wd (bxor f g) k : Nat) : Int) := by
  rw [u64_xor_nat _ _ (wd_lt f k) (wd_lt g k), wd_xor]; rfl
theorem andNot_wd (f g : Nat → Bool) (k : Nat) : bits .andNot .u64 ((wd f k : Nat) : Int) ((wd g k : Nat) : Int) = ((wd (bnot f g) k : Nat) : Int) := by
  rw [u64_andNot_nat _ _ (wd_lt f k) (wd_lt g k), wd_andNot]; rfl
attribute [local go_sem] or_wd and_wd xor_wd andNot_wd

def upd (k : Nat) (f g : Nat → Bool) : Nat → Bool := fun i => if i < 64 * k then g i else f i
theorem upd_zero (f g : Nat → Bool) : upd 0 f g = f := by funext i; simp [upd]
theorem wd_upd_at (k : Nat) (f g : Nat → Bool) : wd (upd k f g) k = wd f k := wd_congr fun j hj => by
  have : ¬ 64 * k + j < 64 * k := by omega
  simp [upd, this]
theorem wd_upd_next (k : Nat) (f g : Nat → Bool) : wd (upd (k + 1) f g) k = wd g k := wd_congr fun j hj => by
  have : 64 * k + j < 64 * (k + 1) := by omega
  simp [upd, this]
theorem wd_upd_ne (k : Nat) (f g : Nat → Bool) (j : Nat) (h : j ≠ k) : wd (upd (k + 1) f g) j = wd (upd k f g) j := wd_congr fun i hi => by
  by_cases h1 : j < k
  · have h2 : 64 * j + i < 64 * k := by omega
    have h3 : 64 * j + i < 64 * (k + 1) := by omega
    simp [upd, h2, h3]
  · have h2 : ¬ 64 * j + i < 64 * k := by omega
    have h3 : ¬ 64 * j + i < 64 * (k + 1) := by omega
    simp [upd, h2, h3]
theorem wd_upd_lt (k : Nat) (f g : Nat → Bool) (j : Nat) (h : j < k) : wd (upd k f g) j = wd g j := wd_congr fun i hi => by
  have h2 : 64 * j + i < 64 * k := by omega
  simp [upd, h2]
theorem cs_upd4 (n : Nat) (f g h i : Nat → Bool) : cs n (upd 4 f g) (upd 4 h i) = cs n g i := by
  simp [cs, wv, wd_upd_lt]
theorem cs_next_care (n k : Nat) (hk : k < 4) (f g h : Nat → Bool) : (cs n (upd k f g) h).setIfInBounds (1 + k) (wv g k) = cs n (upd (k + 1) f g) h := by
  rw [← cs_set_care n (upd k f g) (upd (k + 1) f g) h k hk (fun j hj => wd_upd_ne k f g j hj), wv, wv, wd_upd_next]
theorem cs_next_ones (n k : Nat) (hk : k < 4) (f g h : Nat → Bool) : (cs n h (upd k f g)).setIfInBounds (5 + k) (wv g k) = cs n h (upd (k + 1) f g) := by
  rw [← cs_set_ones n h (upd k f g) (upd (k + 1) f g) k hk (fun j hj => wd_upd_ne k f g j hj), wv, wv, wd_upd_next]
set_option maxHeartbeats 400000 in
theorem fits_yes (n m : Nat) (c o d p : Nat → Bool) (w : World) (h : n = m) (h0 : 0 < n) :
    Calls Try.prog 66 #[cv n c o, cv m d p] w fun e w' => e = .returned (.bool true) ∧ Below w.heap.size w w' := by
  subst h
  unfold cv cs wv
  go_enter Try.func66, Try.ntmps66
  go_wp2
  go_ret
  exact ⟨rfl, by go_grown⟩
set_option maxHeartbeats 400000 in
theorem fits_no (n m : Nat) (c o d p : Nat → Bool) (w : World) (h : ¬ (n = m ∧ 0 < n)) :
    Calls Try.prog 66 #[cv n c o, cv m d p] w fun e w' => e = .returned (.bool false) ∧ Below w.heap.size w w' := by
  unfold cv cs wv
  by_cases h1 : n = m
  · subst h1
    have h2 : n = 0 := by omega
    subst h2
    go_enter Try.func66, Try.ntmps66
    go_wp2
    go_ret
    exact ⟨rfl, by go_grown⟩
  · have h2 : ((n : Int) == (m : Int)) = false := by simp; omega
    clear h h1
    go_enter Try.func66, Try.ntmps66
    go_wp2
    go_ret
    exact ⟨rfl, by go_grown⟩
set_option maxHeartbeats 1000000 in
theorem write_yes (n : Nat) (c o d p : Nat → Bool) (w : World) (h0 : 0 < n) :
    Calls Try.prog 31 #[cv n c o, cv n d p] w fun e w' => e = .returned (cv n (bor c d) (bor (bnot o d) p)) ∧ Below w.heap.size w w' := by
  unfold cv cs wv
  go_enter Try.func31, Try.ntmps31
  go_wp2_with fail
  refine (fits_yes n n c o d p _ rfl h0).mono ?_
  rintro e w1 ⟨rfl, hb1⟩
  have h1 : Blk w1 w.heap.size 30 (cs n c o) := (((Blk.new w 30 (cs n c o)).alloc _).alloc _).below hb1 (by simp; omega)
  have h2 : Blk w1 (w.heap.size + 1) 30 (cs n d p) := by
    have := ((Blk.new (w.alloc (.cells (cs n c o) 30)) 30 (cs n d p)).alloc (.cells #[.int .i64 0, .int .u64 0, .int .u64 0, .int .u64 0, .int .u64 0, .int .u64 0, .int .u64 0, .int .u64 0, .int .u64 0] 30)).below hb1 (by simp)
    rw [World.size_alloc] at this
    exact this
  have h3 : Blk w1 (w.heap.size + 1 + 1) 30 #[.int .i64 0, .int .u64 0, .int .u64 0, .int .u64 0, .int .u64 0, .int .u64 0, .int .u64 0, .int .u64 0, .int .u64 0] := by
    have := (Blk.new ((w.alloc (.cells (cs n c o) 30)).alloc (.cells (cs n d p) 30)) 30 #[.int .i64 0, .int .u64 0, .int .u64 0, .int .u64 0, .int .u64 0, .int .u64 0, .int .u64 0, .int .u64 0, .int .u64 0]).below hb1 (by simp)
    rw [World.size_alloc, World.size_alloc] at this
    exact this
  have hbel : Below w.heap.size w w1 := Below.trans (by go_grown) (hb1.mono (by simp; omega))
  clear hb1
  go_wp2_with fail
  go_loopw [11] (fun i wr => ∃ k : Nat, k ≤ 4 ∧ i = .int .i64 k ∧ Blk wr w.heap.size 30 (cs n (upd k c (bor c d)) (upd k o (bor (bnot o d) p))) ∧ Blk wr (w.heap.size + 1) 30 (cs n d p) ∧ Blk wr (w.heap.size + 1 + 1) 30 #[.int .i64 0, .int .u64 0, .int .u64 0, .int .u64 0, .int .u64 0, .int .u64 0, .int .u64 0, .int .u64 0, .int .u64 0] ∧ Below w.heap.size w wr) (fun i _ => 4 - (intOf i).toNat)
  case atStart => exact ⟨0, by omega, rfl, by rw [upd_zero, upd_zero]; exact h1, h2, h3, hbel⟩
  case round =>
    clear h1 h2 h3 hbel
    obtain ⟨k, hk, rfl, h1, h2, h3, hbel⟩ := hrel
    by_cases hlt : k < 4
    · have c1 : wr.cell? ⟨w.heap.size, 1 + k, none⟩ = some (.int .u64 ((wd c k : Nat) : Int)) := by rw [h1.cell, cs_care _ _ _ _ hlt, wv, wd_upd_at]
      have c2 : wr.cell? ⟨w.heap.size, 5 + k, none⟩ = some (.int .u64 ((wd o k : Nat) : Int)) := by rw [h1.cell, cs_ones _ _ _ _ hlt, wv, wd_upd_at]
      have c3 : wr.cell? ⟨w.heap.size + 1, 1 + k, none⟩ = some (.int .u64 ((wd d k : Nat) : Int)) := by rw [h2.cell, cs_care _ _ _ _ hlt, wv]
      have c4 : wr.cell? ⟨w.heap.size + 1, 5 + k, none⟩ = some (.int .u64 ((wd p k : Nat) : Int)) := by rw [h2.cell, cs_ones _ _ _ _ hlt, wv]
      have f1 := h1.frozen
      have ha : ∀ i : Nat, i < 4 → (⟨w.heap.size, 1 + k, none⟩ : Addr) ≠ ⟨w.heap.size, 5 + i, none⟩ := fun i hi e => by
        have := congrArg Addr.off e
        simp at this; omega
      have c2' : (wr.setCell ⟨w.heap.size, 1 + k, none⟩ (.int .u64 ((wd (bor c d) k : Nat) : Int))).cell? ⟨w.heap.size, 5 + k, none⟩ = some (.int .u64 ((wd o k : Nat) : Int)) := by
        rw [World.cell?_setCell_other _ _ _ _ (ha k hlt), c2]
      have c3' : (wr.setCell ⟨w.heap.size, 1 + k, none⟩ (.int .u64 ((wd (bor c d) k : Nat) : Int))).cell? ⟨w.heap.size + 1, 1 + k, none⟩ = some (.int .u64 ((wd d k : Nat) : Int)) := by
        rw [World.cell?_setCell_other _ _ _ _ (by simp), c3]
      have c4' : (wr.setCell ⟨w.heap.size, 1 + k, none⟩ (.int .u64 ((wd (bor c d) k : Nat) : Int))).cell? ⟨w.heap.size + 1, 5 + k, none⟩ = some (.int .u64 ((wd p k : Nat) : Int)) := by
        rw [World.cell?_setCell_other _ _ _ _ (by simp), c4]
      have HA := Lib.hid ha
      clear ha
      go_wp2
      go_region
      go_wp2
      go_region
      go_wp2
      go_roundw
      case rel =>
        have g1 := h1.set_ (1 + k) (wv (bor c d) k)
        rw [cs_next_care n k hlt] at g1
        have g2 := g1.set_ (5 + k) (wv (bor (bnot o d) p) k)
        rw [cs_next_ones n k hlt] at g2
        refine ⟨k + 1, by omega, by go_num, g2, ?_, ?_, ?_⟩
        · exact (h2.far (p := ⟨w.heap.size, 1 + k, none⟩) (by simp) _).far (p := ⟨w.heap.size, 5 + k, none⟩) (by simp) _
        · exact (h3.far (p := ⟨w.heap.size, 1 + k, none⟩) (by simp; omega) _).far (p := ⟨w.heap.size, 5 + k, none⟩) (by simp; omega) _
        · exact ((hbel.setCell (p := ⟨w.heap.size, 1 + k, none⟩) (by simp) _).setCell (p := ⟨w.heap.size, 5 + k, none⟩) (by simp) _).drew.drew
      case measure => simp [intOf]; omega
    · obtain rfl : k = 4 := by omega
      rw [cs_upd4] at h1
      have c1 := h1.cell
      have c3 := h3.cell
      have f3 := h3.frozen
      go_wp2
      refine bodyPost_ret (v := .agg (cs n (bor c d) (bor (bnot o d) p))) (by simp [results, Try.results31, go_sem, c3]) rfl ⟨rfl, ?_⟩
      refine Below.trans hbel ?_
      go_grown
set_option maxHeartbeats 400000 in
theorem write_no (n m : Nat) (c o d p : Nat → Bool) (w : World) (h : ¬ (n = m ∧ 0 < n)) :
    Calls Try.prog 31 #[cv n c o, cv m d p] w fun e w' => e = .returned (cv 0 no no) ∧ Below w.heap.size w w' := by
  rw [cv_zero]
  unfold cv cs wv
  go_enter Try.func31, Try.ntmps31
  go_wp2_with fail
  refine (fits_no n m c o d p _ h).mono ?_
  rintro e w1 ⟨rfl, hb1⟩
  have h3 : Blk w1 (w.heap.size + 1 + 1) 30 #[.int .i64 0, .int .u64 0, .int .u64 0, .int .u64 0, .int .u64 0, .int .u64 0, .int .u64 0, .int .u64 0, .int .u64 0] := by
    have := (Blk.new ((w.alloc (.cells (cs n c o) 30)).alloc (.cells (cs m d p) 30)) 30 #[.int .i64 0, .int .u64 0, .int .u64 0, .int .u64 0, .int .u64 0, .int .u64 0, .int .u64 0, .int .u64 0, .int .u64 0]).below hb1 (by simp)
    rw [World.size_alloc, World.size_alloc] at this
    exact this
  have hbel : Below w.heap.size w w1 := Below.trans (by go_grown) (hb1.mono (by simp; omega))
  clear hb1
  have c3 := h3.cell
  have f3 := h3.frozen
  go_wp2_with fail
  refine bodyPost_ret (v := .agg #[.int .i64 0, .int .u64 0, .int .u64 0, .int .u64 0, .int .u64 0, .int .u64 0, .int .u64 0, .int .u64 0, .int .u64 0]) (by simp [results, Try.results31, go_sem, c3]) rfl ⟨rfl, ?_⟩
  refine Below.trans hbel ?_
  go_grown
end Go.Proofs.Ytdiijannpfogdaa.Tn
