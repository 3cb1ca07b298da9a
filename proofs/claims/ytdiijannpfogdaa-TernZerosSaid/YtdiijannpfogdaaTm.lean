import Derived.Test.YtdiijannpfogdaaTw
namespace Go.Proofs.Ytdiijannpfogdaa.Tn
open Go.RowKit
attribute [local go_sem] cv cs wv or_wd and_wd xor_wd andNot_wd
theorem boxes3 {w w1 : World} {t : TypeId} {a b z : Array Value} (hb : Below (((w.alloc (.cells a t)).alloc (.cells b t)).alloc (.cells z t)).heap.size (((w.alloc (.cells a t)).alloc (.cells b t)).alloc (.cells z t)) w1) :
    Blk w1 w.heap.size t a ∧ Blk w1 (w.heap.size + 1) t b ∧ Blk w1 (w.heap.size + 1 + 1) t z ∧ Below w.heap.size w w1 := by
  refine ⟨(((Blk.new w t a).alloc _).alloc _).below hb (by simp; omega), ?_, ?_, Below.trans (by go_grown) (hb.mono (by simp; omega))⟩
  · have := ((Blk.new (w.alloc (.cells a t)) t b).alloc (.cells z t)).below hb (by simp)
    rw [World.size_alloc] at this
    exact this
  · have := (Blk.new ((w.alloc (.cells a t)).alloc (.cells b t)) t z).below hb (by simp)
    rw [World.size_alloc, World.size_alloc] at this
    exact this
def zs : Array Value := #[.int .i64 0, .int .u64 0, .int .u64 0, .int .u64 0, .int .u64 0, .int .u64 0, .int .u64 0, .int .u64 0, .int .u64 0]
theorem ne_off {b i j : Nat} (h : i ≠ j) : (⟨b, i, none⟩ : Addr) ≠ ⟨b, j, none⟩ := fun e => h (by have := congrArg Addr.off e; simpa using this)
def conf (c o d p : Nat → Bool) : Nat → Bool := band (band (bxor o p) c) d
set_option maxHeartbeats 1000000 in
theorem meet_yes (n : Nat) (c o d p : Nat → Bool) (w : World) (h0 : 0 < n) (hno : ∀ k, wd (conf c o d p) k = 0) :
    Calls Try.prog 36 #[cv n c o, cv n d p] w fun e w' => e = .returned (.tuple #[cv n (bor c d) (bor o p), .bool true]) ∧ Below w.heap.size w w' := by
  unfold cv cs wv
  unfold conf at hno
  have HN := Lib.hid hno
  clear hno
  go_enter Try.func36, Try.ntmps36
  go_wp2_with fail
  refine (fits_yes n n c o d p _ rfl h0).mono ?_
  rintro e w1 ⟨rfl, hb1⟩
  obtain ⟨h1, h2, h3, hbel⟩ := boxes3 hb1
  clear hb1
  go_wp2_with fail
  go_loopw [12] (fun i wr => ∃ k : Nat, k ≤ 4 ∧ i = .int .i64 k ∧ Blk wr w.heap.size 30 (cs n (upd k c (bor c d)) (upd k o (bor o p))) ∧ Blk wr (w.heap.size + 1) 30 (cs n d p) ∧ Blk wr (w.heap.size + 1 + 1) 30 zs ∧ Below w.heap.size w wr) (fun i _ => 4 - (intOf i).toNat)
  case atStart => exact ⟨0, by omega, rfl, by rw [upd_zero, upd_zero]; exact h1, h2, h3, hbel⟩
  case round =>
    clear h1 h2 h3 hbel
    obtain ⟨k, hk, rfl, h1, h2, h3, hbel⟩ := hrel
    by_cases hlt : k < 4
    · have c1 : wr.cell? ⟨w.heap.size, 1 + k, none⟩ = some (.int .u64 ((wd c k : Nat) : Int)) := by rw [h1.cell, cs_care _ _ _ _ hlt, wv, wd_upd_at]
      have c2 : wr.cell? ⟨w.heap.size, 5 + k, none⟩ = some (.int .u64 ((wd o k : Nat) : Int)) := by rw [h1.cell, cs_ones _ _ _ _ hlt, wv, wd_upd_at]
      have c3 : wr.cell? ⟨w.heap.size + 1, 1 + k, none⟩ = some (.int .u64 ((wd d k : Nat) : Int)) := by rw [h2.cell, cs_care _ _ _ _ hlt, wv]
      have c4 : wr.cell? ⟨w.heap.size + 1, 5 + k, none⟩ = some (.int .u64 ((wd p k : Nat) : Int)) := by rw [h2.cell, cs_ones _ _ _ _ hlt, wv]
      have f1 := h1.frozen
      have ha : (⟨w.heap.size, 1 + k, none⟩ : Addr) ≠ ⟨w.heap.size, 5 + k, none⟩ := ne_off (by omega)
      have c2' : (wr.setCell ⟨w.heap.size, 1 + k, none⟩ (.int .u64 ((wd (bor c d) k : Nat) : Int))).cell? ⟨w.heap.size, 5 + k, none⟩ = some (.int .u64 ((wd o k : Nat) : Int)) := by
        rw [World.cell?_setCell_other _ _ _ _ ha, c2]
      have c4' : (wr.setCell ⟨w.heap.size, 1 + k, none⟩ (.int .u64 ((wd (bor c d) k : Nat) : Int))).cell? ⟨w.heap.size + 1, 5 + k, none⟩ = some (.int .u64 ((wd p k : Nat) : Int)) := by
        rw [World.cell?_setCell_other _ _ _ _ (by simp), c4]
      clear ha
      have hz := HN.out k
      go_wp2
      go_region
      go_wp2
      go_region
      go_wp2
      go_region
      go_wp2
      go_roundw
      case rel =>
        have g1 := h1.set_ (1 + k) (wv (bor c d) k)
        rw [cs_next_care n k hlt] at g1
        have g2 := g1.set_ (5 + k) (wv (bor o p) k)
        rw [cs_next_ones n k hlt] at g2
        refine ⟨k + 1, by omega, by go_num, g2, ?_, ?_, ?_⟩
        · exact (h2.far (p := ⟨w.heap.size, 1 + k, none⟩) (by simp) _).far (p := ⟨w.heap.size, 5 + k, none⟩) (by simp) _
        · exact (h3.far (p := ⟨w.heap.size, 1 + k, none⟩) (by simp; omega) _).far (p := ⟨w.heap.size, 5 + k, none⟩) (by simp; omega) _
        · exact ((hbel.setCell (p := ⟨w.heap.size, 1 + k, none⟩) (by simp) _).setCell (p := ⟨w.heap.size, 5 + k, none⟩) (by simp) _).drew.drew.drew
      case measure => simp [intOf]; omega
    · obtain rfl : k = 4 := by omega
      rw [cs_upd4] at h1
      have c1 := h1.cell
      have c3 := h3.cell
      have f3 := h3.frozen
      unfold zs at c3
      go_wp2
      refine bodyPost_ret (v := .tuple #[.agg (cs n (bor c d) (bor o p)), .bool true]) (by simp [results, Try.results36, go_sem, c3]) rfl ⟨rfl, ?_⟩
      refine Below.trans hbel ?_
      go_grown
theorem conf_zero {f : Nat → Bool} (h : ∀ i, i < 256 → f i = false) : ∀ k, k < 4 → wd f k = 0 := fun k hk => wd_eq_zero.2 fun j hj => h _ (by omega)
set_option maxHeartbeats 1000000 in
theorem meet_conf (n : Nat) (c o d p : Nat → Bool) (w : World) (h0 : 0 < n) (i : Nat) (hi : i < 256) (hci : conf c o d p i = true) :
    Calls Try.prog 36 #[cv n c o, cv n d p] w fun e w' => e = .returned (.tuple #[cv 0 no no, .bool false]) ∧ Below w.heap.size w w' := by
  have hno : ¬ ∀ k, k < 4 → wd (conf c o d p) k = 0 := fun h => by
    have h1 := wd_eq_zero.1 (h (i / 64) (by omega)) (i % 64) (by omega)
    rw [show 64 * (i / 64) + i % 64 = i by omega, hci] at h1
    cases h1
  rw [cv_zero]
  unfold cv cs wv
  unfold conf at hno
  have HN := Lib.hid hno
  clear hno hci hi
  go_enter Try.func36, Try.ntmps36
  go_wp2_with fail
  refine (fits_yes n n c o d p _ rfl h0).mono ?_
  rintro e w1 ⟨rfl, hb1⟩
  obtain ⟨h1, h2, h3, hbel⟩ := boxes3 hb1
  clear hb1
  go_wp2_with fail
  go_loopw [12] (fun i wr => ∃ k : Nat, k ≤ 4 ∧ i = .int .i64 k ∧ (∀ j, j < k → wd (band (band (bxor o p) c) d) j = 0) ∧ Blk wr w.heap.size 30 (cs n (upd k c (bor c d)) (upd k o (bor o p))) ∧ Blk wr (w.heap.size + 1) 30 (cs n d p) ∧ Blk wr (w.heap.size + 1 + 1) 30 zs ∧ Below w.heap.size w wr) (fun i _ => 4 - (intOf i).toNat)
  case atStart => exact ⟨0, by omega, rfl, fun j hj => by omega, by rw [upd_zero, upd_zero]; exact h1, h2, h3, hbel⟩
  case round =>
    clear h1 h2 h3 hbel
    obtain ⟨k, hk, rfl, hall, h1, h2, h3, hbel⟩ := hrel
    have HL := Lib.hid hall
    clear hall
    by_cases hlt : k < 4
    · have c1 : wr.cell? ⟨w.heap.size, 1 + k, none⟩ = some (.int .u64 ((wd c k : Nat) : Int)) := by rw [h1.cell, cs_care _ _ _ _ hlt, wv, wd_upd_at]
      have c2 : wr.cell? ⟨w.heap.size, 5 + k, none⟩ = some (.int .u64 ((wd o k : Nat) : Int)) := by rw [h1.cell, cs_ones _ _ _ _ hlt, wv, wd_upd_at]
      have c3 : wr.cell? ⟨w.heap.size + 1, 1 + k, none⟩ = some (.int .u64 ((wd d k : Nat) : Int)) := by rw [h2.cell, cs_care _ _ _ _ hlt, wv]
      have c4 : wr.cell? ⟨w.heap.size + 1, 5 + k, none⟩ = some (.int .u64 ((wd p k : Nat) : Int)) := by rw [h2.cell, cs_ones _ _ _ _ hlt, wv]
      by_cases hz : wd (band (band (bxor o p) c) d) k = 0
      · have f1 := h1.frozen
        have ha : (⟨w.heap.size, 1 + k, none⟩ : Addr) ≠ ⟨w.heap.size, 5 + k, none⟩ := ne_off (by omega)
        have c2' : (wr.setCell ⟨w.heap.size, 1 + k, none⟩ (.int .u64 ((wd (bor c d) k : Nat) : Int))).cell? ⟨w.heap.size, 5 + k, none⟩ = some (.int .u64 ((wd o k : Nat) : Int)) := by
          rw [World.cell?_setCell_other _ _ _ _ ha, c2]
        have c4' : (wr.setCell ⟨w.heap.size, 1 + k, none⟩ (.int .u64 ((wd (bor c d) k : Nat) : Int))).cell? ⟨w.heap.size + 1, 5 + k, none⟩ = some (.int .u64 ((wd p k : Nat) : Int)) := by
          rw [World.cell?_setCell_other _ _ _ _ (by simp), c4]
        clear ha
        go_wp2
        go_region
        go_wp2
        go_region
        go_wp2
        go_region
        go_wp2
        go_roundw
        case rel =>
          have g1 := h1.set_ (1 + k) (wv (bor c d) k)
          rw [cs_next_care n k hlt] at g1
          have g2 := g1.set_ (5 + k) (wv (bor o p) k)
          rw [cs_next_ones n k hlt] at g2
          refine ⟨k + 1, by omega, by go_num, fun j hj => ?_, g2, ?_, ?_, ?_⟩
          · rcases Nat.lt_or_ge j k with hjk | hjk
            · exact HL.out j hjk
            · obtain rfl : j = k := by omega
              exact hz
          · exact (h2.far (p := ⟨w.heap.size, 1 + k, none⟩) (by simp) _).far (p := ⟨w.heap.size, 5 + k, none⟩) (by simp) _
          · exact (h3.far (p := ⟨w.heap.size, 1 + k, none⟩) (by simp; omega) _).far (p := ⟨w.heap.size, 5 + k, none⟩) (by simp; omega) _
          · exact ((hbel.setCell (p := ⟨w.heap.size, 1 + k, none⟩) (by simp) _).setCell (p := ⟨w.heap.size, 5 + k, none⟩) (by simp) _).drew.drew.drew
        case measure => simp [intOf]; omega
      · have hb : (((wd (band (band (bxor o p) c) d) k : Nat) : Int) != 0) = true := by simp; omega
        clear hz
        have c5 := h3.cell
        have f5 := h3.frozen
        unfold zs at c5
        go_wp2
        go_region
        go_wp2
        refine bodyPost_ret (v := .tuple #[.agg #[.int .i64 0, .int .u64 0, .int .u64 0, .int .u64 0, .int .u64 0, .int .u64 0, .int .u64 0, .int .u64 0, .int .u64 0], .bool false]) (by simp [results, Try.results36, go_sem, c5]) rfl ⟨rfl, ?_⟩
        refine Below.trans hbel ?_
        go_grown
    · exact absurd (fun j hj => HL.out j (by omega)) HN.out
theorem meet_unfit (n m : Nat) (c o d p : Nat → Bool) (w : World) (h : ¬ (n = m ∧ 0 < n)) :
    Calls Try.prog 36 #[cv n c o, cv m d p] w fun e w' => e = .returned (.tuple #[cv 0 no no, .bool false]) ∧ Below w.heap.size w w' := by
  rw [cv_zero]
  unfold cv cs wv
  go_enter Try.func36, Try.ntmps36
  go_wp2_with fail
  refine (fits_no n m c o d p _ h).mono ?_
  rintro e w1 ⟨rfl, hb1⟩
  obtain ⟨h1, h2, h3, hbel⟩ := boxes3 hb1
  clear hb1
  have c3 := h3.cell
  have f3 := h3.frozen
  go_wp2_with fail
  refine bodyPost_ret (v := .tuple #[.agg #[.int .i64 0, .int .u64 0, .int .u64 0, .int .u64 0, .int .u64 0, .int .u64 0, .int .u64 0, .int .u64 0, .int .u64 0], .bool false]) (by simp [results, Try.results36, go_sem, c3]) rfl ⟨rfl, ?_⟩
  refine Below.trans hbel ?_
  go_grown
end Go.Proofs.Ytdiijannpfogdaa.Tn
