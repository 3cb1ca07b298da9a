/- The program's next: a header's row of bits turned into the next one's. -/
import Derived.Test.YtdiijannpfogdaaMs
namespace Go.Proofs.Ytdiijannpfogdaa.Tn
open Go.RowKit
def rc (h : Nat → Bool) : Array Value := #[wv h 0, wv h 1, wv h 2, wv h 3]
theorem rc_at (h : Nat → Bool) (k : Nat) (hk : k < 4) : (rc h)[k]? = some (wv h k) := by
  rcases (by omega : k = 0 ∨ k = 1 ∨ k = 2 ∨ k = 3) with rfl | rfl | rfl | rfl <;> rfl
theorem rc_set (h h' : Nat → Bool) (k : Nat) (hk : k < 4) (hs : ∀ j, j ≠ k → wd h' j = wd h j) : (rc h).setIfInBounds k (wv h' k) = rc h' := by
  rcases (by omega : k = 0 ∨ k = 1 ∨ k = 2 ∨ k = 3) with rfl | rfl | rfl | rfl
  · simp [rc, wv, hs 1 (by decide), hs 2 (by decide), hs 3 (by decide)]
  · simp [rc, wv, hs 0 (by decide), hs 2 (by decide), hs 3 (by decide)]
  · simp [rc, wv, hs 0 (by decide), hs 1 (by decide), hs 3 (by decide)]
  · simp [rc, wv, hs 0 (by decide), hs 1 (by decide), hs 2 (by decide)]
theorem row_at {B i : Nat} {h : Nat → Bool} {t : TypeId} {w : World} (hi : i < 256) (hb : Blk w B t (rc h)) (b : Bool) (hv : h i = b) :
    Calls Try.prog 68 #[.pointer (some ⟨B, 0, none⟩), .int .i64 (i : Int)] w fun e w' => e = .returned (.bool b) ∧ w = w' := by
  have hk : i / 64 < 4 := by omega
  have := at_any B 0 i (wd h (i / 64)) w hi (wd_lt _ _) (by rw [Nat.zero_add, hb.cell]; exact rc_at h _ hk)
  rw [at_wd, hv] at this
  exact this
theorem row_put {B i : Nat} {h : Nat → Bool} {t : TypeId} {w : World} (hi : i < 256) (hb : Blk w B t (rc h)) :
    Calls Try.prog 65 #[.pointer (some ⟨B, 0, none⟩), .int .i64 (i : Int)] w fun e w' => e = .returned (.tuple #[]) ∧ Blk w' B t (rc (put h i)) ∧ w.grownBy w' (some B) := by
  have hk : i / 64 < 4 := by omega
  refine (put_any B 0 i (wd h (i / 64)) w hi (wd_lt _ _) (by rw [Nat.zero_add, hb.cell]; exact rc_at h _ hk) (hb.frozen _)).mono ?_
  rintro e w' ⟨rfl, rfl⟩
  rw [Nat.zero_add]
  refine ⟨rfl, ?_, ?_⟩
  · rw [put_wd]
    have h2 := hb.set_ (i / 64) (wv (put h i) (i / 64))
    rw [rc_set h (put h i) _ hk (fun j hj => put_wd_ne h i j hj)] at h2
    exact h2.drew
  · have h2 := only_set w B (i / 64) (.int .u64 ((wd h (i / 64) ||| 2 ^ (i % 64) : Nat) : Int))
    exact ⟨h2.os, h2.tape, h2.output, h2.size, h2.block⟩
theorem row_drop {B i : Nat} {h : Nat → Bool} {t : TypeId} {w : World} (hi : i < 256) (hb : Blk w B t (rc h)) :
    Calls Try.prog 77 #[.pointer (some ⟨B, 0, none⟩), .int .i64 (i : Int)] w fun e w' => e = .returned (.tuple #[]) ∧ Blk w' B t (rc (drop h i)) ∧ w.grownBy w' (some B) := by
  have hk : i / 64 < 4 := by omega
  refine (drop_any B 0 i (wd h (i / 64)) w hi (wd_lt _ _) (by rw [Nat.zero_add, hb.cell]; exact rc_at h _ hk) (hb.frozen _)).mono ?_
  rintro e w' ⟨rfl, rfl⟩
  rw [Nat.zero_add]
  refine ⟨rfl, ?_, ?_⟩
  · rw [drop_wd]
    have h2 := hb.set_ (i / 64) (wv (drop h i) (i / 64))
    rw [rc_set h (drop h i) _ hk (fun j hj => drop_wd_ne h i j hj)] at h2
    exact h2.drew
  · have h2 := only_set w B (i / 64) (.int .u64 ((wd h (i / 64) &&& (18446744073709551615 - 2 ^ (i % 64)) : Nat) : Int))
    exact ⟨h2.os, h2.tape, h2.output, h2.size, h2.block⟩
theorem next_care {c h : Nat → Bool} {k : Nat} (hc : c k = true) : nextF c (k + 1) h = nextF c k h := by
  show (if c k then nextF c k h else if h k then nextF c k (drop h k) else some (put h k)) = _
  rw [if_pos hc]
theorem next_one {c h : Nat → Bool} {k : Nat} (hc : c k = false) (hh : h k = true) : nextF c (k + 1) h = nextF c k (drop h k) := by
  show (if c k then nextF c k h else if h k then nextF c k (drop h k) else some (put h k)) = _
  rw [if_neg (by simp [hc]), if_pos hh]
theorem next_zero {c h : Nat → Bool} {k : Nat} (hc : c k = false) (hh : h k = false) : nextF c (k + 1) h = some (put h k) := by
  show (if c k then nextF c k h else if h k then nextF c k (drop h k) else some (put h k)) = _
  rw [if_neg (by simp [hc]), if_neg (by simp [hh])]
def NxR (c : Nat → Bool) (n : Nat) (h : Nat → Bool) (Hb : Nat) (w : World) (e : Ending) (w' : World) : Prop :=
  ∃ h', e = .returned (.bool (nextF c n h).isSome) ∧ w.grownBy w' (some Hb) ∧ Blk w' Hb 28 (rc h') ∧ ∀ x, nextF c n h = some x → h' = x
theorem NxR.yes {c : Nat → Bool} {n : Nat} {h h' : Nat → Bool} {Hb : Nat} {w w' : World} (hn : nextF c n h = some h') (hg : w.grownBy w' (some Hb)) (hb : Blk w' Hb 28 (rc h')) : NxR c n h Hb w (.returned (.bool true)) w' :=
  ⟨h', by rw [hn]; rfl, hg, hb, fun x hx => by rw [hn] at hx; exact Option.some.inj hx⟩
theorem NxR.no {c : Nat → Bool} {n : Nat} {h h' : Nat → Bool} {Hb : Nat} {w w' : World} (hn : nextF c n h = none) (hg : w.grownBy w' (some Hb)) (hb : Blk w' Hb 28 (rc h')) : NxR c n h Hb w (.returned (.bool false)) w' :=
  ⟨h', by rw [hn]; rfl, hg, hb, fun x hx => by rw [hn] at hx; cases hx⟩
attribute [local go_sem] cs wv
set_option maxRecDepth 100000 in
set_option maxHeartbeats 2000000 in
theorem next_any {n : Nat} {c o : Nat → Bool} (hn : n ≤ 256) (h : Nat → Bool) (Hb : Nat) (w : World) (hb : Blk w Hb 28 (rc h)) :
    Calls Try.prog 75 #[cv n c o, .pointer (some ⟨Hb, 0, none⟩)] w (NxR c n h Hb w) := by
  have hlt := hb.lt
  have HB := Lib.hid (hb.alloc (.cells (cs n c o) 30))
  have hC := Blk.new w 30 (cs n c o)
  have hG := World.grownBy_alloc w (.cells (cs n c o) 30) (some Hb)
  unfold cv cs wv
  have HC := Lib.hid hC
  have HG := Lib.hid hG
  clear hb hC hG
  go_enter Try.func75, Try.ntmps75
  go_wp2
  go_loopw [5] (fun i wr => ∃ (k : Nat) (m : Int) (h' : Nat → Bool), i = .int .i64 m ∧ m = (k : Int) - 1 ∧ k ≤ n ∧ nextF c n h = nextF c k h' ∧ Blk wr Hb 28 (rc h') ∧ Blk wr w.heap.size 30 (cs n c o) ∧ w.grownBy wr (some Hb)) (fun i _ => (intOf i + 1).toNat)
  case atStart => exact ⟨n, (n : Int) - 1, h, rfl, rfl, Nat.le_refl _, rfl, HB.out, HC.out, HG.out⟩
  case round =>
    obtain ⟨k, m, h', rfl, hm, hk, hnx, hbr, hcr, hgr⟩ := hrel
    have HNX := Lib.hid hnx
    have HBR := Lib.hid hbr
    have HCR := Lib.hid hcr
    have HGR := Lib.hid hgr
    clear hnx hbr hcr hgr
    by_cases hk0 : k = 0
    · subst hk0
      have hm0 : m < 0 := by omega
      clear hm
      go_wp2
      go_ret
      exact NxR.no HNX.out HGR.out HBR.out
    · obtain ⟨j, rfl⟩ : ∃ j, k = j + 1 := ⟨k - 1, by omega⟩
      obtain rfl : m = (j : Int) := by omega
      clear hm hk0
      cases hcj : c j with
      | true =>
        have HN2 := Lib.hid (HNX.out.trans (next_care hcj))
        have HCJ := Lib.hid hcj
        clear hcj
        go_wp2_with fail
        refine (at_lit_care (by omega) HCR.out true HCJ.out).mono ?_
        rintro e w' ⟨rfl, rfl⟩
        go_wp2
        go_roundw
        case rel => exact ⟨j, _, h', rfl, rfl, by omega, HN2.out, HBR.out, HCR.out, HGR.out⟩
        case measure => simp [intOf] <;> omega
      | false =>
        cases hhj : h' j with
        | true =>
          have HN2 := Lib.hid (HNX.out.trans (next_one hcj hhj))
          have HCJ := Lib.hid hcj
          have HHJ := Lib.hid hhj
          clear hcj hhj
          go_wp2_with fail
          refine (at_lit_care (by omega) HCR.out false HCJ.out).mono ?_
          rintro e w' ⟨rfl, rfl⟩
          go_wp2_with fail
          refine (row_at (by omega) HBR.out true HHJ.out).mono ?_
          rintro e w' ⟨rfl, rfl⟩
          go_wp2_with fail
          refine (row_drop (by omega) HBR.out).mono ?_
          rintro e w2 ⟨rfl, hb2, hg2⟩
          have hne : (some w.heap.size : Option Nat) ≠ some Hb := fun e => by cases e; exact absurd hlt (by omega)
          have hc2 := HCR.out.grown hg2 hne
          have hg3 := gtrans HGR.out hg2
          go_wp2
          go_roundw
          case rel => exact ⟨j, _, drop h' j, rfl, rfl, by omega, HN2.out, hb2, hc2, hg3⟩
          case measure => simp [intOf] <;> omega
        | false =>
          have HN2 := Lib.hid (HNX.out.trans (next_zero hcj hhj))
          have HCJ := Lib.hid hcj
          have HHJ := Lib.hid hhj
          clear hcj hhj
          go_wp2_with fail
          refine (at_lit_care (by omega) HCR.out false HCJ.out).mono ?_
          rintro e w' ⟨rfl, rfl⟩
          go_wp2_with fail
          refine (row_at (by omega) HBR.out false HHJ.out).mono ?_
          rintro e w' ⟨rfl, rfl⟩
          go_wp2_with fail
          refine (row_put (by omega) HBR.out).mono ?_
          rintro e w2 ⟨rfl, hb2, hg2⟩
          have hg3 := gtrans HGR.out hg2
          go_wp2
          go_ret
          exact NxR.yes HN2.out hg3 hb2
theorem members_fn {n : Nat} {c o : Nat → Bool} (w : World) : Calls Try.prog 60 #[cv n c o] w fun e w' => e = .returned (.func (.func 74) #[] #[.pointer (some ⟨w.heap.size, 0, none⟩)]) ∧ w' = w.alloc (.cells (cs n c o) 30) := by
  unfold cv cs wv
  go_enter Try.func60, Try.ntmps60
  go_wp2
  go_ret
  exact ⟨rfl, rfl⟩
end Go.Proofs.Ytdiijannpfogdaa.Tn
