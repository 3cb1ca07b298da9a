/- tern's Meet, All and Split, ported -/
import Derived.Test.YtlakglphjhoodaaDoorQA
import Derived.Deep.RegionWith
import Derived.StillTailTactics
import Derived.Deep.QuietTactic
import Derived.BigQuiet
import Derived.Deep.Cut
import Derived.Deep.Onto
namespace Go.Proofs.YtlakglphjhoodaaDoor.Tn
open Go.RowKit
set_option linter.unusedVariables false
set_option linter.unusedSimpArgs false
set_option linter.unusedSectionVars false
theorem ne_no {b c : UInt8} (h : b = c) : ((b.toNat : Int) != (c.toNat : Int)) = false := by subst h; simp
theorem ne_yes {b c : UInt8} (h : ¬ b = c) : ((b.toNat : Int) != (c.toNat : Int)) = true := by
  rw [bne_iff_ne]
  intro e
  exact h (UInt8.toNat_inj.1 (by omega))
theorem ne_no48 {b : UInt8} (h : b = 48) : ((b.toNat : Int) != 48) = false := ne_no h
theorem ne_yes48 {b : UInt8} (h : ¬ b = 48) : ((b.toNat : Int) != 48) = true := ne_yes h
theorem ne_no49 {b : UInt8} (h : b = 49) : ((b.toNat : Int) != 49) = false := ne_no h
theorem ne_yes49 {b : UInt8} (h : ¬ b = 49) : ((b.toNat : Int) != 49) = true := ne_yes h
theorem ne_no120 {b : UInt8} (h : b = 120) : ((b.toNat : Int) != 120) = false := ne_no h
theorem ne_yes120 {b : UInt8} (h : ¬ b = 120) : ((b.toNat : Int) != 120) = true := ne_yes h
theorem parse_s {n : Nat} {c o : Nat → Bool} (s : ByteArray) (hs : s.size ≤ maxLen) (hC : Cub (cubeT s.data.toList) n c o) (w : World) :
    Calls Tryd.prog 59 #[.string s] w fun e w' => e = .returned (.tuple #[cv n c o, .int .i64 (parseE s.data.toList)]) ∧ Below w.heap.size w w' := by
  have h := parse_any s w hs
  rw [← hC.val] at h
  exact h
end Go.Proofs.YtlakglphjhoodaaDoor.Tn

namespace Go.Proofs.YtlakglphjhoodaaDoor.Tn
open Go.RowKit

def up (g : Nat → UInt8) (n : Nat) : List UInt8 := (List.range n).map g
theorem up_succ (g : Nat → UInt8) (n : Nat) : up g (n + 1) = up g n ++ [g n] := by simp [up, List.range_succ]
theorem up_zero (g : Nat → UInt8) : up g 0 = [] := rfl
@[simp] theorem up_length (g : Nat → UInt8) (n : Nat) : (up g n).length = n := by simp [up]
theorem up_get (g : Nat → UInt8) (n i : Nat) (h : i < n) : (up g n)[i]? = some (g i) := by simp [up, h]
theorem up_congr {g h : Nat → UInt8} {n : Nat} (e : ∀ i, i < n → g i = h i) : up g n = up h n := by
  unfold up
  apply List.map_congr_left
  intro i hi
  exact e i (List.mem_range.1 hi)
def byt (t : List UInt8) (i : Nat) : UInt8 := t.getD i 0
theorem byt_up (g : Nat → UInt8) (n i : Nat) (h : i < n) : byt (up g n) i = g i := by simp [byt, List.getD, up_get g n i h]
theorem up_byt (t : List UInt8) : up (byt t) t.length = t := by
  apply List.ext_getElem?
  intro i
  by_cases hi : i < t.length
  · rw [up_get _ _ _ hi]; simp [byt, hi]
  · rw [List.getElem?_eq_none (by simp; omega), List.getElem?_eq_none (by omega)]
theorem byt_str (s : ByteArray) (k : Nat) (h : k < s.size) : byt s.data.toList k = s[k] := by
  have : s.data.toList[k]? = some s[k] := by rw [Array.getElem?_toList]; exact Array.getElem?_eq_getElem h
  simp [byt, List.getD, this]
theorem eq_up {t : List UInt8} {g : Nat → UInt8} {n : Nat} (hl : t.length = n) (h : ∀ i, i < n → byt t i = g i) : t = up g n := by
  rw [← up_byt t, hl]
  exact up_congr h

def dig (c o : Bool) : UInt8 := if c then (if o then 49 else 48) else 120
theorem dig_ok (c o : Bool) : okB (dig c o) = true := by cases c <;> cases o <;> rfl

structure Nrm (n : Nat) (c o : Nat → Bool) : Prop where
  le : n ≤ 256
  hi : ∀ i, n ≤ i → c i = false
  sub : ∀ i, o i = true → c i = true
theorem Nrm.ohi {n : Nat} {c o : Nat → Bool} (h : Nrm n c o) (i : Nat) (hi : n ≤ i) : o i = false := by
  have := h.hi i hi
  have h2 := h.sub i
  cases ho : o i with
  | false => rfl
  | true => rw [h2 ho] at this; cases this
def txt (n : Nat) (c o : Nat → Bool) : List UInt8 := up (fun i => dig (c i) (o i)) n
theorem Nrm.cub {n : Nat} {c o : Nat → Bool} (h : Nrm n c o) : Cub (txt n c o) n c o := by
  refine ⟨by simp [txt], ?_, ?_, by simp [txt]; exact h.le, ?_⟩
  · funext i
    by_cases hi : i < n
    · simp only [careF, txt, up_get _ _ _ hi]
      cases c i <;> cases o i <;> rfl
    · have e : (txt n c o)[i]? = none := List.getElem?_eq_none (by simp [txt]; omega)
      simp only [careF, e, h.hi i (by omega)]; rfl
  · funext i
    by_cases hi : i < n
    · have h2 := h.sub i
      simp only [onesF, txt, up_get _ _ _ hi]
      cases hc : c i <;> cases ho : o i <;> first | rfl | (rw [ho, hc] at h2; cases h2 rfl)
    · have e : (txt n c o)[i]? = none := List.getElem?_eq_none (by simp [txt]; omega)
      simp only [onesF, e, h.ohi i (by omega)]; rfl
  · simp only [txt, up, List.all_map, List.all_eq_true]
    intro i _
    exact dig_ok _ _
theorem Cub.nrm {t : List UInt8} {n : Nat} {c o : Nat → Bool} (h : Cub t n c o) : Nrm n c o := by
  refine ⟨by have := h.hn; have := h.le; omega, fun i hi => ?_, fun i hi => ?_⟩
  · rw [h.hc]
    have e : t[i]? = none := List.getElem?_eq_none (by have := h.hn; omega)
    simp [careF, e]
  · rw [h.ho] at hi
    rw [h.hc]
    simp only [onesF, beq_iff_eq] at hi
    simp [careF, hi]
theorem Cub.txt_eq {t : List UInt8} {n : Nat} {c o : Nat → Bool} (h : Cub t n c o) : t = txt n c o := by
  apply eq_up h.hn.symm
  intro i hi
  have := h.byte i hi
  simp only [byt, List.getD, this, Option.getD_some]
  rfl
theorem Cub.at_ {t : List UInt8} {n : Nat} {c o : Nat → Bool} (h : Cub t n c o) (i : Nat) (hi : i < n) : byt t i = dig (c i) (o i) := by
  have := h.byte i hi
  simp only [byt, List.getD, this, Option.getD_some]
  rfl
theorem Nrm.of_places {n : Nat} {c o : Nat → Bool} (h : Nrm n c o) {g : Nat → UInt8} (hg : ∀ i, i < n → g i = dig (c i) (o i)) : Cub (up g n) n c o := by
  rw [up_congr hg]; exact h.cub
end Go.Proofs.YtlakglphjhoodaaDoor.Tn

namespace Go.Proofs.YtlakglphjhoodaaDoor.Tn
open Go.RowKit
attribute [local go_sem] cv cs wv
def bor (f g : Nat → Bool) : Nat → Bool := fun i => f i || g i
def band (f g : Nat → Bool) : Nat → Bool := fun i => f i && g i
def bxor (f g : Nat → Bool) : Nat → Bool := fun i => f i ^^ g i
def bnot (f g : Nat → Bool) : Nat → Bool := fun i => f i && !g i
theorem or_wd (f g : Nat → Bool) (k : Nat) : bits .or .u64 ((wd f k : Nat) : Int) ((wd g k : Nat) : Int) = ((wd (bor f g) k : Nat) : Int) := by
  rw [u64_or_nat _ _ (wd_lt f k) (wd_lt g k), wd_or]; rfl
theorem and_wd (f g : Nat → Bool) (k : Nat) : bits .and .u64 ((wd f k : Nat) : Int) ((wd g k : Nat) : Int) = ((wd (band f g) k : Nat) : Int) := by
  rw [u64_and_nat _ _ (wd_lt f k) (wd_lt g k), wd_and]; rfl
theorem xor_wd (f g : Nat → Bool) (k : Nat) : bits .xor .u64 ((wd f k : Nat) : Int) ((wd g k : Nat) : Int) = ((wd (bxor f g) k : Nat) : Int) := by
  rw [u64_xor_nat _ _ (wd_lt f k) (wd_lt g k), wd_xor]; rfl
theorem andNot_wd (f g : Nat → Bool) (k : Nat) : bits .andNot .u64 ((wd f k : Nat) : Int) ((wd g k : Nat) : Int) = ((wd (bnot f g) k : Nat) : Int) := by
  rw [u64_andNot_nat _ _ (wd_lt f k) (wd_lt g k), wd_andNot]; rfl
attribute [local go_sem] or_wd and_wd xor_wd andNot_wd

def upd (k : Nat) (f g : Nat → Bool) : Nat → Bool := fun i => if i < 64 * k then g i else f i
theorem upd_zero (f g : Nat → Bool) : upd 0 f g = f := by funext i; simp [upd]
theorem wd_upd_at (k : Nat) (f g : Nat → Bool) : wd (upd k f g) k = wd f k := wd_congr fun j hj => by
  have : ¬ 64 * k + j < 64 * k := by omega
  simp [upd, this]
theorem wd_upd_next (k : Nat) (f g : Nat → Bool) : wd (upd (k + 1) f g) k = wd g k := wd_congr fun j hj => by
  have : 64 * k + j < 64 * (k + 1) := by omega
  simp [upd, this]
theorem wd_upd_ne (k : Nat) (f g : Nat → Bool) (j : Nat) (h : j ≠ k) : wd (upd (k + 1) f g) j = wd (upd k f g) j := wd_congr fun i hi => by
  by_cases h1 : j < k
  · have h2 : 64 * j + i < 64 * k := by omega
    have h3 : 64 * j + i < 64 * (k + 1) := by omega
    simp [upd, h2, h3]
  · have h2 : ¬ 64 * j + i < 64 * k := by omega
    have h3 : ¬ 64 * j + i < 64 * (k + 1) := by omega
    simp [upd, h2, h3]
theorem wd_upd_lt (k : Nat) (f g : Nat → Bool) (j : Nat) (h : j < k) : wd (upd k f g) j = wd g j := wd_congr fun i hi => by
  have h2 : 64 * j + i < 64 * k := by omega
  simp [upd, h2]
theorem cs_upd4 (n : Nat) (f g h i : Nat → Bool) : cs n (upd 4 f g) (upd 4 h i) = cs n g i := by
  simp [cs, wv, wd_upd_lt]
theorem cs_next_care (n k : Nat) (hk : k < 4) (f g h : Nat → Bool) : (cs n (upd k f g) h).setIfInBounds (1 + k) (wv g k) = cs n (upd (k + 1) f g) h := by
  rw [← cs_set_care n (upd k f g) (upd (k + 1) f g) h k hk (fun j hj => wd_upd_ne k f g j hj), wv, wv, wd_upd_next]
theorem cs_next_ones (n k : Nat) (hk : k < 4) (f g h : Nat → Bool) : (cs n h (upd k f g)).setIfInBounds (5 + k) (wv g k) = cs n h (upd (k + 1) f g) := by
  rw [← cs_set_ones n h (upd k f g) (upd (k + 1) f g) k hk (fun j hj => wd_upd_ne k f g j hj), wv, wv, wd_upd_next]
set_option maxHeartbeats 400000 in
theorem fits_yes (n m : Nat) (c o d p : Nat → Bool) (w : World) (h : n = m) (h0 : 0 < n) :
    Calls Tryd.prog 75 #[cv n c o, cv m d p] w fun e w' => e = .returned (.bool true) ∧ Below w.heap.size w w' := by
  subst h
  unfold cv cs wv
  go_enter Tryd.func75, Tryd.ntmps75
  go_wp2
  go_ret
  exact ⟨rfl, by go_grown⟩
set_option maxHeartbeats 400000 in
theorem fits_no (n m : Nat) (c o d p : Nat → Bool) (w : World) (h : ¬ (n = m ∧ 0 < n)) :
    Calls Tryd.prog 75 #[cv n c o, cv m d p] w fun e w' => e = .returned (.bool false) ∧ Below w.heap.size w w' := by
  unfold cv cs wv
  by_cases h1 : n = m
  · subst h1
    have h2 : n = 0 := by omega
    subst h2
    go_enter Tryd.func75, Tryd.ntmps75
    go_wp2
    go_ret
    exact ⟨rfl, by go_grown⟩
  · have h2 : ((n : Int) == (m : Int)) = false := by simp; omega
    clear h h1
    go_enter Tryd.func75, Tryd.ntmps75
    go_wp2
    go_ret
    exact ⟨rfl, by go_grown⟩
end Go.Proofs.YtlakglphjhoodaaDoor.Tn

namespace Go.Proofs.YtlakglphjhoodaaDoor.Tn
open Go.RowKit
attribute [local go_sem] cv cs wv or_wd and_wd xor_wd andNot_wd
theorem boxes3 {w w1 : World} {t : TypeId} {a b z : Array Value} (hb : Below (((w.alloc (.cells a t)).alloc (.cells b t)).alloc (.cells z t)).heap.size (((w.alloc (.cells a t)).alloc (.cells b t)).alloc (.cells z t)) w1) :
    Blk w1 w.heap.size t a ∧ Blk w1 (w.heap.size + 1) t b ∧ Blk w1 (w.heap.size + 1 + 1) t z ∧ Below w.heap.size w w1 := by
  refine ⟨(((Blk.new w t a).alloc _).alloc _).below hb (by simp; omega), ?_, ?_, Below.trans (by go_grown) (hb.mono (by simp; omega))⟩
  · have := ((Blk.new (w.alloc (.cells a t)) t b).alloc (.cells z t)).below hb (by simp)
    rw [World.size_alloc] at this
    exact this
  · have := (Blk.new ((w.alloc (.cells a t)).alloc (.cells b t)) t z).below hb (by simp)
    rw [World.size_alloc, World.size_alloc] at this
    exact this
def zs : Array Value := #[.int .i64 0, .int .u64 0, .int .u64 0, .int .u64 0, .int .u64 0, .int .u64 0, .int .u64 0, .int .u64 0, .int .u64 0]
theorem ne_off {b i j : Nat} (h : i ≠ j) : (⟨b, i, none⟩ : Addr) ≠ ⟨b, j, none⟩ := fun e => h (by have := congrArg Addr.off e; simpa using this)
def conf (c o d p : Nat → Bool) : Nat → Bool := band (band (bxor o p) c) d
set_option maxHeartbeats 1000000 in
theorem meet_yes (n : Nat) (c o d p : Nat → Bool) (w : World) (h0 : 0 < n) (hno : ∀ k, wd (conf c o d p) k = 0) :
    Calls Tryd.prog 70 #[cv n c o, cv n d p] w fun e w' => e = .returned (.tuple #[cv n (bor c d) (bor o p), .bool true]) ∧ Below w.heap.size w w' := by
  unfold cv cs wv
  unfold conf at hno
  have HN := Lib.hid hno
  clear hno
  go_enter Tryd.func70, Tryd.ntmps70
  go_wp2_with fail
  refine (fits_yes n n c o d p _ rfl h0).mono ?_
  rintro e w1 ⟨rfl, hb1⟩
  obtain ⟨h1, h2, h3, hbel⟩ := boxes3 hb1
  clear hb1
  go_wp2_with fail
  go_loopw [12] (fun i wr => ∃ k : Nat, k ≤ 4 ∧ i = .int .i64 k ∧ Blk wr w.heap.size 114 (cs n (upd k c (bor c d)) (upd k o (bor o p))) ∧ Blk wr (w.heap.size + 1) 114 (cs n d p) ∧ Blk wr (w.heap.size + 1 + 1) 114 zs ∧ Below w.heap.size w wr) (fun i _ => 4 - (intOf i).toNat)
  case atStart => exact ⟨0, by omega, rfl, by rw [upd_zero, upd_zero]; exact h1, h2, h3, hbel⟩
  case round =>
    clear h1 h2 h3 hbel
    obtain ⟨k, hk, rfl, h1, h2, h3, hbel⟩ := hrel
    by_cases hlt : k < 4
    · have c1 : wr.cell? ⟨w.heap.size, 1 + k, none⟩ = some (.int .u64 ((wd c k : Nat) : Int)) := by rw [h1.cell, cs_care _ _ _ _ hlt, wv, wd_upd_at]
      have c2 : wr.cell? ⟨w.heap.size, 5 + k, none⟩ = some (.int .u64 ((wd o k : Nat) : Int)) := by rw [h1.cell, cs_ones _ _ _ _ hlt, wv, wd_upd_at]
      have c3 : wr.cell? ⟨w.heap.size + 1, 1 + k, none⟩ = some (.int .u64 ((wd d k : Nat) : Int)) := by rw [h2.cell, cs_care _ _ _ _ hlt, wv]
      have c4 : wr.cell? ⟨w.heap.size + 1, 5 + k, none⟩ = some (.int .u64 ((wd p k : Nat) : Int)) := by rw [h2.cell, cs_ones _ _ _ _ hlt, wv]
      have f1 := h1.frozen
      have ha : (⟨w.heap.size, 1 + k, none⟩ : Addr) ≠ ⟨w.heap.size, 5 + k, none⟩ := ne_off (by omega)
      have c2' : (wr.setCell ⟨w.heap.size, 1 + k, none⟩ (.int .u64 ((wd (bor c d) k : Nat) : Int))).cell? ⟨w.heap.size, 5 + k, none⟩ = some (.int .u64 ((wd o k : Nat) : Int)) := by
        rw [World.cell?_setCell_other _ _ _ _ ha, c2]
      have c4' : (wr.setCell ⟨w.heap.size, 1 + k, none⟩ (.int .u64 ((wd (bor c d) k : Nat) : Int))).cell? ⟨w.heap.size + 1, 5 + k, none⟩ = some (.int .u64 ((wd p k : Nat) : Int)) := by
        rw [World.cell?_setCell_other _ _ _ _ (by simp), c4]
      clear ha
      have hz := HN.out k
      go_wp2
      go_region
      go_wp2
      go_region
      go_wp2
      go_region
      go_wp2
      go_roundw
      case rel =>
        have g1 := h1.set_ (1 + k) (wv (bor c d) k)
        rw [cs_next_care n k hlt] at g1
        have g2 := g1.set_ (5 + k) (wv (bor o p) k)
        rw [cs_next_ones n k hlt] at g2
        refine ⟨k + 1, by omega, by go_num, g2, ?_, ?_, ?_⟩
        · exact (h2.far (p := ⟨w.heap.size, 1 + k, none⟩) (by simp) _).far (p := ⟨w.heap.size, 5 + k, none⟩) (by simp) _
        · exact (h3.far (p := ⟨w.heap.size, 1 + k, none⟩) (by simp; omega) _).far (p := ⟨w.heap.size, 5 + k, none⟩) (by simp; omega) _
        · exact ((hbel.setCell (p := ⟨w.heap.size, 1 + k, none⟩) (by simp) _).setCell (p := ⟨w.heap.size, 5 + k, none⟩) (by simp) _).drew.drew.drew
      case measure => simp [intOf]; omega
    · obtain rfl : k = 4 := by omega
      rw [cs_upd4] at h1
      have c1 := h1.cell
      have c3 := h3.cell
      have f3 := h3.frozen
      unfold zs at c3
      go_wp2
      refine bodyPost_ret (v := .tuple #[.agg (cs n (bor c d) (bor o p)), .bool true]) (by simp [results, Tryd.results70, go_sem, c3]) rfl ⟨rfl, ?_⟩
      refine Below.trans hbel ?_
      go_grown
theorem conf_zero {f : Nat → Bool} (h : ∀ i, i < 256 → f i = false) : ∀ k, k < 4 → wd f k = 0 := fun k hk => wd_eq_zero.2 fun j hj => h _ (by omega)
set_option maxHeartbeats 1000000 in
theorem meet_conf (n : Nat) (c o d p : Nat → Bool) (w : World) (h0 : 0 < n) (i : Nat) (hi : i < 256) (hci : conf c o d p i = true) :
    Calls Tryd.prog 70 #[cv n c o, cv n d p] w fun e w' => e = .returned (.tuple #[cv 0 no no, .bool false]) ∧ Below w.heap.size w w' := by
  have hno : ¬ ∀ k, k < 4 → wd (conf c o d p) k = 0 := fun h => by
    have h1 := wd_eq_zero.1 (h (i / 64) (by omega)) (i % 64) (by omega)
    rw [show 64 * (i / 64) + i % 64 = i by omega, hci] at h1
    cases h1
  rw [cv_zero]
  unfold cv cs wv
  unfold conf at hno
  have HN := Lib.hid hno
  clear hno hci hi
  go_enter Tryd.func70, Tryd.ntmps70
  go_wp2_with fail
  refine (fits_yes n n c o d p _ rfl h0).mono ?_
  rintro e w1 ⟨rfl, hb1⟩
  obtain ⟨h1, h2, h3, hbel⟩ := boxes3 hb1
  clear hb1
  go_wp2_with fail
  go_loopw [12] (fun i wr => ∃ k : Nat, k ≤ 4 ∧ i = .int .i64 k ∧ (∀ j, j < k → wd (band (band (bxor o p) c) d) j = 0) ∧ Blk wr w.heap.size 114 (cs n (upd k c (bor c d)) (upd k o (bor o p))) ∧ Blk wr (w.heap.size + 1) 114 (cs n d p) ∧ Blk wr (w.heap.size + 1 + 1) 114 zs ∧ Below w.heap.size w wr) (fun i _ => 4 - (intOf i).toNat)
  case atStart => exact ⟨0, by omega, rfl, fun j hj => by omega, by rw [upd_zero, upd_zero]; exact h1, h2, h3, hbel⟩
  case round =>
    clear h1 h2 h3 hbel
    obtain ⟨k, hk, rfl, hall, h1, h2, h3, hbel⟩ := hrel
    have HL := Lib.hid hall
    clear hall
    by_cases hlt : k < 4
    · have c1 : wr.cell? ⟨w.heap.size, 1 + k, none⟩ = some (.int .u64 ((wd c k : Nat) : Int)) := by rw [h1.cell, cs_care _ _ _ _ hlt, wv, wd_upd_at]
      have c2 : wr.cell? ⟨w.heap.size, 5 + k, none⟩ = some (.int .u64 ((wd o k : Nat) : Int)) := by rw [h1.cell, cs_ones _ _ _ _ hlt, wv, wd_upd_at]
      have c3 : wr.cell? ⟨w.heap.size + 1, 1 + k, none⟩ = some (.int .u64 ((wd d k : Nat) : Int)) := by rw [h2.cell, cs_care _ _ _ _ hlt, wv]
      have c4 : wr.cell? ⟨w.heap.size + 1, 5 + k, none⟩ = some (.int .u64 ((wd p k : Nat) : Int)) := by rw [h2.cell, cs_ones _ _ _ _ hlt, wv]
      by_cases hz : wd (band (band (bxor o p) c) d) k = 0
      · have f1 := h1.frozen
        have ha : (⟨w.heap.size, 1 + k, none⟩ : Addr) ≠ ⟨w.heap.size, 5 + k, none⟩ := ne_off (by omega)
        have c2' : (wr.setCell ⟨w.heap.size, 1 + k, none⟩ (.int .u64 ((wd (bor c d) k : Nat) : Int))).cell? ⟨w.heap.size, 5 + k, none⟩ = some (.int .u64 ((wd o k : Nat) : Int)) := by
          rw [World.cell?_setCell_other _ _ _ _ ha, c2]
        have c4' : (wr.setCell ⟨w.heap.size, 1 + k, none⟩ (.int .u64 ((wd (bor c d) k : Nat) : Int))).cell? ⟨w.heap.size + 1, 5 + k, none⟩ = some (.int .u64 ((wd p k : Nat) : Int)) := by
          rw [World.cell?_setCell_other _ _ _ _ (by simp), c4]
        clear ha
        go_wp2
        go_region
        go_wp2
        go_region
        go_wp2
        go_region
        go_wp2
        go_roundw
        case rel =>
          have g1 := h1.set_ (1 + k) (wv (bor c d) k)
          rw [cs_next_care n k hlt] at g1
          have g2 := g1.set_ (5 + k) (wv (bor o p) k)
          rw [cs_next_ones n k hlt] at g2
          refine ⟨k + 1, by omega, by go_num, fun j hj => ?_, g2, ?_, ?_, ?_⟩
          · rcases Nat.lt_or_ge j k with hjk | hjk
            · exact HL.out j hjk
            · obtain rfl : j = k := by omega
              exact hz
          · exact (h2.far (p := ⟨w.heap.size, 1 + k, none⟩) (by simp) _).far (p := ⟨w.heap.size, 5 + k, none⟩) (by simp) _
          · exact (h3.far (p := ⟨w.heap.size, 1 + k, none⟩) (by simp; omega) _).far (p := ⟨w.heap.size, 5 + k, none⟩) (by simp; omega) _
          · exact ((hbel.setCell (p := ⟨w.heap.size, 1 + k, none⟩) (by simp) _).setCell (p := ⟨w.heap.size, 5 + k, none⟩) (by simp) _).drew.drew.drew
        case measure => simp [intOf]; omega
      · have hb : (((wd (band (band (bxor o p) c) d) k : Nat) : Int) != 0) = true := by simp; omega
        clear hz
        have c5 := h3.cell
        have f5 := h3.frozen
        unfold zs at c5
        go_wp2
        go_region
        go_wp2
        refine bodyPost_ret (v := .tuple #[.agg #[.int .i64 0, .int .u64 0, .int .u64 0, .int .u64 0, .int .u64 0, .int .u64 0, .int .u64 0, .int .u64 0, .int .u64 0], .bool false]) (by simp [results, Tryd.results70, go_sem, c5]) rfl ⟨rfl, ?_⟩
        refine Below.trans hbel ?_
        go_grown
    · exact absurd (fun j hj => HL.out j (by omega)) HN.out
theorem meet_unfit (n m : Nat) (c o d p : Nat → Bool) (w : World) (h : ¬ (n = m ∧ 0 < n)) :
    Calls Tryd.prog 70 #[cv n c o, cv m d p] w fun e w' => e = .returned (.tuple #[cv 0 no no, .bool false]) ∧ Below w.heap.size w w' := by
  rw [cv_zero]
  unfold cv cs wv
  go_enter Tryd.func70, Tryd.ntmps70
  go_wp2_with fail
  refine (fits_no n m c o d p _ h).mono ?_
  rintro e w1 ⟨rfl, hb1⟩
  obtain ⟨h1, h2, h3, hbel⟩ := boxes3 hb1
  clear hb1
  have c3 := h3.cell
  have f3 := h3.frozen
  go_wp2_with fail
  refine bodyPost_ret (v := .tuple #[.agg #[.int .i64 0, .int .u64 0, .int .u64 0, .int .u64 0, .int .u64 0, .int .u64 0, .int .u64 0, .int .u64 0, .int .u64 0], .bool false]) (by simp [results, Tryd.results70, go_sem, c3]) rfl ⟨rfl, ?_⟩
  refine Below.trans hbel ?_
  go_grown
end Go.Proofs.YtlakglphjhoodaaDoor.Tn

namespace Go.Proofs.YtlakglphjhoodaaDoor.Tn
open Go.RowKit
theorem Cub.eq_iff {t t' : List UInt8} {n n' : Nat} {c c' o o' : Nat → Bool} (h : Cub t n c o) (h' : Cub t' n' c' o') : (n = n' ∧ (∀ i, i < 256 → c i = c' i) ∧ ∀ i, i < 256 → o i = o' i) ↔ t = t' := by
  constructor
  · rintro ⟨h1, h2, h3⟩
    apply List.ext_getElem?
    intro i
    by_cases hi : i < n
    · have h256 : i < 256 := by have := h.hn; have := h.le; omega
      rw [h.byte i hi, h'.byte i (by omega), h2 i h256, h3 i h256]
    · rw [List.getElem?_eq_none (by have := h.hn; omega), List.getElem?_eq_none (by have := h'.hn; omega)]
  · intro e
    subst e
    obtain ⟨rfl, rfl, rfl⟩ := h.same h'
    exact ⟨rfl, fun _ _ => rfl, fun _ _ => rfl⟩
def l10x : List UInt8 := [49, 48, 120]
theorem parses_end (s : ByteArray) : (decide (cubeT s.data.toList = cubeT l10x) == (s.toList == l10x)) = true := by
  have e : cubeT l10x = l10x := by decide
  rw [e, ByteArray.toList_eq, beq_iff_eq, Bool.eq_iff_iff, decide_eq_true_eq, beq_iff_eq]
  constructor
  · intro h
    unfold cubeT at h
    split at h
    · exact h
    · simp [l10x] at h
  · intro h; rw [h, e]
end Go.Proofs.YtlakglphjhoodaaDoor.Tn

namespace Go.Proofs.YtlakglphjhoodaaDoor.Tn
open Go.RowKit
attribute [local go_sem] cv cs wv or_wd and_wd xor_wd andNot_wd

def fitT (t u : List UInt8) : Prop := t ≠ [] ∧ t.length = u.length
instance (t u : List UInt8) : Decidable (fitT t u) := by unfold fitT; infer_instance
def clash (x y : UInt8) : Prop := x ≠ 120 ∧ y ≠ 120 ∧ x ≠ y
instance (x y : UInt8) : Decidable (clash x y) := by unfold clash; infer_instance
def meetOk (t u : List UInt8) : Prop := fitT t u ∧ ∀ i, i < t.length → ¬ clash (byt t i) (byt u i)
instance (t u : List UInt8) : Decidable (meetOk t u) := by unfold meetOk; infer_instance
def meetF (t u : List UInt8) (i : Nat) : UInt8 := if byt t i = 120 then byt u i else byt t i
def meetT (t u : List UInt8) : List UInt8 := if meetOk t u then up (meetF t u) t.length else []
def writeF (t u : List UInt8) (i : Nat) : UInt8 := if byt u i = 120 then byt t i else byt u i
def writeT (t u : List UInt8) : List UInt8 := if fitT t u then up (writeF t u) t.length else []
def beforeF (t u : List UInt8) (i : Nat) : UInt8 := if byt u i = 120 then byt t i else 120
def beforeT (t u : List UInt8) : List UInt8 := if meetOk t u then up (beforeF t u) t.length else []
def withinOk (t u : List UInt8) : Prop := fitT t u ∧ ∀ i, i < t.length → byt u i = 120 ∨ byt t i = byt u i
instance (t u : List UInt8) : Decidable (withinOk t u) := by unfold withinOk; infer_instance

section
variable {t u : List UInt8} {n m : Nat} {c o d p : Nat → Bool}
theorem fit_iff (h : Cub t n c o) (h' : Cub u m d p) : fitT t u ↔ (n = m ∧ 0 < n) := by
  have e1 := h.hn
  have e2 := h'.hn
  unfold fitT
  constructor
  · rintro ⟨h0, h1⟩
    refine ⟨by omega, ?_⟩
    cases t with
    | nil => exact absurd rfl h0
    | cons b l => simp at e1; omega
  · rintro ⟨h0, h1⟩
    refine ⟨?_, by omega⟩
    rintro rfl
    simp at e1; omega
theorem clash_dig (c o d p : Bool) (h : o = true → c = true) (h' : p = true → d = true) : clash (dig c o) (dig d p) ↔ (((o ^^ p) && c) && d) = true := by
  cases c <;> cases o <;> cases d <;> cases p <;> simp_all [clash, dig]
theorem clash_conf (h : Cub t n c o) (h' : Cub u n d p) (i : Nat) (hi : i < n) : clash (byt t i) (byt u i) ↔ conf c o d p i = true := by
  rw [h.at_ i hi, h'.at_ i hi, clash_dig _ _ _ _ (h.nrm.sub i) (h'.nrm.sub i)]
  rfl
theorem noconf_iff (h : Cub t n c o) (h' : Cub u n d p) : (∀ i, i < t.length → ¬ clash (byt t i) (byt u i)) ↔ ∀ i, i < 256 → conf c o d p i = false := by
  have e := h.hn
  constructor
  · intro H i hi
    by_cases hn : i < n
    · have := H i (by omega)
      rw [clash_conf h h' i hn] at this
      simpa using this
    · have h1 := h.nrm.hi i (by omega)
      simp [conf, band, h1]
  · intro H i hi
    rw [clash_conf h h' i (by omega), H i (by have := h.le; omega)]
    simp
theorem Nrm.bor (h : Nrm n c o) (h' : Nrm n d p) : Nrm n (bor c d) (bor o p) := by
  refine ⟨h.le, fun i hi => by simp [Tn.bor, h.hi i hi, h'.hi i hi], fun i hi => ?_⟩
  simp only [Tn.bor, Bool.or_eq_true] at hi ⊢
  exact hi.imp (h.sub i) (h'.sub i)
theorem meet_cub (h : Cub t n c o) (h' : Cub u n d p) (hno : ∀ i, i < 256 → conf c o d p i = false) (hok : meetOk t u) : Cub (meetT t u) n (bor c d) (bor o p) := by
  unfold meetT
  rw [if_pos hok, ← h.hn]
  refine (h.nrm.bor h'.nrm).of_places fun i hi => ?_
  have hc := hno i (by have := h.nrm.le; omega)
  have s1 := h.nrm.sub i
  have s2 := h'.nrm.sub i
  unfold meetF
  rw [h.at_ i hi, h'.at_ i hi]
  simp only [conf, band, bxor, Tn.bor] at hc ⊢
  generalize c i = a at *; generalize o i = b at *; generalize d i = e at *; generalize p i = f at *
  cases a <;> cases b <;> cases e <;> cases f <;> simp_all [dig]
theorem write_cub (h : Cub t n c o) (h' : Cub u n d p) (hok : fitT t u) : Cub (writeT t u) n (bor c d) (bor (bnot o d) p) := by
  unfold writeT
  rw [if_pos hok, ← h.hn]
  have hN : Nrm n (bor c d) (bor (bnot o d) p) := by
    refine ⟨h.nrm.le, fun i hi => by simp [bor, h.nrm.hi i hi, h'.nrm.hi i hi], fun i hi => ?_⟩
    have s1 := h.nrm.sub i
    have s2 := h'.nrm.sub i
    simp only [bor, bnot] at hi ⊢
    generalize c i = a at *; generalize o i = b at *; generalize d i = e at *; generalize p i = f at *
    cases a <;> cases b <;> cases e <;> cases f <;> simp_all
  refine hN.of_places fun i hi => ?_
  have s1 := h.nrm.sub i
  have s2 := h'.nrm.sub i
  unfold writeF
  rw [h.at_ i hi, h'.at_ i hi]
  simp only [bnot, Tn.bor]
  generalize c i = a at *; generalize o i = b at *; generalize d i = e at *; generalize p i = f at *
  cases a <;> cases b <;> cases e <;> cases f <;> simp_all [dig]
theorem before_cub (h : Cub t n c o) (h' : Cub u n d p) (hno : ∀ i, i < 256 → conf c o d p i = false) (hok : meetOk t u) : Cub (beforeT t u) n (bnot c d) (bnot o d) := by
  unfold beforeT
  rw [if_pos hok, ← h.hn]
  have hN : Nrm n (bnot c d) (bnot o d) := by
    refine ⟨h.nrm.le, fun i hi => by simp [bnot, h.nrm.hi i hi], fun i hi => ?_⟩
    have s1 := h.nrm.sub i
    simp only [bnot, Bool.and_eq_true] at hi ⊢
    exact ⟨s1 hi.1, hi.2⟩
  refine hN.of_places fun i hi => ?_
  have hc := hno i (by have := h.nrm.le; omega)
  have s1 := h.nrm.sub i
  have s2 := h'.nrm.sub i
  unfold beforeF
  rw [h.at_ i hi, h'.at_ i hi]
  simp only [conf, band, bxor, bnot] at hc ⊢
  generalize c i = a at *; generalize o i = b at *; generalize d i = e at *; generalize p i = f at *
  cases a <;> cases b <;> cases e <;> cases f <;> simp_all [dig]
theorem within_cub (hok : meetOk t u) : meetT t u = t ↔ withinOk t u := by
  unfold meetT
  rw [if_pos hok]
  unfold withinOk
  constructor
  · intro H
    refine ⟨hok.1, fun i hi => ?_⟩
    have h1 : byt (up (meetF t u) t.length) i = byt t i := by rw [H]
    rw [byt_up _ _ _ hi] at h1
    unfold meetF at h1
    by_cases ht : byt t i = 120
    · rw [if_pos ht] at h1
      exact .inr h1.symm
    · by_cases hu : byt u i = 120
      · exact .inl hu
      · by_cases he : byt t i = byt u i
        · exact .inr he
        · exact absurd ⟨ht, hu, he⟩ (hok.2 i hi)
  · rintro ⟨_, H⟩
    rw [← up_byt t]
    simp only [up_length]
    refine up_congr fun i hi => ?_
    rw [up_byt]
    unfold meetF
    split
    · rename_i ht
      rcases H i hi with h1 | h1
      · rw [h1, ht]
      · exact h1.symm
    · rfl
end
theorem within_meet {t u : List UInt8} (h : withinOk t u) : meetOk t u := by
  refine ⟨h.1, fun i hi hc => ?_⟩
  rcases h.2 i hi with h1 | h1
  · exact hc.2.1 h1
  · exact hc.2.2 h1

theorem meet_any {t u : List UInt8} {n m : Nat} {c o d p : Nat → Bool} (h : Cub t n c o) (h' : Cub u m d p) (w : World) :
    Calls Tryd.prog 70 #[cv n c o, cv m d p] w fun e w' => ∃ n' c' o', Cub (meetT t u) n' c' o' ∧ e = .returned (.tuple #[cv n' c' o', .bool (decide (meetOk t u))]) ∧ Below w.heap.size w w' := by
  by_cases hf : fitT t u
  · obtain ⟨rfl, h0⟩ := (fit_iff h h').1 hf
    by_cases hc : ∀ i, i < 256 → conf c o d p i = false
    · have hok : meetOk t u := ⟨hf, (noconf_iff h h').2 hc⟩
      have hz : ∀ k, wd (conf c o d p) k = 0 := fun k => wd_eq_zero.2 fun j hj => by
        by_cases h256 : 64 * k + j < 256
        · exact hc _ h256
        · have := h.nrm.hi (64 * k + j) (by have := h.nrm.le; omega)
          simp [conf, band, this]
      rw [decide_eq_true hok]
      exact (meet_yes n c o d p w h0 hz).mono fun e w' ⟨he, hb⟩ => ⟨_, _, _, meet_cub h h' hc hok, he, hb⟩
    · have hok : ¬ meetOk t u := fun H => hc ((noconf_iff h h').1 H.2)
      have e1 : meetT t u = [] := by unfold meetT; rw [if_neg hok]
      rw [e1, decide_eq_false hok]
      have ⟨i, hi, hci⟩ : ∃ i, i < 256 ∧ conf c o d p i = true := by
        simp only [Classical.not_forall] at hc
        obtain ⟨i, hi, hci⟩ := hc
        exact ⟨i, hi, by simpa using hci⟩
      exact (meet_conf n c o d p w h0 i hi hci).mono fun e w' ⟨he, hb⟩ => ⟨_, _, _, nilCub, he, hb⟩
  · have h1 : ¬ (n = m ∧ 0 < n) := fun e => hf ((fit_iff h h').2 e)
    have hok : ¬ meetOk t u := fun H => hf H.1
    have e1 : meetT t u = [] := by unfold meetT; rw [if_neg hok]
    rw [e1, decide_eq_false hok]
    exact (meet_unfit n m c o d p w h1).mono fun e w' ⟨he, hb⟩ => ⟨_, _, _, nilCub, he, hb⟩
end Go.Proofs.YtlakglphjhoodaaDoor.Tn

namespace Go.Proofs.YtlakglphjhoodaaDoor.Tn
open Go.RowKit

theorem app_byte {B : Nat} {v : Value} {n : Nat} {l : List UInt8} {w : World} (b : UInt8) {ops : Array Oper} {rest : List Oper} {o : Oper} {a : Act} {Q : Exit → Act → World → Prop} {s x : Operand}
    (hown : w.ownsRow B 5 1 v n (l.map bv)) (hgd : o.guard = none) (ho : o.op = .call { callee := .builtin .append, args := #[s, x], argTypes := #[77, 77] })
    (hs : a.eval s = v) (hx : a.eval x = .slice (some ⟨w.heap.size, 0, none⟩) 1 1) (hn : n ≤ 1000000) (hB : B ≤ w.heap.size)
    (h : ∀ v' w', w'.ownsRow B 5 1 v' (n + 1) ((l ++ [b]).map bv) → Below B w w' → wpList Tryd.prog ops Q rest (a.put o.dst v') w') : wpList Tryd.prog ops Q (o :: rest) a (w.alloc (.cells #[bv b] 5)) := by
  obtain ⟨i0, hi, hz0, hz1, hz2⟩ := info_parts info_byte
  refine wpList_append_own _ hgd s x 77 ho B 5 i0 (.int .u8 0) 1 1 Tryd.underlying77 hi hz0 hz1 hz2 rfl (by decide) v n _ hs (hown.alloc _) ⟨w.heap.size, 0, none⟩ 1 1 [bv b] hx rfl (cell_one_new _ _ _)
    (by simp [bv, Value.oneCell']) (by simp only [maxLen]; omega) (by omega) (by simp; omega) ?_
  intro v' w1 hown' hg _
  refine h v' w1 (by rw [List.map_append]; exact hown') ?_
  have h1 : Below B w (w.alloc (.cells #[bv b] 5)) := (Below.refl _ _).alloc hB _
  exact h1.grown hg (by simp; omega) (fun k hk => (hown.lt k hk).1)
theorem str_own {w : World} {B : Nat} {v : Value} {n : Nat} {l : List UInt8} (h : w.ownsRow B 5 1 v n (l.map bv)) : (convert 77 9 v).run Tryd.prog w = .ok (.string (str l)) w :=
  run_string_own Tryd.underlying77 Tryd.underlying5 Tryd.underlying9 h
theorem own_nil (w : World) (B : Nat) : w.ownsRow B 5 1 (.slice none 0 0) 0 (([] : List UInt8).map bv) := World.ownsRow_nil w B 5 1

theorem ieq_ne {b c : UInt8} (h : ¬ b = c) : ((b.toNat : Int) == (c.toNat : Int)) = false := by
  rw [beq_eq_false_iff_ne]
  intro e
  exact h (UInt8.toNat_inj.1 (by omega))

end Go.Proofs.YtlakglphjhoodaaDoor.Tn

namespace Go.Proofs.YtlakglphjhoodaaDoor.Tn
open Go.RowKit
attribute [local go_sem] cv cs wv
def allT (b : Int) : List UInt8 := if 1 ≤ b ∧ b ≤ 256 then List.replicate b.toNat 120 else []
theorem all_cub (b : Nat) (h1 : 1 ≤ b) (h2 : b ≤ 256) : Cub (allT b) b no no := by
  have e : allT b = txt b no no := by
    unfold allT
    rw [if_pos (by omega)]
    apply List.ext_getElem?
    intro i
    by_cases hi : i < b
    · rw [txt, up_get _ _ _ hi]; simp [hi, dig, no]
    · rw [List.getElem?_eq_none (by simp; omega), List.getElem?_eq_none (by simp [txt]; omega)]
  rw [e]
  exact Nrm.cub ⟨h2, fun _ _ => rfl, fun i h => by cases h⟩
theorem all_any (b : Int) (w : World) :
    Calls Tryd.prog 60 #[.int .i64 b] w fun e w' => ∃ n c o, Cub (allT b) n c o ∧ e = .returned (cv n c o) ∧ Below w.heap.size w w' := by
  by_cases h : 1 ≤ b ∧ b ≤ 256
  · obtain ⟨h1, h2⟩ := h
    obtain ⟨n, rfl⟩ := Int.eq_ofNat_of_zero_le (show 0 ≤ b by omega)
    refine Calls.mono (R := fun e w' => e = .returned (cv n no no) ∧ Below w.heap.size w w') ?_ fun e w' ⟨he, hb⟩ => ⟨n, no, no, all_cub n (by omega) (by omega), he, hb⟩
    unfold cv
    rw [cs_no]
    go_enter Tryd.func60, Tryd.ntmps60
    go_wp2
    refine bodyPost_ret (v := .agg #[.int .i64 n, .int .u64 0, .int .u64 0, .int .u64 0, .int .u64 0, .int .u64 0, .int .u64 0, .int .u64 0, .int .u64 0]) (by simp [results, Tryd.results60, go_sem]) rfl ⟨rfl, ?_⟩
    go_grown
  · have e1 : allT b = [] := by unfold allT; rw [if_neg h]
    rw [e1]
    refine Calls.mono (R := fun e w' => e = .returned (cv 0 no no) ∧ Below w.heap.size w w') ?_ fun e w' ⟨he, hb⟩ => ⟨0, no, no, nilCub, he, hb⟩
    rw [cv_zero]
    by_cases h1 : 1 ≤ b
    · have h2 : 256 < b := by omega
      clear h e1
      go_enter Tryd.func60, Tryd.ntmps60
      go_wp2
      refine bodyPost_ret (v := .agg #[.int .i64 0, .int .u64 0, .int .u64 0, .int .u64 0, .int .u64 0, .int .u64 0, .int .u64 0, .int .u64 0, .int .u64 0]) (by simp [results, Tryd.results60, go_sem]) rfl ⟨rfl, ?_⟩
      go_grown
    · clear h e1
      have h2 : b < 1 := by omega
      go_enter Tryd.func60, Tryd.ntmps60
      go_wp2
      refine bodyPost_ret (v := .agg #[.int .i64 0, .int .u64 0, .int .u64 0, .int .u64 0, .int .u64 0, .int .u64 0, .int .u64 0, .int .u64 0, .int .u64 0]) (by simp [results, Tryd.results60, go_sem]) rfl ⟨rfl, ?_⟩
      go_grown
def good (t h : List UInt8) (j : Nat) : Prop := (byt h j = 48 ∨ byt h j = 49) ∧ (byt t j = 120 ∨ byt t j = byt h j)
instance (t h : List UInt8) (j : Nat) : Decidable (good t h j) := by unfold good; infer_instance
def hasOk (t h : List UInt8) : Prop := (t ≠ [] ∧ t.length = h.length) ∧ ∀ j, j < t.length → good t h j
instance (t h : List UInt8) : Decidable (hasOk t h) := by unfold hasOk; infer_instance
theorem dig_cases (c o : Bool) (x : UInt8) (hx : x = 48 ∨ x = 49) (hs : o = true → c = true) : (dig c o = 120 ∨ dig c o = x) ↔ (c && (o != (x == 49))) = false := by
  cases c <;> cases o <;> rcases hx with rfl | rfl <;> simp_all [dig]
end Go.Proofs.YtlakglphjhoodaaDoor.Tn

namespace Go.Proofs.YtlakglphjhoodaaDoor.Tn
open Go.RowKit
theorem own_drewN {w : World} {base : Nat} {e : TypeId} {size : Nat} {v : Value} {n : Nat} {xs : List Value} (h : w.ownsRow base e size v n xs) (k : Nat) : (w.drewN k).ownsRow base e size v n xs := h
theorem be_no {b c : UInt8} (h : b = c) : ((b.toNat : Int) != (c.toNat : Int)) = false := by subst h; simp
end Go.Proofs.YtlakglphjhoodaaDoor.Tn

namespace Go.Proofs.YtlakglphjhoodaaDoor.Tn
open Go.RowKit
attribute [local go_sem] cv cs wv or_wd and_wd xor_wd andNot_wd
theorem decide_not_eq_false {p : Prop} [Decidable p] (h : p) : (!decide p) = false := by simp [h]
theorem decide_not_eq_true {p : Prop} [Decidable p] (h : ¬ p) : (!decide p) = true := by simp [h]
end Go.Proofs.YtlakglphjhoodaaDoor.Tn

namespace Go.Proofs.YtlakglphjhoodaaDoor.Tn
open Go.RowKit
theorem be_yes {b c : UInt8} (h : b = c) : ((b.toNat : Int) == (c.toNat : Int)) = true := by subst h; simp
theorem be_not {b c : UInt8} (h : ¬ b = c) : ((b.toNat : Int) == (c.toNat : Int)) = false := not_byte h
end Go.Proofs.YtlakglphjhoodaaDoor.Tn

namespace Go.Proofs.YtlakglphjhoodaaDoor.Tn
open Go.RowKit
theorem wf_small (b : Nat) (h : b < 1000) : (Lit.int .i64 (b : Int)).wf = true := WalkArith.wf_i64 (by omega)
theorem cubeT_size (l : List UInt8) : (str (cubeT l)).size ≤ 256 := by rw [str_size]; exact (cubeT_ok l).1
theorem bnx {w a b : World} (h : Below w.heap.size w a) (k : Below a.heap.size a b) : Below w.heap.size w b := h.trans (k.mono h.size)
theorem bal {w a : World} (h : Below w.heap.size w a) (o : Obj) : Below w.heap.size w (a.alloc o) := h.alloc h.size o
end Go.Proofs.YtlakglphjhoodaaDoor.Tn

namespace Go.Proofs.YtlakglphjhoodaaDoor.Tn
open Go.RowKit
def ccells (t : List UInt8) : List Value := (cs t.length (careF t) (onesF t)).toList
def crow (L : List (List UInt8)) : List Value := L.flatMap ccells
def srow (L : List (List UInt8)) : List Value := L.map fun t => .string (str t)
theorem ccells_len (t : List UInt8) : (ccells t).length = 9 := rfl
theorem Cub.cells {t : List UInt8} {n : Nat} {c o : Nat → Bool} (h : Cub t n c o) : (cs n c o).toList = ccells t := by rw [h.hn, h.hc, h.ho]; rfl
theorem crow_len (L : List (List UInt8)) : (crow L).length = L.length * 9 := by
  induction L with
  | nil => rfl
  | cons t L ih => simp only [crow, List.flatMap_cons, List.length_append, List.length_cons] at ih ⊢; rw [ih, ccells_len]; omega
theorem crow_snoc (L : List (List UInt8)) (t : List UInt8) : crow (L ++ [t]) = crow L ++ ccells t := by simp [crow]
theorem crow_at (L : List (List UInt8)) : ∀ (i : Nat) (h : i < L.length) (j : Nat), j < 9 → (crow L)[i * 9 + j]? = (ccells L[i])[j]? := by
  induction L with
  | nil => intro i h; simp at h
  | cons t L ih =>
    intro i h j hj
    cases i with
    | zero =>
      simp only [crow, List.flatMap_cons, Nat.zero_mul, Nat.zero_add, List.getElem_cons_zero]
      rw [List.getElem?_append_left (by rw [ccells_len]; exact hj)]
    | succ i =>
      simp only [crow, List.flatMap_cons, List.getElem_cons_succ]
      rw [List.getElem?_append_right (by rw [ccells_len]; omega), ccells_len, show (i + 1) * 9 + j - 9 = i * 9 + j by omega]
      exact ih i (by simpa using h) j hj
theorem info_cube : (Tryd.prog.info? 114).map (fun i => (i.zero, i.size, i.bytes)) = some (some (.agg #[.int .i64 0, .int .u64 0, .int .u64 0, .int .u64 0, .int .u64 0, .int .u64 0, .int .u64 0, .int .u64 0, .int .u64 0]), 9, 72) := by kernel_rfl
theorem info_str : (Tryd.prog.info? 9).map (fun i => (i.zero, i.size, i.bytes)) = some (some (.string ⟨#[]⟩), 1, 16) := by kernel_rfl
theorem cells_new (w : World) (xs : Array Value) (t : TypeId) : ∀ j u, xs.toList[j]? = some u → (w.alloc (.cells xs t)).cell? ((⟨w.heap.size, 0, none⟩ : Addr).add j) = some u := by
  intro j u h
  have hadd : (⟨w.heap.size, 0, none⟩ : Addr).add j = ⟨w.heap.size, j, none⟩ := by unfold Addr.add; split <;> simp_all
  rw [hadd, World.cell?_alloc_new, ← Array.getElem?_toList, h]
theorem cs_one (n : Nat) (c o : Nat → Bool) : ∀ u ∈ (cs n c o).toList, u.oneCell' = true := by
  simp [cs, wv, Value.oneCell']
theorem app_cube {B : Nat} {v : Value} {m : Nat} {L : List (List UInt8)} {w : World} {t : List UInt8} {n : Nat} {c o : Nat → Bool} (hC : Cub t n c o) {ops : Array Oper} {rest : List Oper} {op : Oper} {a : Act} {Q : Exit → Act → World → Prop} {s x : Operand}
    (hown : w.ownsRow B 114 9 v m (crow L)) (hgd : op.guard = none) (ho : op.op = .call { callee := .builtin .append, args := #[s, x], argTypes := #[117, 117] })
    (hs : a.eval s = v) (hx : a.eval x = .slice (some ⟨w.heap.size, 0, none⟩) 1 1) (hn : m ≤ 1900000000000) (hB : B ≤ w.heap.size)
    (h : ∀ v' w', w'.ownsRow B 114 9 v' (m + 1) (crow (L ++ [t])) → Below B w w' → (∀ g t' cs', some g ≠ v.ownBlock → Blk w g t' cs' → Blk w' g t' cs') → wpList Tryd.prog ops Q rest (a.put op.dst v') w') : wpList Tryd.prog ops Q (op :: rest) a (w.alloc (.cells (cs n c o) 114)) := by
  obtain ⟨i0, hi, hz0, hz1, hz2⟩ := info_parts info_cube
  refine wpList_append_own _ hgd s x 117 ho B 114 i0 _ 9 72 Tryd.underlying117 hi hz0 hz1 hz2 rfl (by decide) v m _ hs (hown.alloc _) ⟨w.heap.size, 0, none⟩ 1 1 (cs n c o).toList hx rfl (cells_new _ _ _)
    (cs_one n c o) (by simp only [maxLen]; omega) (by omega) (by simp; omega) ?_
  intro v' w1 hown' hg _
  refine h v' w1 (by rw [crow_snoc, ← hC.cells]; exact hown') ?_ (fun g t' cs' hne hb => (hb.alloc _).grown hg hne)
  have h1 : Below B w (w.alloc (.cells (cs n c o) 114)) := (Below.refl _ _).alloc hB _
  exact h1.grown hg (by simp; omega) (fun k hk => (hown.lt k hk).1)
theorem app_str {B : Nat} {v : Value} {m : Nat} {L : List (List UInt8)} {w : World} (t : List UInt8) {ops : Array Oper} {rest : List Oper} {op : Oper} {a : Act} {Q : Exit → Act → World → Prop} {s x : Operand}
    (hown : w.ownsRow B 9 1 v m (srow L)) (hgd : op.guard = none) (ho : op.op = .call { callee := .builtin .append, args := #[s, x], argTypes := #[31, 31] })
    (hs : a.eval s = v) (hx : a.eval x = .slice (some ⟨w.heap.size, 0, none⟩) 1 1) (hn : m ≤ 8700000000000) (hB : B ≤ w.heap.size)
    (h : ∀ v' w', w'.ownsRow B 9 1 v' (m + 1) (srow (L ++ [t])) → Below B w w' → (∀ g t' cs', some g ≠ v.ownBlock → Blk w g t' cs' → Blk w' g t' cs') → wpList Tryd.prog ops Q rest (a.put op.dst v') w') : wpList Tryd.prog ops Q (op :: rest) a (w.alloc (.cells #[.string (str t)] 9)) := by
  obtain ⟨i0, hi, hz0, hz1, hz2⟩ := info_parts info_str
  refine wpList_append_own _ hgd s x 31 ho B 9 i0 _ 1 16 Tryd.underlying31 hi hz0 hz1 hz2 rfl (by decide) v m _ hs (hown.alloc _) ⟨w.heap.size, 0, none⟩ 1 1 [.string (str t)] hx rfl (cell_one_new _ _ _)
    (by simp [Value.oneCell']) (by simp only [maxLen]; omega) (by omega) (by simp; omega) ?_
  intro v' w1 hown' hg _
  refine h v' w1 (by rw [srow, List.map_append]; exact hown') ?_ (fun g t' cs' hne hb => (hb.alloc _).grown hg hne)
  have h1 : Below B w (w.alloc (.cells #[.string (str t)] 9)) := (Below.refl _ _).alloc hB _
  exact h1.grown hg (by simp; omega) (fun k hk => (hown.lt k hk).1)

def otherB (b : UInt8) : UInt8 := if b = 48 then 49 else 48
def partF (t u : List UInt8) (i k : Nat) : UInt8 := if k = i then otherB (byt u k) else if k < i ∧ byt t k = 120 then byt u k else byt t k
def partT (t u : List UInt8) (i : Nat) : List UInt8 := up (partF t u i) t.length
def splits (t u : List UInt8) (i : Nat) : Bool := byt t i == 120 && byt u i != 120
def partsT (t u : List UInt8) (i : Nat) : List (List UInt8) := ((List.range i).filter (splits t u)).map (partT t u)
theorem partsT_yes {t u : List UInt8} {i : Nat} (h : splits t u i = true) : partsT t u (i + 1) = partsT t u i ++ [partT t u i] := by
  simp [partsT, List.range_succ, List.filter_append, h]
theorem partsT_no {t u : List UInt8} {i : Nat} (h : splits t u i = false) : partsT t u (i + 1) = partsT t u i := by
  simp [partsT, List.range_succ, List.filter_append, h]
theorem partsT_le (t u : List UInt8) (i : Nat) : (partsT t u i).length ≤ i := by
  have := List.length_filter_le (splits t u) (List.range i)
  simpa [partsT] using this
def splitT (t u : List UInt8) : List (List UInt8) := if meetOk t u then partsT t u t.length else [t]

def pre (i : Nat) (f g : Nat → Bool) : Nat → Bool := fun j => if j < i then g j else f j
theorem pre_zero (f g : Nat → Bool) : pre 0 f g = f := by funext j; simp [pre]
theorem pre_stay {i : Nat} {f g : Nat → Bool} (h : g i = f i) : pre (i + 1) f g = pre i f g := by
  funext j
  by_cases e : j = i
  · subst e; simp [pre, h]
  · by_cases h1 : j < i
    · have h2 : j < i + 1 := by omega
      simp [pre, h1, h2]
    · have h2 : ¬ j < i + 1 := by omega
      simp [pre, h1, h2]
theorem pre_put {i : Nat} {f g : Nat → Bool} (h : g i = true) : put (pre i f g) i = pre (i + 1) f g := by
  funext j
  by_cases e : j = i
  · subst e; simp [pre, put, h]
  · by_cases h1 : j < i
    · have h2 : j < i + 1 := by omega
      simp [pre, put, h1, h2, e]
    · have h2 : ¬ j < i + 1 := by omega
      simp [pre, put, h1, h2, e]
section
variable {t u : List UInt8} {n : Nat} {c o d p : Nat → Bool}
theorem splits_iff (h : Cub t n c o) (h' : Cub u n d p) (i : Nat) (hi : i < n) : splits t u i = (!c i && d i) := by
  unfold splits
  rw [h.at_ i hi, h'.at_ i hi]
  cases c i <;> cases o i <;> cases d i <;> cases p i <;> rfl
theorem noconf_at (hno : ∀ i, i < 256 → conf c o d p i = false) (h : Cub t n c o) (i : Nat) : c i = true → d i = true → p i = true → o i = true := by
  intro hc hd hp
  have hi : i < 256 := by
    rcases Nat.lt_or_ge i 256 with h1 | h1
    · exact h1
    · have := h.nrm.hi i (by have := h.nrm.le; omega); rw [hc] at this; cases this
  have := hno i hi
  simp only [conf, band, bxor, hc, hd, hp] at this
  simpa using this
theorem part_cub (h : Cub t n c o) (h' : Cub u n d p) (hno : ∀ i, i < 256 → conf c o d p i = false) {i : Nat} (hi : i < n) (hc : c i = false) (hd : d i = true) {o'' : Nat → Bool}
    (ho : ∀ k, o'' k = if k = i then !p i else pre i o (bor o p) k) : Cub (partT t u i) n (pre (i + 1) c (bor c d)) o'' := by
  unfold partT
  rw [← h.hn]
  have oi : o i = false := by
    cases hoi : o i with
    | false => rfl
    | true => rw [h.nrm.sub i hoi] at hc; cases hc
  have hN : Nrm n (pre (i + 1) c (bor c d)) o'' := by
    refine ⟨h.nrm.le, fun k hk => ?_, fun k hk => ?_⟩
    · have h1 : ¬ k < i + 1 := by omega
      simp [pre, h1, h.nrm.hi k hk]
    · rw [ho k] at hk
      by_cases e : k = i
      · subst e
        simp [pre, bor, hd]
      · rw [if_neg e] at hk
        by_cases h1 : k < i
        · have h2 : k < i + 1 := by omega
          simp only [pre, h1, h2, if_true, bor, Bool.or_eq_true] at hk ⊢
          exact hk.imp (h.nrm.sub k) (h'.nrm.sub k)
        · have h2 : ¬ k < i + 1 := by omega
          simp only [pre, h1, h2, if_false] at hk ⊢
          exact h.nrm.sub k hk
  refine hN.of_places fun k hk => ?_
  unfold partF
  rw [h.at_ k hk, h'.at_ k hk, ho k]
  by_cases e : k = i
  · subst e
    have h2 : k < k + 1 := by omega
    simp only [if_true, pre, h2, bor, hd, Bool.or_true]
    cases p k <;> rfl
  · rw [if_neg e, if_neg e]
    have s1 := h.nrm.sub k
    have s2 := h'.nrm.sub k
    have s3 := noconf_at hno h k
    by_cases h1 : k < i
    · have h2 : k < i + 1 := by omega
      simp only [pre, h1, h2, if_true, bor, true_and]
      generalize c k = x at *; generalize o k = y at *; generalize d k = z at *; generalize p k = q at *
      cases x <;> cases y <;> cases z <;> cases q <;> simp_all [dig]
    · have h2 : ¬ k < i + 1 := by omega
      simp only [pre, h1, h2, if_false, false_and]
end
end Go.Proofs.YtlakglphjhoodaaDoor.Tn

namespace Go.Proofs.YtlakglphjhoodaaDoor.Tn
open Go.RowKit
attribute [local go_sem] cv cs wv
theorem own_below {w w' : World} {base : Nat} {e : TypeId} {size : Nat} {v : Value} {n : Nat} {xs : List Value} {B : Nat} (h : w.ownsRow base e size v n xs) (hb : Below B w w') (hB : w.heap.size ≤ B) : w'.ownsRow base e size v n xs := by
  refine ⟨h.1, ?_⟩
  rcases h.2 with hn | ⟨g, cap, cur, hv, hbb, hg, rest⟩
  · exact .inl hn
  · have hlt := (Array.getElem?_eq_some_iff.1 hg).1
    exact .inr ⟨g, cap, cur, hv, hbb, (hb.block g (by omega)).trans hg, rest⟩
theorem own_put {w w' : World} {base : Nat} {e : TypeId} {size : Nat} {v : Value} {n : Nat} {xs : List Value} {g : Nat} (h : w.ownsRow base e size v n xs) (hg : w.grownBy w' (some g)) (hlt : g < base) : w'.ownsRow base e size v n xs := by
  refine h.kept hg ?_
  cases hv : v.ownBlock with
  | none => exact .inl rfl
  | some k => exact .inr fun e => by have := (h.lt k hv).1; cases e; omega
theorem own_ne {w : World} {base : Nat} {e : TypeId} {size : Nat} {v : Value} {n : Nat} {xs : List Value} {g : Nat} (h : w.ownsRow base e size v n xs) (hlt : g < base) : some g ≠ v.ownBlock := fun e => by
  have := (h.lt g e.symm).1; omega
theorem own_one (w : World) (t : TypeId) (cs : Array Value) {B : Nat} (hB : B ≤ w.heap.size) : (w.alloc (.cells cs t)).ownsRow B t cs.size (.slice (some ⟨w.heap.size, 0, none⟩) 1 1) 1 cs.toList := by
  refine ⟨by simp, .inr ⟨_, 1, cs, rfl, hB, heap_alloc_new w _, Nat.le_refl _, by decide, by simp, ?_⟩⟩
  simp [← Array.length_toList]
theorem row_ne {w : World} {base : Nat} {e : TypeId} {size : Nat} {v : Value} {n : Nat} {xs : List Value} (h : w.ownsRow base e size v n xs) : v.ownBlock ≠ some w.heap.size := fun e => by
  have := (h.lt _ e).2; omega
theorem pre_at (i : Nat) (f g : Nat → Bool) : pre i f g i = f i := by simp [pre]
theorem at_lit_care {B i n : Nat} {c o : Nat → Bool} {t : TypeId} {w : World} (hi : i < 256) (h : Blk w B t (cs n c o)) (b : Bool) (hb : c i = b) :
    Calls Tryd.prog 71 #[.pointer (some ⟨B, 1, none⟩), .int .i64 (i : Int)] w fun e w' => e = .returned (.bool b) ∧ w = w' := by
  rw [← hb]; exact at_care B i n c o t w hi h
theorem at_lit_ones {B i n : Nat} {c o : Nat → Bool} {t : TypeId} {w : World} (hi : i < 256) (h : Blk w B t (cs n c o)) (b : Bool) (hb : o i = b) :
    Calls Tryd.prog 71 #[.pointer (some ⟨B, 5, none⟩), .int .i64 (i : Int)] w fun e w' => e = .returned (.bool b) ∧ w = w' := by
  rw [← hb]; exact at_ones B i n c o t w hi h
theorem crow_nil (w : World) (B : Nat) : w.ownsRow B 114 9 (.slice none 0 0) 0 (crow []) := World.ownsRow_nil w B 114 9
set_option maxHeartbeats 4000000 in
theorem split_yes {t u : List UInt8} {n : Nat} {c o d p : Nat → Bool} (h : Cub t n c o) (h' : Cub u n d p) (hok : meetOk t u) (w : World) :
    Calls Tryd.prog 61 #[cv n c o, cv n d p] w fun e w' => ∃ v, e = .returned v ∧ w'.ownsRow w.heap.size 114 9 v (partsT t u n).length (crow (partsT t u n)) ∧ Below w.heap.size w w' := by
  have HNO := Lib.hid ((noconf_iff h h').1 hok.2)
  have HOK := Lib.hid (decide_eq_true hok)
  have H := Lib.hid h
  have H' := Lib.hid h'
  have hn := h.nrm.le
  clear h h' hok
  unfold cv cs wv
  go_enter Tryd.func61, Tryd.ntmps61
  go_wp2_with fail
  refine (meet_any H.out H'.out _).mono ?_
  rw [HOK.out]
  rintro e w1 ⟨n3, c3, o3, hC3, rfl, hb1⟩
  clear hC3
  have h1 : Blk w1 w.heap.size 114 (cs n c o) := ((Blk.new w 114 (cs n c o)).alloc _).below hb1 (by simp; omega)
  have h2 : Blk w1 (w.heap.size + 1) 114 (cs n d p) := by
    have := (Blk.new (w.alloc (.cells (cs n c o) 114)) 114 (cs n d p)).below hb1 (by simp)
    rw [World.size_alloc] at this
    exact this
  have hbel : Below w.heap.size w w1 := Below.trans (by go_grown) (hb1.mono (by simp; omega))
  have hz : w.heap.size + 2 ≤ w1.heap.size := by have := hb1.size; simp at this; omega
  clear hb1
  have hc1 := h1.cell
  have h1 := h1.alloc (.cells (cs n3 c3 o3) 114)
  have h2 := h2.alloc (.cells (cs n3 c3 o3) 114)
  have hbel := bal hbel (.cells (cs n3 c3 o3) 114)
  have hl1 : w.heap.size < w1.heap.size := by omega
  have hl2 : w.heap.size ≠ w1.heap.size := by omega
  go_wp2_with fail
  clear hc1 hl1 hl2
  generalize hB0 : w1.heap.size + 1 = B0
  go_loopw [7, 22] (fun v i wr => ∃ k : Nat, k ≤ n ∧ i = .int .i64 k ∧ Blk wr w.heap.size 114 (cs n (pre k c (bor c d)) (pre k o (bor o p))) ∧ Blk wr (w.heap.size + 1) 114 (cs n d p) ∧ B0 ≤ wr.heap.size ∧ wr.ownsRow B0 114 9 v (partsT t u k).length (crow (partsT t u k)) ∧ Below w.heap.size w wr) (fun _ i _ => n - (intOf i).toNat)
  case atStart => exact ⟨0, Nat.zero_le _, rfl, by rw [pre_zero, pre_zero]; exact h1, h2, by rw [World.size_alloc]; omega, crow_nil _ _, hbel⟩
  case round =>
    clear h1 h2 hbel
    obtain ⟨k, hk, rfl, h1, h2, hB, hown, hbel⟩ := hrel
    by_cases hlt : k < n
    · have hk256 : k < 256 := by omega
      have hpl := partsT_le t u k
      have sp := splits_iff H.out H'.out k hlt
      have e1 : pre k c (bor c d) k = c k := pre_at ..
      by_cases hs : c k = false ∧ d k = true
      · have HS := Lib.hid hs
        have HSP := Lib.hid (show splits t u k = true by rw [sp, hs.1, hs.2]; rfl)
        have ka := at_lit_care hk256 h1 false (e1.trans hs.1)
        have kd := at_lit_care hk256 h2 true hs.2
        have HBD := Lib.hid (show bor c d k = true by simp [bor, hs.2])
        clear sp e1 hs
        go_wp2_with (first | (go_at_call 71; with_reducible refine ka.mono ?_; rintro e w' ⟨rfl, rfl⟩) | (go_at_call 71; with_reducible refine kd.mono ?_; rintro e w' ⟨rfl, rfl⟩) | (go_at_call 69; refine (put_care w.heap.size k n _ _ _ _ hk256 h1).mono ?_; rintro e w2 ⟨rfl, hp1, hg1⟩; rw [pre_put HBD.out] at hp1; have hc1 := hp1.cell; have hl1 := hp1.lt))
        clear ka kd
        have hq2 := h2.grown hg1 (by simp)
        have hown2 := own_put hown hg1 (by omega)
        have hbel2 := hbel.grown hg1 hbel.size (fun j hj => by cases hj; exact Nat.le_refl _)
        have hB2 := Nat.le_trans hB hg1.size
        clear h1 h2 hown hbel hg1 hB
        clear hc1 hl1
        have hq1 := hp1.alloc (.cells (cs n (pre (k + 1) c (bor c d)) (pre k o (bor o p))) 114)
        have hq3 := Blk.new w2 114 (cs n (pre (k + 1) c (bor c d)) (pre k o (bor o p)))
        have hq2 := hq2.alloc (.cells (cs n (pre (k + 1) c (bor c d)) (pre k o (bor o p))) 114)
        have hown0 := hown2
        have hown2 := hown2.alloc (.cells (cs n (pre (k + 1) c (bor c d)) (pre k o (bor o p))) 114)
        have hbel2 := bal hbel2 (.cells (cs n (pre (k + 1) c (bor c d)) (pre k o (bor o p))) 114)
        have hne9 : w.heap.size ≠ w2.heap.size := by omega
        have hne9' : w2.heap.size ≠ w.heap.size := by omega
        have hB3 : B0 ≤ (w2.alloc (.cells (cs n (pre (k + 1) c (bor c d)) (pre k o (bor o p))) 114)).heap.size := by rw [World.size_alloc]; omega
        have hB4 : w.heap.size ≤ w2.heap.size := by omega
        have ho1 : pre k o (bor o p) k = o k := pre_at ..
        have hok0 : o k = false := by
          cases hoi : o k with
          | false => rfl
          | true => have := H.out.nrm.sub k hoi; rw [HS.out.1] at this; cases this
        by_cases hp : p k = true
        · refine (at_lit_ones hk256 hq2 true hp).mono ?_
          rintro e w' ⟨rfl, rfl⟩
          have hbo : bor o p k = true := by simp [bor, hp]
          have HPT : Hid (Cub (partT t u k) n (pre (k + 1) c (bor c d)) (pre k o (bor o p))) := Lib.hid (part_cub H.out H'.out HNO.out hlt HS.out.1 HS.out.2 (fun j => by
            by_cases e : j = k
            · subst e; rw [if_pos rfl, ho1, hok0, hp]; rfl
            · rw [if_neg e]))
          go_wp2_with (first | (go_at_call 69; refine (put_ones w.heap.size k n _ _ _ _ hk256 hq1).mono ?_; rintro e w3 ⟨rfl, hr1, hg3⟩; have hr3 := hq3.grown hg3 (by simpa using hne9'); have hc9 := hr3.cell; have hown3 := own_put hown2 hg3 (by omega); have hB5 := Nat.le_trans hB3 hg3.size) | (at_builtin; refine app_cube HPT.out hown3 rfl rfl rfl rfl (by omega) hB5 ?_; intro v' w4 hown4 hb4 hk4))
          go_roundw
          case rel =>
            have z1 := hk4 w.heap.size 114 (cs n (pre (k + 1) c (bor c d)) (pre (k + 1) o (bor o p))) (own_ne hown3 (by omega)) (by rw [pre_put hbo] at hr1; exact hr1)
            have z2 := hk4 (w.heap.size + 1) _ _ (own_ne hown3 (by omega)) (hq2.grown hg3 (by simp <;> omega))
            rw [← partsT_yes HSP.out] at hown4
            refine ⟨k + 1, by omega, by go_num, z1, z2, Nat.le_trans hB5 hb4.size, ?_, ?_⟩
            · rw [partsT_yes HSP.out, List.length_append, List.length_singleton, ← partsT_yes HSP.out]
              exact hown4
            · exact Below.trans (hbel2.grown hg3 hbel2.size (fun j hj => by cases hj; omega)) (hb4.mono (by omega))
          case measure => simp [intOf]; omega
        · have hp : p k = false := by simpa using hp
          refine (at_lit_ones hk256 hq2 false hp).mono ?_
          rintro e w' ⟨rfl, rfl⟩
          have hbo : bor o p k = o k := by simp [bor, hp]
          have HPT : Hid (Cub (partT t u k) n (pre (k + 1) c (bor c d)) (put (pre k o (bor o p)) k)) := Lib.hid (part_cub H.out H'.out HNO.out hlt HS.out.1 HS.out.2 (fun j => by
            by_cases e : j = k
            · subst e; rw [if_pos rfl, hp]; simp [put]
            · rw [if_neg e]; simp [put, e]))
          go_wp2_with (first | (go_at_call 69; refine (put_ones w2.heap.size k n _ _ _ _ hk256 hq3).mono ?_; rintro e w3 ⟨rfl, hr3, hg3⟩; have hc9 := hr3.cell; have hown3 := hown2.kept hg3 (.inr (row_ne hown0)); have hB5 := Nat.le_trans hB3 hg3.size) | (at_builtin; refine app_cube HPT.out hown3 rfl rfl rfl rfl (by omega) hB5 ?_; intro v' w4 hown4 hb4 hk4))
          go_roundw
          case rel =>
            have z1 := hk4 w.heap.size 114 (cs n (pre (k + 1) c (bor c d)) (pre (k + 1) o (bor o p))) (own_ne hown3 (by omega)) (by rw [pre_stay hbo]; exact hq1.grown hg3 (by simpa using hne9))
            have z2 := hk4 (w.heap.size + 1) _ _ (own_ne hown3 (by omega)) (hq2.grown hg3 (by simp <;> omega))
            rw [← partsT_yes HSP.out] at hown4
            refine ⟨k + 1, by omega, by go_num, z1, z2, Nat.le_trans hB5 hb4.size, ?_, ?_⟩
            · rw [partsT_yes HSP.out, List.length_append, List.length_singleton, ← partsT_yes HSP.out]
              exact hown4
            · exact Below.trans (hbel2.grown hg3 hbel2.size (fun j hj => by cases hj; omega)) (hb4.mono (by omega))
          case measure => simp [intOf]; omega
      · have e2 : bor c d k = c k := by
          cases hc : c k with
          | true => simp [bor, hc]
          | false =>
            cases hd : d k with
            | true => exact absurd ⟨hc, hd⟩ hs
            | false => simp [bor, hc, hd]
        have HSP := Lib.hid (show splits t u k = false by rw [sp]; cases hc : c k <;> cases hd : d k <;> simp_all)
        have e3 : bor o p k = o k := by
          cases hpk : p k with
          | false => simp [bor, hpk]
          | true =>
            have hd := H'.out.nrm.sub k hpk
            have hc : c k = true := by
              cases hc : c k with
              | true => rfl
              | false => exact absurd ⟨hc, hd⟩ hs
            have ho := noconf_at HNO.out H.out k hc hd hpk
            simp [bor, ho]
        have E2 := Lib.hid e2
        have E3 := Lib.hid e3
        by_cases hck : c k = true
        · have ka := at_lit_care hk256 h1 true (e1.trans hck)
          clear sp e1 hs e2 e3 hck
          go_wp2_with (first | (go_at_call 71; with_reducible refine ka.mono ?_; rintro e w' ⟨rfl, rfl⟩))
          go_roundw
          case rel => exact ⟨k + 1, by omega, by go_num, by rw [pre_stay E2.out, pre_stay E3.out]; exact h1, h2, hB, by rw [partsT_no HSP.out]; exact hown, hbel⟩
          case measure => simp [intOf]; omega
        · have hck : c k = false := by simpa using hck
          have hdk : d k = false := by
            cases hd : d k with
            | true => exact absurd ⟨hck, hd⟩ hs
            | false => rfl
          have ka := at_lit_care hk256 h1 false (e1.trans hck)
          have kd := at_lit_care hk256 h2 false hdk
          clear sp e1 hs e2 e3 hck hdk
          go_wp2_with (first | (go_at_call 71; with_reducible refine ka.mono ?_; rintro e w' ⟨rfl, rfl⟩) | (go_at_call 71; with_reducible refine kd.mono ?_; rintro e w' ⟨rfl, rfl⟩))
          go_roundw
          case rel => exact ⟨k + 1, by omega, by go_num, by rw [pre_stay E2.out, pre_stay E3.out]; exact h1, h2, hB, by rw [partsT_no HSP.out]; exact hown, hbel⟩
          case measure => simp [intOf]; omega
    · obtain rfl : k = n := by omega
      go_wp2
      go_ret
      exact ⟨_, rfl, hown.mono (by omega), hbel⟩
set_option maxHeartbeats 1000000 in
theorem split_no {t u : List UInt8} {n m : Nat} {c o d p : Nat → Bool} (h : Cub t n c o) (h' : Cub u m d p) (hok : ¬ meetOk t u) (w : World) :
    Calls Tryd.prog 61 #[cv n c o, cv m d p] w fun e w' => ∃ v, e = .returned v ∧ w'.ownsRow w.heap.size 114 9 v 1 (crow [t]) ∧ Below w.heap.size w w' := by
  have HOK := Lib.hid (decide_eq_false hok)
  have H := Lib.hid h
  have H' := Lib.hid h'
  clear h h' hok
  unfold cv cs wv
  go_enter Tryd.func61, Tryd.ntmps61
  go_wp2_with fail
  refine (meet_any H.out H'.out _).mono ?_
  rw [HOK.out]
  rintro e w1 ⟨n3, c3, o3, hC3, rfl, hb1⟩
  clear hC3
  have h1 : Blk w1 w.heap.size 114 (cs n c o) := ((Blk.new w 114 (cs n c o)).alloc _).below hb1 (by simp; omega)
  have hbel : Below w.heap.size w w1 := Below.trans (by go_grown) (hb1.mono (by simp; omega))
  have hz : w.heap.size + 2 ≤ w1.heap.size := by have := hb1.size; simp at this; omega
  clear hb1
  have hc1 := h1.cell
  have hl1 : w.heap.size < w1.heap.size := by omega
  have hl2 : w.heap.size ≠ w1.heap.size := by omega
  go_wp2_with fail
  go_ret
  have hx := own_one (w1.alloc (.cells (cs n3 c3 o3) 114)) 114 (cs n c o) (B := w.heap.size) (by rw [World.size_alloc]; omega)
  rw [H.out.cells] at hx
  rw [← show crow [t] = ccells t by simp [crow], World.size_alloc] at hx
  exact ⟨_, rfl, hx, (bal (bal hbel _) _)⟩
theorem split_any {t u : List UInt8} {n m : Nat} {c o d p : Nat → Bool} (h : Cub t n c o) (h' : Cub u m d p) (w : World) :
    Calls Tryd.prog 61 #[cv n c o, cv m d p] w fun e w' => ∃ v, e = .returned v ∧ w'.ownsRow w.heap.size 114 9 v (splitT t u).length (crow (splitT t u)) ∧ Below w.heap.size w w' := by
  unfold splitT
  by_cases hok : meetOk t u
  · obtain ⟨rfl, h0⟩ := (fit_iff h h').1 hok.1
    rw [if_pos hok, ← h.hn]
    exact split_yes h h' hok w
  · rw [if_neg hok]
    exact split_no h h' hok w
end Go.Proofs.YtlakglphjhoodaaDoor.Tn

namespace Go.Proofs.YtlakglphjhoodaaDoor.Tn
open Go.RowKit
theorem srow_nil (w : World) (B : Nat) : w.ownsRow B 9 1 (.slice none 0 0) 0 (srow []) := World.ownsRow_nil w B 9 1
end Go.Proofs.YtlakglphjhoodaaDoor.Tn

namespace Go.Proofs.YtlakglphjhoodaaDoor.Tn
open Go.RowKit
attribute [local go_sem] cv cs wv
theorem own_at {w : World} {B : Nat} {e : TypeId} {size : Nat} {v : Value} {n : Nat} {xs : List Value} (h : w.ownsRow B e size v n xs) (hn : 0 < n) :
    ∃ g cap, v = .slice (some ⟨g, 0, none⟩) n cap ∧ n ≤ cap ∧ B ≤ g ∧ ∀ j u, xs[j]? = some u → w.cell? ⟨g, j, none⟩ = some u := by
  obtain ⟨g, cap, hv, hb, hlt⟩ := own_form h hn
  subst hv
  refine ⟨g, cap, rfl, ?_, hb, fun j u hj => ?_⟩
  · rcases h.2 with ⟨hh, _⟩ | ⟨g', cap', cur, hv, _, _, hc, _⟩
    · cases hh
    · cases hv; exact hc
  · have := h.cells (g := g) rfl j u hj
    have hadd : (⟨g, 0, none⟩ : Addr).add j = ⟨g, j, none⟩ := by unfold Addr.add; split <;> simp_all
    rw [hadd] at this
    exact this
theorem split_cubs {t u : List UInt8} {n m : Nat} {c o d p : Nat → Bool} (h : Cub t n c o) (h' : Cub u m d p) : ∀ x ∈ splitT t u, ∃ n c o, Cub x n c o := by
  intro x hx
  unfold splitT at hx
  by_cases hok : meetOk t u
  · rw [if_pos hok] at hx
    obtain ⟨rfl, h0⟩ := (fit_iff h h').1 hok.1
    unfold partsT at hx
    obtain ⟨i, hi, rfl⟩ := List.mem_map.1 hx
    rw [List.mem_filter, List.mem_range] at hi
    obtain ⟨hi, hs⟩ := hi
    rw [← h.hn] at hi
    rw [splits_iff h h' i hi] at hs
    have hc : c i = false := by cases hc : c i with | false => rfl | true => rw [hc] at hs; simp at hs
    have hd : d i = true := by rw [hc] at hs; simpa using hs
    exact ⟨_, _, _, part_cub h h' ((noconf_iff h h').1 hok.2) hi hc hd (o'' := fun k => if k = i then !p i else pre i o (bor o p) k) (fun k => rfl)⟩
  · rw [if_neg hok] at hx
    simp only [List.mem_singleton] at hx
    subst hx
    exact ⟨_, _, _, h⟩
theorem split_len {t u : List UInt8} {n : Nat} {c o : Nat → Bool} (h : Cub t n c o) : (splitT t u).length ≤ 1000000 := by
  have := h.le
  unfold splitT
  split
  · have := partsT_le t u t.length; omega
  · simp
end Go.Proofs.YtlakglphjhoodaaDoor.Tn

namespace Go.Proofs.YtlakglphjhoodaaDoor.Tn
open Go.RowKit
def digB (b : UInt8) : Bool := b == 48 || b == 49
def isCube (t : List UInt8) : Prop := (0 < t.length ∧ t.length ≤ 256) ∧ t.all okB = true
instance (t : List UInt8) : Decidable (isCube t) := by unfold isCube; infer_instance
theorem okB_dig (b : UInt8) : okB b = (digB b || b == 120) := by simp [okB, digB]
theorem all_snoc (s : ByteArray) (k : Nat) (f : UInt8 → Bool) (hlt : k < s.size) (hall : (s.data.toList.take k).all f = true) : (s.data.toList.take (k + 1)).all f = f s[k] := by
  have hb : s.data.toList[k]? = some s[k] := by rw [Array.getElem?_toList]; exact Array.getElem?_eq_getElem hlt
  rw [List.take_add_one, List.all_append, hall, hb]; simp
theorem not_all (s : ByteArray) (k : Nat) (f : UInt8 → Bool) (hlt : k < s.size) (hf : f s[k] = false) : s.data.toList.all f = false := by
  rw [List.all_eq_false]
  exact ⟨s[k], by rw [Array.mem_toList_iff]; exact Array.getElem_mem hlt, by simp [hf]⟩
def isHead (t : List UInt8) (n : Nat) : Prop := t.length = n ∧ t.all digB = true
instance (t : List UInt8) (n : Nat) : Decidable (isHead t n) := by unfold isHead; infer_instance
def holdsT (t h : List UInt8) : Prop := ∀ i, i < t.length → byt t i = 120 ∨ byt t i = byt h i
instance (t h : List UInt8) : Decidable (holdsT t h) := by unfold holdsT; infer_instance
end Go.Proofs.YtlakglphjhoodaaDoor.Tn

namespace Go.Proofs.YtlakglphjhoodaaDoor.Tn
open Go.RowKit
theorem byt_get {t : List UInt8} {i : Nat} (h : i < t.length) : byt t i = t[i] := by
  unfold byt; simp [h]
theorem head_dig {h : List UInt8} {n : Nat} (hh : isHead h n) {j : Nat} (hj : j < n) : byt h j = 48 ∨ byt h j = 49 := by
  have hl : j < h.length := by rw [hh.1]; exact hj
  rw [byt_get hl]
  have := List.all_eq_true.1 hh.2 h[j] (List.getElem_mem hl)
  simpa [digB] using this
theorem cube_ok {t : List UInt8} (ht : isCube t) {j : Nat} (hj : j < t.length) : byt t j = 48 ∨ byt t j = 49 ∨ byt t j = 120 := by
  rw [byt_get hj]
  have := List.all_eq_true.1 ht.2 t[j] (List.getElem_mem hj)
  simp only [okB, Bool.or_eq_true, beq_iff_eq] at this
  rcases this with (h | h) | h <;> simp [h]
theorem other_dig {b h : UInt8} (hb : b = 48 ∨ b = 49) (hh : h = 48 ∨ h = 49) : otherB b = h ↔ h ≠ b := by
  rcases hb with rfl | rfl <;> rcases hh with rfl | rfl <;> decide
theorem other_ne (b : UInt8) : otherB b ≠ 120 := by
  unfold otherB; split <;> decide
theorem has_iff {t h : List UInt8} {n : Nat} (hn : 0 < n) (ht : t.length = n) (hh : isHead h n) : hasOk t h ↔ holdsT t h := by
  unfold hasOk holdsT good
  constructor
  · intro H j hj
    exact (H.2 j hj).2
  · intro H
    refine ⟨⟨fun e => by rw [e] at ht; simp at ht; omega, by rw [ht, hh.1]⟩, fun j hj => ⟨head_dig hh (by omega), H j hj⟩⟩
theorem count_one (q : Nat → Bool) : ∀ n, (∃ i, i < n ∧ q i = true) → (∀ i j, i < j → j < n → q i = true → q j = true → False) → (List.range n).countP q = 1 := by
  intro n
  induction n with
  | zero => rintro ⟨i, hi, _⟩; omega
  | succ n ih =>
    rintro ⟨i, hi, hq⟩ hu
    rw [List.range_succ, List.countP_append]
    by_cases hn : q n = true
    · have h0 : (List.range n).countP q = 0 := by
        rw [List.countP_eq_zero]
        intro j hj hqj
        exact hu j n (List.mem_range.1 hj) (by omega) hqj hn
      rw [h0]; simp [hn]
    · have hin : i < n := by
        rcases Nat.lt_or_ge i n with h | h
        · exact h
        · obtain rfl : i = n := by omega
          exact absurd hq hn
      rw [ih ⟨i, hin, hq⟩ (fun a b hab hb => hu a b hab (by omega))]
      simp [hn]
theorem least (q : Nat → Prop) : ∀ n, q n → ∃ i, i ≤ n ∧ q i ∧ ∀ j, j < i → ¬ q j := by
  intro n
  induction n using Nat.strongRecOn with
  | ind n ih =>
    intro hn
    by_cases h : ∃ j, j < n ∧ q j
    · obtain ⟨j, hj, hqj⟩ := h
      obtain ⟨i, hi, h1, h2⟩ := ih j hj hqj
      exact ⟨i, by omega, h1, h2⟩
    · exact ⟨n, Nat.le_refl _, hn, fun j hj hqj => h ⟨j, hj, hqj⟩⟩
section
variable {a b h : List UInt8}
theorem holds_part (hb : isCube b) (hab : a.length = b.length) (hh : isHead h a.length) {i : Nat} (hi : i < a.length) (ha1 : byt a i = 120) (hb1 : byt b i ≠ 120) :
    holdsT (partT a b i) h ↔ (holdsT a h ∧ byt h i ≠ byt b i ∧ ∀ k, k < i → byt a k = 120 → byt b k = 120 ∨ byt b k = byt h k) := by
  have hbi : byt b i = 48 ∨ byt b i = 49 := by
    rcases cube_ok hb (j := i) (by omega) with e | e | e
    · exact .inl e
    · exact .inr e
    · exact absurd e hb1
  have hhi := head_dig hh hi
  have hP : ∀ k, k < a.length → byt (partT a b i) k = partF a b i k := fun k hk => byt_up _ _ _ hk
  have hl : (partT a b i).length = a.length := by unfold partT; simp
  unfold holdsT
  rw [hl]
  constructor
  · intro H
    refine ⟨fun j hj => ?_, ?_, fun k hk hak => ?_⟩
    · have := H j hj
      rw [hP j hj] at this
      unfold partF at this
      by_cases e : j = i
      · subst e; exact .inl ha1
      · rw [if_neg e] at this
        by_cases e2 : j < i ∧ byt a j = 120
        · exact .inl e2.2
        · rw [if_neg e2] at this; exact this
    · have := H i hi
      rw [hP i hi] at this
      unfold partF at this
      rw [if_pos rfl] at this
      rcases this with e | e
      · exact absurd e (other_ne _)
      · exact (other_dig hbi hhi).1 e
    · have := H k (by omega)
      rw [hP k (by omega)] at this
      unfold partF at this
      rw [if_neg (by omega), if_pos ⟨hk, hak⟩] at this
      exact this
  · rintro ⟨H1, H2, H3⟩ j hj
    rw [hP j hj]
    unfold partF
    by_cases e : j = i
    · subst e; rw [if_pos rfl]; exact .inr ((other_dig hbi hhi).2 H2)
    · rw [if_neg e]
      by_cases e2 : j < i ∧ byt a j = 120
      · rw [if_pos e2]; exact H3 j e2.1 e2.2
      · rw [if_neg e2]; exact H1 j hj
theorem parts_count (ha : isCube a) (hb : isCube b) (hab : a.length = b.length) (hh : isHead h a.length) :
    (splitT a b).countP (fun t => decide (hasOk t h)) = if holdsT a h ∧ ¬ holdsT b h then 1 else 0 := by
  have h0 : 0 < a.length := ha.1.1
  have hfit : fitT a b := ⟨fun e => by rw [e] at h0; simp at h0, hab⟩
  unfold splitT
  by_cases hok : meetOk a b
  · rw [if_pos hok]
    unfold partsT
    rw [List.countP_map, List.countP_filter]
    have hq : ∀ i, i < a.length → ((((fun t => decide (hasOk t h)) ∘ partT a b) i && splits a b i) = true ↔ (byt a i = 120 ∧ byt b i ≠ 120 ∧ holdsT a h ∧ byt h i ≠ byt b i ∧ ∀ k, k < i → byt a k = 120 → byt b k = 120 ∨ byt b k = byt h k)) := by
      intro i hi
      have hl : (partT a b i).length = a.length := by unfold partT; simp
      simp only [Function.comp, Bool.and_eq_true, decide_eq_true_eq, splits, beq_iff_eq, bne_iff_ne]
      rw [has_iff h0 hl hh]
      constructor
      · rintro ⟨H, e1, e2⟩
        exact ⟨e1, e2, (holds_part hb hab hh hi e1 e2).1 H⟩
      · rintro ⟨e1, e2, H⟩
        exact ⟨(holds_part hb hab hh hi e1 e2).2 H, e1, e2⟩
    by_cases hH : holdsT a h ∧ ¬ holdsT b h
    · rw [if_pos hH]
      refine count_one _ _ ?_ ?_
      · obtain ⟨H1, H2⟩ := hH
        have ⟨k, hk, hk1, hk2⟩ : ∃ k, k < a.length ∧ byt b k ≠ 120 ∧ byt b k ≠ byt h k := by
          unfold holdsT at H2
          simp only [Classical.not_forall, not_or] at H2
          obtain ⟨k, hk, h1, h2⟩ := H2
          exact ⟨k, by omega, h1, h2⟩
        obtain ⟨i, hi, ⟨h1, h2⟩, hmin⟩ := least (fun k => byt b k ≠ 120 ∧ byt b k ≠ byt h k) k ⟨hk1, hk2⟩
        have hil : i < a.length := by omega
        refine ⟨i, hil, (hq i hil).2 ⟨?_, h1, H1, fun e => h2 e.symm, fun k hk _ => ?_⟩⟩
        · rcases H1 i hil with e | e
          · exact e
          · by_cases e1 : byt a i = 120
            · exact e1
            · exact absurd ⟨e1, h1, fun e2 => h2 (e2 ▸ e)⟩ (hok.2 i hil)
        · by_cases e1 : byt b k = 120
          · exact .inl e1
          · by_cases e2 : byt b k = byt h k
            · exact .inr e2
            · exact absurd ⟨e1, e2⟩ (hmin k hk)
      · intro i j hij hj hqi hqj
        have hi2 := (hq i (by omega)).1 hqi
        have hj2 := (hq j hj).1 hqj
        rcases hj2.2.2.2.2 i hij hi2.1 with e | e
        · exact hi2.2.1 e
        · exact hi2.2.2.2.1 e.symm
    · rw [if_neg hH, List.countP_eq_zero]
      intro i hi hqi
      have hi := List.mem_range.1 hi
      have hi2 := (hq i hi).1 hqi
      refine hH ⟨hi2.2.2.1, fun H => ?_⟩
      rcases H i (by omega) with e | e
      · exact hi2.2.1 e
      · exact hi2.2.2.2.1 e.symm
  · rw [if_neg hok]
    have ⟨i, hi, hc⟩ : ∃ i, i < a.length ∧ clash (byt a i) (byt b i) := by
      unfold meetOk at hok
      simp only [not_and, Classical.not_forall, Classical.not_not] at hok
      obtain ⟨i, hi, hc⟩ := hok hfit
      exact ⟨i, hi, hc⟩
    have hx : holdsT a h → ¬ holdsT b h := fun H H' => by
      rcases H i hi with e | e
      · exact hc.1 e
      · rcases H' i (by omega) with e' | e'
        · exact hc.2.1 e'
        · exact hc.2.2 (e.trans e'.symm)
    by_cases hH : holdsT a h
    · rw [if_pos ⟨hH, hx hH⟩]
      simp [(has_iff h0 rfl hh).2 hH]
    · rw [if_neg (fun e => hH e.1)]
      simp [has_iff h0 rfl hh, hH]
end
end Go.Proofs.YtlakglphjhoodaaDoor.Tn
