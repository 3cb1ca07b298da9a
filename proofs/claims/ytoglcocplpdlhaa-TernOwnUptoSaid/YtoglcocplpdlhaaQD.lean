/- tern's Meet and Split, at TernOwn's seat -/
import Derived.Test.YtoglcocplpdlhaaQC
import Derived.Deep.RegionWith
import Derived.StillTailTactics
import Derived.Deep.QuietTactic
import Derived.BigQuiet
import Derived.Deep.Cut
import Derived.Deep.Onto
namespace Go.Proofs.Ytoglcocplpdlhaa.Tn
open Go.RowKit
attribute [local go_sem] cv cs wv eq_arr
theorem num_any (n : Int) (w : World) : Calls Try.prog 22 #[.int .i64 n] w fun e w' => e = .returned (.int .i64 n) ∧ w = w' := by
  go_enter Try.func22, Try.ntmps22
  go_wp2
  go_ret
  exact ⟨rfl, rfl⟩
theorem ne_no {b c : UInt8} (h : b = c) : ((b.toNat : Int) != (c.toNat : Int)) = false := by subst h; simp
theorem ne_yes {b c : UInt8} (h : ¬ b = c) : ((b.toNat : Int) != (c.toNat : Int)) = true := by
  rw [bne_iff_ne]
  intro e
  exact h (UInt8.toNat_inj.1 (by omega))
theorem ne_no48 {b : UInt8} (h : b = 48) : ((b.toNat : Int) != 48) = false := ne_no h
theorem ne_yes48 {b : UInt8} (h : ¬ b = 48) : ((b.toNat : Int) != 48) = true := ne_yes h
theorem ne_no49 {b : UInt8} (h : b = 49) : ((b.toNat : Int) != 49) = false := ne_no h
theorem ne_yes49 {b : UInt8} (h : ¬ b = 49) : ((b.toNat : Int) != 49) = true := ne_yes h
theorem ne_no120 {b : UInt8} (h : b = 120) : ((b.toNat : Int) != 120) = false := ne_no h
theorem ne_yes120 {b : UInt8} (h : ¬ b = 120) : ((b.toNat : Int) != 120) = true := ne_yes h
set_option maxHeartbeats 400000 in
theorem rparse_loop (s : ByteArray) (w : World) (h : s.size ≤ 256) (h0 : 0 < s.size) :
    Calls Try.prog 20 #[.string s] w fun e w' => e = .returned (.int .i64 (parseE s.data.toList)) ∧ w = w' := by
  have he := isEmpty_no s h0
  go_enter Try.func20, Try.ntmps20
  go_wp2
  go_loop [3] (fun i => ∃ k : Nat, k ≤ s.size ∧ i = .int .i64 k ∧ (s.data.toList.take k).all okB = true) (fun i => s.size - (intOf i).toNat)
  case atStart => exact ⟨0, Nat.zero_le _, rfl, rfl⟩
  case round =>
    obtain ⟨k, hk, rfl, hall⟩ := hrel
    by_cases hlt : k < s.size
    · have hb : s.data.toList[k]? = some s[k] := by
        rw [Array.getElem?_toList]; exact Array.getElem?_eq_getElem hlt
      have hal : (s.data.toList.take (k + 1)).all okB = okB s[k] := by
        rw [List.take_add_one, List.all_append, hall, hb]; simp
      have HA := Lib.hid hal
      clear hal hb
      by_cases hok : okB s[k] = true
      · have hx : s[k] = 48 ∨ s[k] = 49 ∨ s[k] = 120 := by simpa [okB, or_assoc] using hok
        have HO := Lib.hid hok
        clear hok
        rcases hx with hx | hx | hx
        · have t1 := ne_no48 hx
          clear hx
          go_wp2
          go_round
          case rel => exact ⟨k + 1, by omega, by go_num, by rw [HA.out]; exact HO.out⟩
          case measure => simp [intOf]; omega
        · have t1 := ne_yes48 (b := s[k]) (by rw [hx]; decide)
          have t2 := ne_no49 hx
          clear hx
          go_wp2
          go_round
          case rel => exact ⟨k + 1, by omega, by go_num, by rw [HA.out]; exact HO.out⟩
          case measure => simp [intOf]; omega
        · have t1 := ne_yes48 (b := s[k]) (by rw [hx]; decide)
          have t2 := ne_yes49 (b := s[k]) (by rw [hx]; decide)
          have t3 := ne_no120 hx
          clear hx
          go_wp2
          go_round
          case rel => exact ⟨k + 1, by omega, by go_num, by rw [HA.out]; exact HO.out⟩
          case measure => simp [intOf]; omega
      · have hx : ¬ s[k] = 48 ∧ ¬ s[k] = 49 ∧ ¬ s[k] = 120 := by simpa [okB, and_assoc] using hok
        have HO := Lib.hid hok
        clear hok
        have t1 := ne_yes48 hx.1
        have t2 := ne_yes49 hx.2.1
        have t3 := ne_yes120 hx.2.2
        clear hx
        go_wp2
        go_ret
        exact ⟨by rw [parse_bad s k hlt h h0 (by simpa using HO.out)]; rfl, rfl⟩
    · go_wp2
      go_ret
      exact ⟨by rw [(parse_done s k hk (by omega) h h0 hall).2]; rfl, rfl⟩
theorem rparse_any (s : ByteArray) (w : World) (hs : s.size ≤ maxLen) :
    Calls Try.prog 20 #[.string s] w fun e w' => e = .returned (.int .i64 (parseE s.data.toList)) ∧ w = w' := by
  have hl := len_s s
  unfold maxLen at hs
  by_cases h : 256 < s.size
  · have e : parseE s.data.toList = 2 := by unfold parseE; rw [if_pos (by omega)]
    rw [e]
    clear hl e
    go_enter Try.func20, Try.ntmps20
    go_wp2
    go_ret
    exact ⟨rfl, rfl⟩
  · by_cases h0 : s.size = 0
    · have he := isEmpty_yes s h0
      have hn : s.data.toList = [] := List.eq_nil_of_length_eq_zero (by omega)
      have e : parseE s.data.toList = 10 := by rw [hn]; rfl
      rw [e]
      have h1 : s.size ≤ 256 := by omega
      clear hl e h0 hn h
      go_enter Try.func20, Try.ntmps20
      go_wp2
      go_ret
      exact ⟨rfl, rfl⟩
    · exact rparse_loop s w (by omega) (by omega)
theorem rcube_any (s : ByteArray) (w : World) (hs : s.size ≤ maxLen) :
    Calls Try.prog 17 #[.string s] w fun e w' => e = .returned (.string (str (cubeT s.data.toList))) ∧ w = w' := by
  by_cases h : parseE s.data.toList = 0
  · have e : cubeT s.data.toList = s.data.toList := by unfold cubeT; rw [if_pos h]
    have hp := rparse_any s w hs
    rw [e, str_of]
    rw [h] at hp
    clear e h
    have HP := Lib.hid hp
    clear hp
    go_enter Try.func17, Try.ntmps17
    go_wp2_with fail
    refine HP.out.mono ?_
    rintro e w1 ⟨rfl, rfl⟩
    go_wp2_with fail
    go_ret
    exact ⟨rfl, rfl⟩
  · have e : cubeT s.data.toList = [] := by unfold cubeT; rw [if_neg h]
    have hp := rparse_any s w hs
    have hb : (parseE s.data.toList != 0) = true := by simpa using h
    rw [e]
    clear e h
    have HP := Lib.hid hp
    clear hp
    go_enter Try.func17, Try.ntmps17
    go_wp2_with fail
    refine HP.out.mono ?_
    rintro e w1 ⟨rfl, rfl⟩
    go_wp2_with fail
    go_ret
    exact ⟨rfl, rfl⟩
theorem parse_s {n : Nat} {c o : Nat → Bool} (s : ByteArray) (hs : s.size ≤ maxLen) (hC : Cub (cubeT s.data.toList) n c o) (w : World) :
    Calls Try.prog 11 #[.string s] w fun e w' => e = .returned (.tuple #[cv n c o, .int .i64 (parseE s.data.toList)]) ∧ Below w.heap.size w w' := by
  have h := parse_any s w hs
  rw [← hC.val] at h
  exact h
set_option maxHeartbeats 400000 in
theorem made_any {n : Nat} {c o : Nat → Bool} (s : ByteArray) (hs : s.size ≤ maxLen) (hC : Cub (cubeT s.data.toList) n c o) (w : World) :
    Calls Try.prog 13 #[.string s] w fun e w' => e = .returned (.tuple #[cv n c o, .bool true]) ∧ Below w.heap.size w w' := by
  have HC := Lib.hid hC
  clear hC
  go_enter Try.func13, Try.ntmps13
  go_wp2_with fail
  refine (parse_s s hs HC.out _).mono ?_
  rintro e w1 ⟨rfl, hb1⟩
  have hR : Blk w1 w.heap.size 27 #[.int .i64 0, .int .u64 0, .int .u64 0, .int .u64 0, .int .u64 0, .int .u64 0, .int .u64 0, .int .u64 0, .int .u64 0] := (Blk.new w 27 _).below hb1 (by simp)
  have hz : w.heap.size < w1.heap.size := hR.lt
  have hcR := hR.cell
  go_wp2_with fail
  refine (rparse_any s _ hs).mono ?_
  rintro e w2 ⟨rfl, rfl⟩
  go_wp2_with fail
  refine still_tail 3 (by kernel_rfl) (by kernel_rfl) fun W hW => ?_
  simp only [List.take_succ_cons, List.take_zero, List.drop_succ_cons, List.drop_zero]
  have hB : Blk W w1.heap.size 27 (cs n c o) := (Blk.new w1 27 (cs n c o)).at_drew hW
  have hR2 : Blk W w.heap.size 27 _ := (hR.alloc _).at_drew hW
  have hbW : Below w.heap.size w W := (((((Below.refl _ w).alloc (Nat.le_refl _) _).trans (hb1.mono (by simp))).alloc (by omega) _).trans (below_at_drew hW _))
  have hz1 : w1.heap.size < W.heap.size := hB.lt
  have hcB := hB.cell
  clear hcR
  repeat still_step
  still_call (swp (rcube_any s _ hs))
  refine wpStill_nil ?_
  go_wp2_with fail
  refine (is_any HC.out _ (str_list _) _).mono ?_
  rintro e w2 ⟨rfl, hb2⟩
  have hB2 : Blk w2 w1.heap.size 27 (cs n c o) := hB.below hb2 hz1
  have hR3 : Blk w2 w.heap.size 27 _ := hR2.below hb2 hR2.lt
  have hb2' : Below w.heap.size w w2 := hbW.trans (hb2.mono hbW.size)
  clear hcB
  go_wp2_with fail
  have hcB4 := hB2.cell
  have hcR4 := hR3.cell
  have hfR4 := hR3.frozen
  go_region_with (go_at_call 22; refine (num_any _ _).mono ?_; rintro e w4 ⟨rfl, rfl⟩)
  all_goals go_wp2
  all_goals refine bodyPost_ret (v := .tuple #[.agg (cs n c o), .bool true]) (by simp [results, Try.results13, go_sem, hcR4]) rfl ⟨rfl, ?_⟩
  all_goals refine Below.trans hb2' ?_
  all_goals go_grown
end Go.Proofs.Ytoglcocplpdlhaa.Tn

namespace Go.Proofs.Ytoglcocplpdlhaa.Tn
open Go.RowKit

def up (g : Nat → UInt8) (n : Nat) : List UInt8 := (List.range n).map g
theorem up_succ (g : Nat → UInt8) (n : Nat) : up g (n + 1) = up g n ++ [g n] := by simp [up, List.range_succ]
theorem up_zero (g : Nat → UInt8) : up g 0 = [] := rfl
@[simp] theorem up_length (g : Nat → UInt8) (n : Nat) : (up g n).length = n := by simp [up]
theorem up_get (g : Nat → UInt8) (n i : Nat) (h : i < n) : (up g n)[i]? = some (g i) := by simp [up, h]
theorem up_congr {g h : Nat → UInt8} {n : Nat} (e : ∀ i, i < n → g i = h i) : up g n = up h n := by
  unfold up
  apply List.map_congr_left
  intro i hi
  exact e i (List.mem_range.1 hi)
def byt (t : List UInt8) (i : Nat) : UInt8 := t.getD i 0
theorem byt_up (g : Nat → UInt8) (n i : Nat) (h : i < n) : byt (up g n) i = g i := by simp [byt, List.getD, up_get g n i h]
theorem up_byt (t : List UInt8) : up (byt t) t.length = t := by
  apply List.ext_getElem?
  intro i
  by_cases hi : i < t.length
  · rw [up_get _ _ _ hi]; simp [byt, hi]
  · rw [List.getElem?_eq_none (by simp; omega), List.getElem?_eq_none (by omega)]
theorem byt_str (s : ByteArray) (k : Nat) (h : k < s.size) : byt s.data.toList k = s[k] := by
  have : s.data.toList[k]? = some s[k] := by rw [Array.getElem?_toList]; exact Array.getElem?_eq_getElem h
  simp [byt, List.getD, this]
theorem eq_up {t : List UInt8} {g : Nat → UInt8} {n : Nat} (hl : t.length = n) (h : ∀ i, i < n → byt t i = g i) : t = up g n := by
  rw [← up_byt t, hl]
  exact up_congr h

def dig (c o : Bool) : UInt8 := if c then (if o then 49 else 48) else 120
theorem dig_ok (c o : Bool) : okB (dig c o) = true := by cases c <;> cases o <;> rfl

structure Nrm (n : Nat) (c o : Nat → Bool) : Prop where
  le : n ≤ 256
  hi : ∀ i, n ≤ i → c i = false
  sub : ∀ i, o i = true → c i = true
theorem Nrm.ohi {n : Nat} {c o : Nat → Bool} (h : Nrm n c o) (i : Nat) (hi : n ≤ i) : o i = false := by
  have := h.hi i hi
  have h2 := h.sub i
  cases ho : o i with
  | false => rfl
  | true => rw [h2 ho] at this; cases this
def txt (n : Nat) (c o : Nat → Bool) : List UInt8 := up (fun i => dig (c i) (o i)) n
theorem Nrm.cub {n : Nat} {c o : Nat → Bool} (h : Nrm n c o) : Cub (txt n c o) n c o := by
  refine ⟨by simp [txt], ?_, ?_, by simp [txt]; exact h.le, ?_⟩
  · funext i
    by_cases hi : i < n
    · simp only [careF, txt, up_get _ _ _ hi]
      cases c i <;> cases o i <;> rfl
    · have e : (txt n c o)[i]? = none := List.getElem?_eq_none (by simp [txt]; omega)
      simp only [careF, e, h.hi i (by omega)]; rfl
  · funext i
    by_cases hi : i < n
    · have h2 := h.sub i
      simp only [onesF, txt, up_get _ _ _ hi]
      cases hc : c i <;> cases ho : o i <;> first | rfl | (rw [ho, hc] at h2; cases h2 rfl)
    · have e : (txt n c o)[i]? = none := List.getElem?_eq_none (by simp [txt]; omega)
      simp only [onesF, e, h.ohi i (by omega)]; rfl
  · simp only [txt, up, List.all_map, List.all_eq_true]
    intro i _
    exact dig_ok _ _
theorem Cub.nrm {t : List UInt8} {n : Nat} {c o : Nat → Bool} (h : Cub t n c o) : Nrm n c o := by
  refine ⟨by have := h.hn; have := h.le; omega, fun i hi => ?_, fun i hi => ?_⟩
  · rw [h.hc]
    have e : t[i]? = none := List.getElem?_eq_none (by have := h.hn; omega)
    simp [careF, e]
  · rw [h.ho] at hi
    rw [h.hc]
    simp only [onesF, beq_iff_eq] at hi
    simp [careF, hi]
theorem Cub.txt_eq {t : List UInt8} {n : Nat} {c o : Nat → Bool} (h : Cub t n c o) : t = txt n c o := by
  apply eq_up h.hn.symm
  intro i hi
  have := h.byte i hi
  simp only [byt, List.getD, this, Option.getD_some]
  rfl
theorem Cub.at_ {t : List UInt8} {n : Nat} {c o : Nat → Bool} (h : Cub t n c o) (i : Nat) (hi : i < n) : byt t i = dig (c i) (o i) := by
  have := h.byte i hi
  simp only [byt, List.getD, this, Option.getD_some]
  rfl
theorem Nrm.of_places {n : Nat} {c o : Nat → Bool} (h : Nrm n c o) {g : Nat → UInt8} (hg : ∀ i, i < n → g i = dig (c i) (o i)) : Cub (up g n) n c o := by
  rw [up_congr hg]; exact h.cub
end Go.Proofs.Ytoglcocplpdlhaa.Tn

namespace Go.Proofs.Ytoglcocplpdlhaa.Tn
open Go.RowKit
attribute [local go_sem] cv cs wv
def bor (f g : Nat → Bool) : Nat → Bool := fun i => f i || g i
def band (f g : Nat → Bool) : Nat → Bool := fun i => f i && g i
def bxor (f g : Nat → Bool) : Nat → Bool := fun i => f i ^^ g i
def bnot (f g : Nat → Bool) : Nat → Bool := fun i => f i && !g i
theorem or_wd (f g : Nat → Bool) (k : Nat) : bits .or .u64 ((wd f k : Nat) : Int) ((wd g k : Nat) : Int) = ((wd (bor f g) k : Nat) : Int) := by
  rw [u64_or_nat _ _ (wd_lt f k) (wd_lt g k), wd_or]; rfl
theorem and_wd (f g : Nat → Bool) (k : Nat) : bits .and .u64 ((wd f k : Nat) : Int) ((wd g k : Nat) : Int) = ((wd (band f g) k : Nat) : Int) := by
  rw [u64_and_nat _ _ (wd_lt f k) (wd_lt g k), wd_and]; rfl
theorem xor_wd (f g : Nat → Bool) (k : Nat) : bits .xor .u64 ((wd f k : Nat) : Int) ((wd g k : Nat) : Int) = ((wd (bxor f g) k : Nat) : Int) := by
  rw [u64_xor_nat _ _ (wd_lt f k) (wd_lt g k), wd_xor]; rfl
theorem andNot_wd (f g : Nat → Bool) (k : Nat) : bits .andNot .u64 ((wd f k : Nat) : Int) ((wd g k : Nat) : Int) = ((wd (bnot f g) k : Nat) : Int) := by
  rw [u64_andNot_nat _ _ (wd_lt f k) (wd_lt g k), wd_andNot]; rfl
attribute [local go_sem] or_wd and_wd xor_wd andNot_wd

def upd (k : Nat) (f g : Nat → Bool) : Nat → Bool := fun i => if i < 64 * k then g i else f i
theorem upd_zero (f g : Nat → Bool) : upd 0 f g = f := by funext i; simp [upd]
theorem wd_upd_at (k : Nat) (f g : Nat → Bool) : wd (upd k f g) k = wd f k := wd_congr fun j hj => by
  have : ¬ 64 * k + j < 64 * k := by omega
  simp [upd, this]
theorem wd_upd_next (k : Nat) (f g : Nat → Bool) : wd (upd (k + 1) f g) k = wd g k := wd_congr fun j hj => by
  have : 64 * k + j < 64 * (k + 1) := by omega
  simp [upd, this]
theorem wd_upd_ne (k : Nat) (f g : Nat → Bool) (j : Nat) (h : j ≠ k) : wd (upd (k + 1) f g) j = wd (upd k f g) j := wd_congr fun i hi => by
  by_cases h1 : j < k
  · have h2 : 64 * j + i < 64 * k := by omega
    have h3 : 64 * j + i < 64 * (k + 1) := by omega
    simp [upd, h2, h3]
  · have h2 : ¬ 64 * j + i < 64 * k := by omega
    have h3 : ¬ 64 * j + i < 64 * (k + 1) := by omega
    simp [upd, h2, h3]
theorem wd_upd_lt (k : Nat) (f g : Nat → Bool) (j : Nat) (h : j < k) : wd (upd k f g) j = wd g j := wd_congr fun i hi => by
  have h2 : 64 * j + i < 64 * k := by omega
  simp [upd, h2]
theorem cs_upd4 (n : Nat) (f g h i : Nat → Bool) : cs n (upd 4 f g) (upd 4 h i) = cs n g i := by
  simp [cs, wv, wd_upd_lt]
theorem cs_next_care (n k : Nat) (hk : k < 4) (f g h : Nat → Bool) : (cs n (upd k f g) h).setIfInBounds (1 + k) (wv g k) = cs n (upd (k + 1) f g) h := by
  rw [← cs_set_care n (upd k f g) (upd (k + 1) f g) h k hk (fun j hj => wd_upd_ne k f g j hj), wv, wv, wd_upd_next]
theorem cs_next_ones (n k : Nat) (hk : k < 4) (f g h : Nat → Bool) : (cs n h (upd k f g)).setIfInBounds (5 + k) (wv g k) = cs n h (upd (k + 1) f g) := by
  rw [← cs_set_ones n h (upd k f g) (upd (k + 1) f g) k hk (fun j hj => wd_upd_ne k f g j hj), wv, wv, wd_upd_next]
set_option maxHeartbeats 400000 in
theorem fits_yes (n m : Nat) (c o d p : Nat → Bool) (w : World) (h : n = m) (h0 : 0 < n) :
    Calls Try.prog 26 #[cv n c o, cv m d p] w fun e w' => e = .returned (.bool true) ∧ Below w.heap.size w w' := by
  subst h
  unfold cv cs wv
  go_enter Try.func26, Try.ntmps26
  go_wp2
  go_ret
  exact ⟨rfl, by go_grown⟩
set_option maxHeartbeats 400000 in
theorem fits_no (n m : Nat) (c o d p : Nat → Bool) (w : World) (h : ¬ (n = m ∧ 0 < n)) :
    Calls Try.prog 26 #[cv n c o, cv m d p] w fun e w' => e = .returned (.bool false) ∧ Below w.heap.size w w' := by
  unfold cv cs wv
  by_cases h1 : n = m
  · subst h1
    have h2 : n = 0 := by omega
    subst h2
    go_enter Try.func26, Try.ntmps26
    go_wp2
    go_ret
    exact ⟨rfl, by go_grown⟩
  · have h2 : ((n : Int) == (m : Int)) = false := by simp; omega
    clear h h1
    go_enter Try.func26, Try.ntmps26
    go_wp2
    go_ret
    exact ⟨rfl, by go_grown⟩
end Go.Proofs.Ytoglcocplpdlhaa.Tn

namespace Go.Proofs.Ytoglcocplpdlhaa.Tn
open Go.RowKit
attribute [local go_sem] cv cs wv or_wd and_wd xor_wd andNot_wd
theorem boxes3 {w w1 : World} {t : TypeId} {a b z : Array Value} (hb : Below (((w.alloc (.cells a t)).alloc (.cells b t)).alloc (.cells z t)).heap.size (((w.alloc (.cells a t)).alloc (.cells b t)).alloc (.cells z t)) w1) :
    Blk w1 w.heap.size t a ∧ Blk w1 (w.heap.size + 1) t b ∧ Blk w1 (w.heap.size + 1 + 1) t z ∧ Below w.heap.size w w1 := by
  refine ⟨(((Blk.new w t a).alloc _).alloc _).below hb (by simp; omega), ?_, ?_, Below.trans (by go_grown) (hb.mono (by simp; omega))⟩
  · have := ((Blk.new (w.alloc (.cells a t)) t b).alloc (.cells z t)).below hb (by simp)
    rw [World.size_alloc] at this
    exact this
  · have := (Blk.new ((w.alloc (.cells a t)).alloc (.cells b t)) t z).below hb (by simp)
    rw [World.size_alloc, World.size_alloc] at this
    exact this
def zs : Array Value := #[.int .i64 0, .int .u64 0, .int .u64 0, .int .u64 0, .int .u64 0, .int .u64 0, .int .u64 0, .int .u64 0, .int .u64 0]
theorem ne_off {b i j : Nat} (h : i ≠ j) : (⟨b, i, none⟩ : Addr) ≠ ⟨b, j, none⟩ := fun e => h (by have := congrArg Addr.off e; simpa using this)
def conf (c o d p : Nat → Bool) : Nat → Bool := band (band (bxor o p) c) d
set_option maxHeartbeats 1000000 in
theorem meet_yes (n : Nat) (c o d p : Nat → Bool) (w : World) (h0 : 0 < n) (hno : ∀ k, wd (conf c o d p) k = 0) :
    Calls Try.prog 23 #[cv n c o, cv n d p] w fun e w' => e = .returned (.tuple #[cv n (bor c d) (bor o p), .bool true]) ∧ Below w.heap.size w w' := by
  unfold cv cs wv
  unfold conf at hno
  have HN := Lib.hid hno
  clear hno
  go_enter Try.func23, Try.ntmps23
  go_wp2_with fail
  refine (fits_yes n n c o d p _ rfl h0).mono ?_
  rintro e w1 ⟨rfl, hb1⟩
  obtain ⟨h1, h2, h3, hbel⟩ := boxes3 hb1
  clear hb1
  go_wp2_with fail
  go_loopw [12] (fun i wr => ∃ k : Nat, k ≤ 4 ∧ i = .int .i64 k ∧ Blk wr w.heap.size 27 (cs n (upd k c (bor c d)) (upd k o (bor o p))) ∧ Blk wr (w.heap.size + 1) 27 (cs n d p) ∧ Blk wr (w.heap.size + 1 + 1) 27 zs ∧ Below w.heap.size w wr) (fun i _ => 4 - (intOf i).toNat)
  case atStart => exact ⟨0, by omega, rfl, by rw [upd_zero, upd_zero]; exact h1, h2, h3, hbel⟩
  case round =>
    clear h1 h2 h3 hbel
    obtain ⟨k, hk, rfl, h1, h2, h3, hbel⟩ := hrel
    by_cases hlt : k < 4
    · have c1 : wr.cell? ⟨w.heap.size, 1 + k, none⟩ = some (.int .u64 ((wd c k : Nat) : Int)) := by rw [h1.cell, cs_care _ _ _ _ hlt, wv, wd_upd_at]
      have c2 : wr.cell? ⟨w.heap.size, 5 + k, none⟩ = some (.int .u64 ((wd o k : Nat) : Int)) := by rw [h1.cell, cs_ones _ _ _ _ hlt, wv, wd_upd_at]
      have c3 : wr.cell? ⟨w.heap.size + 1, 1 + k, none⟩ = some (.int .u64 ((wd d k : Nat) : Int)) := by rw [h2.cell, cs_care _ _ _ _ hlt, wv]
      have c4 : wr.cell? ⟨w.heap.size + 1, 5 + k, none⟩ = some (.int .u64 ((wd p k : Nat) : Int)) := by rw [h2.cell, cs_ones _ _ _ _ hlt, wv]
      have f1 := h1.frozen
      have ha : (⟨w.heap.size, 1 + k, none⟩ : Addr) ≠ ⟨w.heap.size, 5 + k, none⟩ := ne_off (by omega)
      have c2' : (wr.setCell ⟨w.heap.size, 1 + k, none⟩ (.int .u64 ((wd (bor c d) k : Nat) : Int))).cell? ⟨w.heap.size, 5 + k, none⟩ = some (.int .u64 ((wd o k : Nat) : Int)) := by
        rw [World.cell?_setCell_other _ _ _ _ ha, c2]
      have c4' : (wr.setCell ⟨w.heap.size, 1 + k, none⟩ (.int .u64 ((wd (bor c d) k : Nat) : Int))).cell? ⟨w.heap.size + 1, 5 + k, none⟩ = some (.int .u64 ((wd p k : Nat) : Int)) := by
        rw [World.cell?_setCell_other _ _ _ _ (by simp), c4]
      clear ha
      have hz := HN.out k
      go_wp2
      go_region
      go_wp2
      go_region
      go_wp2
      go_region
      go_wp2
      go_roundw
      case rel =>
        have g1 := h1.set_ (1 + k) (wv (bor c d) k)
        rw [cs_next_care n k hlt] at g1
        have g2 := g1.set_ (5 + k) (wv (bor o p) k)
        rw [cs_next_ones n k hlt] at g2
        refine ⟨k + 1, by omega, by go_num, g2, ?_, ?_, ?_⟩
        · exact (h2.far (p := ⟨w.heap.size, 1 + k, none⟩) (by simp) _).far (p := ⟨w.heap.size, 5 + k, none⟩) (by simp) _
        · exact (h3.far (p := ⟨w.heap.size, 1 + k, none⟩) (by simp; omega) _).far (p := ⟨w.heap.size, 5 + k, none⟩) (by simp; omega) _
        · exact ((hbel.setCell (p := ⟨w.heap.size, 1 + k, none⟩) (by simp) _).setCell (p := ⟨w.heap.size, 5 + k, none⟩) (by simp) _).drew.drew.drew
      case measure => simp [intOf]; omega
    · obtain rfl : k = 4 := by omega
      rw [cs_upd4] at h1
      have c1 := h1.cell
      have c3 := h3.cell
      have f3 := h3.frozen
      unfold zs at c3
      go_wp2
      refine bodyPost_ret (v := .tuple #[.agg (cs n (bor c d) (bor o p)), .bool true]) (by simp [results, Try.results23, go_sem, c3]) rfl ⟨rfl, ?_⟩
      refine Below.trans hbel ?_
      go_grown
theorem conf_zero {f : Nat → Bool} (h : ∀ i, i < 256 → f i = false) : ∀ k, k < 4 → wd f k = 0 := fun k hk => wd_eq_zero.2 fun j hj => h _ (by omega)
set_option maxHeartbeats 1000000 in
theorem meet_conf (n : Nat) (c o d p : Nat → Bool) (w : World) (h0 : 0 < n) (i : Nat) (hi : i < 256) (hci : conf c o d p i = true) :
    Calls Try.prog 23 #[cv n c o, cv n d p] w fun e w' => e = .returned (.tuple #[cv 0 no no, .bool false]) ∧ Below w.heap.size w w' := by
  have hno : ¬ ∀ k, k < 4 → wd (conf c o d p) k = 0 := fun h => by
    have h1 := wd_eq_zero.1 (h (i / 64) (by omega)) (i % 64) (by omega)
    rw [show 64 * (i / 64) + i % 64 = i by omega, hci] at h1
    cases h1
  rw [cv_zero]
  unfold cv cs wv
  unfold conf at hno
  have HN := Lib.hid hno
  clear hno hci hi
  go_enter Try.func23, Try.ntmps23
  go_wp2_with fail
  refine (fits_yes n n c o d p _ rfl h0).mono ?_
  rintro e w1 ⟨rfl, hb1⟩
  obtain ⟨h1, h2, h3, hbel⟩ := boxes3 hb1
  clear hb1
  go_wp2_with fail
  go_loopw [12] (fun i wr => ∃ k : Nat, k ≤ 4 ∧ i = .int .i64 k ∧ (∀ j, j < k → wd (band (band (bxor o p) c) d) j = 0) ∧ Blk wr w.heap.size 27 (cs n (upd k c (bor c d)) (upd k o (bor o p))) ∧ Blk wr (w.heap.size + 1) 27 (cs n d p) ∧ Blk wr (w.heap.size + 1 + 1) 27 zs ∧ Below w.heap.size w wr) (fun i _ => 4 - (intOf i).toNat)
  case atStart => exact ⟨0, by omega, rfl, fun j hj => by omega, by rw [upd_zero, upd_zero]; exact h1, h2, h3, hbel⟩
  case round =>
    clear h1 h2 h3 hbel
    obtain ⟨k, hk, rfl, hall, h1, h2, h3, hbel⟩ := hrel
    have HL := Lib.hid hall
    clear hall
    by_cases hlt : k < 4
    · have c1 : wr.cell? ⟨w.heap.size, 1 + k, none⟩ = some (.int .u64 ((wd c k : Nat) : Int)) := by rw [h1.cell, cs_care _ _ _ _ hlt, wv, wd_upd_at]
      have c2 : wr.cell? ⟨w.heap.size, 5 + k, none⟩ = some (.int .u64 ((wd o k : Nat) : Int)) := by rw [h1.cell, cs_ones _ _ _ _ hlt, wv, wd_upd_at]
      have c3 : wr.cell? ⟨w.heap.size + 1, 1 + k, none⟩ = some (.int .u64 ((wd d k : Nat) : Int)) := by rw [h2.cell, cs_care _ _ _ _ hlt, wv]
      have c4 : wr.cell? ⟨w.heap.size + 1, 5 + k, none⟩ = some (.int .u64 ((wd p k : Nat) : Int)) := by rw [h2.cell, cs_ones _ _ _ _ hlt, wv]
      by_cases hz : wd (band (band (bxor o p) c) d) k = 0
      · have f1 := h1.frozen
        have ha : (⟨w.heap.size, 1 + k, none⟩ : Addr) ≠ ⟨w.heap.size, 5 + k, none⟩ := ne_off (by omega)
        have c2' : (wr.setCell ⟨w.heap.size, 1 + k, none⟩ (.int .u64 ((wd (bor c d) k : Nat) : Int))).cell? ⟨w.heap.size, 5 + k, none⟩ = some (.int .u64 ((wd o k : Nat) : Int)) := by
          rw [World.cell?_setCell_other _ _ _ _ ha, c2]
        have c4' : (wr.setCell ⟨w.heap.size, 1 + k, none⟩ (.int .u64 ((wd (bor c d) k : Nat) : Int))).cell? ⟨w.heap.size + 1, 5 + k, none⟩ = some (.int .u64 ((wd p k : Nat) : Int)) := by
          rw [World.cell?_setCell_other _ _ _ _ (by simp), c4]
        clear ha
        go_wp2
        go_region
        go_wp2
        go_region
        go_wp2
        go_region
        go_wp2
        go_roundw
        case rel =>
          have g1 := h1.set_ (1 + k) (wv (bor c d) k)
          rw [cs_next_care n k hlt] at g1
          have g2 := g1.set_ (5 + k) (wv (bor o p) k)
          rw [cs_next_ones n k hlt] at g2
          refine ⟨k + 1, by omega, by go_num, fun j hj => ?_, g2, ?_, ?_, ?_⟩
          · rcases Nat.lt_or_ge j k with hjk | hjk
            · exact HL.out j hjk
            · obtain rfl : j = k := by omega
              exact hz
          · exact (h2.far (p := ⟨w.heap.size, 1 + k, none⟩) (by simp) _).far (p := ⟨w.heap.size, 5 + k, none⟩) (by simp) _
          · exact (h3.far (p := ⟨w.heap.size, 1 + k, none⟩) (by simp; omega) _).far (p := ⟨w.heap.size, 5 + k, none⟩) (by simp; omega) _
          · exact ((hbel.setCell (p := ⟨w.heap.size, 1 + k, none⟩) (by simp) _).setCell (p := ⟨w.heap.size, 5 + k, none⟩) (by simp) _).drew.drew.drew
        case measure => simp [intOf]; omega
      · have hb : (((wd (band (band (bxor o p) c) d) k : Nat) : Int) != 0) = true := by simp; omega
        clear hz
        have c5 := h3.cell
        have f5 := h3.frozen
        unfold zs at c5
        go_wp2
        go_region
        go_wp2
        refine bodyPost_ret (v := .tuple #[.agg #[.int .i64 0, .int .u64 0, .int .u64 0, .int .u64 0, .int .u64 0, .int .u64 0, .int .u64 0, .int .u64 0, .int .u64 0], .bool false]) (by simp [results, Try.results23, go_sem, c5]) rfl ⟨rfl, ?_⟩
        refine Below.trans hbel ?_
        go_grown
    · exact absurd (fun j hj => HL.out j (by omega)) HN.out
theorem meet_unfit (n m : Nat) (c o d p : Nat → Bool) (w : World) (h : ¬ (n = m ∧ 0 < n)) :
    Calls Try.prog 23 #[cv n c o, cv m d p] w fun e w' => e = .returned (.tuple #[cv 0 no no, .bool false]) ∧ Below w.heap.size w w' := by
  rw [cv_zero]
  unfold cv cs wv
  go_enter Try.func23, Try.ntmps23
  go_wp2_with fail
  refine (fits_no n m c o d p _ h).mono ?_
  rintro e w1 ⟨rfl, hb1⟩
  obtain ⟨h1, h2, h3, hbel⟩ := boxes3 hb1
  clear hb1
  have c3 := h3.cell
  have f3 := h3.frozen
  go_wp2_with fail
  refine bodyPost_ret (v := .tuple #[.agg #[.int .i64 0, .int .u64 0, .int .u64 0, .int .u64 0, .int .u64 0, .int .u64 0, .int .u64 0, .int .u64 0, .int .u64 0], .bool false]) (by simp [results, Try.results23, go_sem, c3]) rfl ⟨rfl, ?_⟩
  refine Below.trans hbel ?_
  go_grown
end Go.Proofs.Ytoglcocplpdlhaa.Tn

namespace Go.Proofs.Ytoglcocplpdlhaa.Tn
open Go.RowKit
attribute [local go_sem] cv cs wv eq_arr
theorem Cub.eq_iff {t t' : List UInt8} {n n' : Nat} {c c' o o' : Nat → Bool} (h : Cub t n c o) (h' : Cub t' n' c' o') : (n = n' ∧ (∀ i, i < 256 → c i = c' i) ∧ ∀ i, i < 256 → o i = o' i) ↔ t = t' := by
  constructor
  · rintro ⟨h1, h2, h3⟩
    apply List.ext_getElem?
    intro i
    by_cases hi : i < n
    · have h256 : i < 256 := by have := h.hn; have := h.le; omega
      rw [h.byte i hi, h'.byte i (by omega), h2 i h256, h3 i h256]
    · rw [List.getElem?_eq_none (by have := h.hn; omega), List.getElem?_eq_none (by have := h'.hn; omega)]
  · intro e
    subst e
    obtain ⟨rfl, rfl, rfl⟩ := h.same h'
    exact ⟨rfl, fun _ _ => rfl, fun _ _ => rfl⟩
theorem eq_two {t t' : List UInt8} {n n' : Nat} {c c' o o' : Nat → Bool} (h : Cub t n c o) (h' : Cub t' n' c' o') (w : World) : (binOp .eql 27 (cv n c o) (cv n' c' o')).run Try.prog w = .ok (.bool (decide (t = t'))) w := by
  unfold cv cs wv
  rw [run_eql_struct, eq_cube]
  simp only [Result.andThen_ok]
  congr 2
  rw [Bool.eq_iff_iff, wd_beq, h.eq_iff h']
  simp
def l10x : List UInt8 := [49, 48, 120]
theorem parses_end (s : ByteArray) : (decide (cubeT s.data.toList = cubeT l10x) == (s.toList == l10x)) = true := by
  have e : cubeT l10x = l10x := by decide
  rw [e, ByteArray.toList_eq, beq_iff_eq, Bool.eq_iff_iff, decide_eq_true_eq, beq_iff_eq]
  constructor
  · intro h
    unfold cubeT at h
    split at h
    · exact h
    · simp [l10x] at h
  · intro h; rw [h, e]
end Go.Proofs.Ytoglcocplpdlhaa.Tn

namespace Go.Proofs.Ytoglcocplpdlhaa.Tn
open Go.RowKit
attribute [local go_sem] cv cs wv or_wd and_wd xor_wd andNot_wd

def fitT (t u : List UInt8) : Prop := t ≠ [] ∧ t.length = u.length
instance (t u : List UInt8) : Decidable (fitT t u) := by unfold fitT; infer_instance
def clash (x y : UInt8) : Prop := x ≠ 120 ∧ y ≠ 120 ∧ x ≠ y
instance (x y : UInt8) : Decidable (clash x y) := by unfold clash; infer_instance
def meetOk (t u : List UInt8) : Prop := fitT t u ∧ ∀ i, i < t.length → ¬ clash (byt t i) (byt u i)
instance (t u : List UInt8) : Decidable (meetOk t u) := by unfold meetOk; infer_instance
def meetF (t u : List UInt8) (i : Nat) : UInt8 := if byt t i = 120 then byt u i else byt t i
def meetT (t u : List UInt8) : List UInt8 := if meetOk t u then up (meetF t u) t.length else []
def writeF (t u : List UInt8) (i : Nat) : UInt8 := if byt u i = 120 then byt t i else byt u i
def writeT (t u : List UInt8) : List UInt8 := if fitT t u then up (writeF t u) t.length else []
def beforeF (t u : List UInt8) (i : Nat) : UInt8 := if byt u i = 120 then byt t i else 120
def beforeT (t u : List UInt8) : List UInt8 := if meetOk t u then up (beforeF t u) t.length else []
def withinOk (t u : List UInt8) : Prop := fitT t u ∧ ∀ i, i < t.length → byt u i = 120 ∨ byt t i = byt u i
instance (t u : List UInt8) : Decidable (withinOk t u) := by unfold withinOk; infer_instance

section
variable {t u : List UInt8} {n m : Nat} {c o d p : Nat → Bool}
theorem fit_iff (h : Cub t n c o) (h' : Cub u m d p) : fitT t u ↔ (n = m ∧ 0 < n) := by
  have e1 := h.hn
  have e2 := h'.hn
  unfold fitT
  constructor
  · rintro ⟨h0, h1⟩
    refine ⟨by omega, ?_⟩
    cases t with
    | nil => exact absurd rfl h0
    | cons b l => simp at e1; omega
  · rintro ⟨h0, h1⟩
    refine ⟨?_, by omega⟩
    rintro rfl
    simp at e1; omega
theorem clash_dig (c o d p : Bool) (h : o = true → c = true) (h' : p = true → d = true) : clash (dig c o) (dig d p) ↔ (((o ^^ p) && c) && d) = true := by
  cases c <;> cases o <;> cases d <;> cases p <;> simp_all [clash, dig]
theorem clash_conf (h : Cub t n c o) (h' : Cub u n d p) (i : Nat) (hi : i < n) : clash (byt t i) (byt u i) ↔ conf c o d p i = true := by
  rw [h.at_ i hi, h'.at_ i hi, clash_dig _ _ _ _ (h.nrm.sub i) (h'.nrm.sub i)]
  rfl
theorem noconf_iff (h : Cub t n c o) (h' : Cub u n d p) : (∀ i, i < t.length → ¬ clash (byt t i) (byt u i)) ↔ ∀ i, i < 256 → conf c o d p i = false := by
  have e := h.hn
  constructor
  · intro H i hi
    by_cases hn : i < n
    · have := H i (by omega)
      rw [clash_conf h h' i hn] at this
      simpa using this
    · have h1 := h.nrm.hi i (by omega)
      simp [conf, band, h1]
  · intro H i hi
    rw [clash_conf h h' i (by omega), H i (by have := h.le; omega)]
    simp
theorem Nrm.bor (h : Nrm n c o) (h' : Nrm n d p) : Nrm n (bor c d) (bor o p) := by
  refine ⟨h.le, fun i hi => by simp [Tn.bor, h.hi i hi, h'.hi i hi], fun i hi => ?_⟩
  simp only [Tn.bor, Bool.or_eq_true] at hi ⊢
  exact hi.imp (h.sub i) (h'.sub i)
theorem meet_cub (h : Cub t n c o) (h' : Cub u n d p) (hno : ∀ i, i < 256 → conf c o d p i = false) (hok : meetOk t u) : Cub (meetT t u) n (bor c d) (bor o p) := by
  unfold meetT
  rw [if_pos hok, ← h.hn]
  refine (h.nrm.bor h'.nrm).of_places fun i hi => ?_
  have hc := hno i (by have := h.nrm.le; omega)
  have s1 := h.nrm.sub i
  have s2 := h'.nrm.sub i
  unfold meetF
  rw [h.at_ i hi, h'.at_ i hi]
  simp only [conf, band, bxor, Tn.bor] at hc ⊢
  generalize c i = a at *; generalize o i = b at *; generalize d i = e at *; generalize p i = f at *
  cases a <;> cases b <;> cases e <;> cases f <;> simp_all [dig]
theorem write_cub (h : Cub t n c o) (h' : Cub u n d p) (hok : fitT t u) : Cub (writeT t u) n (bor c d) (bor (bnot o d) p) := by
  unfold writeT
  rw [if_pos hok, ← h.hn]
  have hN : Nrm n (bor c d) (bor (bnot o d) p) := by
    refine ⟨h.nrm.le, fun i hi => by simp [bor, h.nrm.hi i hi, h'.nrm.hi i hi], fun i hi => ?_⟩
    have s1 := h.nrm.sub i
    have s2 := h'.nrm.sub i
    simp only [bor, bnot] at hi ⊢
    generalize c i = a at *; generalize o i = b at *; generalize d i = e at *; generalize p i = f at *
    cases a <;> cases b <;> cases e <;> cases f <;> simp_all
  refine hN.of_places fun i hi => ?_
  have s1 := h.nrm.sub i
  have s2 := h'.nrm.sub i
  unfold writeF
  rw [h.at_ i hi, h'.at_ i hi]
  simp only [bnot, Tn.bor]
  generalize c i = a at *; generalize o i = b at *; generalize d i = e at *; generalize p i = f at *
  cases a <;> cases b <;> cases e <;> cases f <;> simp_all [dig]
theorem before_cub (h : Cub t n c o) (h' : Cub u n d p) (hno : ∀ i, i < 256 → conf c o d p i = false) (hok : meetOk t u) : Cub (beforeT t u) n (bnot c d) (bnot o d) := by
  unfold beforeT
  rw [if_pos hok, ← h.hn]
  have hN : Nrm n (bnot c d) (bnot o d) := by
    refine ⟨h.nrm.le, fun i hi => by simp [bnot, h.nrm.hi i hi], fun i hi => ?_⟩
    have s1 := h.nrm.sub i
    simp only [bnot, Bool.and_eq_true] at hi ⊢
    exact ⟨s1 hi.1, hi.2⟩
  refine hN.of_places fun i hi => ?_
  have hc := hno i (by have := h.nrm.le; omega)
  have s1 := h.nrm.sub i
  have s2 := h'.nrm.sub i
  unfold beforeF
  rw [h.at_ i hi, h'.at_ i hi]
  simp only [conf, band, bxor, bnot] at hc ⊢
  generalize c i = a at *; generalize o i = b at *; generalize d i = e at *; generalize p i = f at *
  cases a <;> cases b <;> cases e <;> cases f <;> simp_all [dig]
theorem within_cub (hok : meetOk t u) : meetT t u = t ↔ withinOk t u := by
  unfold meetT
  rw [if_pos hok]
  unfold withinOk
  constructor
  · intro H
    refine ⟨hok.1, fun i hi => ?_⟩
    have h1 : byt (up (meetF t u) t.length) i = byt t i := by rw [H]
    rw [byt_up _ _ _ hi] at h1
    unfold meetF at h1
    by_cases ht : byt t i = 120
    · rw [if_pos ht] at h1
      exact .inr h1.symm
    · by_cases hu : byt u i = 120
      · exact .inl hu
      · by_cases he : byt t i = byt u i
        · exact .inr he
        · exact absurd ⟨ht, hu, he⟩ (hok.2 i hi)
  · rintro ⟨_, H⟩
    rw [← up_byt t]
    simp only [up_length]
    refine up_congr fun i hi => ?_
    rw [up_byt]
    unfold meetF
    split
    · rename_i ht
      rcases H i hi with h1 | h1
      · rw [h1, ht]
      · exact h1.symm
    · rfl
end
theorem within_meet {t u : List UInt8} (h : withinOk t u) : meetOk t u := by
  refine ⟨h.1, fun i hi hc => ?_⟩
  rcases h.2 i hi with h1 | h1
  · exact hc.2.1 h1
  · exact hc.2.2 h1

theorem meet_any {t u : List UInt8} {n m : Nat} {c o d p : Nat → Bool} (h : Cub t n c o) (h' : Cub u m d p) (w : World) :
    Calls Try.prog 23 #[cv n c o, cv m d p] w fun e w' => ∃ n' c' o', Cub (meetT t u) n' c' o' ∧ e = .returned (.tuple #[cv n' c' o', .bool (decide (meetOk t u))]) ∧ Below w.heap.size w w' := by
  by_cases hf : fitT t u
  · obtain ⟨rfl, h0⟩ := (fit_iff h h').1 hf
    by_cases hc : ∀ i, i < 256 → conf c o d p i = false
    · have hok : meetOk t u := ⟨hf, (noconf_iff h h').2 hc⟩
      have hz : ∀ k, wd (conf c o d p) k = 0 := fun k => wd_eq_zero.2 fun j hj => by
        by_cases h256 : 64 * k + j < 256
        · exact hc _ h256
        · have := h.nrm.hi (64 * k + j) (by have := h.nrm.le; omega)
          simp [conf, band, this]
      rw [decide_eq_true hok]
      exact (meet_yes n c o d p w h0 hz).mono fun e w' ⟨he, hb⟩ => ⟨_, _, _, meet_cub h h' hc hok, he, hb⟩
    · have hok : ¬ meetOk t u := fun H => hc ((noconf_iff h h').1 H.2)
      have e1 : meetT t u = [] := by unfold meetT; rw [if_neg hok]
      rw [e1, decide_eq_false hok]
      have ⟨i, hi, hci⟩ : ∃ i, i < 256 ∧ conf c o d p i = true := by
        simp only [Classical.not_forall] at hc
        obtain ⟨i, hi, hci⟩ := hc
        exact ⟨i, hi, by simpa using hci⟩
      exact (meet_conf n c o d p w h0 i hi hci).mono fun e w' ⟨he, hb⟩ => ⟨_, _, _, nilCub, he, hb⟩
  · have h1 : ¬ (n = m ∧ 0 < n) := fun e => hf ((fit_iff h h').2 e)
    have hok : ¬ meetOk t u := fun H => hf H.1
    have e1 : meetT t u = [] := by unfold meetT; rw [if_neg hok]
    rw [e1, decide_eq_false hok]
    exact (meet_unfit n m c o d p w h1).mono fun e w' ⟨he, hb⟩ => ⟨_, _, _, nilCub, he, hb⟩
end Go.Proofs.Ytoglcocplpdlhaa.Tn

namespace Go.Proofs.Ytoglcocplpdlhaa.Tn
open Go.RowKit

theorem app_byte {B : Nat} {v : Value} {n : Nat} {l : List UInt8} {w : World} (b : UInt8) {ops : Array Oper} {rest : List Oper} {o : Oper} {a : Act} {Q : Exit → Act → World → Prop} {s x : Operand}
    (hown : w.ownsRow B 5 1 v n (l.map bv)) (hgd : o.guard = none) (ho : o.op = .call { callee := .builtin .append, args := #[s, x], argTypes := #[42, 42] })
    (hs : a.eval s = v) (hx : a.eval x = .slice (some ⟨w.heap.size, 0, none⟩) 1 1) (hn : n ≤ 1000000) (hB : B ≤ w.heap.size)
    (h : ∀ v' w', w'.ownsRow B 5 1 v' (n + 1) ((l ++ [b]).map bv) → Below B w w' → wpList Try.prog ops Q rest (a.put o.dst v') w') : wpList Try.prog ops Q (o :: rest) a (w.alloc (.cells #[bv b] 5)) := by
  obtain ⟨i0, hi, hz0, hz1, hz2⟩ := info_parts info_byte
  refine wpList_append_own _ hgd s x 42 ho B 5 i0 (.int .u8 0) 1 1 Try.underlying42 hi hz0 hz1 hz2 rfl (by decide) v n _ hs (hown.alloc _) ⟨w.heap.size, 0, none⟩ 1 1 [bv b] hx rfl (cell_one_new _ _ _)
    (by simp [bv, Value.oneCell']) (by simp only [maxLen]; omega) (by omega) (by simp; omega) ?_
  intro v' w1 hown' hg _
  refine h v' w1 (by rw [List.map_append]; exact hown') ?_
  have h1 : Below B w (w.alloc (.cells #[bv b] 5)) := (Below.refl _ _).alloc hB _
  exact h1.grown hg (by simp; omega) (fun k hk => (hown.lt k hk).1)
theorem str_own {w : World} {B : Nat} {v : Value} {n : Nat} {l : List UInt8} (h : w.ownsRow B 5 1 v n (l.map bv)) : (convert 42 9 v).run Try.prog w = .ok (.string (str l)) w :=
  run_string_own Try.underlying42 Try.underlying5 Try.underlying9 h
theorem own_nil (w : World) (B : Nat) : w.ownsRow B 5 1 (.slice none 0 0) 0 (([] : List UInt8).map bv) := World.ownsRow_nil w B 5 1

theorem ieq_ne {b c : UInt8} (h : ¬ b = c) : ((b.toNat : Int) == (c.toNat : Int)) = false := by
  rw [beq_eq_false_iff_ne]
  intro e
  exact h (UInt8.toNat_inj.1 (by omega))

theorem rfit_any (a b : ByteArray) (w : World) : Calls Try.prog 27 #[.string a, .string b] w fun e w' => e = .returned (.bool (decide (fitT a.data.toList b.data.toList))) ∧ w = w' := by
  have ha := len_s a
  have hb := len_s b
  by_cases h0 : a.size = 0
  · have he := isEmpty_yes a h0
    have hd : decide (fitT a.data.toList b.data.toList) = false := decide_eq_false fun H => H.1 (List.eq_nil_of_length_eq_zero (by omega))
    rw [hd]
    clear hd ha hb h0
    go_enter Try.func27, Try.ntmps27
    go_wp2
    go_ret
    exact ⟨rfl, rfl⟩
  · have he := isEmpty_no a (by omega)
    by_cases h1 : a.size = b.size
    · have hd : decide (fitT a.data.toList b.data.toList) = true := decide_eq_true ⟨fun e => by rw [e] at ha; simp at ha; omega, by omega⟩
      rw [hd]
      have h2 : ((a.size : Int) == (b.size : Int)) = true := by simp [h1]
      clear hd ha hb h0 h1
      go_enter Try.func27, Try.ntmps27
      go_wp2
      go_ret
      exact ⟨rfl, rfl⟩
    · have hd : decide (fitT a.data.toList b.data.toList) = false := decide_eq_false fun H => h1 (by have := H.2; omega)
      rw [hd]
      have h2 : ((a.size : Int) == (b.size : Int)) = false := by simp; omega
      clear hd ha hb h0 h1
      go_enter Try.func27, Try.ntmps27
      go_wp2
      go_ret
      exact ⟨rfl, rfl⟩
end Go.Proofs.Ytoglcocplpdlhaa.Tn

namespace Go.Proofs.Ytoglcocplpdlhaa.Tn
open Go.RowKit
attribute [local go_sem] cv cs wv
def allT (b : Int) : List UInt8 := if 1 ≤ b ∧ b ≤ 256 then List.replicate b.toNat 120 else []
theorem all_cub (b : Nat) (h1 : 1 ≤ b) (h2 : b ≤ 256) : Cub (allT b) b no no := by
  have e : allT b = txt b no no := by
    unfold allT
    rw [if_pos (by omega)]
    apply List.ext_getElem?
    intro i
    by_cases hi : i < b
    · rw [txt, up_get _ _ _ hi]; simp [hi, dig, no]
    · rw [List.getElem?_eq_none (by simp; omega), List.getElem?_eq_none (by simp [txt]; omega)]
  rw [e]
  exact Nrm.cub ⟨h2, fun _ _ => rfl, fun i h => by cases h⟩
def good (t h : List UInt8) (j : Nat) : Prop := (byt h j = 48 ∨ byt h j = 49) ∧ (byt t j = 120 ∨ byt t j = byt h j)
instance (t h : List UInt8) (j : Nat) : Decidable (good t h j) := by unfold good; infer_instance
def hasOk (t h : List UInt8) : Prop := (t ≠ [] ∧ t.length = h.length) ∧ ∀ j, j < t.length → good t h j
instance (t h : List UInt8) : Decidable (hasOk t h) := by unfold hasOk; infer_instance
theorem dig_cases (c o : Bool) (x : UInt8) (hx : x = 48 ∨ x = 49) (hs : o = true → c = true) : (dig c o = 120 ∨ dig c o = x) ↔ (c && (o != (x == 49))) = false := by
  cases c <;> cases o <;> rcases hx with rfl | rfl <;> simp_all [dig]
end Go.Proofs.Ytoglcocplpdlhaa.Tn

namespace Go.Proofs.Ytoglcocplpdlhaa.Tn
open Go.RowKit
theorem own_drewN {w : World} {base : Nat} {e : TypeId} {size : Nat} {v : Value} {n : Nat} {xs : List Value} (h : w.ownsRow base e size v n xs) (k : Nat) : (w.drewN k).ownsRow base e size v n xs := h
theorem be_no {b c : UInt8} (h : b = c) : ((b.toNat : Int) != (c.toNat : Int)) = false := by subst h; simp
set_option maxHeartbeats 1000000 in
theorem rmeet_any (a b : ByteArray) (w : World) (hl : a.size ≤ 256) :
    Calls Try.prog 24 #[.string a, .string b] w fun e w' => e = .returned (.tuple #[.string (str (meetT a.data.toList b.data.toList)), .bool (decide (meetOk a.data.toList b.data.toList))]) ∧ Below w.heap.size w w' := by
  have hf := rfit_any a b
  by_cases hF : fitT a.data.toList b.data.toList
  · have ha := len_s a
    have hb := len_s b
    have hsz : b.size = a.size := by have := hF.2; omega
    have HFit := Lib.hid hF
    rw [decide_eq_true hF] at hf
    have HF := Lib.hid hf
    have HS := Lib.hid hsz
    have HA := Lib.hid ha
    clear hf hF ha hb hsz
    go_enter Try.func24, Try.ntmps24
    go_wp2_with fail
    refine (HF.out _).mono ?_
    rintro e w1 ⟨rfl, rfl⟩
    go_wp2_with fail
    go_loopw [7, 8] (fun v i wr => ∃ k : Nat, k ≤ a.size ∧ i = .int .i64 k ∧ (∀ j, j < k → ¬ clash (byt a.data.toList j) (byt b.data.toList j)) ∧ wr.ownsRow w.heap.size 5 1 v k ((up (meetF a.data.toList b.data.toList) k).map bv) ∧ Below w.heap.size w wr) (fun _ i _ => a.size - (intOf i).toNat)
    case atStart => exact ⟨0, Nat.zero_le _, rfl, fun j hj => by omega, own_nil _ _, Below.refl _ _⟩
    case round =>
      obtain ⟨k, hk, rfl, hall, hown, hbel⟩ := hrel
      have HL := Lib.hid hall
      clear hall
      by_cases hlt : k < a.size
      · have hlb : k < b.size := by rw [HS.out]; exact hlt
        have hba := byt_str a k hlt
        have hbb := byt_str b k hlb
        by_cases hx : a[k] = 120
        · have t1 := ne_no120 hx
          have t2 := is120 hx
          have HV : Hid (meetF a.data.toList b.data.toList k = b[k] ∧ ¬ clash (byt a.data.toList k) (byt b.data.toList k)) := by
            refine ⟨by unfold meetF; rw [hba, if_pos hx, hbb], fun H => H.1 (by rw [hba]; exact hx)⟩
          clear hba hbb hx
          go_wp2
          go_quiet (fail)
          have hown' := own_drewN hown nq
          have hbel' := below_drewN hbel nq
          clear hown hbel
          go_wp2_with (at_builtin; refine app_byte b[k] hown' rfl rfl rfl rfl (by omega) hbel'.size ?_; intro v' w2 hown2 hb2)
          go_roundw
          case rel =>
            refine ⟨k + 1, by omega, by go_num, fun j hj => ?_, by rw [up_succ, HV.out.1]; exact hown2, hbel'.trans hb2⟩
            rcases Nat.lt_or_ge j k with hjk | hjk
            · exact HL.out j hjk
            · obtain rfl : j = k := by omega
              exact HV.out.2
          case measure => simp [intOf]; omega
        · by_cases hy : b[k] = 120
          · have t1 := ne_yes120 hx
            have t2 := ne_no120 hy
            have t3 := not120 hx
            have HV : Hid (meetF a.data.toList b.data.toList k = a[k] ∧ ¬ clash (byt a.data.toList k) (byt b.data.toList k)) := by
              refine ⟨by unfold meetF; rw [hba, if_neg hx], fun H => H.2.1 (by rw [hbb]; exact hy)⟩
            clear hba hbb hx hy
            go_wp2
            go_quiet (fail)
            have hown' := own_drewN hown nq
            have hbel' := below_drewN hbel nq
            clear hown hbel
            go_wp2_with (at_builtin; refine app_byte a[k] hown' rfl rfl rfl rfl (by omega) hbel'.size ?_; intro v' w2 hown2 hb2)
            go_roundw
            case rel =>
              refine ⟨k + 1, by omega, by go_num, fun j hj => ?_, by rw [up_succ, HV.out.1]; exact hown2, hbel'.trans hb2⟩
              rcases Nat.lt_or_ge j k with hjk | hjk
              · exact HL.out j hjk
              · obtain rfl : j = k := by omega
                exact HV.out.2
            case measure => simp [intOf]; omega
          · by_cases he : a[k] = b[k]
            · have t1 := ne_yes120 hx
              have t2 := ne_yes120 hy
              have t3 := not120 hx
              have t4 := be_no he
              have HV : Hid (meetF a.data.toList b.data.toList k = a[k] ∧ ¬ clash (byt a.data.toList k) (byt b.data.toList k)) := by
                refine ⟨by unfold meetF; rw [hba, if_neg hx], fun H => H.2.2 (by rw [hba, hbb]; exact he)⟩
              clear hba hbb hx hy he
              go_wp2
              go_quiet (fail)
              have hown' := own_drewN hown nq
              have hbel' := below_drewN hbel nq
              clear hown hbel
              go_wp2_with (at_builtin; refine app_byte a[k] hown' rfl rfl rfl rfl (by omega) hbel'.size ?_; intro v' w2 hown2 hb2)
              go_roundw
              case rel =>
                refine ⟨k + 1, by omega, by go_num, fun j hj => ?_, by rw [up_succ, HV.out.1]; exact hown2, hbel'.trans hb2⟩
                rcases Nat.lt_or_ge j k with hjk | hjk
                · exact HL.out j hjk
                · obtain rfl : j = k := by omega
                  exact HV.out.2
              case measure => simp [intOf]; omega
            · have t1 := ne_yes120 hx
              have t2 := ne_yes120 hy
              have t4 := ne_yes he
              have hok : ¬ meetOk a.data.toList b.data.toList := fun H => H.2 k (by have := HA.out; omega) ⟨by rw [hba]; exact hx, by rw [hbb]; exact hy, by rw [hba, hbb]; exact he⟩
              have HO : Hid (meetT a.data.toList b.data.toList = [] ∧ decide (meetOk a.data.toList b.data.toList) = false) := ⟨by unfold meetT; rw [if_neg hok], decide_eq_false hok⟩
              clear hba hbb hx hy he hok
              go_wp2
              go_quiet (fail)
              go_wp2
              go_ret2
              refine ⟨?_, below_drewN hbel _⟩
              rw [HO.out.1, HO.out.2]
              rfl
      · obtain rfl : k = a.size := by omega
        have hst := str_own hown
        have hok : meetOk a.data.toList b.data.toList := ⟨HFit.out, fun j hj => HL.out j (by have := HA.out; omega)⟩
        have HO : Hid (meetT a.data.toList b.data.toList = up (meetF a.data.toList b.data.toList) a.size ∧ decide (meetOk a.data.toList b.data.toList) = true) := ⟨by unfold meetT; rw [if_pos hok, HA.out], decide_eq_true hok⟩
        clear hok
        go_wp2
        go_ret2
        refine ⟨?_, hbel⟩
        rw [HO.out.1, HO.out.2]
        rfl
  · have hok : ¬ meetOk a.data.toList b.data.toList := fun H => hF H.1
    have HO : Hid (meetT a.data.toList b.data.toList = [] ∧ decide (meetOk a.data.toList b.data.toList) = false) := ⟨by unfold meetT; rw [if_neg hok], decide_eq_false hok⟩
    rw [decide_eq_false hF] at hf
    have HF := Lib.hid hf
    clear hf hF hok
    go_enter Try.func24, Try.ntmps24
    go_wp2_with fail
    refine (HF.out _).mono ?_
    rintro e w1 ⟨rfl, rfl⟩
    go_wp2_with fail
    go_ret2
    refine ⟨?_, Below.refl _ _⟩
    rw [HO.out.1, HO.out.2]
    rfl
end Go.Proofs.Ytoglcocplpdlhaa.Tn

namespace Go.Proofs.Ytoglcocplpdlhaa.Tn
open Go.RowKit
attribute [local go_sem] cv cs wv or_wd and_wd xor_wd andNot_wd
theorem decide_not_eq_false {p : Prop} [Decidable p] (h : p) : (!decide p) = false := by simp [h]
theorem decide_not_eq_true {p : Prop} [Decidable p] (h : ¬ p) : (!decide p) = true := by simp [h]
end Go.Proofs.Ytoglcocplpdlhaa.Tn

namespace Go.Proofs.Ytoglcocplpdlhaa.Tn
open Go.RowKit
theorem be_yes {b c : UInt8} (h : b = c) : ((b.toNat : Int) == (c.toNat : Int)) = true := by subst h; simp
theorem be_not {b c : UInt8} (h : ¬ b = c) : ((b.toNat : Int) == (c.toNat : Int)) = false := not_byte h
end Go.Proofs.Ytoglcocplpdlhaa.Tn

namespace Go.Proofs.Ytoglcocplpdlhaa.Tn
open Go.RowKit
attribute [local go_sem] cv cs wv eq_arr
theorem wf_small (b : Nat) (h : b < 1000) : (Lit.int .i64 (b : Int)).wf = true := WalkArith.wf_i64 (by omega)
theorem cubeT_size (l : List UInt8) : (str (cubeT l)).size ≤ 256 := by rw [str_size]; exact (cubeT_ok l).1
theorem bnx {w a b : World} (h : Below w.heap.size w a) (k : Below a.heap.size a b) : Below w.heap.size w b := h.trans (k.mono h.size)
theorem bal {w a : World} (h : Below w.heap.size w a) (o : Obj) : Below w.heap.size w (a.alloc o) := h.alloc h.size o
end Go.Proofs.Ytoglcocplpdlhaa.Tn

namespace Go.Proofs.Ytoglcocplpdlhaa.Tn
open Go.RowKit
def ccells (t : List UInt8) : List Value := (cs t.length (careF t) (onesF t)).toList
def crow (L : List (List UInt8)) : List Value := L.flatMap ccells
def srow (L : List (List UInt8)) : List Value := L.map fun t => .string (str t)
theorem ccells_len (t : List UInt8) : (ccells t).length = 9 := rfl
theorem Cub.cells {t : List UInt8} {n : Nat} {c o : Nat → Bool} (h : Cub t n c o) : (cs n c o).toList = ccells t := by rw [h.hn, h.hc, h.ho]; rfl
theorem crow_len (L : List (List UInt8)) : (crow L).length = L.length * 9 := by
  induction L with
  | nil => rfl
  | cons t L ih => simp only [crow, List.flatMap_cons, List.length_append, List.length_cons] at ih ⊢; rw [ih, ccells_len]; omega
theorem crow_snoc (L : List (List UInt8)) (t : List UInt8) : crow (L ++ [t]) = crow L ++ ccells t := by simp [crow]
theorem crow_at (L : List (List UInt8)) : ∀ (i : Nat) (h : i < L.length) (j : Nat), j < 9 → (crow L)[i * 9 + j]? = (ccells L[i])[j]? := by
  induction L with
  | nil => intro i h; simp at h
  | cons t L ih =>
    intro i h j hj
    cases i with
    | zero =>
      simp only [crow, List.flatMap_cons, Nat.zero_mul, Nat.zero_add, List.getElem_cons_zero]
      rw [List.getElem?_append_left (by rw [ccells_len]; exact hj)]
    | succ i =>
      simp only [crow, List.flatMap_cons, List.getElem_cons_succ]
      rw [List.getElem?_append_right (by rw [ccells_len]; omega), ccells_len, show (i + 1) * 9 + j - 9 = i * 9 + j by omega]
      exact ih i (by simpa using h) j hj
theorem info_cube : (Try.prog.info? 27).map (fun i => (i.zero, i.size, i.bytes)) = some (some (.agg #[.int .i64 0, .int .u64 0, .int .u64 0, .int .u64 0, .int .u64 0, .int .u64 0, .int .u64 0, .int .u64 0, .int .u64 0]), 9, 72) := by kernel_rfl
theorem info_str : (Try.prog.info? 9).map (fun i => (i.zero, i.size, i.bytes)) = some (some (.string ⟨#[]⟩), 1, 16) := by kernel_rfl
theorem cells_new (w : World) (xs : Array Value) (t : TypeId) : ∀ j u, xs.toList[j]? = some u → (w.alloc (.cells xs t)).cell? ((⟨w.heap.size, 0, none⟩ : Addr).add j) = some u := by
  intro j u h
  have hadd : (⟨w.heap.size, 0, none⟩ : Addr).add j = ⟨w.heap.size, j, none⟩ := by unfold Addr.add; split <;> simp_all
  rw [hadd, World.cell?_alloc_new, ← Array.getElem?_toList, h]
theorem cs_one (n : Nat) (c o : Nat → Bool) : ∀ u ∈ (cs n c o).toList, u.oneCell' = true := by
  simp [cs, wv, Value.oneCell']
theorem app_cube {B : Nat} {v : Value} {m : Nat} {L : List (List UInt8)} {w : World} {t : List UInt8} {n : Nat} {c o : Nat → Bool} (hC : Cub t n c o) {ops : Array Oper} {rest : List Oper} {op : Oper} {a : Act} {Q : Exit → Act → World → Prop} {s x : Operand}
    (hown : w.ownsRow B 27 9 v m (crow L)) (hgd : op.guard = none) (ho : op.op = .call { callee := .builtin .append, args := #[s, x], argTypes := #[32, 32] })
    (hs : a.eval s = v) (hx : a.eval x = .slice (some ⟨w.heap.size, 0, none⟩) 1 1) (hn : m ≤ 1900000000000) (hB : B ≤ w.heap.size)
    (h : ∀ v' w', w'.ownsRow B 27 9 v' (m + 1) (crow (L ++ [t])) → Below B w w' → (∀ g t' cs', some g ≠ v.ownBlock → Blk w g t' cs' → Blk w' g t' cs') → wpList Try.prog ops Q rest (a.put op.dst v') w') : wpList Try.prog ops Q (op :: rest) a (w.alloc (.cells (cs n c o) 27)) := by
  obtain ⟨i0, hi, hz0, hz1, hz2⟩ := info_parts info_cube
  refine wpList_append_own _ hgd s x 32 ho B 27 i0 _ 9 72 Try.underlying32 hi hz0 hz1 hz2 rfl (by decide) v m _ hs (hown.alloc _) ⟨w.heap.size, 0, none⟩ 1 1 (cs n c o).toList hx rfl (cells_new _ _ _)
    (cs_one n c o) (by simp only [maxLen]; omega) (by omega) (by simp; omega) ?_
  intro v' w1 hown' hg _
  refine h v' w1 (by rw [crow_snoc, ← hC.cells]; exact hown') ?_ (fun g t' cs' hne hb => (hb.alloc _).grown hg hne)
  have h1 : Below B w (w.alloc (.cells (cs n c o) 27)) := (Below.refl _ _).alloc hB _
  exact h1.grown hg (by simp; omega) (fun k hk => (hown.lt k hk).1)
theorem app_str {B : Nat} {v : Value} {m : Nat} {L : List (List UInt8)} {w : World} (t : List UInt8) {ops : Array Oper} {rest : List Oper} {op : Oper} {a : Act} {Q : Exit → Act → World → Prop} {s x : Operand}
    (hown : w.ownsRow B 9 1 v m (srow L)) (hgd : op.guard = none) (ho : op.op = .call { callee := .builtin .append, args := #[s, x], argTypes := #[22, 22] })
    (hs : a.eval s = v) (hx : a.eval x = .slice (some ⟨w.heap.size, 0, none⟩) 1 1) (hn : m ≤ 8700000000000) (hB : B ≤ w.heap.size)
    (h : ∀ v' w', w'.ownsRow B 9 1 v' (m + 1) (srow (L ++ [t])) → Below B w w' → (∀ g t' cs', some g ≠ v.ownBlock → Blk w g t' cs' → Blk w' g t' cs') → wpList Try.prog ops Q rest (a.put op.dst v') w') : wpList Try.prog ops Q (op :: rest) a (w.alloc (.cells #[.string (str t)] 9)) := by
  obtain ⟨i0, hi, hz0, hz1, hz2⟩ := info_parts info_str
  refine wpList_append_own _ hgd s x 22 ho B 9 i0 _ 1 16 Try.underlying22 hi hz0 hz1 hz2 rfl (by decide) v m _ hs (hown.alloc _) ⟨w.heap.size, 0, none⟩ 1 1 [.string (str t)] hx rfl (cell_one_new _ _ _)
    (by simp [Value.oneCell']) (by simp only [maxLen]; omega) (by omega) (by simp; omega) ?_
  intro v' w1 hown' hg _
  refine h v' w1 (by rw [srow, List.map_append]; exact hown') ?_ (fun g t' cs' hne hb => (hb.alloc _).grown hg hne)
  have h1 : Below B w (w.alloc (.cells #[.string (str t)] 9)) := (Below.refl _ _).alloc hB _
  exact h1.grown hg (by simp; omega) (fun k hk => (hown.lt k hk).1)

def otherB (b : UInt8) : UInt8 := if b = 48 then 49 else 48
def partF (t u : List UInt8) (i k : Nat) : UInt8 := if k = i then otherB (byt u k) else if k < i ∧ byt t k = 120 then byt u k else byt t k
def partT (t u : List UInt8) (i : Nat) : List UInt8 := up (partF t u i) t.length
def splits (t u : List UInt8) (i : Nat) : Bool := byt t i == 120 && byt u i != 120
def partsT (t u : List UInt8) (i : Nat) : List (List UInt8) := ((List.range i).filter (splits t u)).map (partT t u)
theorem partsT_yes {t u : List UInt8} {i : Nat} (h : splits t u i = true) : partsT t u (i + 1) = partsT t u i ++ [partT t u i] := by
  simp [partsT, List.range_succ, List.filter_append, h]
theorem partsT_no {t u : List UInt8} {i : Nat} (h : splits t u i = false) : partsT t u (i + 1) = partsT t u i := by
  simp [partsT, List.range_succ, List.filter_append, h]
theorem partsT_le (t u : List UInt8) (i : Nat) : (partsT t u i).length ≤ i := by
  have := List.length_filter_le (splits t u) (List.range i)
  simpa [partsT] using this
def splitT (t u : List UInt8) : List (List UInt8) := if meetOk t u then partsT t u t.length else [t]

def pre (i : Nat) (f g : Nat → Bool) : Nat → Bool := fun j => if j < i then g j else f j
theorem pre_zero (f g : Nat → Bool) : pre 0 f g = f := by funext j; simp [pre]
theorem pre_stay {i : Nat} {f g : Nat → Bool} (h : g i = f i) : pre (i + 1) f g = pre i f g := by
  funext j
  by_cases e : j = i
  · subst e; simp [pre, h]
  · by_cases h1 : j < i
    · have h2 : j < i + 1 := by omega
      simp [pre, h1, h2]
    · have h2 : ¬ j < i + 1 := by omega
      simp [pre, h1, h2]
theorem pre_put {i : Nat} {f g : Nat → Bool} (h : g i = true) : put (pre i f g) i = pre (i + 1) f g := by
  funext j
  by_cases e : j = i
  · subst e; simp [pre, put, h]
  · by_cases h1 : j < i
    · have h2 : j < i + 1 := by omega
      simp [pre, put, h1, h2, e]
    · have h2 : ¬ j < i + 1 := by omega
      simp [pre, put, h1, h2, e]
section
variable {t u : List UInt8} {n : Nat} {c o d p : Nat → Bool}
theorem splits_iff (h : Cub t n c o) (h' : Cub u n d p) (i : Nat) (hi : i < n) : splits t u i = (!c i && d i) := by
  unfold splits
  rw [h.at_ i hi, h'.at_ i hi]
  cases c i <;> cases o i <;> cases d i <;> cases p i <;> rfl
theorem noconf_at (hno : ∀ i, i < 256 → conf c o d p i = false) (h : Cub t n c o) (i : Nat) : c i = true → d i = true → p i = true → o i = true := by
  intro hc hd hp
  have hi : i < 256 := by
    rcases Nat.lt_or_ge i 256 with h1 | h1
    · exact h1
    · have := h.nrm.hi i (by have := h.nrm.le; omega); rw [hc] at this; cases this
  have := hno i hi
  simp only [conf, band, bxor, hc, hd, hp] at this
  simpa using this
theorem part_cub (h : Cub t n c o) (h' : Cub u n d p) (hno : ∀ i, i < 256 → conf c o d p i = false) {i : Nat} (hi : i < n) (hc : c i = false) (hd : d i = true) {o'' : Nat → Bool}
    (ho : ∀ k, o'' k = if k = i then !p i else pre i o (bor o p) k) : Cub (partT t u i) n (pre (i + 1) c (bor c d)) o'' := by
  unfold partT
  rw [← h.hn]
  have oi : o i = false := by
    cases hoi : o i with
    | false => rfl
    | true => rw [h.nrm.sub i hoi] at hc; cases hc
  have hN : Nrm n (pre (i + 1) c (bor c d)) o'' := by
    refine ⟨h.nrm.le, fun k hk => ?_, fun k hk => ?_⟩
    · have h1 : ¬ k < i + 1 := by omega
      simp [pre, h1, h.nrm.hi k hk]
    · rw [ho k] at hk
      by_cases e : k = i
      · subst e
        simp [pre, bor, hd]
      · rw [if_neg e] at hk
        by_cases h1 : k < i
        · have h2 : k < i + 1 := by omega
          simp only [pre, h1, h2, if_true, bor, Bool.or_eq_true] at hk ⊢
          exact hk.imp (h.nrm.sub k) (h'.nrm.sub k)
        · have h2 : ¬ k < i + 1 := by omega
          simp only [pre, h1, h2, if_false] at hk ⊢
          exact h.nrm.sub k hk
  refine hN.of_places fun k hk => ?_
  unfold partF
  rw [h.at_ k hk, h'.at_ k hk, ho k]
  by_cases e : k = i
  · subst e
    have h2 : k < k + 1 := by omega
    simp only [if_true, pre, h2, bor, hd, Bool.or_true]
    cases p k <;> rfl
  · rw [if_neg e, if_neg e]
    have s1 := h.nrm.sub k
    have s2 := h'.nrm.sub k
    have s3 := noconf_at hno h k
    by_cases h1 : k < i
    · have h2 : k < i + 1 := by omega
      simp only [pre, h1, h2, if_true, bor, true_and]
      generalize c k = x at *; generalize o k = y at *; generalize d k = z at *; generalize p k = q at *
      cases x <;> cases y <;> cases z <;> cases q <;> simp_all [dig]
    · have h2 : ¬ k < i + 1 := by omega
      simp only [pre, h1, h2, if_false, false_and]
end
end Go.Proofs.Ytoglcocplpdlhaa.Tn

namespace Go.Proofs.Ytoglcocplpdlhaa.Tn
open Go.RowKit
attribute [local go_sem] cv cs wv
theorem own_below {w w' : World} {base : Nat} {e : TypeId} {size : Nat} {v : Value} {n : Nat} {xs : List Value} {B : Nat} (h : w.ownsRow base e size v n xs) (hb : Below B w w') (hB : w.heap.size ≤ B) : w'.ownsRow base e size v n xs := by
  refine ⟨h.1, ?_⟩
  rcases h.2 with hn | ⟨g, cap, cur, hv, hbb, hg, rest⟩
  · exact .inl hn
  · have hlt := (Array.getElem?_eq_some_iff.1 hg).1
    exact .inr ⟨g, cap, cur, hv, hbb, (hb.block g (by omega)).trans hg, rest⟩
theorem own_put {w w' : World} {base : Nat} {e : TypeId} {size : Nat} {v : Value} {n : Nat} {xs : List Value} {g : Nat} (h : w.ownsRow base e size v n xs) (hg : w.grownBy w' (some g)) (hlt : g < base) : w'.ownsRow base e size v n xs := by
  refine h.kept hg ?_
  cases hv : v.ownBlock with
  | none => exact .inl rfl
  | some k => exact .inr fun e => by have := (h.lt k hv).1; cases e; omega
theorem own_ne {w : World} {base : Nat} {e : TypeId} {size : Nat} {v : Value} {n : Nat} {xs : List Value} {g : Nat} (h : w.ownsRow base e size v n xs) (hlt : g < base) : some g ≠ v.ownBlock := fun e => by
  have := (h.lt g e.symm).1; omega
theorem own_one (w : World) (t : TypeId) (cs : Array Value) {B : Nat} (hB : B ≤ w.heap.size) : (w.alloc (.cells cs t)).ownsRow B t cs.size (.slice (some ⟨w.heap.size, 0, none⟩) 1 1) 1 cs.toList := by
  refine ⟨by simp, .inr ⟨_, 1, cs, rfl, hB, heap_alloc_new w _, Nat.le_refl _, by decide, by simp, ?_⟩⟩
  simp [← Array.length_toList]
theorem row_ne {w : World} {base : Nat} {e : TypeId} {size : Nat} {v : Value} {n : Nat} {xs : List Value} (h : w.ownsRow base e size v n xs) : v.ownBlock ≠ some w.heap.size := fun e => by
  have := (h.lt _ e).2; omega
theorem pre_at (i : Nat) (f g : Nat → Bool) : pre i f g i = f i := by simp [pre]
theorem at_lit_care {B i n : Nat} {c o : Nat → Bool} {t : TypeId} {w : World} (hi : i < 256) (h : Blk w B t (cs n c o)) (b : Bool) (hb : c i = b) :
    Calls Try.prog 12 #[.pointer (some ⟨B, 1, none⟩), .int .i64 (i : Int)] w fun e w' => e = .returned (.bool b) ∧ w = w' := by
  rw [← hb]; exact at_care B i n c o t w hi h
theorem at_lit_ones {B i n : Nat} {c o : Nat → Bool} {t : TypeId} {w : World} (hi : i < 256) (h : Blk w B t (cs n c o)) (b : Bool) (hb : o i = b) :
    Calls Try.prog 12 #[.pointer (some ⟨B, 5, none⟩), .int .i64 (i : Int)] w fun e w' => e = .returned (.bool b) ∧ w = w' := by
  rw [← hb]; exact at_ones B i n c o t w hi h
theorem crow_nil (w : World) (B : Nat) : w.ownsRow B 27 9 (.slice none 0 0) 0 (crow []) := World.ownsRow_nil w B 27 9
set_option maxHeartbeats 4000000 in
theorem split_yes {t u : List UInt8} {n : Nat} {c o d p : Nat → Bool} (h : Cub t n c o) (h' : Cub u n d p) (hok : meetOk t u) (w : World) :
    Calls Try.prog 14 #[cv n c o, cv n d p] w fun e w' => ∃ v, e = .returned v ∧ w'.ownsRow w.heap.size 27 9 v (partsT t u n).length (crow (partsT t u n)) ∧ Below w.heap.size w w' := by
  have HNO := Lib.hid ((noconf_iff h h').1 hok.2)
  have HOK := Lib.hid (decide_eq_true hok)
  have H := Lib.hid h
  have H' := Lib.hid h'
  have hn := h.nrm.le
  clear h h' hok
  unfold cv cs wv
  go_enter Try.func14, Try.ntmps14
  go_wp2_with fail
  refine (meet_any H.out H'.out _).mono ?_
  rw [HOK.out]
  rintro e w1 ⟨n3, c3, o3, hC3, rfl, hb1⟩
  clear hC3
  have h1 : Blk w1 w.heap.size 27 (cs n c o) := ((Blk.new w 27 (cs n c o)).alloc _).below hb1 (by simp; omega)
  have h2 : Blk w1 (w.heap.size + 1) 27 (cs n d p) := by
    have := (Blk.new (w.alloc (.cells (cs n c o) 27)) 27 (cs n d p)).below hb1 (by simp)
    rw [World.size_alloc] at this
    exact this
  have hbel : Below w.heap.size w w1 := Below.trans (by go_grown) (hb1.mono (by simp; omega))
  have hz : w.heap.size + 2 ≤ w1.heap.size := by have := hb1.size; simp at this; omega
  clear hb1
  have hc1 := h1.cell
  have h1 := h1.alloc (.cells (cs n3 c3 o3) 27)
  have h2 := h2.alloc (.cells (cs n3 c3 o3) 27)
  have hbel := bal hbel (.cells (cs n3 c3 o3) 27)
  have hl1 : w.heap.size < w1.heap.size := by omega
  have hl2 : w.heap.size ≠ w1.heap.size := by omega
  go_wp2_with fail
  clear hc1 hl1 hl2
  generalize hB0 : w1.heap.size + 1 = B0
  go_loopw [7, 22] (fun v i wr => ∃ k : Nat, k ≤ n ∧ i = .int .i64 k ∧ Blk wr w.heap.size 27 (cs n (pre k c (bor c d)) (pre k o (bor o p))) ∧ Blk wr (w.heap.size + 1) 27 (cs n d p) ∧ B0 ≤ wr.heap.size ∧ wr.ownsRow B0 27 9 v (partsT t u k).length (crow (partsT t u k)) ∧ Below w.heap.size w wr) (fun _ i _ => n - (intOf i).toNat)
  case atStart => exact ⟨0, Nat.zero_le _, rfl, by rw [pre_zero, pre_zero]; exact h1, h2, by rw [World.size_alloc]; omega, crow_nil _ _, hbel⟩
  case round =>
    clear h1 h2 hbel
    obtain ⟨k, hk, rfl, h1, h2, hB, hown, hbel⟩ := hrel
    by_cases hlt : k < n
    · have hk256 : k < 256 := by omega
      have hpl := partsT_le t u k
      have sp := splits_iff H.out H'.out k hlt
      have e1 : pre k c (bor c d) k = c k := pre_at ..
      by_cases hs : c k = false ∧ d k = true
      · have HS := Lib.hid hs
        have HSP := Lib.hid (show splits t u k = true by rw [sp, hs.1, hs.2]; rfl)
        have ka := at_lit_care hk256 h1 false (e1.trans hs.1)
        have kd := at_lit_care hk256 h2 true hs.2
        have HBD := Lib.hid (show bor c d k = true by simp [bor, hs.2])
        clear sp e1 hs
        go_wp2_with (first | (go_at_call 12; with_reducible refine ka.mono ?_; rintro e w' ⟨rfl, rfl⟩) | (go_at_call 12; with_reducible refine kd.mono ?_; rintro e w' ⟨rfl, rfl⟩) | (go_at_call 19; refine (put_care w.heap.size k n _ _ _ _ hk256 h1).mono ?_; rintro e w2 ⟨rfl, hp1, hg1⟩; rw [pre_put HBD.out] at hp1; have hc1 := hp1.cell; have hl1 := hp1.lt))
        clear ka kd
        have hq2 := h2.grown hg1 (by simp)
        have hown2 := own_put hown hg1 (by omega)
        have hbel2 := hbel.grown hg1 hbel.size (fun j hj => by cases hj; exact Nat.le_refl _)
        have hB2 := Nat.le_trans hB hg1.size
        clear h1 h2 hown hbel hg1 hB
        clear hc1 hl1
        have hq1 := hp1.alloc (.cells (cs n (pre (k + 1) c (bor c d)) (pre k o (bor o p))) 27)
        have hq3 := Blk.new w2 27 (cs n (pre (k + 1) c (bor c d)) (pre k o (bor o p)))
        have hq2 := hq2.alloc (.cells (cs n (pre (k + 1) c (bor c d)) (pre k o (bor o p))) 27)
        have hown0 := hown2
        have hown2 := hown2.alloc (.cells (cs n (pre (k + 1) c (bor c d)) (pre k o (bor o p))) 27)
        have hbel2 := bal hbel2 (.cells (cs n (pre (k + 1) c (bor c d)) (pre k o (bor o p))) 27)
        have hne9 : w.heap.size ≠ w2.heap.size := by omega
        have hne9' : w2.heap.size ≠ w.heap.size := by omega
        have hB3 : B0 ≤ (w2.alloc (.cells (cs n (pre (k + 1) c (bor c d)) (pre k o (bor o p))) 27)).heap.size := by rw [World.size_alloc]; omega
        have hB4 : w.heap.size ≤ w2.heap.size := by omega
        have ho1 : pre k o (bor o p) k = o k := pre_at ..
        have hok0 : o k = false := by
          cases hoi : o k with
          | false => rfl
          | true => have := H.out.nrm.sub k hoi; rw [HS.out.1] at this; cases this
        by_cases hp : p k = true
        · refine (at_lit_ones hk256 hq2 true hp).mono ?_
          rintro e w' ⟨rfl, rfl⟩
          have hbo : bor o p k = true := by simp [bor, hp]
          have HPT : Hid (Cub (partT t u k) n (pre (k + 1) c (bor c d)) (pre k o (bor o p))) := Lib.hid (part_cub H.out H'.out HNO.out hlt HS.out.1 HS.out.2 (fun j => by
            by_cases e : j = k
            · subst e; rw [if_pos rfl, ho1, hok0, hp]; rfl
            · rw [if_neg e]))
          go_wp2_with (first | (go_at_call 19; refine (put_ones w.heap.size k n _ _ _ _ hk256 hq1).mono ?_; rintro e w3 ⟨rfl, hr1, hg3⟩; have hr3 := hq3.grown hg3 (by simpa using hne9'); have hc9 := hr3.cell; have hown3 := own_put hown2 hg3 (by omega); have hB5 := Nat.le_trans hB3 hg3.size) | (at_builtin; refine app_cube HPT.out hown3 rfl rfl rfl rfl (by omega) hB5 ?_; intro v' w4 hown4 hb4 hk4))
          go_roundw
          case rel =>
            have z1 := hk4 w.heap.size 27 (cs n (pre (k + 1) c (bor c d)) (pre (k + 1) o (bor o p))) (own_ne hown3 (by omega)) (by rw [pre_put hbo] at hr1; exact hr1)
            have z2 := hk4 (w.heap.size + 1) _ _ (own_ne hown3 (by omega)) (hq2.grown hg3 (by simp <;> omega))
            rw [← partsT_yes HSP.out] at hown4
            refine ⟨k + 1, by omega, by go_num, z1, z2, Nat.le_trans hB5 hb4.size, ?_, ?_⟩
            · rw [partsT_yes HSP.out, List.length_append, List.length_singleton, ← partsT_yes HSP.out]
              exact hown4
            · exact Below.trans (hbel2.grown hg3 hbel2.size (fun j hj => by cases hj; omega)) (hb4.mono (by omega))
          case measure => simp [intOf]; omega
        · have hp : p k = false := by simpa using hp
          refine (at_lit_ones hk256 hq2 false hp).mono ?_
          rintro e w' ⟨rfl, rfl⟩
          have hbo : bor o p k = o k := by simp [bor, hp]
          have HPT : Hid (Cub (partT t u k) n (pre (k + 1) c (bor c d)) (put (pre k o (bor o p)) k)) := Lib.hid (part_cub H.out H'.out HNO.out hlt HS.out.1 HS.out.2 (fun j => by
            by_cases e : j = k
            · subst e; rw [if_pos rfl, hp]; simp [put]
            · rw [if_neg e]; simp [put, e]))
          go_wp2_with (first | (go_at_call 19; refine (put_ones w2.heap.size k n _ _ _ _ hk256 hq3).mono ?_; rintro e w3 ⟨rfl, hr3, hg3⟩; have hc9 := hr3.cell; have hown3 := hown2.kept hg3 (.inr (row_ne hown0)); have hB5 := Nat.le_trans hB3 hg3.size) | (at_builtin; refine app_cube HPT.out hown3 rfl rfl rfl rfl (by omega) hB5 ?_; intro v' w4 hown4 hb4 hk4))
          go_roundw
          case rel =>
            have z1 := hk4 w.heap.size 27 (cs n (pre (k + 1) c (bor c d)) (pre (k + 1) o (bor o p))) (own_ne hown3 (by omega)) (by rw [pre_stay hbo]; exact hq1.grown hg3 (by simpa using hne9))
            have z2 := hk4 (w.heap.size + 1) _ _ (own_ne hown3 (by omega)) (hq2.grown hg3 (by simp <;> omega))
            rw [← partsT_yes HSP.out] at hown4
            refine ⟨k + 1, by omega, by go_num, z1, z2, Nat.le_trans hB5 hb4.size, ?_, ?_⟩
            · rw [partsT_yes HSP.out, List.length_append, List.length_singleton, ← partsT_yes HSP.out]
              exact hown4
            · exact Below.trans (hbel2.grown hg3 hbel2.size (fun j hj => by cases hj; omega)) (hb4.mono (by omega))
          case measure => simp [intOf]; omega
      · have e2 : bor c d k = c k := by
          cases hc : c k with
          | true => simp [bor, hc]
          | false =>
            cases hd : d k with
            | true => exact absurd ⟨hc, hd⟩ hs
            | false => simp [bor, hc, hd]
        have HSP := Lib.hid (show splits t u k = false by rw [sp]; cases hc : c k <;> cases hd : d k <;> simp_all)
        have e3 : bor o p k = o k := by
          cases hpk : p k with
          | false => simp [bor, hpk]
          | true =>
            have hd := H'.out.nrm.sub k hpk
            have hc : c k = true := by
              cases hc : c k with
              | true => rfl
              | false => exact absurd ⟨hc, hd⟩ hs
            have ho := noconf_at HNO.out H.out k hc hd hpk
            simp [bor, ho]
        have E2 := Lib.hid e2
        have E3 := Lib.hid e3
        by_cases hck : c k = true
        · have ka := at_lit_care hk256 h1 true (e1.trans hck)
          clear sp e1 hs e2 e3 hck
          go_wp2_with (first | (go_at_call 12; with_reducible refine ka.mono ?_; rintro e w' ⟨rfl, rfl⟩))
          go_roundw
          case rel => exact ⟨k + 1, by omega, by go_num, by rw [pre_stay E2.out, pre_stay E3.out]; exact h1, h2, hB, by rw [partsT_no HSP.out]; exact hown, hbel⟩
          case measure => simp [intOf]; omega
        · have hck : c k = false := by simpa using hck
          have hdk : d k = false := by
            cases hd : d k with
            | true => exact absurd ⟨hck, hd⟩ hs
            | false => rfl
          have ka := at_lit_care hk256 h1 false (e1.trans hck)
          have kd := at_lit_care hk256 h2 false hdk
          clear sp e1 hs e2 e3 hck hdk
          go_wp2_with (first | (go_at_call 12; with_reducible refine ka.mono ?_; rintro e w' ⟨rfl, rfl⟩) | (go_at_call 12; with_reducible refine kd.mono ?_; rintro e w' ⟨rfl, rfl⟩))
          go_roundw
          case rel => exact ⟨k + 1, by omega, by go_num, by rw [pre_stay E2.out, pre_stay E3.out]; exact h1, h2, hB, by rw [partsT_no HSP.out]; exact hown, hbel⟩
          case measure => simp [intOf]; omega
    · obtain rfl : k = n := by omega
      go_wp2
      go_ret
      exact ⟨_, rfl, hown.mono (by omega), hbel⟩
set_option maxHeartbeats 1000000 in
theorem split_no {t u : List UInt8} {n m : Nat} {c o d p : Nat → Bool} (h : Cub t n c o) (h' : Cub u m d p) (hok : ¬ meetOk t u) (w : World) :
    Calls Try.prog 14 #[cv n c o, cv m d p] w fun e w' => ∃ v, e = .returned v ∧ w'.ownsRow w.heap.size 27 9 v 1 (crow [t]) ∧ Below w.heap.size w w' := by
  have HOK := Lib.hid (decide_eq_false hok)
  have H := Lib.hid h
  have H' := Lib.hid h'
  clear h h' hok
  unfold cv cs wv
  go_enter Try.func14, Try.ntmps14
  go_wp2_with fail
  refine (meet_any H.out H'.out _).mono ?_
  rw [HOK.out]
  rintro e w1 ⟨n3, c3, o3, hC3, rfl, hb1⟩
  clear hC3
  have h1 : Blk w1 w.heap.size 27 (cs n c o) := ((Blk.new w 27 (cs n c o)).alloc _).below hb1 (by simp; omega)
  have hbel : Below w.heap.size w w1 := Below.trans (by go_grown) (hb1.mono (by simp; omega))
  have hz : w.heap.size + 2 ≤ w1.heap.size := by have := hb1.size; simp at this; omega
  clear hb1
  have hc1 := h1.cell
  have hl1 : w.heap.size < w1.heap.size := by omega
  have hl2 : w.heap.size ≠ w1.heap.size := by omega
  go_wp2_with fail
  go_ret
  have hx := own_one (w1.alloc (.cells (cs n3 c3 o3) 27)) 27 (cs n c o) (B := w.heap.size) (by rw [World.size_alloc]; omega)
  rw [H.out.cells] at hx
  rw [← show crow [t] = ccells t by simp [crow], World.size_alloc] at hx
  exact ⟨_, rfl, hx, (bal (bal hbel _) _)⟩
theorem split_any {t u : List UInt8} {n m : Nat} {c o d p : Nat → Bool} (h : Cub t n c o) (h' : Cub u m d p) (w : World) :
    Calls Try.prog 14 #[cv n c o, cv m d p] w fun e w' => ∃ v, e = .returned v ∧ w'.ownsRow w.heap.size 27 9 v (splitT t u).length (crow (splitT t u)) ∧ Below w.heap.size w w' := by
  unfold splitT
  by_cases hok : meetOk t u
  · obtain ⟨rfl, h0⟩ := (fit_iff h h').1 hok.1
    rw [if_pos hok, ← h.hn]
    exact split_yes h h' hok w
  · rw [if_neg hok]
    exact split_no h h' hok w
end Go.Proofs.Ytoglcocplpdlhaa.Tn

namespace Go.Proofs.Ytoglcocplpdlhaa.Tn
open Go.RowKit
theorem rother (b : UInt8) (w : World) : Calls Try.prog 28 #[.int .u8 (b.toNat : Int)] w fun e w' => e = .returned (.int .u8 ((otherB b).toNat : Int)) ∧ w = w' := by
  by_cases hx : b = 48
  · have t1 := is48 hx
    have e1 : otherB b = 49 := by unfold otherB; rw [if_pos hx]
    rw [e1]
    clear hx e1
    go_enter Try.func28, Try.ntmps28
    go_wp2
    go_ret
    exact ⟨rfl, rfl⟩
  · have t1 := not48 hx
    have e1 : otherB b = 48 := by unfold otherB; rw [if_neg hx]
    rw [e1]
    clear hx e1
    go_enter Try.func28, Try.ntmps28
    go_wp2
    go_ret
    exact ⟨rfl, rfl⟩
set_option maxHeartbeats 1000000 in
theorem rpart (a b : ByteArray) (hl : a.size ≤ 256) (hab : b.size = a.size) (i : Nat) (hi : i < a.size) (w : World) :
    Calls Try.prog 25 #[.string a, .string b, .int .i64 (i : Int)] w fun e w' => e = .returned (.string (str (partT a.data.toList b.data.toList i))) ∧ Below w.heap.size w w' := by
  have e1 : partT a.data.toList b.data.toList i = up (partF a.data.toList b.data.toList i) a.size := by unfold partT; rw [len_s a]
  rw [e1]
  clear e1
  have HS := Lib.hid hab
  clear hab
  go_enter Try.func25, Try.ntmps25
  go_wp2_with fail
  go_loopw [7, 8] (fun v j wr => ∃ k : Nat, k ≤ a.size ∧ j = .int .i64 k ∧ wr.ownsRow w.heap.size 5 1 v k ((up (partF a.data.toList b.data.toList i) k).map bv) ∧ Below w.heap.size w wr) (fun _ j _ => a.size - (intOf j).toNat)
  case atStart => exact ⟨0, Nat.zero_le _, rfl, own_nil _ _, Below.refl _ _⟩
  case round =>
    obtain ⟨k, hk, rfl, hown, hbel⟩ := hrel
    by_cases hlt : k < a.size
    · have hlb : k < b.size := by rw [HS.out]; exact hlt
      have hba := byt_str a k hlt
      have hbb := byt_str b k hlb
      by_cases hki : k = i
      · subst hki
        have HV := Lib.hid (show partF a.data.toList b.data.toList k k = otherB b[k] by unfold partF; rw [if_pos rfl, hbb])
        clear hba hbb
        go_wp2_with (first | (go_at_call 28; refine (rother b[k] _).mono ?_; rintro e w' ⟨rfl, rfl⟩) | (at_builtin; refine app_byte (otherB b[k]) hown rfl rfl rfl rfl (by omega) hbel.size ?_; intro v' w2 hown2 hb2))
        go_roundw
        case rel => exact ⟨k + 1, by omega, by go_num, by rw [up_succ, HV.out]; exact hown2, hbel.trans hb2⟩
        case measure => simp [intOf]; omega
      · have t3 : ((k : Int) == (i : Int)) = false := by rw [beq_eq_false_iff_ne]; omega
        by_cases hkl : k < i
        · have t4 : decide ((k : Int) < (i : Int)) = true := decide_eq_true (by omega)
          by_cases hx : a[k] = 120
          · have t1 := is120 hx
            have HV := Lib.hid (show partF a.data.toList b.data.toList i k = b[k] by unfold partF; rw [if_neg hki, hba, hbb, if_pos ⟨hkl, hx⟩])
            clear hba hbb hx hki
            go_wp2_with (at_builtin; refine app_byte b[k] hown rfl rfl rfl rfl (by omega) hbel.size ?_; intro v' w2 hown2 hb2)
            go_roundw
            case rel => exact ⟨k + 1, by omega, by go_num, by rw [up_succ, HV.out]; exact hown2, hbel.trans hb2⟩
            case measure => simp [intOf]; omega
          · have t1 := not120 hx
            have HV := Lib.hid (show partF a.data.toList b.data.toList i k = a[k] by unfold partF; rw [if_neg hki, hba, hbb, if_neg (fun e => hx e.2)])
            clear hba hbb hx hki
            go_wp2_with (at_builtin; refine app_byte a[k] hown rfl rfl rfl rfl (by omega) hbel.size ?_; intro v' w2 hown2 hb2)
            go_roundw
            case rel => exact ⟨k + 1, by omega, by go_num, by rw [up_succ, HV.out]; exact hown2, hbel.trans hb2⟩
            case measure => simp [intOf]; omega
        · have t4 : decide ((k : Int) < (i : Int)) = false := decide_eq_false (by omega)
          have HV := Lib.hid (show partF a.data.toList b.data.toList i k = a[k] by unfold partF; rw [if_neg hki, hba, hbb, if_neg (fun e => hkl e.1)])
          clear hba hbb hki
          go_wp2_with (at_builtin; refine app_byte a[k] hown rfl rfl rfl rfl (by omega) hbel.size ?_; intro v' w2 hown2 hb2)
          go_roundw
          case rel => exact ⟨k + 1, by omega, by go_num, by rw [up_succ, HV.out]; exact hown2, hbel.trans hb2⟩
          case measure => simp [intOf]; omega
    · obtain rfl : k = a.size := by omega
      have hst := str_own hown
      go_wp2
      go_ret
      exact ⟨rfl, hbel⟩
theorem srow_nil (w : World) (B : Nat) : w.ownsRow B 9 1 (.slice none 0 0) 0 (srow []) := World.ownsRow_nil w B 9 1
set_option maxHeartbeats 1000000 in
theorem rsplit (a b : ByteArray) (hl : a.size ≤ 256) (w : World) :
    Calls Try.prog 16 #[.string a, .string b] w fun e w' => ∃ v, e = .returned v ∧ w'.ownsRow w.heap.size 9 1 v (splitT a.data.toList b.data.toList).length (srow (splitT a.data.toList b.data.toList)) ∧ Below w.heap.size w w' := by
  have hm := rmeet_any a b w hl
  by_cases hok : meetOk a.data.toList b.data.toList
  · have hsz : b.size = a.size := by have := hok.1.2; have ha := len_s a; have hb := len_s b; omega
    have HP := Lib.hid fun i hi w => rpart a b hl hsz i hi w
    have HS := Lib.hid hsz
    have e1 : splitT a.data.toList b.data.toList = partsT a.data.toList b.data.toList a.size := by unfold splitT; rw [if_pos hok, len_s a]
    rw [e1]
    rw [decide_eq_true hok] at hm
    have HM := Lib.hid hm
    clear hm hok hsz e1
    go_enter Try.func16, Try.ntmps16
    go_wp2_with fail
    refine HM.out.mono ?_
    rintro e w1 ⟨rfl, hb1⟩
    go_wp2_with fail
    have hz1 := hb1.size
    go_loopw [7, 8] (fun v j wr => ∃ k : Nat, k ≤ a.size ∧ j = .int .i64 k ∧ wr.ownsRow w.heap.size 9 1 v (partsT a.data.toList b.data.toList k).length (srow (partsT a.data.toList b.data.toList k)) ∧ Below w.heap.size w wr) (fun _ j _ => a.size - (intOf j).toNat)
    case atStart => exact ⟨0, Nat.zero_le _, rfl, srow_nil _ _, hb1⟩
    case round =>
      obtain ⟨k, hk, rfl, hown, hbel⟩ := hrel
      by_cases hlt : k < a.size
      · have hlb : k < b.size := by rw [HS.out]; exact hlt
        have hba := byt_str a k hlt
        have hbb := byt_str b k hlb
        have hpl := partsT_le a.data.toList b.data.toList k
        by_cases hx : a[k] = 120
        · have t1 := is120 hx
          by_cases hy : b[k] = 120
          · have t2 := is120 hy
            have HSP := Lib.hid (show splits a.data.toList b.data.toList k = false by unfold splits; rw [hba, hbb, hx, hy]; rfl)
            clear hpl
            have t4 := ne_no120 hy
            clear hba hbb hx hy
            go_wp2_with fail
            go_roundw
            case rel => exact ⟨k + 1, by omega, by go_num, by rw [partsT_no HSP.out]; exact hown, hbel⟩
            case measure => simp [intOf]; omega
          · have t2 := not120 hy
            have t4 := ne_yes120 hy
            have HSP := Lib.hid (show splits a.data.toList b.data.toList k = true by unfold splits; rw [hba, hbb, hx]; simpa using hy)
            clear hba hbb hx hy
            have kp := HP.out k hlt wr
            go_wp2_with (first | (go_at_call 25; refine kp.mono ?_; rintro e w2 ⟨rfl, hb2⟩; have hown2 := own_below hown hb2 (Nat.le_refl _); have hbel2 := hbel.trans (hb2.mono hbel.size)) | (at_builtin; refine app_str (partT a.data.toList b.data.toList k) hown2 rfl rfl rfl rfl (by omega) hbel2.size ?_; intro v' w3 hown3 hb3 hk3))
            go_roundw
            case rel =>
              rw [← partsT_yes HSP.out] at hown3
              refine ⟨k + 1, by omega, by go_num, ?_, hbel2.trans hb3⟩
              rw [partsT_yes HSP.out, List.length_append, List.length_singleton, ← partsT_yes HSP.out]
              exact hown3
            case measure => simp [intOf]; omega
        · have t1 := not120 hx
          have HSP := Lib.hid (show splits a.data.toList b.data.toList k = false by unfold splits; rw [hba, hbb]; simp [hx])
          clear hba hbb hx
          go_wp2_with fail
          go_roundw
          case rel => exact ⟨k + 1, by omega, by go_num, by rw [partsT_no HSP.out]; exact hown, hbel⟩
          case measure => simp [intOf]; omega
      · obtain rfl : k = a.size := by omega
        go_wp2
        go_ret
        exact ⟨_, rfl, hown, hbel⟩
  · have e1 : splitT a.data.toList b.data.toList = [a.data.toList] := by unfold splitT; rw [if_neg hok]
    rw [e1]
    rw [decide_eq_false hok] at hm
    have HM := Lib.hid hm
    clear hm hok e1
    go_enter Try.func16, Try.ntmps16
    go_wp2_with fail
    refine HM.out.mono ?_
    rintro e w1 ⟨rfl, hb1⟩
    go_wp2_with fail
    go_ret
    have hx := own_one w1 9 #[.string a] (B := w.heap.size) hb1.size
    exact ⟨_, rfl, hx, hb1.alloc hb1.size _⟩
end Go.Proofs.Ytoglcocplpdlhaa.Tn

namespace Go.Proofs.Ytoglcocplpdlhaa.Tn
open Go.RowKit
attribute [local go_sem] cv cs wv
theorem own_at {w : World} {B : Nat} {e : TypeId} {size : Nat} {v : Value} {n : Nat} {xs : List Value} (h : w.ownsRow B e size v n xs) (hn : 0 < n) :
    ∃ g cap, v = .slice (some ⟨g, 0, none⟩) n cap ∧ n ≤ cap ∧ B ≤ g ∧ ∀ j u, xs[j]? = some u → w.cell? ⟨g, j, none⟩ = some u := by
  obtain ⟨g, cap, hv, hb, hlt⟩ := own_form h hn
  subst hv
  refine ⟨g, cap, rfl, ?_, hb, fun j u hj => ?_⟩
  · rcases h.2 with ⟨hh, _⟩ | ⟨g', cap', cur, hv, _, _, hc, _⟩
    · cases hh
    · cases hv; exact hc
  · have := h.cells (g := g) rfl j u hj
    have hadd : (⟨g, 0, none⟩ : Addr).add j = ⟨g, j, none⟩ := by unfold Addr.add; split <;> simp_all
    rw [hadd] at this
    exact this
set_option maxHeartbeats 1000000 in
theorem texts_yes {L : List (List UInt8)} (hC : ∀ t ∈ L, ∃ n c o, Cub t n c o) (w : World) (v1 v2 : Value) (B1 B2 : Nat) (hL : L.length ≤ 1000000)
    (h1 : w.ownsRow B1 27 9 v1 L.length (crow L)) (h2 : w.ownsRow B2 9 1 v2 L.length (srow L)) :
    Calls Try.prog 15 #[v1, v2] w fun e w' => e = .returned (.bool true) ∧ Below w.heap.size w w' := by
  have HC := Lib.hid hC
  obtain ⟨a1, cap1, hv1⟩ := own_len h1
  obtain ⟨a2, cap2, hv2⟩ := own_len h2
  subst hv1
  subst hv2
  have hne : ((L.length : Int) != (L.length : Int)) = false := by simp
  go_enter Try.func15, Try.ntmps15
  go_wp2_with fail
  go_loopw [5] (fun i wr => ∃ k : Nat, k ≤ L.length ∧ i = .int .i64 k ∧ wr.ownsRow B1 27 9 (.slice a1 L.length cap1) L.length (crow L) ∧ wr.ownsRow B2 9 1 (.slice a2 L.length cap2) L.length (srow L) ∧ Below w.heap.size w wr) (fun i _ => L.length - (intOf i).toNat)
  case atStart => exact ⟨0, Nat.zero_le _, rfl, h1, h2, Below.refl _ _⟩
  case round =>
    clear h1 h2
    obtain ⟨k, hk, rfl, h1, h2, hbel⟩ := hrel
    by_cases hlt : k < L.length
    · obtain ⟨g1, c1, e1, hcap1, _, hx1⟩ := own_at h1 (by omega)
      obtain ⟨g2, c2, e2, hcap2, _, hx2⟩ := own_at h2 (by omega)
      cases e1
      cases e2
      go_wp2_with fail
      refine still_tail 8 (by kernel_rfl) (by kernel_rfl) fun W hW => ?_
      simp only [List.take_succ_cons, List.take_zero, List.drop_succ_cons, List.drop_zero]
      obtain ⟨n, c, o, hCk⟩ := HC.out L[k] (List.getElem_mem hlt)
      have hg : ∀ j u, j < 9 → (cs n c o)[j]? = some u → W.cell? ⟨g1, k * 9 + j, none⟩ = some u := fun j u hj hu => by
        rw [hW.out]
        exact hx1 _ _ (by rw [crow_at L k hlt j hj, ← hCk.cells, Array.getElem?_toList]; exact hu)
      have q0 := hg 0 _ (by omega) rfl
      have q1 := hg 1 _ (by omega) rfl
      have q2 := hg 2 _ (by omega) rfl
      have q3 := hg 3 _ (by omega) rfl
      have q4 := hg 4 _ (by omega) rfl
      have q5 := hg 5 _ (by omega) rfl
      have q6 := hg 6 _ (by omega) rfl
      have q7 := hg 7 _ (by omega) rfl
      have q8 := hg 8 _ (by omega) rfl
      rw [Nat.add_zero] at q0
      have qs : W.cell? ⟨g2, k, none⟩ = some (.string (str L[k])) := by
        rw [hW.out]
        exact hx2 _ _ (by simp [srow, hlt])
      have h1W : W.ownsRow B1 27 9 (.slice (some ⟨g1, 0, none⟩) L.length cap1) L.length (crow L) := by rw [hW.out]; exact h1
      have h2W : W.ownsRow B2 9 1 (.slice (some ⟨g2, 0, none⟩) L.length cap2) L.length (srow L) := by rw [hW.out]; exact h2
      have hbW := hbel.trans (below_at_drew hW _)
      have HK := Lib.hid hCk
      clear hg hx1 hx2 h1 h2 hbel hCk
      repeat still_step
      refine wpStill_nil ?_
      go_wp2_with fail
      refine (is_any HK.out (str L[k]) (str_list _) _).mono ?_
      rintro e w2 ⟨rfl, hb2⟩
      have h1 := own_below h1W hb2 (Nat.le_refl _)
      have h2 := own_below h2W hb2 (Nat.le_refl _)
      have hbel := hbW.trans (hb2.mono hbW.size)
      clear q0 q1 q2 q3 q4 q5 q6 q7 q8 qs h1W h2W
      go_wp2_with fail
      go_roundw
      case rel => exact ⟨k + 1, by omega, by go_num, h1, h2, hbel⟩
      case measure => simp [intOf]; omega
    · obtain rfl : k = L.length := by omega
      go_wp2
      go_ret
      exact ⟨rfl, hbel⟩
theorem split_cubs {t u : List UInt8} {n m : Nat} {c o d p : Nat → Bool} (h : Cub t n c o) (h' : Cub u m d p) : ∀ x ∈ splitT t u, ∃ n c o, Cub x n c o := by
  intro x hx
  unfold splitT at hx
  by_cases hok : meetOk t u
  · rw [if_pos hok] at hx
    obtain ⟨rfl, h0⟩ := (fit_iff h h').1 hok.1
    unfold partsT at hx
    obtain ⟨i, hi, rfl⟩ := List.mem_map.1 hx
    rw [List.mem_filter, List.mem_range] at hi
    obtain ⟨hi, hs⟩ := hi
    rw [← h.hn] at hi
    rw [splits_iff h h' i hi] at hs
    have hc : c i = false := by cases hc : c i with | false => rfl | true => rw [hc] at hs; simp at hs
    have hd : d i = true := by rw [hc] at hs; simpa using hs
    exact ⟨_, _, _, part_cub h h' ((noconf_iff h h').1 hok.2) hi hc hd (o'' := fun k => if k = i then !p i else pre i o (bor o p) k) (fun k => rfl)⟩
  · rw [if_neg hok] at hx
    simp only [List.mem_singleton] at hx
    subst hx
    exact ⟨_, _, _, h⟩
theorem split_len {t u : List UInt8} {n : Nat} {c o : Nat → Bool} (h : Cub t n c o) : (splitT t u).length ≤ 1000000 := by
  have := h.le
  unfold splitT
  split
  · have := partsT_le t u t.length; omega
  · simp
end Go.Proofs.Ytoglcocplpdlhaa.Tn
