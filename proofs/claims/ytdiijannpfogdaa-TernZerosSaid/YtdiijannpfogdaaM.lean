import Derived.Test.YtdiijannpfogdaaTi
import Derived.Deep.RegionWith
import Derived.StillTailTactics
namespace Go.Proofs.Ytdiijannpfogdaa.Tn
open Go.RowKit
attribute [local go_sem] cv cs wv eq_arr
theorem num_any (n : Int) (w : World) : Calls Try.prog 40 #[.int .i64 n] w fun e w' => e = .returned (.int .i64 n) ∧ w = w' := by
  go_enter Try.func40, Try.ntmps40
  go_wp2
  go_ret
  exact ⟨rfl, rfl⟩
theorem ne_no {b c : UInt8} (h : b = c) : ((b.toNat : Int) != (c.toNat : Int)) = false := by subst h; simp
theorem ne_yes {b c : UInt8} (h : ¬ b = c) : ((b.toNat : Int) != (c.toNat : Int)) = true := by
  rw [bne_iff_ne]
  intro e
  exact h (UInt8.toNat_inj.1 (by omega))
theorem ne_no48 {b : UInt8} (h : b = 48) : ((b.toNat : Int) != 48) = false := ne_no h
theorem ne_yes48 {b : UInt8} (h : ¬ b = 48) : ((b.toNat : Int) != 48) = true := ne_yes h
theorem ne_no49 {b : UInt8} (h : b = 49) : ((b.toNat : Int) != 49) = false := ne_no h
theorem ne_yes49 {b : UInt8} (h : ¬ b = 49) : ((b.toNat : Int) != 49) = true := ne_yes h
theorem ne_no120 {b : UInt8} (h : b = 120) : ((b.toNat : Int) != 120) = false := ne_no h
theorem ne_yes120 {b : UInt8} (h : ¬ b = 120) : ((b.toNat : Int) != 120) = true := ne_yes h
set_option maxHeartbeats 400000 in
theorem rparse_loop (s : ByteArray) (w : World) (h : s.size ≤ 256) (h0 : 0 < s.size) :
    Calls Try.prog 64 #[.string s] w fun e w' => e = .returned (.int .i64 (parseE s.data.toList)) ∧ w = w' := by
  have he := isEmpty_no s h0
  go_enter Try.func64, Try.ntmps64
  go_wp2
  go_loop [3] (fun i => ∃ k : Nat, k ≤ s.size ∧ i = .int .i64 k ∧ (s.data.toList.take k).all okB = true) (fun i => s.size - (intOf i).toNat)
  case atStart => exact ⟨0, Nat.zero_le _, rfl, rfl⟩
  case round =>
    obtain ⟨k, hk, rfl, hall⟩ := hrel
    by_cases hlt : k < s.size
    · have hb : s.data.toList[k]? = some s[k] := by
        rw [Array.getElem?_toList]; exact Array.getElem?_eq_getElem hlt
      have hal : (s.data.toList.take (k + 1)).all okB = okB s[k] := by
        rw [List.take_add_one, List.all_append, hall, hb]; simp
      have HA := Lib.hid hal
      clear hal hb
      by_cases hok : okB s[k] = true
      · have hx : s[k] = 48 ∨ s[k] = 49 ∨ s[k] = 120 := by simpa [okB, or_assoc] using hok
        have HO := Lib.hid hok
        clear hok
        rcases hx with hx | hx | hx
        · have t1 := ne_no48 hx
          clear hx
          go_wp2
          go_round
          case rel => exact ⟨k + 1, by omega, by go_num, by rw [HA.out]; exact HO.out⟩
          case measure => simp [intOf]; omega
        · have t1 := ne_yes48 (b := s[k]) (by rw [hx]; decide)
          have t2 := ne_no49 hx
          clear hx
          go_wp2
          go_round
          case rel => exact ⟨k + 1, by omega, by go_num, by rw [HA.out]; exact HO.out⟩
          case measure => simp [intOf]; omega
        · have t1 := ne_yes48 (b := s[k]) (by rw [hx]; decide)
          have t2 := ne_yes49 (b := s[k]) (by rw [hx]; decide)
          have t3 := ne_no120 hx
          clear hx
          go_wp2
          go_round
          case rel => exact ⟨k + 1, by omega, by go_num, by rw [HA.out]; exact HO.out⟩
          case measure => simp [intOf]; omega
      · have hx : ¬ s[k] = 48 ∧ ¬ s[k] = 49 ∧ ¬ s[k] = 120 := by simpa [okB, and_assoc] using hok
        have HO := Lib.hid hok
        clear hok
        have t1 := ne_yes48 hx.1
        have t2 := ne_yes49 hx.2.1
        have t3 := ne_yes120 hx.2.2
        clear hx
        go_wp2
        go_ret
        exact ⟨by rw [parse_bad s k hlt h h0 (by simpa using HO.out)]; rfl, rfl⟩
    · go_wp2
      go_ret
      exact ⟨by rw [(parse_done s k hk (by omega) h h0 hall).2]; rfl, rfl⟩
theorem rparse_any (s : ByteArray) (w : World) (hs : s.size ≤ maxLen) :
    Calls Try.prog 64 #[.string s] w fun e w' => e = .returned (.int .i64 (parseE s.data.toList)) ∧ w = w' := by
  have hl := len_s s
  unfold maxLen at hs
  by_cases h : 256 < s.size
  · have e : parseE s.data.toList = 2 := by unfold parseE; rw [if_pos (by omega)]
    rw [e]
    clear hl e
    go_enter Try.func64, Try.ntmps64
    go_wp2
    go_ret
    exact ⟨rfl, rfl⟩
  · by_cases h0 : s.size = 0
    · have he := isEmpty_yes s h0
      have hn : s.data.toList = [] := List.eq_nil_of_length_eq_zero (by omega)
      have e : parseE s.data.toList = 10 := by rw [hn]; rfl
      rw [e]
      have h1 : s.size ≤ 256 := by omega
      clear hl e h0 hn h
      go_enter Try.func64, Try.ntmps64
      go_wp2
      go_ret
      exact ⟨rfl, rfl⟩
    · exact rparse_loop s w (by omega) (by omega)
theorem rcube_any (s : ByteArray) (w : World) (hs : s.size ≤ maxLen) :
    Calls Try.prog 33 #[.string s] w fun e w' => e = .returned (.string (str (cubeT s.data.toList))) ∧ w = w' := by
  by_cases h : parseE s.data.toList = 0
  · have e : cubeT s.data.toList = s.data.toList := by unfold cubeT; rw [if_pos h]
    have hp := rparse_any s w hs
    rw [e, str_of]
    rw [h] at hp
    clear e h
    have HP := Lib.hid hp
    clear hp
    go_enter Try.func33, Try.ntmps33
    go_wp2_with fail
    refine HP.out.mono ?_
    rintro e w1 ⟨rfl, rfl⟩
    go_wp2_with fail
    go_ret
    exact ⟨rfl, rfl⟩
  · have e : cubeT s.data.toList = [] := by unfold cubeT; rw [if_neg h]
    have hp := rparse_any s w hs
    have hb : (parseE s.data.toList != 0) = true := by simpa using h
    rw [e]
    clear e h
    have HP := Lib.hid hp
    clear hp
    go_enter Try.func33, Try.ntmps33
    go_wp2_with fail
    refine HP.out.mono ?_
    rintro e w1 ⟨rfl, rfl⟩
    go_wp2_with fail
    go_ret
    exact ⟨rfl, rfl⟩
theorem parse_s {n : Nat} {c o : Nat → Bool} (s : ByteArray) (hs : s.size ≤ maxLen) (hC : Cub (cubeT s.data.toList) n c o) (w : World) :
    Calls Try.prog 27 #[.string s] w fun e w' => e = .returned (.tuple #[cv n c o, .int .i64 (parseE s.data.toList)]) ∧ Below w.heap.size w w' := by
  have h := parse_any s w hs
  rw [← hC.val] at h
  exact h
set_option maxHeartbeats 400000 in
theorem made_any {n : Nat} {c o : Nat → Bool} (s : ByteArray) (hs : s.size ≤ maxLen) (hC : Cub (cubeT s.data.toList) n c o) (w : World) :
    Calls Try.prog 26 #[.string s] w fun e w' => e = .returned (.tuple #[cv n c o, .bool true]) ∧ Below w.heap.size w w' := by
  have HC := Lib.hid hC
  clear hC
  go_enter Try.func26, Try.ntmps26
  go_wp2_with fail
  refine (parse_s s hs HC.out _).mono ?_
  rintro e w1 ⟨rfl, hb1⟩
  have hR : Blk w1 w.heap.size 30 #[.int .i64 0, .int .u64 0, .int .u64 0, .int .u64 0, .int .u64 0, .int .u64 0, .int .u64 0, .int .u64 0, .int .u64 0] := (Blk.new w 30 _).below hb1 (by simp)
  have hz : w.heap.size < w1.heap.size := hR.lt
  have hcR := hR.cell
  go_wp2_with fail
  refine (rparse_any s _ hs).mono ?_
  rintro e w2 ⟨rfl, rfl⟩
  go_wp2_with fail
  refine still_tail 3 (by kernel_rfl) (by kernel_rfl) fun W hW => ?_
  simp only [List.take_succ_cons, List.take_zero, List.drop_succ_cons, List.drop_zero]
  have hB : Blk W w1.heap.size 30 (cs n c o) := (Blk.new w1 30 (cs n c o)).at_drew hW
  have hR2 : Blk W w.heap.size 30 _ := (hR.alloc _).at_drew hW
  have hbW : Below w.heap.size w W := (((((Below.refl _ w).alloc (Nat.le_refl _) _).trans (hb1.mono (by simp))).alloc (by omega) _).trans (below_at_drew hW _))
  have hz1 : w1.heap.size < W.heap.size := hB.lt
  have hcB := hB.cell
  clear hcR
  repeat still_step
  still_call (swp (rcube_any s _ hs))
  refine wpStill_nil ?_
  go_wp2_with fail
  refine (is_any HC.out _ (str_list _) _).mono ?_
  rintro e w2 ⟨rfl, hb2⟩
  have hB2 : Blk w2 w1.heap.size 30 (cs n c o) := hB.below hb2 hz1
  have hR3 : Blk w2 w.heap.size 30 _ := hR2.below hb2 hR2.lt
  have hb2' : Below w.heap.size w w2 := hbW.trans (hb2.mono hbW.size)
  clear hcB
  go_wp2_with fail
  have hcB4 := hB2.cell
  have hcR4 := hR3.cell
  have hfR4 := hR3.frozen
  go_region_with (go_at_call 40; refine (num_any _ _).mono ?_; rintro e w4 ⟨rfl, rfl⟩)
  all_goals go_wp2
  all_goals refine bodyPost_ret (v := .tuple #[.agg (cs n c o), .bool true]) (by simp [results, Try.results26, go_sem, hcR4]) rfl ⟨rfl, ?_⟩
  all_goals refine Below.trans hb2' ?_
  all_goals go_grown
end Go.Proofs.Ytdiijannpfogdaa.Tn
