/- The document's Members; the laws' comparison of two lists of texts; the laws' clamp. -/
import Derived.Test.YtdiijannpfogdaaMr
import Derived.Test.YtdiijannpfogdaaSp
namespace Go.Proofs.Ytdiijannpfogdaa.Tn
open Go.RowKit
theorem memT_cons (c : Nat → Bool) (n : Nat) (h : Nat → Bool) : ∃ tl, memT c n h = hdr n h :: tl := by
  cases hn : nextF c n h with
  | none => exact ⟨_, memT_none hn⟩
  | some h' => exact ⟨_, memT_some hn⟩
def lenOf : Value → Nat
  | .slice _ m _ => m
  | _ => 0
theorem str_nil : str [] = .empty := rfl
theorem memAll_pos {n : Nat} (hn : 0 < n) (c o : Nat → Bool) : memAll n c o = memT c n o := by unfold memAll; rw [if_neg (by omega)]
set_option maxRecDepth 100000 in
set_option maxHeartbeats 2000000 in
theorem rmembers_pos (a : ByteArray) {n : Nat} {c o : Nat → Bool} (hC : Cub a.data.toList n c o) (h0 : 0 < a.size) (k : Nat) (hk1 : 1 ≤ k) (hk2 : k ≤ 1000000) (w : World) :
    Calls Try.prog 59 #[.string a, .int .i64 (k : Int)] w fun e w' => ∃ v, e = .returned v ∧ w'.ownsRow w.heap.size 9 1 v ((memT c n o).take k).length (srow ((memT c n o).take k)) ∧ Below w.heap.size w w' := by
  have t1 := isEmpty_no a h0
  have HL := Lib.hid fun w => rleast a hC w
  have HAF := Lib.hid fun (b : ByteArray) h (hb : b.data.toList = hdr n h) w => rafter a b hC hb w
  clear hC
  go_enter Try.func59, Try.ntmps59
  go_wp2_with (first | (go_at_call 72; refine (HL.out _).mono ?_; rintro e w1 ⟨rfl, hb1⟩) | (at_builtin; refine app_str (hdr n o) (srow_nil _ w.heap.size) rfl rfl rfl rfl (by omega) hb1.size ?_; intro v' w2 hown2 hb2 _))
  have hbel0 := hb1.trans hb2
  clear hb1 hb2
  simp only [Nat.zero_add, List.nil_append] at hown2
  obtain ⟨av, cv', hv⟩ := own_len hown2
  subst hv
  go_loopw [5, 6] (fun v s wr => ∃ (pre : List (List UInt8)) (h : Nat → Bool), s = .string (str (hdr n h)) ∧ memT c n o = pre ++ memT c n h ∧ pre.length + 1 ≤ k ∧ wr.ownsRow w.heap.size 9 1 v (pre.length + 1) (srow (pre ++ [hdr n h])) ∧ Below w.heap.size w wr) (fun v _ _ => k - lenOf v)
  case atStart => exact ⟨[], o, rfl, rfl, by simpa using hk1, hown2, hbel0⟩
  case round =>
    obtain ⟨pre, h, rfl, hall, hle, hown, hbel⟩ := hrel
    obtain ⟨au, cu, rfl⟩ := own_len hown
    have HALL := Lib.hid hall
    have HOWN := Lib.hid hown
    clear hall hown hown2 hbel0
    have hlen1 : (pre ++ [hdr n h]).length = pre.length + 1 := by simp
    by_cases hlt : pre.length + 1 < k
    · cases hn : nextF c n h with
      | none =>
        have HA0 := Lib.hid (aft_none hn)
        have HM := Lib.hid (memT_none hn)
        clear hn
        go_wp2_with (go_at_call 73; refine (HAF.out (str (hdr n h)) h rfl _).mono ?_; rw [HA0.out]; rintro e w3 ⟨rfl, hb3⟩)
        go_ret
        have e1 : (memT c n o).take k = pre ++ [hdr n h] := by rw [HALL.out, HM.out, List.take_of_length_le (by rw [hlen1]; omega)]
        refine ⟨_, rfl, ?_, hbel.trans (hb3.mono hbel.size)⟩
        rw [e1, hlen1]
        exact own_below HOWN.out hb3 (Nat.le_refl _)
      | some h' =>
        have HA0 := Lib.hid (aft_some hn)
        have HM := Lib.hid (memT_some hn)
        clear hn
        go_wp2_with (first | (go_at_call 73; refine (HAF.out (str (hdr n h)) h rfl _).mono ?_; rw [HA0.out]; rintro e w3 ⟨rfl, hb3⟩; have hown3 := own_below HOWN.out hb3 (Nat.le_refl _); have hbel3 := hbel.trans (hb3.mono hbel.size)) | (at_builtin; refine app_str (hdr n h') hown3 rfl rfl rfl rfl (by omega) hbel3.size ?_; intro v' w4 hown4 hb4 _))
        obtain ⟨a4, c4, hv4⟩ := own_len hown4
        subst hv4
        go_roundw
        case rel => exact ⟨pre ++ [hdr n h], h', rfl, by rw [HALL.out, HM.out]; simp, by rw [hlen1]; omega, by rw [hlen1]; exact hown4, hbel3.trans hb4⟩
        case measure => simp [lenOf]; omega
    · have hkk : k = pre.length + 1 := by omega
      clear hlt
      have hkd : decide ((pre.length : Int) + 1 < (k : Int)) = false := by simp; omega
      have hkd2 : decide (pre.length + 1 < k) = false := by simp; omega
      have HK := Lib.hid hkk
      clear hkk
      go_wp2
      go_ret
      obtain ⟨tl, htl⟩ := memT_cons c n h
      have e1 : (memT c n o).take k = pre ++ [hdr n h] := by
        rw [HALL.out, htl, show pre ++ hdr n h :: tl = (pre ++ [hdr n h]) ++ tl by simp, List.take_left' (by rw [hlen1]; exact HK.out.symm)]
      refine ⟨_, rfl, ?_, hbel⟩
      rw [e1, hlen1]
      exact HOWN.out
theorem rmembers_any (a : ByteArray) {n : Nat} {c o : Nat → Bool} (hC : Cub a.data.toList n c o) (k : Nat) (hk2 : k ≤ 1000000) (w : World) :
    Calls Try.prog 59 #[.string a, .int .i64 (k : Int)] w fun e w' => ∃ v, e = .returned v ∧ w'.ownsRow w.heap.size 9 1 v ((memAll n c o).take k).length (srow ((memAll n c o).take k)) ∧ Below w.heap.size w w' := by
  have hn : n = a.size := by rw [hC.hn, len_s]
  by_cases h0 : a.size = 0
  · have t1 := isEmpty_yes a h0
    have e1 : (memAll n c o).take k = [] := by unfold memAll; rw [if_pos (by omega)]; simp
    rw [e1]
    clear e1 hC hn h0
    go_enter Try.func59, Try.ntmps59
    go_wp2
    go_ret
    exact ⟨_, rfl, srow_nil _ _, Below.refl _ _⟩
  · by_cases hk : 1 ≤ k
    · rw [memAll_pos (by omega)]
      exact rmembers_pos a hC (by omega) k hk hk2 w
    · obtain rfl : k = 0 := by omega
      have t1 := isEmpty_no a (by omega)
      rw [List.take_zero]
      clear hC hn h0 hk
      go_enter Try.func59, Try.ntmps59
      go_wp2
      go_ret
      exact ⟨_, rfl, srow_nil _ _, Below.refl _ _⟩
theorem srow_at (L : List (List UInt8)) (i : Nat) (t : List UInt8) (h : L[i]? = some t) : (srow L)[i]? = some (.string (str t)) := by simp [srow, h]
theorem str_neq (t : List UInt8) (w : World) : (binOp .neq 9 (.string (str t)) (.string (str t))).run Try.prog w = .ok (.bool false) w := by
  simp [go_sem]
set_option maxRecDepth 100000 in
set_option maxHeartbeats 1000000 in
theorem same_yes (L : List (List UInt8)) (v1 v2 : Value) (B1 B2 : Nat) (w : World) (h1 : w.ownsRow B1 9 1 v1 L.length (srow L)) (h2 : w.ownsRow B2 9 1 v2 L.length (srow L)) (hL : L.length ≤ 1000000) :
    Calls Try.prog 58 #[v1, v2] w fun e w' => e = .returned (.bool true) ∧ Below w.heap.size w w' := by
  obtain ⟨a1, c1, rfl⟩ := own_len h1
  obtain ⟨a2, c2, rfl⟩ := own_len h2
  have HX := Lib.hid h1
  have HY := Lib.hid h2
  have hne : ((L.length : Int) != (L.length : Int)) = false := by simp
  clear h1 h2
  go_enter Try.func58, Try.ntmps58
  go_wp2
  go_loopw [5] (fun i wr => ∃ k : Nat, k ≤ L.length ∧ i = .int .i64 k ∧ Below w.heap.size w wr) (fun i _ => L.length - (intOf i).toNat)
  case atStart => exact ⟨0, Nat.zero_le _, rfl, Below.refl _ _⟩
  case round =>
    obtain ⟨k, hk, rfl, hbel⟩ := hrel
    by_cases hlt : k < L.length
    · obtain ⟨g, cap, hg1, hg2, _, hq⟩ := own_at HX.out (by omega)
      obtain ⟨g', cap', hg1', hg2', _, hq'⟩ := own_at HY.out (by omega)
      have hg3 : g < w.heap.size := by obtain ⟨_, _, e, _, hl⟩ := own_form HX.out (by omega); rw [hg1] at e; cases e; exact hl
      have hg3' : g' < w.heap.size := by obtain ⟨_, _, e, _, hl⟩ := own_form HY.out (by omega); rw [hg1'] at e; cases e; exact hl
      cases hg1
      cases hg1'
      have q0 := hq _ _ (srow_at L k L[k] (by simp [hlt]))
      have q1 := hq' _ _ (srow_at L k L[k] (by simp [hlt]))
      rw [← hbel.cell (p := ⟨g, k, none⟩) hg3] at q0
      rw [← hbel.cell (p := ⟨g', k, none⟩) hg3'] at q1
      generalize L[k] = t at *
      have hqq := str_neq t
      clear hq hq'
      go_wp2
      go_quiet (fail)
      go_wp2
      go_roundw
      case rel => exact ⟨k + 1, by omega, by go_num, below_drewN hbel _⟩
      case measure => simp [intOf]; omega
    · go_wp2
      go_ret
      exact ⟨rfl, hbel⟩
def clamp (n most : Int) : Nat := if n < 0 then 0 else if most < n then most.toNat else n.toNat
theorem clamp_le (n most : Int) (hm : 0 ≤ most) : (clamp n most : Int) ≤ most := by
  unfold clamp
  split
  · omega
  · split <;> omega
theorem within_law (n most : Int) (hm : 0 ≤ most) (w : World) : Calls Try.prog 56 #[.int .i64 n, .int .i64 most] w fun e w' => e = .returned (.int .i64 (clamp n most : Nat)) ∧ w = w' := by
  by_cases h1 : n < 0
  · have e1 : ((clamp n most : Nat) : Int) = 0 := by unfold clamp; rw [if_pos h1]; rfl
    rw [e1]
    go_enter Try.func56, Try.ntmps56
    go_wp2
    go_ret
    exact ⟨rfl, rfl⟩
  · by_cases h2 : most < n
    · have e1 : ((clamp n most : Nat) : Int) = most := by unfold clamp; rw [if_neg h1, if_pos h2]; omega
      rw [e1]
      go_enter Try.func56, Try.ntmps56
      go_wp2
      go_ret
      exact ⟨rfl, rfl⟩
    · have e1 : ((clamp n most : Nat) : Int) = n := by unfold clamp; rw [if_neg h1, if_neg h2]; omega
      rw [e1]
      go_enter Try.func56, Try.ntmps56
      go_wp2
      go_ret
      exact ⟨rfl, rfl⟩
end Go.Proofs.Ytdiijannpfogdaa.Tn
