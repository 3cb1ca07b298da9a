/- A statement's patterns and holds, merged -/
import Derived.Test.YtaleaicfllcpiaaDoorFh
import Derived.Test.YtaleaicfllcpiaaDoorVr
import Derived.BigQuiet
import Derived.Deep.QuietTactic
namespace Go.Proofs.YtaleaicfllcpiaaDoor.Fl
open Go.RowKit Mm Law
set_option linter.unusedSimpArgs false
set_option linter.unusedSectionVars false
set_option linter.unusedVariables false
def patB (S : List UInt8) (i : Nat) : UInt8 := if i < S.length then (if (S.getD i 0).toNat % 3 = 0 then 48 else if (S.getD i 0).toNat % 3 = 1 then 49 else 120) else 120
def patT (S : List UInt8) (n : Nat) : List UInt8 := (List.range n).map (patB S)
theorem patT_len (S : List UInt8) (n : Nat) : (patT S n).length = n := by simp [patT]
theorem patT_succ (S : List UInt8) (n : Nat) : patT S (n + 1) = patT S n ++ [patB S n] := by unfold patT; rw [List.range_succ, List.map_append]; rfl
theorem patT_form (S : List UInt8) (n : Nat) : ∀ x ∈ patT S n, x ∈ dShow := by
  intro x hx
  unfold patT at hx
  obtain ⟨i, _, rfl⟩ := List.mem_map.1 hx
  unfold patB dShow
  repeat' split
  all_goals simp
set_option maxRecDepth 100000 in
set_option maxHeartbeats 8000000 in
theorem pattern_any (t : ByteArray) (hts : t.size ≤ maxLen) (b : Nat) (hb : b ≤ 32) (w : World) :
    Calls Tryd.prog 59 #[.string t, .int .i64 (b : Int)] w fun e w' => e = .returned (.string (str (patT t.data.toList b))) ∧ Below w.heap.size w w' := by
  have HBG := Lib.hid (bget t)
  have HTL := Lib.hid (len_s t)
  unfold maxLen at hts
  obtain ⟨S, hS⟩ : ∃ S, t.data.toList = S := ⟨_, rfl⟩
  rw [hS] at HBG HTL ⊢
  clear hS
  go_enter Tryd.func59, Tryd.ntmps59
  go_wp2_with fail
  go_loopw [5, 6] (fun m i wr => ∃ k : Nat, k ≤ b ∧ i = .int .i64 (k : Int) ∧ wr.ownsRow w.heap.size 5 1 m k ((patT S k).map bv) ∧ Below w.heap.size w wr) (fun _ i _ => b - (intOf i).toNat)
  case atStart => exact ⟨0, Nat.zero_le _, rfl, own_nilB _ _, Below.refl _ _⟩
  case round =>
    obtain ⟨k, hk, rfl, hown, hbel⟩ := hrel
    have HO := Lib.hid hown
    clear hown
    by_cases hlt : k < b
    · have HS := Lib.hid (patT_succ S k)
      have x0 : (k : Int) < (b : Int) := by omega
      have x1 : (0 : Int) ≤ (k : Int) := by omega
      by_cases hin : k < t.size
      · have hg := HBG.out k hin
        have hgd : S.getD k 0 = t[k] := by rw [List.getD_eq_getElem?_getD, hg]; rfl
        have y1 : (k : Int) < (t.size : Int) := by omega
        have hm : t[k].toNat % 3 = 0 ∨ t[k].toNat % 3 = 1 ∨ t[k].toNat % 3 = 2 := by omega
        rcases hm with hm | hm | hm
        · have HB := Lib.hid (show patB S k = 48 from by unfold patB; rw [if_pos (by have := HTL.out; omega), hgd, if_pos hm])
          have hz : (t[k].toNat : Int) % 3 = 0 := by omega
          clear hg hgd hm
          go_wp2_with (at_builtin; refine app_byte 48 HO.out rfl rfl rfl rfl (by omega) hbel.size ?_; intro v1 w6 hown6 hb6)
          go_roundw
          case rel => exact ⟨k + 1, by omega, by go_num, by rw [HS.out, HB.out]; exact hown6, hbel.trans hb6⟩
          case measure => simp [intOf]; omega
        · have HB := Lib.hid (show patB S k = 49 from by unfold patB; rw [if_pos (by have := HTL.out; omega), hgd, if_neg (by omega), if_pos hm])
          have hz : (t[k].toNat : Int) % 3 = 1 := by omega
          clear hg hgd hm
          go_wp2_with (at_builtin; refine app_byte 49 HO.out rfl rfl rfl rfl (by omega) hbel.size ?_; intro v1 w6 hown6 hb6)
          go_roundw
          case rel => exact ⟨k + 1, by omega, by go_num, by rw [HS.out, HB.out]; exact hown6, hbel.trans hb6⟩
          case measure => simp [intOf]; omega
        · have HB := Lib.hid (show patB S k = 120 from by unfold patB; rw [if_pos (by have := HTL.out; omega), hgd, if_neg (by omega), if_neg (by omega)])
          have hz : (t[k].toNat : Int) % 3 = 2 := by omega
          clear hg hgd hm
          go_wp2_with (at_builtin; refine app_byte 120 HO.out rfl rfl rfl rfl (by omega) hbel.size ?_; intro v1 w6 hown6 hb6)
          go_roundw
          case rel => exact ⟨k + 1, by omega, by go_num, by rw [HS.out, HB.out]; exact hown6, hbel.trans hb6⟩
          case measure => simp [intOf]; omega
      · have y1 : ¬ (k : Int) < (t.size : Int) := by omega
        have HB := Lib.hid (show patB S k = 120 from by unfold patB; rw [if_neg (by have := HTL.out; omega)])
        go_wp2_with (at_builtin; refine app_byte 120 HO.out rfl rfl rfl rfl (by omega) hbel.size ?_; intro v1 w6 hown6 hb6)
        go_roundw
        case rel => exact ⟨k + 1, by omega, by go_num, by rw [HS.out, HB.out]; exact hown6, hbel.trans hb6⟩
        case measure => simp [intOf]; omega
    · have hkb : k = b := by omega
      have hst := str_own HO.out
      have HL := Lib.hid (show patT S k = patT S b from by rw [hkb])
      clear hkb
      go_wp2_with fail
      go_ret
      exact ⟨by rw [HL.out]; rfl, hbel⟩
set_option maxRecDepth 100000 in
set_option maxHeartbeats 8000000 in
theorem fits_any (c : ByteArray) (v b : Nat) (hs : c.size = b) (hb : b ≤ 32) (hv : v < 4294967296) (w : World) :
    Calls Tryd.prog 60 #[.string c, .int .i64 (v : Int), .int .i64 (b : Int)] w fun e w' => e = .returned (.bool (hasB c.data.toList (hiB v b b))) ∧ Below w.heap.size w w' := by
  have hlc := len_s c
  have HG := Lib.hid (bget c)
  have HI := Lib.hid (hasB_iff (c := c.data.toList) (h := hiB v b b) (by rw [hiB_len]; omega))
  have HLC := Lib.hid hlc
  have HSZ := Lib.hid hs
  have hcs : c.size ≤ 32 := by omega
  have hcb : b ≤ c.size := by omega
  clear hlc hs
  go_enter Tryd.func60, Tryd.ntmps60
  go_wp2_with fail
  go_loopw [7] (fun i wr => ∃ k : Nat, k ≤ b ∧ i = .int .i64 k ∧ Below w.heap.size w wr ∧ ∀ j, j < k → c.data.toList[j]? = some 120 ∨ c.data.toList[j]? = (hiB v b b)[j]?) (fun i _ => b - (intOf i).toNat)
  case atStart => exact ⟨0, Nat.zero_le _, rfl, Below.refl _ _, fun j hj => absurd hj (by omega)⟩
  case round =>
    obtain ⟨k, hk, rfl, hbel, hall⟩ := hrel
    have HA := Lib.hid hall
    clear hall
    by_cases hlt : k < b
    · obtain ⟨j, hj⟩ : ∃ j, b = k + 1 + j := ⟨b - (k + 1), by omega⟩
      have hlt2 : k < c.size := by omega
      have e : ((b : Int) - 1 - (k : Int)) = (j : Int) := by omega
      have hbt := bit_val v j hv
      have hjb : j ≤ 31 := by omega
      have i1 : (k : Int) < (c.size : Int) := by omega
      have i2 : (k : Int) < (b : Int) := by omega
      have i0 : (0 : Int) ≤ (k : Int) := by omega
      have HC1 := Lib.hid (HG.out k hlt2)
      have HH1 := Lib.hid (show (hiB v b b)[k]? = some (bitB v j) from by rw [hiB_get v b b k hlt, show b - 1 - k = j from by omega])
      have HST := Lib.hid (fun (h : c.data.toList[k]? = some 120 ∨ c.data.toList[k]? = (hiB v b b)[k]?) => (show ∀ i, i < k + 1 → c.data.toList[i]? = some 120 ∨ c.data.toList[i]? = (hiB v b b)[i]? from fun i hi => by
        rcases Nat.lt_succ_iff_lt_or_eq.1 hi with h1 | rfl
        · exact HA.out i h1
        · exact h))
      have HB1 := Lib.hid hj
      generalize hbv : bitB v j = bt at *
      clear hj hbv
      by_cases hx : c[k] = 120
      · have HN := Lib.hid (HST.out (.inl (by rw [HC1.out, hx])))
        have hd : (((c[k].toNat : Int)) != 120) = false := by rw [hx]; rfl
        clear hx
        go_wp2_with fail
        go_roundw
        case rel => exact ⟨k + 1, by omega, by go_num, hbel, HN.out⟩
        case measure => simp [intOf]; omega
      · have hd : (((c[k].toNat : Int)) != 120) = true := by rw [bne_iff_ne]; exact fun h => hx (UInt8.toNat_inj.1 (by have h58 : (120 : UInt8).toNat = 120 := rfl; omega))
        by_cases hy : c[k] = bt
        · have HN := Lib.hid (HST.out (.inr (by rw [HC1.out, HH1.out, hy])))
          have hy1 : (((c[k].toNat : Int)) != (bt.toNat : Int)) = false := by rw [hy]; simp
          clear hx hy
          go_wp2_with fail
          go_roundw
          case rel => exact ⟨k + 1, by omega, by go_num, hbel, HN.out⟩
          case measure => simp [intOf]; omega
        · have hy1 : (((c[k].toNat : Int)) != (bt.toNat : Int)) = true := by
            rw [bne_iff_ne]
            exact fun h => hy (UInt8.toNat_inj.1 (by omega))
          have HF := Lib.hid (show hasB c.data.toList (hiB v b b) = false from by
            rw [← Bool.not_eq_true, HI.out]
            intro hh
            have := hh k (by rw [HLC.out]; exact hlt2)
            rw [HC1.out, HH1.out] at this
            rcases this with h | h
            · exact hx (Option.some.inj h)
            · exact hy (Option.some.inj h))
          clear hx hy
          go_wp2_with fail
          go_ret
          exact ⟨by rw [HF.out]; rfl, hbel⟩
    · have HT := Lib.hid (show hasB c.data.toList (hiB v b b) = true from HI.out.2 fun i hi => HA.out i (by rw [HLC.out, HSZ.out] at hi; omega))
      go_wp2_with fail
      go_ret
      exact ⟨by rw [HT.out]; rfl, hbel⟩
end Go.Proofs.YtaleaicfllcpiaaDoor.Fl

namespace Go.Proofs.YtaleaicfllcpiaaDoor.Fl
open Go.RowKit Mm Law
set_option linter.unusedVariables false
set_option maxRecDepth 100000 in
set_option maxHeartbeats 8000000 in
theorem hold_n1 (nm : ByteArray) (v b : Nat) (lo : Nat) (r : Bool) (hq : ((v : Int) == (lo : Int)) = r) (w : World) :
    Calls Tryd.prog 29 #[.agg #[.string nm, .int .i64 1, .int .i64 1, .int .i64 (lo : Int), .int .i64 0, .int .i64 0, .string ⟨#[]⟩], .int .i64 (v : Int), .int .i64 (b : Int)] w fun e w' => e = .returned (.bool r) ∧ Below w.heap.size w w' := by
  go_enter Tryd.func29, Tryd.ntmps29
  go_wp2_with fail
  go_ret
  exact ⟨rfl, bal (Below.refl _ _) _⟩
set_option maxRecDepth 100000 in
set_option maxHeartbeats 8000000 in
theorem hold_n2 (nm : ByteArray) (v b : Nat) (lo : Nat) (r : Bool) (hq : ((v : Int) == (lo : Int)) = r) (w : World) :
    Calls Tryd.prog 29 #[.agg #[.string nm, .int .i64 2, .int .i64 1, .int .i64 (lo : Int), .int .i64 0, .int .i64 0, .string ⟨#[]⟩], .int .i64 (v : Int), .int .i64 (b : Int)] w fun e w' => e = .returned (.bool (!r)) ∧ Below w.heap.size w w' := by
  go_enter Tryd.func29, Tryd.ntmps29
  go_wp2_with fail
  go_ret
  exact ⟨rfl, bal (Below.refl _ _) _⟩
set_option maxRecDepth 100000 in
set_option maxHeartbeats 8000000 in
theorem hold_n3 (nm : ByteArray) (v b : Nat) (lo : Nat) (r : Bool) (hq : decide (v < lo) = r) (w : World) :
    Calls Tryd.prog 29 #[.agg #[.string nm, .int .i64 3, .int .i64 1, .int .i64 (lo : Int), .int .i64 0, .int .i64 0, .string ⟨#[]⟩], .int .i64 (v : Int), .int .i64 (b : Int)] w fun e w' => e = .returned (.bool r) ∧ Below w.heap.size w w' := by
  go_enter Tryd.func29, Tryd.ntmps29
  go_wp2_with fail
  go_ret
  exact ⟨rfl, bal (Below.refl _ _) _⟩
set_option maxRecDepth 100000 in
set_option maxHeartbeats 8000000 in
theorem hold_n4 (nm : ByteArray) (v b : Nat) (lo : Nat) (r : Bool) (hq : decide (v ≤ lo) = r) (w : World) :
    Calls Tryd.prog 29 #[.agg #[.string nm, .int .i64 4, .int .i64 1, .int .i64 (lo : Int), .int .i64 0, .int .i64 0, .string ⟨#[]⟩], .int .i64 (v : Int), .int .i64 (b : Int)] w fun e w' => e = .returned (.bool r) ∧ Below w.heap.size w w' := by
  go_enter Tryd.func29, Tryd.ntmps29
  go_wp2_with fail
  go_ret
  exact ⟨rfl, bal (Below.refl _ _) _⟩
set_option maxRecDepth 100000 in
set_option maxHeartbeats 8000000 in
theorem hold_n5 (nm : ByteArray) (v b : Nat) (lo : Nat) (r : Bool) (hq : decide (lo < v) = r) (w : World) :
    Calls Tryd.prog 29 #[.agg #[.string nm, .int .i64 5, .int .i64 1, .int .i64 (lo : Int), .int .i64 0, .int .i64 0, .string ⟨#[]⟩], .int .i64 (v : Int), .int .i64 (b : Int)] w fun e w' => e = .returned (.bool r) ∧ Below w.heap.size w w' := by
  go_enter Tryd.func29, Tryd.ntmps29
  go_wp2_with fail
  go_ret
  exact ⟨rfl, bal (Below.refl _ _) _⟩
set_option maxRecDepth 100000 in
set_option maxHeartbeats 8000000 in
theorem hold_n6 (nm : ByteArray) (v b : Nat) (lo : Nat) (r : Bool) (hq : decide (lo ≤ v) = r) (w : World) :
    Calls Tryd.prog 29 #[.agg #[.string nm, .int .i64 6, .int .i64 1, .int .i64 (lo : Int), .int .i64 0, .int .i64 0, .string ⟨#[]⟩], .int .i64 (v : Int), .int .i64 (b : Int)] w fun e w' => e = .returned (.bool r) ∧ Below w.heap.size w w' := by
  go_enter Tryd.func29, Tryd.ntmps29
  go_wp2_with fail
  go_ret
  exact ⟨rfl, bal (Below.refl _ _) _⟩
set_option maxRecDepth 100000 in
set_option maxHeartbeats 8000000 in
theorem hold_p1 (nm : ByteArray) (v b : Nat) (lo ln : Nat) (r : Bool) (hln : ln ≤ b) (hb : b ≤ 32) (hq : ((v : Int) / 2 ^ (b - ln) == (lo : Int) / 2 ^ (b - ln)) = r) (w : World) :
    Calls Tryd.prog 29 #[.agg #[.string nm, .int .i64 1, .int .i64 2, .int .i64 (lo : Int), .int .i64 0, .int .i64 (ln : Int), .string ⟨#[]⟩], .int .i64 (v : Int), .int .i64 (b : Int)] w fun e w' => e = .returned (.bool r) ∧ Below w.heap.size w w' := by
  have hw1 : IntKind.i64.wrap ((b : Int) - (ln : Int)) = (b : Int) - (ln : Int) := IntWalk.i64_in _ (by omega)
  have x0 : (0 : Int) ≤ (b : Int) - (ln : Int) := by omega
  have x1 : ((b : Int) - (ln : Int)).toNat = b - ln := by omega
  go_enter Tryd.func29, Tryd.ntmps29
  go_wp2_with fail
  go_quiet (fail)
  go_wp2_with fail
  go_ret
  exact ⟨rfl, below_drewN (bal (Below.refl _ _) _) _⟩
set_option maxRecDepth 100000 in
set_option maxHeartbeats 8000000 in
theorem hold_r1 (nm : ByteArray) (v b : Nat) (lo hi : Nat) (r : Bool) (h : lo ≤ v) (hq : decide (v ≤ hi) = r) (w : World) :
    Calls Tryd.prog 29 #[.agg #[.string nm, .int .i64 1, .int .i64 3, .int .i64 (lo : Int), .int .i64 (hi : Int), .int .i64 0, .string ⟨#[]⟩], .int .i64 (v : Int), .int .i64 (b : Int)] w fun e w' => e = .returned (.bool r) ∧ Below w.heap.size w w' := by
  go_enter Tryd.func29, Tryd.ntmps29
  go_wp2_with fail
  go_ret
  exact ⟨rfl, bal (Below.refl _ _) _⟩
set_option maxRecDepth 100000 in
set_option maxHeartbeats 8000000 in
theorem hold_r1n (nm : ByteArray) (v b : Nat) (lo hi : Nat) (h : v < lo) (w : World) :
    Calls Tryd.prog 29 #[.agg #[.string nm, .int .i64 1, .int .i64 3, .int .i64 (lo : Int), .int .i64 (hi : Int), .int .i64 0, .string ⟨#[]⟩], .int .i64 (v : Int), .int .i64 (b : Int)] w fun e w' => e = .returned (.bool false) ∧ Below w.heap.size w w' := by
  go_enter Tryd.func29, Tryd.ntmps29
  go_wp2_with fail
  go_ret
  exact ⟨rfl, bal (Below.refl _ _) _⟩
set_option maxRecDepth 100000 in
set_option maxHeartbeats 8000000 in
theorem hold_t1 (nm : ByteArray) (v b : Nat) (pt : ByteArray) (r : Bool) (hs : pt.size = b) (hb : b ≤ 32) (hv : v < 4294967296) (hq : hasB pt.data.toList (hiB v b b) = r) (w : World) :
    Calls Tryd.prog 29 #[.agg #[.string nm, .int .i64 1, .int .i64 4, .int .i64 0, .int .i64 0, .int .i64 0, .string pt], .int .i64 (v : Int), .int .i64 (b : Int)] w fun e w' => e = .returned (.bool r) ∧ Below w.heap.size w w' := by
  have HF := Lib.hid (fun w => fits_any pt v b hs hb hv w)
  rw [hq] at HF
  clear hq hs
  go_enter Tryd.func29, Tryd.ntmps29
  go_wp2_with fail
  refine (HF.out _).mono ?_
  rintro e w1 ⟨rfl, hb1⟩
  have hB1 := (Blk.new w 52 #[.string nm, .int .i64 1, .int .i64 4, .int .i64 0, .int .i64 0, .int .i64 0, .string pt]).below hb1 (by simp)
  have HG1 := Lib.hid (bnx (bal (Below.refl _ _) _) hb1)
  have e1 := hB1.cell 1
  clear hb1 hB1
  go_wp2_with fail
  go_ret
  exact ⟨rfl, HG1.out⟩
set_option maxRecDepth 100000 in
set_option maxHeartbeats 8000000 in
theorem hold_p2 (nm : ByteArray) (v b : Nat) (lo ln : Nat) (r : Bool) (hln : ln ≤ b) (hb : b ≤ 32) (hq : ((v : Int) / 2 ^ (b - ln) == (lo : Int) / 2 ^ (b - ln)) = r) (w : World) :
    Calls Tryd.prog 29 #[.agg #[.string nm, .int .i64 2, .int .i64 2, .int .i64 (lo : Int), .int .i64 0, .int .i64 (ln : Int), .string ⟨#[]⟩], .int .i64 (v : Int), .int .i64 (b : Int)] w fun e w' => e = .returned (.bool (!r)) ∧ Below w.heap.size w w' := by
  have hw1 : IntKind.i64.wrap ((b : Int) - (ln : Int)) = (b : Int) - (ln : Int) := IntWalk.i64_in _ (by omega)
  have x0 : (0 : Int) ≤ (b : Int) - (ln : Int) := by omega
  have x1 : ((b : Int) - (ln : Int)).toNat = b - ln := by omega
  go_enter Tryd.func29, Tryd.ntmps29
  go_wp2_with fail
  go_quiet (fail)
  go_wp2_with fail
  go_ret
  exact ⟨rfl, below_drewN (bal (Below.refl _ _) _) _⟩
set_option maxRecDepth 100000 in
set_option maxHeartbeats 8000000 in
theorem hold_r2 (nm : ByteArray) (v b : Nat) (lo hi : Nat) (r : Bool) (h : lo ≤ v) (hq : decide (v ≤ hi) = r) (w : World) :
    Calls Tryd.prog 29 #[.agg #[.string nm, .int .i64 2, .int .i64 3, .int .i64 (lo : Int), .int .i64 (hi : Int), .int .i64 0, .string ⟨#[]⟩], .int .i64 (v : Int), .int .i64 (b : Int)] w fun e w' => e = .returned (.bool (!r)) ∧ Below w.heap.size w w' := by
  go_enter Tryd.func29, Tryd.ntmps29
  go_wp2_with fail
  go_ret
  exact ⟨rfl, bal (Below.refl _ _) _⟩
set_option maxRecDepth 100000 in
set_option maxHeartbeats 8000000 in
theorem hold_r2n (nm : ByteArray) (v b : Nat) (lo hi : Nat) (h : v < lo) (w : World) :
    Calls Tryd.prog 29 #[.agg #[.string nm, .int .i64 2, .int .i64 3, .int .i64 (lo : Int), .int .i64 (hi : Int), .int .i64 0, .string ⟨#[]⟩], .int .i64 (v : Int), .int .i64 (b : Int)] w fun e w' => e = .returned (.bool true) ∧ Below w.heap.size w w' := by
  go_enter Tryd.func29, Tryd.ntmps29
  go_wp2_with fail
  go_ret
  exact ⟨rfl, bal (Below.refl _ _) _⟩
set_option maxRecDepth 100000 in
set_option maxHeartbeats 8000000 in
theorem hold_t2 (nm : ByteArray) (v b : Nat) (pt : ByteArray) (r : Bool) (hs : pt.size = b) (hb : b ≤ 32) (hv : v < 4294967296) (hq : hasB pt.data.toList (hiB v b b) = r) (w : World) :
    Calls Tryd.prog 29 #[.agg #[.string nm, .int .i64 2, .int .i64 4, .int .i64 0, .int .i64 0, .int .i64 0, .string pt], .int .i64 (v : Int), .int .i64 (b : Int)] w fun e w' => e = .returned (.bool (!r)) ∧ Below w.heap.size w w' := by
  have HF := Lib.hid (fun w => fits_any pt v b hs hb hv w)
  rw [hq] at HF
  clear hq hs
  go_enter Tryd.func29, Tryd.ntmps29
  go_wp2_with fail
  refine (HF.out _).mono ?_
  rintro e w1 ⟨rfl, hb1⟩
  have hB1 := (Blk.new w 52 #[.string nm, .int .i64 2, .int .i64 4, .int .i64 0, .int .i64 0, .int .i64 0, .string pt]).below hb1 (by simp)
  have HG1 := Lib.hid (bnx (bal (Below.refl _ _) _) hb1)
  have e1 := hB1.cell 1
  clear hb1 hB1
  go_wp2_with fail
  go_ret
  exact ⟨rfl, HG1.out⟩
def isB (T : Tst) (v b : Nat) : Bool :=
  if T.fo = 1 then decide (v = T.lo.toNat) else if T.fo = 2 then decide (v / 2 ^ (b - T.ln.toNat) = T.lo.toNat / 2 ^ (b - T.ln.toNat)) else if T.fo = 3 then decide (T.lo.toNat ≤ v) && decide (v ≤ T.hi.toNat) else hasB T.pt.data.toList (hiB v b b)
def hldB (T : Tst) (v b : Nat) : Bool :=
  if T.op = 1 then isB T v b else if T.op = 2 then !isB T v b else if T.op = 3 then decide (v < T.lo.toNat) else if T.op = 4 then decide (v ≤ T.lo.toNat) else if T.op = 5 then decide (T.lo.toNat < v) else decide (T.lo.toNat ≤ v)
theorem beq_nat (a c : Nat) : ((a : Int) == (c : Int)) = decide (a = c) := by
  by_cases h : a = c
  · subst h; simp
  · rw [decide_eq_false h, beq_eq_false_iff_ne]; omega
theorem holds_any (T : Tst) (b v : Nat) (hb : b ≤ 32) (hv : v < 4294967296) (h : Good b T) (w : World) :
    Calls Tryd.prog 29 #[T.val, .int .i64 (v : Int), .int .i64 (b : Int)] w fun e w' => e = .returned (.bool (hldB T v b)) ∧ Below w.heap.size w w' := by
  cases h with
  | num nm op lo g1 g2 hlo =>
    have hop : op = 1 ∨ op = 2 ∨ op = 3 ∨ op = 4 ∨ op = 5 ∨ op = 6 := by omega
    rcases hop with rfl | rfl | rfl | rfl | rfl | rfl
    · exact hold_n1 nm v b lo _ (beq_nat v lo) w
    · exact hold_n2 nm v b lo _ (beq_nat v lo) w
    · exact hold_n3 nm v b lo _ rfl w
    · exact hold_n4 nm v b lo _ rfl w
    · exact hold_n5 nm v b lo _ rfl w
    · exact hold_n6 nm v b lo _ rfl w
  | pre nm op lo ln g1 hlo hln hp =>
    have hq : ((v : Int) / 2 ^ (b - ln) == (lo : Int) / 2 ^ (b - ln)) = decide (v / 2 ^ (b - ln) = lo / 2 ^ (b - ln)) := by
      rw [pow_int, ← Int.natCast_ediv, ← Int.natCast_ediv, beq_nat]
    rcases g1 with rfl | rfl
    · exact hold_p1 nm v b lo ln _ hln hb hq w
    · exact hold_p2 nm v b lo ln _ hln hb hq w
  | rng nm op lo hi g1 hlo hhi =>
    have hi1 : isB ⟨nm, op, 3, lo, hi, 0, ⟨#[]⟩⟩ v b = (decide (lo ≤ v) && decide (v ≤ hi)) := rfl
    rcases g1 with rfl | rfl
    · have e : hldB ⟨nm, 1, 3, lo, hi, 0, ⟨#[]⟩⟩ v b = (decide (lo ≤ v) && decide (v ≤ hi)) := hi1
      rw [e]
      by_cases h : lo ≤ v
      · rw [decide_eq_true h, Bool.true_and]; exact hold_r1 nm v b lo hi _ h rfl w
      · rw [decide_eq_false h, Bool.false_and]; exact hold_r1n nm v b lo hi (by omega) w
    · have e : hldB ⟨nm, 2, 3, lo, hi, 0, ⟨#[]⟩⟩ v b = !(decide (lo ≤ v) && decide (v ≤ hi)) := congrArg Bool.not hi1
      rw [e]
      by_cases h : lo ≤ v
      · rw [decide_eq_true h, Bool.true_and]; exact hold_r2 nm v b lo hi _ h rfl w
      · rw [decide_eq_false h, Bool.false_and]; exact hold_r2n nm v b lo hi (by omega) w
  | pat nm op pt g1 hs hd =>
    rcases g1 with rfl | rfl
    · exact hold_t1 nm v b pt _ hs hb hv rfl w
    · exact hold_t2 nm v b pt _ hs hb hv rfl w
end Go.Proofs.YtaleaicfllcpiaaDoor.Fl
