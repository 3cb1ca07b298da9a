/- The helpers of FieldFewest. -/
import Derived.Test.YtaleaicfllcpiaaDoorRv
import Derived.Test.YtaleaicfllcpiaaDoorPf
namespace Go.Proofs.YtaleaicfllcpiaaDoor.Fl
open Go.RowKit Mm Law
set_option linter.unusedVariables false
set_option linter.unusedSimpArgs false
set_option linter.unusedSectionVars false
theorem near_any (n m : Int) (hn : (Lit.int .i64 n).wf = true) (h1 : 1 ≤ m) (h2 : m ≤ 4294967296) (w : World) :
    Calls Tryd.prog 11 #[.int .i64 n, .int .i64 m] w fun e w' => ∃ r : Nat, (r : Int) < m ∧ e = .returned (.int .i64 r) ∧ w' = w := by
  have hn0 : -9223372036854775808 ≤ n ∧ n ≤ 9223372036854775807 := by
    simp [Lit.wf, IntKind.min, IntKind.max, IntKind.bits, IntKind.signed] at hn
    exact hn
  obtain ⟨a1, a2⟩ := hn0
  have t1 := Int.tmod_lt_of_pos n (show 0 < m by omega)
  have t2 : -m < n.tmod m := by
    have h := Int.lt_tmod_of_pos n (show 0 < m by omega)
    exact h
  by_cases h0 : n.tmod m < 0
  · have HR := Lib.hid (show ∃ r : Nat, (r : Int) = n.tmod m + m from ⟨(n.tmod m + m).toNat, by omega⟩)
    go_enter Tryd.func11, Tryd.ntmps11
    go_wp2
    go_ret
    obtain ⟨r, hr⟩ := HR.out
    exact ⟨r, by omega, by rw [hr]; rfl, rfl⟩
  · have HR := Lib.hid (show ∃ r : Nat, (r : Int) = n.tmod m from ⟨(n.tmod m).toNat, by omega⟩)
    have h0' : 0 ≤ n.tmod m := by omega
    clear h0
    go_enter Tryd.func11, Tryd.ntmps11
    go_wp2
    go_ret
    obtain ⟨r, hr⟩ := HR.out
    exact ⟨r, by omega, by rw [hr]; rfl, rfl⟩
set_option maxRecDepth 100000 in
set_option maxHeartbeats 4000000 in
theorem has_any (c h : ByteArray) (hs : c.size = h.size) (hb : h.size ≤ 1000) (w : World) :
    Calls Tryd.prog 28 #[.string c, .string h] w fun e w' => e = .returned (.bool (hasB c.data.toList h.data.toList)) ∧ Below w.heap.size w w' := by
  have hgc := byte_get c
  have hgh := byte_get h
  have hlc := len_s c
  have hlh := len_s h
  have HI := Lib.hid (hasB_iff (c := c.data.toList) (h := h.data.toList) (by omega))
  have HLC := Lib.hid hlc
  have hne : ((c.size : Int) != (h.size : Int)) = false := by rw [hs]; simp
  have hcs : c.size ≤ 1000 := by omega
  have HS := Lib.hid hs
  clear hlc hlh hs
  go_enter Tryd.func28, Tryd.ntmps28
  go_wp2
  go_loopw [5] (fun i wr => ∃ k : Nat, k ≤ c.size ∧ i = .int .i64 k ∧ Below w.heap.size w wr ∧ ∀ j, j < k → c.data.toList[j]? = some 120 ∨ c.data.toList[j]? = h.data.toList[j]?) (fun i _ => c.size - (intOf i).toNat)
  case atStart => exact ⟨0, Nat.zero_le _, rfl, Below.refl _ _, fun j hj => absurd hj (by omega)⟩
  case round =>
    obtain ⟨k, hk, rfl, hbel, hall⟩ := hrel
    have HA := Lib.hid hall
    clear hall
    by_cases hlt : k < c.size
    · have hlt2 : k < h.size := by have := HS.out; omega
      have i1 : (k : Int) < (c.size : Int) := by omega
      have i2 : (k : Int) < (h.size : Int) := by omega
      have i0 : (0 : Int) ≤ (k : Int) := by omega
      have HC1 := Lib.hid (show c.data.toList[k]? = some c[k] from by rw [List.getElem?_eq_getElem (by rw [HLC.out]; exact hlt)]; rfl)
      have HH1 := Lib.hid (show h.data.toList[k]? = some h[k] from by rw [List.getElem?_eq_getElem (by rw [len_s]; exact hlt2)]; rfl)
      by_cases hx : c[k] = 120
      · have hx1 : (c[k].toNat : Int) = 120 := by rw [hx]; rfl
        have HN := Lib.hid (show c.data.toList[k]? = some 120 ∨ c.data.toList[k]? = h.data.toList[k]? from .inl (by rw [HC1.out, hx]))
        have hd : (((c[k].toNat : Int)) != 120) = false := by rw [hx1]; rfl
        clear hx
        go_wp2
        go_quiet (fail)
        go_wp2
        go_roundw
        case rel => exact ⟨k + 1, by omega, by go_num, below_drewN hbel _, fun j hj => by rcases Nat.lt_succ_iff_lt_or_eq.1 hj with h | rfl; exact HA.out j h; exact HN.out⟩
        case measure => simp [intOf]; omega
      · have hx1 : ¬ (c[k].toNat : Int) = 120 := fun h => hx (UInt8.toNat_inj.1 (by simpa using (by omega : c[k].toNat = 120)))
        have hd : (((c[k].toNat : Int)) != 120) = true := by simpa using hx1
        by_cases hy : c[k] = h[k]
        · have HN := Lib.hid (show c.data.toList[k]? = some 120 ∨ c.data.toList[k]? = h.data.toList[k]? from .inr (by rw [HC1.out, HH1.out, hy]))
          have hy1 : (((c[k].toNat : Int)) != (h[k].toNat : Int)) = false := by rw [hy]; simp
          clear hx hy
          go_wp2
          go_quiet (fail)
          go_wp2
          go_roundw
          case rel => exact ⟨k + 1, by omega, by go_num, below_drewN hbel _, fun j hj => by rcases Nat.lt_succ_iff_lt_or_eq.1 hj with h | rfl; exact HA.out j h; exact HN.out⟩
          case measure => simp [intOf]; omega
        · have hy1 : (((c[k].toNat : Int)) != (h[k].toNat : Int)) = true := by
            simp only [bne_iff_ne, ne_eq]
            exact fun h => hy (UInt8.toNat_inj.1 (by omega))
          have HF := Lib.hid (show hasB c.data.toList h.data.toList = false from by
            rw [← Bool.not_eq_true, HI.out]
            intro hh
            have := hh k (by rw [HLC.out]; exact hlt)
            rw [HC1.out, HH1.out] at this
            rcases this with h | h
            · exact hx (Option.some.inj h)
            · exact hy (Option.some.inj h))
          clear hx hy
          go_wp2
          go_quiet (fail)
          go_wp2
          go_ret
          exact ⟨by rw [HF.out]; rfl, below_drewN hbel _⟩
    · have HT := Lib.hid (show hasB c.data.toList h.data.toList = true from HI.out.2 fun i hi => HA.out i (by rw [HLC.out] at hi; omega))
      go_wp2
      go_ret
      exact ⟨by rw [HT.out]; rfl, hbel⟩
theorem low_step (l : List UInt8) (k : Nat) (x : UInt8) (h : l[k]? = some x) : lowT (l.take (k + 1)) = lowT (l.take k) ++ [if x == 120 then 48 else x] := by
  unfold lowT
  rw [List.take_add_one, h, List.map_append]
  rfl
set_option maxRecDepth 100000 in
set_option maxHeartbeats 1000000 in
theorem bitsOf_any (v b : Nat) (hv : v < 4294967296) (hb : b ≤ 32) (w : World) :
    Calls Tryd.prog 61 #[.int .i64 (v : Int), .int .i64 (b : Int)] w fun e w' => e = .returned (.string (str (hiB v b b))) ∧ Below w.heap.size w w' := by
  go_enter Tryd.func61, Tryd.ntmps61
  go_wp2
  go_loopw [5, 6] (fun u i wr => ∃ k : Nat, k ≤ b ∧ i = .int .i64 ((b : Int) - 1 - (k : Int)) ∧ wr.ownsRow w.heap.size 5 1 u k (((hiB v b b).take k).map bv) ∧ Below w.heap.size w wr) (fun _ i _ => (intOf i + 1).toNat)
  case atStart => exact ⟨0, Nat.zero_le _, by first | rfl | (simp; done), own_nilB _ _, Below.refl _ _⟩
  case round =>
    obtain ⟨k, hk, rfl, hown, hbel⟩ := hrel
    have HO := Lib.hid hown
    clear hown
    by_cases hlt : k < b
    · obtain ⟨j, hj⟩ : ∃ j, b = k + 1 + j := ⟨b - (k + 1), by omega⟩
      have e : ((b : Int) - 1 - (k : Int)) = (j : Int) := by omega
      rw [e]
      have HE := Lib.hid e
      have HS := Lib.hid (hiB_snoc v b k j hj)
      have hbt := bit_val v j hv
      have hjb : j ≤ 31 := by omega
      clear hj e
      go_wp2_with (at_builtin; refine app_byte (bitB v j) HO.out rfl rfl rfl rfl (by omega) hbel.size ?_; intro v' w2 hown2 hb2)
      go_roundw
      case rel => exact ⟨k + 1, by omega, by first | (simp; omega) | (congr 1; have := HE.out; omega), by rw [HS.out]; exact hown2, hbel.trans hb2⟩
      case measure => first | (simp [intOf]; done) | (simp [intOf]; omega)
    · have hkb : k = b := by omega
      have hst := str_own HO.out
      have HL := Lib.hid (show (hiB v b b).take k = hiB v b b from List.take_of_length_le (by rw [hiB_len]; omega))
      have hneg : ((b : Int) - 1 - (k : Int)) < 0 := by omega
      clear hkb hlt
      go_wp2
      go_ret
      exact ⟨by rw [HL.out]; rfl, hbel⟩
end Go.Proofs.YtaleaicfllcpiaaDoor.Fl
