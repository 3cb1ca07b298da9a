/- Headers that a statement makes for itself; a field's value read off a header. -/
import Derived.Test.YtaleaicfllcpiaaDoorLy
namespace Go.Proofs.YtaleaicfllcpiaaDoor.Fl
open Go.RowKit Mm Law
set_option linter.unusedVariables false
set_option linter.unusedSimpArgs false
set_option linter.unusedSectionVars false
theorem and1_u8 (x : Nat) (h : x < 256) : bits .and .u8 (x : Int) 1 = ((x % 2 : Nat) : Int) := by
  have e : ∀ x : Fin 256, bits .and .u8 ((x.val : Nat) : Int) 1 = ((x.val % 2 : Nat) : Int) := by decide +kernel
  exact e ⟨x, h⟩
def hdB (S : List UInt8) (j : Nat) : UInt8 := if (S.getD j 0).toNat % 2 = 1 then 49 else 48
def hdT (S : List UInt8) (n : Nat) : List UInt8 := (List.range n).map (hdB S)
theorem hdT_len (S : List UInt8) (n : Nat) : (hdT S n).length = n := by simp [hdT]
theorem hdT_succ (S : List UInt8) (n : Nat) : hdT S (n + 1) = hdT S n ++ [hdB S n] := by unfold hdT; rw [List.range_succ, List.map_append]; rfl
theorem hdT_bits (S : List UInt8) (n : Nat) : ∀ b ∈ hdT S n, b ∈ dBits := by
  intro b hb
  obtain ⟨j, _, rfl⟩ := List.mem_map.1 hb
  unfold hdB dBits
  split <;> simp
set_option maxRecDepth 100000 in
set_option maxHeartbeats 4000000 in
theorem header_any (l : List Fld) (hW : Wide l) (h12 : l.length ≤ 12) (v : Value) (t : ByteArray) (hts : t.size ≤ maxLen) (w : World) (hv : SeesF w v l) :
    Calls Tryd.prog 15 #[v, .string t] w fun e w' => e = .returned (.string (str (hdT t.data.toList (posN l l.length)))) ∧ Below w.heap.size w w' := by
  obtain ⟨a0, cap0, rfl, hcap, hcm, hx, _⟩ := hv
  have HX := Lib.hid hx
  have HWI := Lib.hid hW
  have hps := sum_bd hW l.length (Nat.le_refl _)
  rw [pos_int hW (Nat.le_refl _)] at hps
  have HBG := Lib.hid (bget t)
  have HTL := Lib.hid (len_s t)
  unfold maxLen at hcm hts
  have _hts := hts
  obtain ⟨S, hS⟩ : ∃ S, t.data.toList = S := ⟨_, rfl⟩
  rw [hS] at HBG HTL ⊢
  clear hx hW hS
  go_enter Tryd.func15, Tryd.ntmps15
  go_wp2_with fail
  go_loopw [5, 6] (fun m i wr => ∃ k : Nat, k ≤ l.length ∧ i = .int .i64 (k : Int) ∧ wr.ownsRow w.heap.size 5 1 m (posN l k) ((hdT S (posN l k)).map bv) ∧ Below w.heap.size w wr) (fun _ i _ => l.length - (intOf i).toNat)
  case atStart => exact ⟨0, Nat.zero_le _, rfl, by rw [pos_zero]; exact own_nilB _ _, Below.refl _ _⟩
  case round =>
    obtain ⟨k, hk, rfl, hown, hbel⟩ := hrel
    have HO := Lib.hid hown
    clear hown
    by_cases hlt : k < l.length
    · obtain ⟨g, off, rfl, hg, hq⟩ : ∃ g off, a0 = some ⟨g, off, none⟩ ∧ g < w.heap.size ∧ ∀ j f, l[j]? = some f → w.cell? ⟨g, off + j * 2, none⟩ = some (.string f.1) ∧ w.cell? ⟨g, off + (j * 2 + 1), none⟩ = some (.int .i64 f.2) := by
        rcases HX.out with h0 | h0
        · rw [h0] at hlt; simp at hlt
        · exact h0
      have q1 := (hq k l[k] (by simp [hlt])).2
      rw [← Nat.add_assoc] at q1
      have hbk := bitsAt_get HWI.out hlt
      have HPS := Lib.hid (pos_succ HWI.out hlt)
      have hpm := pos_mono HWI.out (j := k + 1) (k := l.length) (by omega) (Nat.le_refl _)
      rw [HPS.out] at hpm
      have hb1 : l[k].2 = (bitsAt l k : Int) := hbk.1.symm
      rw [hb1] at q1
      have HQ := Lib.hid q1
      generalize bitsAt l k = B at *
      generalize posN l k = P at *
      clear hq hb1 q1
      go_wp2_with fail
      go_loopw [5, 7] (fun m i wr' => ∃ q : Nat, q ≤ B ∧ i = .int .i64 (q : Int) ∧ wr'.ownsRow w.heap.size 5 1 m (P + q) ((hdT S (P + q)).map bv) ∧ Below w.heap.size w wr') (fun _ i _ => B - (intOf i).toNat)
      case atStart => exact ⟨0, Nat.zero_le _, rfl, HO.out, hbel⟩
      case round =>
        obtain ⟨q, hqB, rfl, hown, hbel2⟩ := hrel
        have HO2 := Lib.hid hown
        clear hown
        have q1 := HQ.out
        rw [← hbel2.cell (p := ⟨g, off + k * 2 + 1, none⟩) hg] at q1
        by_cases hqt : q < B
        · obtain ⟨au, cu, rfl⟩ := own_len HO2.out
          have HS := Lib.hid (hdT_succ S (P + q))
          have x0 : (q : Int) < (B : Int) := by omega
          have y0 : (0 : Int) ≤ ((P + q : Nat) : Int) := by omega
          have z1 : (k : Int) < (l.length : Int) := by omega
          have HPQ := Lib.hid (show P + q ≤ 1000000 by omega)
          by_cases hin : P + q < t.size
          · have hb := HBG.out (P + q) hin
            have y1 : ((P + q : Nat) : Int) < (t.size : Int) := by omega
            have h256 := UInt8.toNat_lt t[P + q]
            have ha := and1_u8 t[P + q].toNat h256
            by_cases ho : t[P + q].toNat % 2 = 1
            · have HB := Lib.hid (show hdB S (P + q) = 49 from by
                unfold hdB
                rw [List.getD_eq_getElem?_getD, hb]
                exact if_pos ho)
              have hz : bits .and .u8 (t[P + q].toNat : Int) 1 = 1 := by rw [ha, ho]; rfl
              clear ha ho hb
              go_wp2_with (at_builtin; refine app_byte 49 HO2.out rfl rfl rfl rfl HPQ.out hbel2.size ?_; intro v1 w6 hown6 hb6; have q6 : w6.cell? ⟨g, off + k * 2 + 1, none⟩ = some (.int .i64 (B : Int)) := by rw [hb6.cell (p := ⟨g, off + k * 2 + 1, none⟩) hg]; exact q1)
              go_roundw
              case rel => exact ⟨q + 1, by omega, by go_num, by rw [show P + (q + 1) = P + q + 1 from rfl, HS.out, HB.out]; exact hown6, hbel2.trans hb6⟩
              case measure => simp [intOf]; omega
            · have HB := Lib.hid (show hdB S (P + q) = 48 from by
                unfold hdB
                rw [List.getD_eq_getElem?_getD, hb]
                exact if_neg ho)
              have hz : bits .and .u8 (t[P + q].toNat : Int) 1 = 0 := by rw [ha, show t[P + q].toNat % 2 = 0 from by omega]; rfl
              clear ha ho hb
              go_wp2_with (at_builtin; refine app_byte 48 HO2.out rfl rfl rfl rfl HPQ.out hbel2.size ?_; intro v1 w6 hown6 hb6; have q6 : w6.cell? ⟨g, off + k * 2 + 1, none⟩ = some (.int .i64 (B : Int)) := by rw [hb6.cell (p := ⟨g, off + k * 2 + 1, none⟩) hg]; exact q1)
              go_roundw
              case rel => exact ⟨q + 1, by omega, by go_num, by rw [show P + (q + 1) = P + q + 1 from rfl, HS.out, HB.out]; exact hown6, hbel2.trans hb6⟩
              case measure => simp [intOf]; omega
          · have y1 : ¬ ((P + q : Nat) : Int) < (t.size : Int) := by omega
            have HB := Lib.hid (show hdB S (P + q) = 48 from by
              unfold hdB
              rw [List.getD_eq_getElem?_getD, List.getElem?_eq_none (by have := HTL.out; omega)]
              rfl)
            go_wp2_with (at_builtin; refine app_byte 48 HO2.out rfl rfl rfl rfl HPQ.out hbel2.size ?_; intro v1 w6 hown6 hb6; have q6 : w6.cell? ⟨g, off + k * 2 + 1, none⟩ = some (.int .i64 (B : Int)) := by rw [hb6.cell (p := ⟨g, off + k * 2 + 1, none⟩) hg]; exact q1)
            go_roundw
            case rel => exact ⟨q + 1, by omega, by go_num, by rw [show P + (q + 1) = P + q + 1 from rfl, HS.out, HB.out]; exact hown6, hbel2.trans hb6⟩
            case measure => simp [intOf]; omega
        · have hqe : q = B := by omega
          have HO3 := Lib.hid (show wr.ownsRow w.heap.size 5 1 u5 (posN l (k + 1)) ((hdT S (posN l (k + 1))).map bv) from by rw [HPS.out, ← hqe]; exact HO2.out)
          have x0 : ¬ (q : Int) < (B : Int) := by omega
          have z1 : (k : Int) < (l.length : Int) := by omega
          clear hqe
          go_wp2_with fail
          go_roundw
          case rel => exact ⟨k + 1, by omega, by go_num, HO3.out, hbel2⟩
          case measure => simp [intOf]; omega
    · have hkl : k = l.length := by omega
      have hst := str_own HO.out
      have HK := Lib.hid hkl
      have z1 : ¬ (k : Int) < (l.length : Int) := by omega
      clear hkl hlt
      go_wp2_with fail
      go_ret
      exact ⟨by rw [← HK.out]; rfl, hbel⟩
end Go.Proofs.YtaleaicfllcpiaaDoor.Fl
