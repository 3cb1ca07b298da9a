/- A field's value, counted by a statement itself. -/
import Derived.Test.YtaleaicfllcpiaaDoorHe
namespace Go.Proofs.YtaleaicfllcpiaaDoor.Fl
open Go.RowKit Mm Law
set_option linter.unusedVariables false
set_option linter.unusedSimpArgs false
set_option linter.unusedSectionVars false
theorem fld_at {l : List Fld} {H : List UInt8} {k q : Nat} (hq : q < bitsAt l k) : (fldB l H k)[q]? = H[posN l k + q]? := by
  unfold fldB
  rw [List.getElem?_take, if_pos hq, List.getElem?_drop]
set_option maxRecDepth 100000 in
set_option maxHeartbeats 4000000 in
theorem value_any (l : List Fld) (hW : Wide l) (h12 : l.length ≤ 12) (v : Value) (k : Nat) (hk : k < l.length) (t : ByteArray) (hT : t.data.toList.length = posN l l.length) (hd : ∀ b ∈ t.data.toList, b ∈ dBits) (w : World) (hv : SeesF w v l) :
    Calls Tryd.prog 23 #[v, .int .i64 (k : Int), .string t] w fun e w' => e = .returned (.int .i64 (numB (fldB l t.data.toList k) : Int)) ∧ w' = w := by
  obtain ⟨a0, cap0, rfl, hcap, hcm, hx, _⟩ := hv
  have HWI := Lib.hid hW
  have hbd := sum_bd hW l.length (Nat.le_refl _)
  rw [pos_int hW (Nat.le_refl _)] at hbd
  have hbk := bitsAt_get hW hk
  have hps := pos_succ hW hk
  have hpm := pos_mono hW (j := k + 1) (k := l.length) (by omega) (Nat.le_refl _)
  have hfl := fldB_len hW (H := t.data.toList) (by omega) hk
  have HBG := Lib.hid (bget t)
  have HFA := Lib.hid (fun q (hq : q < bitsAt l k) => fld_at (l := l) (H := t.data.toList) hq)
  have HDB := Lib.hid (fldB_sub (l := l) hd k)
  have HBD := Lib.hid (numB_bd (l := fldB l t.data.toList k) (by omega))
  have hts : t.size = posN l l.length := by rw [← len_s]; exact hT
  unfold maxLen at hcm
  obtain ⟨gf, of_, rfl, hgf, hqf⟩ : ∃ g off, a0 = some ⟨g, off, none⟩ ∧ g < w.heap.size ∧ ∀ j f, l[j]? = some f → w.cell? ⟨g, off + j * 2, none⟩ = some (.string f.1) ∧ w.cell? ⟨g, off + (j * 2 + 1), none⟩ = some (.int .i64 f.2) := by
    rcases hx with h0 | h0
    · rw [h0] at hk; simp at hk
    · exact h0
  have HQF := Lib.hid (fun j (hj : j < l.length) => show w.cell? ⟨gf, of_ + j * 2 + 1, none⟩ = some (.int .i64 (bitsAt l j : Int)) from by
    have h1 := (hqf j l[j] (by simp [hj])).2
    rw [← (bitsAt_get HWI.out hj).1, ← Nat.add_assoc] at h1
    exact h1)
  generalize fldB l t.data.toList k = F at *
  clear hT hd hW hx hqf
  go_enter Tryd.func23, Tryd.ntmps23
  go_wp2_with fail
  go_loopw [7, 8] (fun p i wr => ∃ j : Nat, j ≤ k ∧ i = .int .i64 (j : Int) ∧ p = .int .i64 (posN l j : Int) ∧ wr = w) (fun _ i _ => k - (intOf i).toNat)
  case atStart => exact ⟨0, Nat.zero_le _, rfl, by rw [pos_zero]; rfl, rfl⟩
  case round =>
    obtain ⟨j, hj, rfl, rfl, rfl⟩ := hrel
    by_cases hjt : j < k
    · have q0 := HQF.out j (by omega)
      have HPS := Lib.hid (pos_succ HWI.out (k := j) (by omega))
      have hpj := pos_mono HWI.out (j := j + 1) (k := l.length) (by omega) (Nat.le_refl _)
      rw [HPS.out] at hpj
      have x0 : (0 : Int) ≤ (j : Int) := by omega
      have x1 : (j : Int) < (l.length : Int) := by omega
      have x2 : (j : Int) < (k : Int) := by omega
      generalize bitsAt l j = B at *
      generalize posN l j = P at *
      go_wp2_with fail
      go_roundw
      case rel => exact ⟨j + 1, by omega, by go_num, by rw [HPS.out]; go_num, by trivial⟩
      case measure => simp [intOf]; omega
    · have hjk : j = k := by omega
      subst hjk
      have q0 := HQF.out j hk
      generalize bitsAt l j = B at *
      generalize posN l j = P at *
      have x0 : (0 : Int) ≤ (j : Int) := by omega
      have x1 : (j : Int) < (l.length : Int) := by omega
      have x2 : ¬ (j : Int) < (j : Int) := by omega
      go_wp2_with fail
      go_loopw [9, 10] (fun v i wr' => ∃ q : Nat, q ≤ B ∧ i = .int .i64 (q : Int) ∧ v = .int .i64 (numB (F.take q) : Int) ∧ wr' = wr) (fun _ i _ => B - (intOf i).toNat)
      case atStart => exact ⟨0, Nat.zero_le _, rfl, rfl, rfl⟩
      case round =>
        obtain ⟨q, hq, rfl, rfl, rfl⟩ := hrel
        by_cases hqt : q < B
        · have hb := HBG.out (P + q) (by omega)
          have hf := HFA.out q hqt
          rw [hb] at hf
          have hqF : q < F.length := by omega
          have hmem := HDB.out t[P + q] (List.mem_of_getElem? hf)
          have HN := Lib.hid (show numB (F.take (q + 1)) = 2 * numB (F.take q) + bit1 t[P + q] from by
            rw [numB_take hqF]
            rw [List.getElem?_eq_getElem hqF] at hf
            rw [Option.some.inj hf])
          have hbd2 := HBD.out q
          generalize numB (F.take q) = n at *
          have y0 : (0 : Int) ≤ (P : Int) + (q : Int) := by omega
          have y1 : (P : Int) + (q : Int) < (t.size : Int) := by omega
          have y2 : (q : Int) < (B : Int) := by omega
          have hnat : ((P : Int) + (q : Int)).toNat = P + q := by omega
          clear hb hf
          unfold dBits at hmem
          simp only [List.mem_cons, List.not_mem_nil, or_false] at hmem
          rcases hmem with h48 | h49
          · have HB1 := Lib.hid (show bit1 t[P + q] = 0 from by rw [h48]; rfl)
            have hz : (t[P + q].toNat : Int) = 48 := by rw [h48]; rfl
            clear h48
            go_wp2_with fail
            go_roundw
            case rel => exact ⟨q + 1, by omega, by go_num, by rw [HN.out, HB1.out]; go_num, by trivial⟩
            case measure => simp [intOf]; omega
          · have HB1 := Lib.hid (show bit1 t[P + q] = 1 from by rw [h49]; rfl)
            have hz : (t[P + q].toNat : Int) = 49 := by rw [h49]; rfl
            clear h49
            go_wp2_with fail
            go_roundw
            case rel => exact ⟨q + 1, by omega, by go_num, by rw [HN.out, HB1.out]; go_num, by trivial⟩
            case measure => simp [intOf]; omega
        · have HK := Lib.hid (show F.take q = F from by rw [show q = F.length by omega, List.take_length])
          have y2 : ¬ (q : Int) < (B : Int) := by omega
          go_wp2_with fail
          go_ret
          exact ⟨by rw [HK.out]; rfl, rfl⟩
end Go.Proofs.YtaleaicfllcpiaaDoor.Fl
