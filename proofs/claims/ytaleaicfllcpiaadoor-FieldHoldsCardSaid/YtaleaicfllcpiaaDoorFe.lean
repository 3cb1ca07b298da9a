/- The document's Test. -/
import Derived.Test.YtaleaicfllcpiaaDoorFd
namespace Go.Proofs.YtaleaicfllcpiaaDoor.Fl
open Go.RowKit Mm Law
set_option linter.unusedSimpArgs false
set_option linter.unusedSectionVars false
set_option linter.unusedVariables false
theorem eq_yes {a c : Int} (h : a = c) : (a == c) = true := by simpa using h
set_option maxRecDepth 100000 in
set_option maxHeartbeats 8000000 in
theorem tst_l1 (l : List Fld) (v : Value) (nm : ByteArray) (op fo lo hi ln : Int) (pt : ByteArray) (b k : Nat) (hb : b ≤ 32) (hk : k < l.length) (hix : idxI l nm = (k : Int)) (hbk : l[k].2 = (b : Int)) (h12 : l.length ≤ 12) (hbd : ∀ j, (hj : j < l.length) → 1 ≤ l[j].2 ∧ l[j].2 ≤ 32) (hF : ¬ badForm ⟨nm, op, fo, lo, hi, ln, pt⟩) (hU : ¬ badUse ⟨nm, op, fo, lo, hi, ln, pt⟩) (hlo : lo < 0) (w : World) (hv : SeesF w v l) :
    Calls Tryd.prog 53 #[v, .agg #[.string nm, .int .i64 op, .int .i64 fo, .int .i64 lo, .int .i64 hi, .int .i64 ln, .string pt]] w (FitAns w ⟨nm, op, fo, lo, hi, ln, pt⟩ b) := by
  have HE := Lib.hid (show fitE ⟨nm, op, fo, lo, hi, ln, pt⟩ b = 42 from fit_val hF hU (.inl hlo))
  have HV := Lib.hid hv
  obtain ⟨a0, cap0, rfl, hcap, hcm, hx, hw⟩ := hv
  obtain ⟨g, off, rfl, hg, hq⟩ : ∃ g off, a0 = some ⟨g, off, none⟩ ∧ g < w.heap.size ∧ ∀ j f, l[j]? = some f → w.cell? ⟨g, off + j * 2, none⟩ = some (.string f.1) ∧ w.cell? ⟨g, off + (j * 2 + 1), none⟩ = some (.int .i64 f.2) := by
    rcases hx with h0 | h0
    · rw [h0] at hk; simp at hk
    · exact h0
  have q1 := (hq k l[k] (by simp [hk])).2
  rw [hbk, ← Nat.add_assoc] at q1
  have HQ := Lib.hid (fun w' (h : Below w.heap.size w w') => (h.cell (p := ⟨g, off + k * 2 + 1, none⟩) hg).trans q1)
  unfold maxLen at hcm
  have HPL := Lib.hid (fun w' (h : Below w.heap.size w w') => rplace_any l _ nm w' (HV.out.below h) h12 hbd)
  rw [hix] at HPL
  generalize plcI l nm = pz at *
  have HFO := Lib.hid (fun w => (show Calls Tryd.prog 84 #[.agg #[.string nm, .int .i64 op, .int .i64 fo, .int .i64 lo, .int .i64 hi, .int .i64 ln, .string pt]] w fun e w' => e = .returned (.bool true) ∧ Below w.heap.size w w' from form_yes ⟨nm, op, fo, lo, hi, ln, pt⟩ hF hU w))
  have HT := Lib.hid (fun n (h : n ≤ 33) w => (rtop_any n h w).mono (fun _ _ x => And.intro x.1 x.2.symm))
  have x0 : (0 : Int) ≤ (k : Int) := by omega
  have x1 : (k : Int) < (l.length : Int) := by omega
  have d61297 : decide (lo < 0) = true := decide_eq_true (by omega)
  clear hx hw hq q1 hbk hix hbd hF hU
  go_enter Tryd.func53, Tryd.ntmps53
  go_wp2_with fail
  refine (HPL.out _ (bal (Below.refl _ _) _)).mono ?_
  rintro e w1 ⟨rfl, hb1⟩
  have hB1 := (Blk.new w 52 #[.string nm, .int .i64 op, .int .i64 fo, .int .i64 lo, .int .i64 hi, .int .i64 ln, .string pt]).below hb1 (by simp)
  have HB1 := Lib.hid hB1
  have HG1 := Lib.hid (bnx (bal (Below.refl _ _) _) hb1)
  have e0 := hB1.cell 0
  have e1 := hB1.cell 1
  have e2 := hB1.cell 2
  have e3 := hB1.cell 3
  have e4 := hB1.cell 4
  have e5 := hB1.cell 5
  have e6 := hB1.cell 6
  have hs1 : w.heap.size < w1.heap.size := hB1.lt
  clear hB1 hb1 HPL
  go_wp2_with fail
  refine (HFO.out _).mono ?_
  rintro e w2 ⟨rfl, hb2⟩
  have hB2 := HB1.out.below hb2 hs1
  have q1 := HQ.out _ (bnx HG1.out hb2)
  have HG2 := Lib.hid (bnx HG1.out hb2)
  clear e0 e1 e2 e3 e4 e5 e6
  have e0 := hB2.cell 0
  have e1 := hB2.cell 1
  have e2 := hB2.cell 2
  have e3 := hB2.cell 3
  have e4 := hB2.cell 4
  have e5 := hB2.cell 5
  have e6 := hB2.cell 6
  have hs2 : w.heap.size < w2.heap.size := hB2.lt
  clear hB2 hb2 HFO HQ hs1 HB1 HG1
  go_wp2_with fail
  go_quiet ((go_at_call 85; exact Calls.quiet_of_same (HT.out _ (by omega) _)))
  go_wp2_with fail
  go_ret
  first | exact fit_ans HE.out (below_drewN HG2.out _) | exact fit_ans HE.out (below_drewN (below_drewN HG2.out _) _)
set_option maxRecDepth 100000 in
set_option maxHeartbeats 8000000 in
theorem tst_l2 (l : List Fld) (v : Value) (nm : ByteArray) (op fo hi ln : Int) (lo : Nat) (pt : ByteArray) (b k : Nat) (hb : b ≤ 32) (hk : k < l.length) (hix : idxI l nm = (k : Int)) (hbk : l[k].2 = (b : Int)) (h12 : l.length ≤ 12) (hbd : ∀ j, (hj : j < l.length) → 1 ≤ l[j].2 ∧ l[j].2 ≤ 32) (hF : ¬ badForm ⟨nm, op, fo, (lo : Int), hi, ln, pt⟩) (hU : ¬ badUse ⟨nm, op, fo, (lo : Int), hi, ln, pt⟩) (hlo : topN b < lo) (w : World) (hv : SeesF w v l) :
    Calls Tryd.prog 53 #[v, .agg #[.string nm, .int .i64 op, .int .i64 fo, .int .i64 (lo : Int), .int .i64 hi, .int .i64 ln, .string pt]] w (FitAns w ⟨nm, op, fo, (lo : Int), hi, ln, pt⟩ b) := by
  have HE := Lib.hid (show fitE ⟨nm, op, fo, (lo : Int), hi, ln, pt⟩ b = 42 from fit_val hF hU (.inr (.inl (Int.ofNat_lt.2 hlo))))
  have HV := Lib.hid hv
  obtain ⟨a0, cap0, rfl, hcap, hcm, hx, hw⟩ := hv
  obtain ⟨g, off, rfl, hg, hq⟩ : ∃ g off, a0 = some ⟨g, off, none⟩ ∧ g < w.heap.size ∧ ∀ j f, l[j]? = some f → w.cell? ⟨g, off + j * 2, none⟩ = some (.string f.1) ∧ w.cell? ⟨g, off + (j * 2 + 1), none⟩ = some (.int .i64 f.2) := by
    rcases hx with h0 | h0
    · rw [h0] at hk; simp at hk
    · exact h0
  have q1 := (hq k l[k] (by simp [hk])).2
  rw [hbk, ← Nat.add_assoc] at q1
  have HQ := Lib.hid (fun w' (h : Below w.heap.size w w') => (h.cell (p := ⟨g, off + k * 2 + 1, none⟩) hg).trans q1)
  unfold maxLen at hcm
  have HPL := Lib.hid (fun w' (h : Below w.heap.size w w') => rplace_any l _ nm w' (HV.out.below h) h12 hbd)
  rw [hix] at HPL
  generalize plcI l nm = pz at *
  have HFO := Lib.hid (fun w => (show Calls Tryd.prog 84 #[.agg #[.string nm, .int .i64 op, .int .i64 fo, .int .i64 (lo : Int), .int .i64 hi, .int .i64 ln, .string pt]] w fun e w' => e = .returned (.bool true) ∧ Below w.heap.size w w' from form_yes ⟨nm, op, fo, (lo : Int), hi, ln, pt⟩ hF hU w))
  have HT := Lib.hid (fun n (h : n ≤ 33) w => (rtop_any n h w).mono (fun _ _ x => And.intro x.1 x.2.symm))
  have x0 : (0 : Int) ≤ (k : Int) := by omega
  have x1 : (k : Int) < (l.length : Int) := by omega
  have d68710 : decide ((lo : Int) < 0) = false := decide_eq_false (by omega)
  have d27619 : decide (topN b < lo) = true := decide_eq_true (by omega)
  clear hx hw hq q1 hbk hix hbd hF hU
  go_enter Tryd.func53, Tryd.ntmps53
  go_wp2_with fail
  refine (HPL.out _ (bal (Below.refl _ _) _)).mono ?_
  rintro e w1 ⟨rfl, hb1⟩
  have hB1 := (Blk.new w 52 #[.string nm, .int .i64 op, .int .i64 fo, .int .i64 (lo : Int), .int .i64 hi, .int .i64 ln, .string pt]).below hb1 (by simp)
  have HB1 := Lib.hid hB1
  have HG1 := Lib.hid (bnx (bal (Below.refl _ _) _) hb1)
  have e0 := hB1.cell 0
  have e1 := hB1.cell 1
  have e2 := hB1.cell 2
  have e3 := hB1.cell 3
  have e4 := hB1.cell 4
  have e5 := hB1.cell 5
  have e6 := hB1.cell 6
  have hs1 : w.heap.size < w1.heap.size := hB1.lt
  clear hB1 hb1 HPL
  go_wp2_with fail
  refine (HFO.out _).mono ?_
  rintro e w2 ⟨rfl, hb2⟩
  have hB2 := HB1.out.below hb2 hs1
  have q1 := HQ.out _ (bnx HG1.out hb2)
  have HG2 := Lib.hid (bnx HG1.out hb2)
  clear e0 e1 e2 e3 e4 e5 e6
  have e0 := hB2.cell 0
  have e1 := hB2.cell 1
  have e2 := hB2.cell 2
  have e3 := hB2.cell 3
  have e4 := hB2.cell 4
  have e5 := hB2.cell 5
  have e6 := hB2.cell 6
  have hs2 : w.heap.size < w2.heap.size := hB2.lt
  clear hB2 hb2 HFO HQ hs1 HB1 HG1
  go_wp2_with fail
  go_quiet ((go_at_call 85; exact Calls.quiet_of_same (HT.out _ (by omega) _)))
  go_wp2_with fail
  go_ret
  first | exact fit_ans HE.out (below_drewN HG2.out _) | exact fit_ans HE.out (below_drewN (below_drewN HG2.out _) _)
set_option maxRecDepth 100000 in
set_option maxHeartbeats 8000000 in
theorem tst_h1 (l : List Fld) (v : Value) (nm : ByteArray) (op fo hi ln : Int) (lo : Nat) (pt : ByteArray) (b k : Nat) (hb : b ≤ 32) (hk : k < l.length) (hix : idxI l nm = (k : Int)) (hbk : l[k].2 = (b : Int)) (h12 : l.length ≤ 12) (hbd : ∀ j, (hj : j < l.length) → 1 ≤ l[j].2 ∧ l[j].2 ≤ 32) (hF : ¬ badForm ⟨nm, op, fo, (lo : Int), hi, ln, pt⟩) (hU : ¬ badUse ⟨nm, op, fo, (lo : Int), hi, ln, pt⟩) (hlo : lo ≤ topN b) (hhi : hi < 0) (w : World) (hv : SeesF w v l) :
    Calls Tryd.prog 53 #[v, .agg #[.string nm, .int .i64 op, .int .i64 fo, .int .i64 (lo : Int), .int .i64 hi, .int .i64 ln, .string pt]] w (FitAns w ⟨nm, op, fo, (lo : Int), hi, ln, pt⟩ b) := by
  have HE := Lib.hid (show fitE ⟨nm, op, fo, (lo : Int), hi, ln, pt⟩ b = 42 from fit_val hF hU (.inr (.inr (.inl hhi))))
  have HV := Lib.hid hv
  obtain ⟨a0, cap0, rfl, hcap, hcm, hx, hw⟩ := hv
  obtain ⟨g, off, rfl, hg, hq⟩ : ∃ g off, a0 = some ⟨g, off, none⟩ ∧ g < w.heap.size ∧ ∀ j f, l[j]? = some f → w.cell? ⟨g, off + j * 2, none⟩ = some (.string f.1) ∧ w.cell? ⟨g, off + (j * 2 + 1), none⟩ = some (.int .i64 f.2) := by
    rcases hx with h0 | h0
    · rw [h0] at hk; simp at hk
    · exact h0
  have q1 := (hq k l[k] (by simp [hk])).2
  rw [hbk, ← Nat.add_assoc] at q1
  have HQ := Lib.hid (fun w' (h : Below w.heap.size w w') => (h.cell (p := ⟨g, off + k * 2 + 1, none⟩) hg).trans q1)
  unfold maxLen at hcm
  have HPL := Lib.hid (fun w' (h : Below w.heap.size w w') => rplace_any l _ nm w' (HV.out.below h) h12 hbd)
  rw [hix] at HPL
  generalize plcI l nm = pz at *
  have HFO := Lib.hid (fun w => (show Calls Tryd.prog 84 #[.agg #[.string nm, .int .i64 op, .int .i64 fo, .int .i64 (lo : Int), .int .i64 hi, .int .i64 ln, .string pt]] w fun e w' => e = .returned (.bool true) ∧ Below w.heap.size w w' from form_yes ⟨nm, op, fo, (lo : Int), hi, ln, pt⟩ hF hU w))
  have HT := Lib.hid (fun n (h : n ≤ 33) w => (rtop_any n h w).mono (fun _ _ x => And.intro x.1 x.2.symm))
  have x0 : (0 : Int) ≤ (k : Int) := by omega
  have x1 : (k : Int) < (l.length : Int) := by omega
  have d68710 : decide ((lo : Int) < 0) = false := decide_eq_false (by omega)
  have d27619 : decide (topN b < lo) = false := decide_eq_false (by omega)
  have d16085 : decide (hi < 0) = true := decide_eq_true (by omega)
  clear hx hw hq q1 hbk hix hbd hF hU
  go_enter Tryd.func53, Tryd.ntmps53
  go_wp2_with fail
  refine (HPL.out _ (bal (Below.refl _ _) _)).mono ?_
  rintro e w1 ⟨rfl, hb1⟩
  have hB1 := (Blk.new w 52 #[.string nm, .int .i64 op, .int .i64 fo, .int .i64 (lo : Int), .int .i64 hi, .int .i64 ln, .string pt]).below hb1 (by simp)
  have HB1 := Lib.hid hB1
  have HG1 := Lib.hid (bnx (bal (Below.refl _ _) _) hb1)
  have e0 := hB1.cell 0
  have e1 := hB1.cell 1
  have e2 := hB1.cell 2
  have e3 := hB1.cell 3
  have e4 := hB1.cell 4
  have e5 := hB1.cell 5
  have e6 := hB1.cell 6
  have hs1 : w.heap.size < w1.heap.size := hB1.lt
  clear hB1 hb1 HPL
  go_wp2_with fail
  refine (HFO.out _).mono ?_
  rintro e w2 ⟨rfl, hb2⟩
  have hB2 := HB1.out.below hb2 hs1
  have q1 := HQ.out _ (bnx HG1.out hb2)
  have HG2 := Lib.hid (bnx HG1.out hb2)
  clear e0 e1 e2 e3 e4 e5 e6
  have e0 := hB2.cell 0
  have e1 := hB2.cell 1
  have e2 := hB2.cell 2
  have e3 := hB2.cell 3
  have e4 := hB2.cell 4
  have e5 := hB2.cell 5
  have e6 := hB2.cell 6
  have hs2 : w.heap.size < w2.heap.size := hB2.lt
  clear hB2 hb2 HFO HQ hs1 HB1 HG1
  go_wp2_with fail
  go_quiet ((go_at_call 85; exact Calls.quiet_of_same (HT.out _ (by omega) _)))
  go_wp2_with fail
  go_ret
  first | exact fit_ans HE.out (below_drewN HG2.out _) | exact fit_ans HE.out (below_drewN (below_drewN HG2.out _) _)
set_option maxRecDepth 100000 in
set_option maxHeartbeats 8000000 in
theorem tst_h2 (l : List Fld) (v : Value) (nm : ByteArray) (op fo ln : Int) (lo hi : Nat) (pt : ByteArray) (b k : Nat) (hb : b ≤ 32) (hk : k < l.length) (hix : idxI l nm = (k : Int)) (hbk : l[k].2 = (b : Int)) (h12 : l.length ≤ 12) (hbd : ∀ j, (hj : j < l.length) → 1 ≤ l[j].2 ∧ l[j].2 ≤ 32) (hF : ¬ badForm ⟨nm, op, fo, (lo : Int), (hi : Int), ln, pt⟩) (hU : ¬ badUse ⟨nm, op, fo, (lo : Int), (hi : Int), ln, pt⟩) (hlo : lo ≤ topN b) (hhi : topN b < hi) (w : World) (hv : SeesF w v l) :
    Calls Tryd.prog 53 #[v, .agg #[.string nm, .int .i64 op, .int .i64 fo, .int .i64 (lo : Int), .int .i64 (hi : Int), .int .i64 ln, .string pt]] w (FitAns w ⟨nm, op, fo, (lo : Int), (hi : Int), ln, pt⟩ b) := by
  have HE := Lib.hid (show fitE ⟨nm, op, fo, (lo : Int), (hi : Int), ln, pt⟩ b = 42 from fit_val hF hU (.inr (.inr (.inr (.inl (Int.ofNat_lt.2 hhi))))))
  have HV := Lib.hid hv
  obtain ⟨a0, cap0, rfl, hcap, hcm, hx, hw⟩ := hv
  obtain ⟨g, off, rfl, hg, hq⟩ : ∃ g off, a0 = some ⟨g, off, none⟩ ∧ g < w.heap.size ∧ ∀ j f, l[j]? = some f → w.cell? ⟨g, off + j * 2, none⟩ = some (.string f.1) ∧ w.cell? ⟨g, off + (j * 2 + 1), none⟩ = some (.int .i64 f.2) := by
    rcases hx with h0 | h0
    · rw [h0] at hk; simp at hk
    · exact h0
  have q1 := (hq k l[k] (by simp [hk])).2
  rw [hbk, ← Nat.add_assoc] at q1
  have HQ := Lib.hid (fun w' (h : Below w.heap.size w w') => (h.cell (p := ⟨g, off + k * 2 + 1, none⟩) hg).trans q1)
  unfold maxLen at hcm
  have HPL := Lib.hid (fun w' (h : Below w.heap.size w w') => rplace_any l _ nm w' (HV.out.below h) h12 hbd)
  rw [hix] at HPL
  generalize plcI l nm = pz at *
  have HFO := Lib.hid (fun w => (show Calls Tryd.prog 84 #[.agg #[.string nm, .int .i64 op, .int .i64 fo, .int .i64 (lo : Int), .int .i64 (hi : Int), .int .i64 ln, .string pt]] w fun e w' => e = .returned (.bool true) ∧ Below w.heap.size w w' from form_yes ⟨nm, op, fo, (lo : Int), (hi : Int), ln, pt⟩ hF hU w))
  have HT := Lib.hid (fun n (h : n ≤ 33) w => (rtop_any n h w).mono (fun _ _ x => And.intro x.1 x.2.symm))
  have x0 : (0 : Int) ≤ (k : Int) := by omega
  have x1 : (k : Int) < (l.length : Int) := by omega
  have d68710 : decide ((lo : Int) < 0) = false := decide_eq_false (by omega)
  have d27619 : decide (topN b < lo) = false := decide_eq_false (by omega)
  have d9814 : decide ((hi : Int) < 0) = false := decide_eq_false (by omega)
  have d26811 : decide (topN b < hi) = true := decide_eq_true (by omega)
  clear hx hw hq q1 hbk hix hbd hF hU
  go_enter Tryd.func53, Tryd.ntmps53
  go_wp2_with fail
  refine (HPL.out _ (bal (Below.refl _ _) _)).mono ?_
  rintro e w1 ⟨rfl, hb1⟩
  have hB1 := (Blk.new w 52 #[.string nm, .int .i64 op, .int .i64 fo, .int .i64 (lo : Int), .int .i64 (hi : Int), .int .i64 ln, .string pt]).below hb1 (by simp)
  have HB1 := Lib.hid hB1
  have HG1 := Lib.hid (bnx (bal (Below.refl _ _) _) hb1)
  have e0 := hB1.cell 0
  have e1 := hB1.cell 1
  have e2 := hB1.cell 2
  have e3 := hB1.cell 3
  have e4 := hB1.cell 4
  have e5 := hB1.cell 5
  have e6 := hB1.cell 6
  have hs1 : w.heap.size < w1.heap.size := hB1.lt
  clear hB1 hb1 HPL
  go_wp2_with fail
  refine (HFO.out _).mono ?_
  rintro e w2 ⟨rfl, hb2⟩
  have hB2 := HB1.out.below hb2 hs1
  have q1 := HQ.out _ (bnx HG1.out hb2)
  have HG2 := Lib.hid (bnx HG1.out hb2)
  clear e0 e1 e2 e3 e4 e5 e6
  have e0 := hB2.cell 0
  have e1 := hB2.cell 1
  have e2 := hB2.cell 2
  have e3 := hB2.cell 3
  have e4 := hB2.cell 4
  have e5 := hB2.cell 5
  have e6 := hB2.cell 6
  have hs2 : w.heap.size < w2.heap.size := hB2.lt
  clear hB2 hb2 HFO HQ hs1 HB1 HG1
  go_wp2_with fail
  go_quiet ((go_at_call 85; exact Calls.quiet_of_same (HT.out _ (by omega) _)))
  go_wp2_with fail
  go_ret
  first | exact fit_ans HE.out (below_drewN HG2.out _) | exact fit_ans HE.out (below_drewN (below_drewN HG2.out _) _)
set_option maxRecDepth 100000 in
set_option maxHeartbeats 8000000 in
theorem tst_n1 (l : List Fld) (v : Value) (nm : ByteArray) (op fo ln : Int) (lo hi : Nat) (pt : ByteArray) (b k : Nat) (hb : b ≤ 32) (hk : k < l.length) (hix : idxI l nm = (k : Int)) (hbk : l[k].2 = (b : Int)) (h12 : l.length ≤ 12) (hbd : ∀ j, (hj : j < l.length) → 1 ≤ l[j].2 ∧ l[j].2 ≤ 32) (hF : ¬ badForm ⟨nm, op, fo, (lo : Int), (hi : Int), ln, pt⟩) (hU : ¬ badUse ⟨nm, op, fo, (lo : Int), (hi : Int), ln, pt⟩) (hlo : lo ≤ topN b) (hhi : hi ≤ topN b) (hln : ln < 0) (w : World) (hv : SeesF w v l) :
    Calls Tryd.prog 53 #[v, .agg #[.string nm, .int .i64 op, .int .i64 fo, .int .i64 (lo : Int), .int .i64 (hi : Int), .int .i64 ln, .string pt]] w (FitAns w ⟨nm, op, fo, (lo : Int), (hi : Int), ln, pt⟩ b) := by
  have HE := Lib.hid (show fitE ⟨nm, op, fo, (lo : Int), (hi : Int), ln, pt⟩ b = 42 from fit_val hF hU (.inr (.inr (.inr (.inr (.inl hln))))))
  have HV := Lib.hid hv
  obtain ⟨a0, cap0, rfl, hcap, hcm, hx, hw⟩ := hv
  obtain ⟨g, off, rfl, hg, hq⟩ : ∃ g off, a0 = some ⟨g, off, none⟩ ∧ g < w.heap.size ∧ ∀ j f, l[j]? = some f → w.cell? ⟨g, off + j * 2, none⟩ = some (.string f.1) ∧ w.cell? ⟨g, off + (j * 2 + 1), none⟩ = some (.int .i64 f.2) := by
    rcases hx with h0 | h0
    · rw [h0] at hk; simp at hk
    · exact h0
  have q1 := (hq k l[k] (by simp [hk])).2
  rw [hbk, ← Nat.add_assoc] at q1
  have HQ := Lib.hid (fun w' (h : Below w.heap.size w w') => (h.cell (p := ⟨g, off + k * 2 + 1, none⟩) hg).trans q1)
  unfold maxLen at hcm
  have HPL := Lib.hid (fun w' (h : Below w.heap.size w w') => rplace_any l _ nm w' (HV.out.below h) h12 hbd)
  rw [hix] at HPL
  generalize plcI l nm = pz at *
  have HFO := Lib.hid (fun w => (show Calls Tryd.prog 84 #[.agg #[.string nm, .int .i64 op, .int .i64 fo, .int .i64 (lo : Int), .int .i64 (hi : Int), .int .i64 ln, .string pt]] w fun e w' => e = .returned (.bool true) ∧ Below w.heap.size w w' from form_yes ⟨nm, op, fo, (lo : Int), (hi : Int), ln, pt⟩ hF hU w))
  have HT := Lib.hid (fun n (h : n ≤ 33) w => (rtop_any n h w).mono (fun _ _ x => And.intro x.1 x.2.symm))
  have x0 : (0 : Int) ≤ (k : Int) := by omega
  have x1 : (k : Int) < (l.length : Int) := by omega
  have d68710 : decide ((lo : Int) < 0) = false := decide_eq_false (by omega)
  have d27619 : decide (topN b < lo) = false := decide_eq_false (by omega)
  have d9814 : decide ((hi : Int) < 0) = false := decide_eq_false (by omega)
  have d26811 : decide (topN b < hi) = false := decide_eq_false (by omega)
  have d30864 : decide (ln < 0) = true := decide_eq_true (by omega)
  clear hx hw hq q1 hbk hix hbd hF hU
  go_enter Tryd.func53, Tryd.ntmps53
  go_wp2_with fail
  refine (HPL.out _ (bal (Below.refl _ _) _)).mono ?_
  rintro e w1 ⟨rfl, hb1⟩
  have hB1 := (Blk.new w 52 #[.string nm, .int .i64 op, .int .i64 fo, .int .i64 (lo : Int), .int .i64 (hi : Int), .int .i64 ln, .string pt]).below hb1 (by simp)
  have HB1 := Lib.hid hB1
  have HG1 := Lib.hid (bnx (bal (Below.refl _ _) _) hb1)
  have e0 := hB1.cell 0
  have e1 := hB1.cell 1
  have e2 := hB1.cell 2
  have e3 := hB1.cell 3
  have e4 := hB1.cell 4
  have e5 := hB1.cell 5
  have e6 := hB1.cell 6
  have hs1 : w.heap.size < w1.heap.size := hB1.lt
  clear hB1 hb1 HPL
  go_wp2_with fail
  refine (HFO.out _).mono ?_
  rintro e w2 ⟨rfl, hb2⟩
  have hB2 := HB1.out.below hb2 hs1
  have q1 := HQ.out _ (bnx HG1.out hb2)
  have HG2 := Lib.hid (bnx HG1.out hb2)
  clear e0 e1 e2 e3 e4 e5 e6
  have e0 := hB2.cell 0
  have e1 := hB2.cell 1
  have e2 := hB2.cell 2
  have e3 := hB2.cell 3
  have e4 := hB2.cell 4
  have e5 := hB2.cell 5
  have e6 := hB2.cell 6
  have hs2 : w.heap.size < w2.heap.size := hB2.lt
  clear hB2 hb2 HFO HQ hs1 HB1 HG1
  go_wp2_with fail
  go_quiet ((go_at_call 85; exact Calls.quiet_of_same (HT.out _ (by omega) _)))
  go_wp2_with fail
  go_ret
  first | exact fit_ans HE.out (below_drewN HG2.out _) | exact fit_ans HE.out (below_drewN (below_drewN HG2.out _) _)
set_option maxRecDepth 100000 in
set_option maxHeartbeats 8000000 in
theorem tst_n2 (l : List Fld) (v : Value) (nm : ByteArray) (op fo : Int) (lo hi ln : Nat) (pt : ByteArray) (b k : Nat) (hb : b ≤ 32) (hk : k < l.length) (hix : idxI l nm = (k : Int)) (hbk : l[k].2 = (b : Int)) (h12 : l.length ≤ 12) (hbd : ∀ j, (hj : j < l.length) → 1 ≤ l[j].2 ∧ l[j].2 ≤ 32) (hF : ¬ badForm ⟨nm, op, fo, (lo : Int), (hi : Int), (ln : Int), pt⟩) (hU : ¬ badUse ⟨nm, op, fo, (lo : Int), (hi : Int), (ln : Int), pt⟩) (hlo : lo ≤ topN b) (hhi : hi ≤ topN b) (hln : b < ln) (w : World) (hv : SeesF w v l) :
    Calls Tryd.prog 53 #[v, .agg #[.string nm, .int .i64 op, .int .i64 fo, .int .i64 (lo : Int), .int .i64 (hi : Int), .int .i64 (ln : Int), .string pt]] w (FitAns w ⟨nm, op, fo, (lo : Int), (hi : Int), (ln : Int), pt⟩ b) := by
  have HE := Lib.hid (show fitE ⟨nm, op, fo, (lo : Int), (hi : Int), (ln : Int), pt⟩ b = 42 from fit_val hF hU (.inr (.inr (.inr (.inr (.inr (Int.ofNat_lt.2 hln)))))))
  have HV := Lib.hid hv
  obtain ⟨a0, cap0, rfl, hcap, hcm, hx, hw⟩ := hv
  obtain ⟨g, off, rfl, hg, hq⟩ : ∃ g off, a0 = some ⟨g, off, none⟩ ∧ g < w.heap.size ∧ ∀ j f, l[j]? = some f → w.cell? ⟨g, off + j * 2, none⟩ = some (.string f.1) ∧ w.cell? ⟨g, off + (j * 2 + 1), none⟩ = some (.int .i64 f.2) := by
    rcases hx with h0 | h0
    · rw [h0] at hk; simp at hk
    · exact h0
  have q1 := (hq k l[k] (by simp [hk])).2
  rw [hbk, ← Nat.add_assoc] at q1
  have HQ := Lib.hid (fun w' (h : Below w.heap.size w w') => (h.cell (p := ⟨g, off + k * 2 + 1, none⟩) hg).trans q1)
  unfold maxLen at hcm
  have HPL := Lib.hid (fun w' (h : Below w.heap.size w w') => rplace_any l _ nm w' (HV.out.below h) h12 hbd)
  rw [hix] at HPL
  generalize plcI l nm = pz at *
  have HFO := Lib.hid (fun w => (show Calls Tryd.prog 84 #[.agg #[.string nm, .int .i64 op, .int .i64 fo, .int .i64 (lo : Int), .int .i64 (hi : Int), .int .i64 (ln : Int), .string pt]] w fun e w' => e = .returned (.bool true) ∧ Below w.heap.size w w' from form_yes ⟨nm, op, fo, (lo : Int), (hi : Int), (ln : Int), pt⟩ hF hU w))
  have HT := Lib.hid (fun n (h : n ≤ 33) w => (rtop_any n h w).mono (fun _ _ x => And.intro x.1 x.2.symm))
  have x0 : (0 : Int) ≤ (k : Int) := by omega
  have x1 : (k : Int) < (l.length : Int) := by omega
  have d68710 : decide ((lo : Int) < 0) = false := decide_eq_false (by omega)
  have d27619 : decide (topN b < lo) = false := decide_eq_false (by omega)
  have d9814 : decide ((hi : Int) < 0) = false := decide_eq_false (by omega)
  have d26811 : decide (topN b < hi) = false := decide_eq_false (by omega)
  have d3609 : decide ((ln : Int) < 0) = false := decide_eq_false (by omega)
  have d68574 : decide (b < ln) = true := decide_eq_true (by omega)
  clear hx hw hq q1 hbk hix hbd hF hU
  go_enter Tryd.func53, Tryd.ntmps53
  go_wp2_with fail
  refine (HPL.out _ (bal (Below.refl _ _) _)).mono ?_
  rintro e w1 ⟨rfl, hb1⟩
  have hB1 := (Blk.new w 52 #[.string nm, .int .i64 op, .int .i64 fo, .int .i64 (lo : Int), .int .i64 (hi : Int), .int .i64 (ln : Int), .string pt]).below hb1 (by simp)
  have HB1 := Lib.hid hB1
  have HG1 := Lib.hid (bnx (bal (Below.refl _ _) _) hb1)
  have e0 := hB1.cell 0
  have e1 := hB1.cell 1
  have e2 := hB1.cell 2
  have e3 := hB1.cell 3
  have e4 := hB1.cell 4
  have e5 := hB1.cell 5
  have e6 := hB1.cell 6
  have hs1 : w.heap.size < w1.heap.size := hB1.lt
  clear hB1 hb1 HPL
  go_wp2_with fail
  refine (HFO.out _).mono ?_
  rintro e w2 ⟨rfl, hb2⟩
  have hB2 := HB1.out.below hb2 hs1
  have q1 := HQ.out _ (bnx HG1.out hb2)
  have HG2 := Lib.hid (bnx HG1.out hb2)
  clear e0 e1 e2 e3 e4 e5 e6
  have e0 := hB2.cell 0
  have e1 := hB2.cell 1
  have e2 := hB2.cell 2
  have e3 := hB2.cell 3
  have e4 := hB2.cell 4
  have e5 := hB2.cell 5
  have e6 := hB2.cell 6
  have hs2 : w.heap.size < w2.heap.size := hB2.lt
  clear hB2 hb2 HFO HQ hs1 HB1 HG1
  go_wp2_with fail
  go_quiet ((go_at_call 85; exact Calls.quiet_of_same (HT.out _ (by omega) _)))
  go_wp2_with fail
  go_ret
  first | exact fit_ans HE.out (below_drewN HG2.out _) | exact fit_ans HE.out (below_drewN (below_drewN HG2.out _) _)
set_option maxRecDepth 100000 in
set_option maxHeartbeats 8000000 in
theorem tst_1 (l : List Fld) (v : Value) (nm : ByteArray) (op : Int) (lo hi ln : Nat) (pt : ByteArray) (b k : Nat) (hb : b ≤ 32) (hk : k < l.length) (hix : idxI l nm = (k : Int)) (hbk : l[k].2 = (b : Int)) (h12 : l.length ≤ 12) (hbd : ∀ j, (hj : j < l.length) → 1 ≤ l[j].2 ∧ l[j].2 ≤ 32) (hF : ¬ badForm ⟨nm, op, 1, (lo : Int), (hi : Int), (ln : Int), pt⟩) (hU : ¬ badUse ⟨nm, op, 1, (lo : Int), (hi : Int), (ln : Int), pt⟩) (hlo : lo ≤ topN b) (hhi : hi ≤ topN b) (hln : ln ≤ b) (w : World) (hv : SeesF w v l) :
    Calls Tryd.prog 53 #[v, .agg #[.string nm, .int .i64 op, .int .i64 1, .int .i64 (lo : Int), .int .i64 (hi : Int), .int .i64 (ln : Int), .string pt]] w (FitAns w ⟨nm, op, 1, (lo : Int), (hi : Int), (ln : Int), pt⟩ b) := by
  have HE := Lib.hid (show fitE ⟨nm, op, 1, (lo : Int), (hi : Int), (ln : Int), pt⟩ b = 0 from fit_ok hF hU (by unfold badVal; simp; try omega) (by unfold badPre; simp) (by unfold badRng; simp) (by unfold badPat; simp))
  have HV := Lib.hid hv
  obtain ⟨a0, cap0, rfl, hcap, hcm, hx, hw⟩ := hv
  obtain ⟨g, off, rfl, hg, hq⟩ : ∃ g off, a0 = some ⟨g, off, none⟩ ∧ g < w.heap.size ∧ ∀ j f, l[j]? = some f → w.cell? ⟨g, off + j * 2, none⟩ = some (.string f.1) ∧ w.cell? ⟨g, off + (j * 2 + 1), none⟩ = some (.int .i64 f.2) := by
    rcases hx with h0 | h0
    · rw [h0] at hk; simp at hk
    · exact h0
  have q1 := (hq k l[k] (by simp [hk])).2
  rw [hbk, ← Nat.add_assoc] at q1
  have HQ := Lib.hid (fun w' (h : Below w.heap.size w w') => (h.cell (p := ⟨g, off + k * 2 + 1, none⟩) hg).trans q1)
  unfold maxLen at hcm
  have HPL := Lib.hid (fun w' (h : Below w.heap.size w w') => rplace_any l _ nm w' (HV.out.below h) h12 hbd)
  rw [hix] at HPL
  generalize plcI l nm = pz at *
  have HFO := Lib.hid (fun w => (show Calls Tryd.prog 84 #[.agg #[.string nm, .int .i64 op, .int .i64 1, .int .i64 (lo : Int), .int .i64 (hi : Int), .int .i64 (ln : Int), .string pt]] w fun e w' => e = .returned (.bool true) ∧ Below w.heap.size w w' from form_yes ⟨nm, op, 1, (lo : Int), (hi : Int), (ln : Int), pt⟩ hF hU w))
  have HT := Lib.hid (fun n (h : n ≤ 33) w => (rtop_any n h w).mono (fun _ _ x => And.intro x.1 x.2.symm))
  have x0 : (0 : Int) ≤ (k : Int) := by omega
  have x1 : (k : Int) < (l.length : Int) := by omega
  have d68710 : decide ((lo : Int) < 0) = false := decide_eq_false (by omega)
  have d27619 : decide (topN b < lo) = false := decide_eq_false (by omega)
  have d9814 : decide ((hi : Int) < 0) = false := decide_eq_false (by omega)
  have d26811 : decide (topN b < hi) = false := decide_eq_false (by omega)
  have d3609 : decide ((ln : Int) < 0) = false := decide_eq_false (by omega)
  have d68574 : decide (b < ln) = false := decide_eq_false (by omega)
  clear hx hw hq q1 hbk hix hbd hF hU
  go_enter Tryd.func53, Tryd.ntmps53
  go_wp2_with fail
  refine (HPL.out _ (bal (Below.refl _ _) _)).mono ?_
  rintro e w1 ⟨rfl, hb1⟩
  have hB1 := (Blk.new w 52 #[.string nm, .int .i64 op, .int .i64 1, .int .i64 (lo : Int), .int .i64 (hi : Int), .int .i64 (ln : Int), .string pt]).below hb1 (by simp)
  have HB1 := Lib.hid hB1
  have HG1 := Lib.hid (bnx (bal (Below.refl _ _) _) hb1)
  have e0 := hB1.cell 0
  have e1 := hB1.cell 1
  have e2 := hB1.cell 2
  have e3 := hB1.cell 3
  have e4 := hB1.cell 4
  have e5 := hB1.cell 5
  have e6 := hB1.cell 6
  have hs1 : w.heap.size < w1.heap.size := hB1.lt
  clear hB1 hb1 HPL
  go_wp2_with fail
  refine (HFO.out _).mono ?_
  rintro e w2 ⟨rfl, hb2⟩
  have hB2 := HB1.out.below hb2 hs1
  have q1 := HQ.out _ (bnx HG1.out hb2)
  have HG2 := Lib.hid (bnx HG1.out hb2)
  clear e0 e1 e2 e3 e4 e5 e6
  have e0 := hB2.cell 0
  have e1 := hB2.cell 1
  have e2 := hB2.cell 2
  have e3 := hB2.cell 3
  have e4 := hB2.cell 4
  have e5 := hB2.cell 5
  have e6 := hB2.cell 6
  have hs2 : w.heap.size < w2.heap.size := hB2.lt
  clear hB2 hb2 HFO HQ hs1 HB1 HG1
  go_wp2_with fail
  go_quiet ((go_at_call 85; exact Calls.quiet_of_same (HT.out _ (by omega) _)))
  go_wp2_with fail
  go_quiet ((go_at_call 85; exact quiet_again (HT.out _ (by omega) _)))
  go_wp2_with fail
  go_ret
  first | exact fit_ans HE.out (below_drewN HG2.out _) | exact fit_ans HE.out (below_drewN (below_drewN HG2.out _) _)
set_option maxRecDepth 100000 in
set_option maxHeartbeats 8000000 in
theorem tst_2p (l : List Fld) (v : Value) (nm : ByteArray) (op : Int) (lo hi ln : Nat) (pt : ByteArray) (b k : Nat) (hb : b ≤ 32) (hk : k < l.length) (hix : idxI l nm = (k : Int)) (hbk : l[k].2 = (b : Int)) (h12 : l.length ≤ 12) (hbd : ∀ j, (hj : j < l.length) → 1 ≤ l[j].2 ∧ l[j].2 ≤ 32) (hF : ¬ badForm ⟨nm, op, 2, (lo : Int), (hi : Int), (ln : Int), pt⟩) (hU : ¬ badUse ⟨nm, op, 2, (lo : Int), (hi : Int), (ln : Int), pt⟩) (hlo : lo ≤ topN b) (hhi : hi ≤ topN b) (hln : ln ≤ b) (hp : lo % 2 ^ (b - ln) ≠ 0) (w : World) (hv : SeesF w v l) :
    Calls Tryd.prog 53 #[v, .agg #[.string nm, .int .i64 op, .int .i64 2, .int .i64 (lo : Int), .int .i64 (hi : Int), .int .i64 (ln : Int), .string pt]] w (FitAns w ⟨nm, op, 2, (lo : Int), (hi : Int), (ln : Int), pt⟩ b) := by
  have HE := Lib.hid (show fitE ⟨nm, op, 2, (lo : Int), (hi : Int), (ln : Int), pt⟩ b = 42 from fit_pre hF hU (by unfold badVal; simp; try omega) ⟨rfl, by simpa using hp⟩)
  have HV := Lib.hid hv
  obtain ⟨a0, cap0, rfl, hcap, hcm, hx, hw⟩ := hv
  obtain ⟨g, off, rfl, hg, hq⟩ : ∃ g off, a0 = some ⟨g, off, none⟩ ∧ g < w.heap.size ∧ ∀ j f, l[j]? = some f → w.cell? ⟨g, off + j * 2, none⟩ = some (.string f.1) ∧ w.cell? ⟨g, off + (j * 2 + 1), none⟩ = some (.int .i64 f.2) := by
    rcases hx with h0 | h0
    · rw [h0] at hk; simp at hk
    · exact h0
  have q1 := (hq k l[k] (by simp [hk])).2
  rw [hbk, ← Nat.add_assoc] at q1
  have HQ := Lib.hid (fun w' (h : Below w.heap.size w w') => (h.cell (p := ⟨g, off + k * 2 + 1, none⟩) hg).trans q1)
  unfold maxLen at hcm
  have HPL := Lib.hid (fun w' (h : Below w.heap.size w w') => rplace_any l _ nm w' (HV.out.below h) h12 hbd)
  rw [hix] at HPL
  generalize plcI l nm = pz at *
  have HFO := Lib.hid (fun w => (show Calls Tryd.prog 84 #[.agg #[.string nm, .int .i64 op, .int .i64 2, .int .i64 (lo : Int), .int .i64 (hi : Int), .int .i64 (ln : Int), .string pt]] w fun e w' => e = .returned (.bool true) ∧ Below w.heap.size w w' from form_yes ⟨nm, op, 2, (lo : Int), (hi : Int), (ln : Int), pt⟩ hF hU w))
  have HT := Lib.hid (fun n (h : n ≤ 33) w => (rtop_any n h w).mono (fun _ _ x => And.intro x.1 x.2.symm))
  have x0 : (0 : Int) ≤ (k : Int) := by omega
  have x1 : (k : Int) < (l.length : Int) := by omega
  have d68710 : decide ((lo : Int) < 0) = false := decide_eq_false (by omega)
  have d27619 : decide (topN b < lo) = false := decide_eq_false (by omega)
  have d9814 : decide ((hi : Int) < 0) = false := decide_eq_false (by omega)
  have d26811 : decide (topN b < hi) = false := decide_eq_false (by omega)
  have d3609 : decide ((ln : Int) < 0) = false := decide_eq_false (by omega)
  have d68574 : decide (b < ln) = false := decide_eq_false (by omega)
  have htb := top_lt b hb
  have ha : bits .and .i64 (lo : Int) (topN (b - ln) : Int) = ((lo % 2 ^ (b - ln) : Nat) : Int) := and_top lo (b - ln) (by omega) (by omega)
  have HT2 := Lib.hid (fun w => (show Calls Tryd.prog 85 #[.int .i64 ((b : Int) - (ln : Int))] w fun e w' => e = .returned (.int .i64 (topN (b - ln) : Int)) ∧ w' = w from by have h := (rtop_any (b - ln) (by omega) w).mono (fun _ _ x => And.intro x.1 x.2.symm); rw [show ((b - ln : Nat) : Int) = (b : Int) - (ln : Int) from by omega] at h; exact h))
  have hw1 : IntKind.i64.wrap ((b : Int) - (ln : Int)) = (b : Int) - (ln : Int) := IntWalk.i64_in _ (by omega)
  have hq0 : (((lo % 2 ^ (b - ln) : Nat) : Int) != 0) = true := by rw [bne_iff_ne]; omega
  generalize lo % 2 ^ (b - ln) = R at *
  clear htb hp
  clear hx hw hq q1 hbk hix hbd hF hU
  go_enter Tryd.func53, Tryd.ntmps53
  go_wp2_with fail
  refine (HPL.out _ (bal (Below.refl _ _) _)).mono ?_
  rintro e w1 ⟨rfl, hb1⟩
  have hB1 := (Blk.new w 52 #[.string nm, .int .i64 op, .int .i64 2, .int .i64 (lo : Int), .int .i64 (hi : Int), .int .i64 (ln : Int), .string pt]).below hb1 (by simp)
  have HB1 := Lib.hid hB1
  have HG1 := Lib.hid (bnx (bal (Below.refl _ _) _) hb1)
  have e0 := hB1.cell 0
  have e1 := hB1.cell 1
  have e2 := hB1.cell 2
  have e3 := hB1.cell 3
  have e4 := hB1.cell 4
  have e5 := hB1.cell 5
  have e6 := hB1.cell 6
  have hs1 : w.heap.size < w1.heap.size := hB1.lt
  clear hB1 hb1 HPL
  go_wp2_with fail
  refine (HFO.out _).mono ?_
  rintro e w2 ⟨rfl, hb2⟩
  have hB2 := HB1.out.below hb2 hs1
  have q1 := HQ.out _ (bnx HG1.out hb2)
  have HG2 := Lib.hid (bnx HG1.out hb2)
  clear e0 e1 e2 e3 e4 e5 e6
  have e0 := hB2.cell 0
  have e1 := hB2.cell 1
  have e2 := hB2.cell 2
  have e3 := hB2.cell 3
  have e4 := hB2.cell 4
  have e5 := hB2.cell 5
  have e6 := hB2.cell 6
  have hs2 : w.heap.size < w2.heap.size := hB2.lt
  clear hB2 hb2 HFO HQ hs1 HB1 HG1
  go_wp2_with fail
  go_quiet ((go_at_call 85; exact Calls.quiet_of_same (HT.out _ (by omega) _)))
  go_wp2_with fail
  go_quiet ((go_at_call 85; exact quiet_again (HT2.out _)))
  go_wp2_with fail
  go_ret
  first | exact fit_ans HE.out (below_drewN HG2.out _) | exact fit_ans HE.out (below_drewN (below_drewN HG2.out _) _)
set_option maxRecDepth 100000 in
set_option maxHeartbeats 8000000 in
theorem tst_2 (l : List Fld) (v : Value) (nm : ByteArray) (op : Int) (lo hi ln : Nat) (pt : ByteArray) (b k : Nat) (hb : b ≤ 32) (hk : k < l.length) (hix : idxI l nm = (k : Int)) (hbk : l[k].2 = (b : Int)) (h12 : l.length ≤ 12) (hbd : ∀ j, (hj : j < l.length) → 1 ≤ l[j].2 ∧ l[j].2 ≤ 32) (hF : ¬ badForm ⟨nm, op, 2, (lo : Int), (hi : Int), (ln : Int), pt⟩) (hU : ¬ badUse ⟨nm, op, 2, (lo : Int), (hi : Int), (ln : Int), pt⟩) (hlo : lo ≤ topN b) (hhi : hi ≤ topN b) (hln : ln ≤ b) (hp : lo % 2 ^ (b - ln) = 0) (w : World) (hv : SeesF w v l) :
    Calls Tryd.prog 53 #[v, .agg #[.string nm, .int .i64 op, .int .i64 2, .int .i64 (lo : Int), .int .i64 (hi : Int), .int .i64 (ln : Int), .string pt]] w (FitAns w ⟨nm, op, 2, (lo : Int), (hi : Int), (ln : Int), pt⟩ b) := by
  have HE := Lib.hid (show fitE ⟨nm, op, 2, (lo : Int), (hi : Int), (ln : Int), pt⟩ b = 0 from fit_ok hF hU (by unfold badVal; simp; try omega) (by unfold badPre; simp [hp]) (by unfold badRng; simp) (by unfold badPat; simp))
  have HV := Lib.hid hv
  obtain ⟨a0, cap0, rfl, hcap, hcm, hx, hw⟩ := hv
  obtain ⟨g, off, rfl, hg, hq⟩ : ∃ g off, a0 = some ⟨g, off, none⟩ ∧ g < w.heap.size ∧ ∀ j f, l[j]? = some f → w.cell? ⟨g, off + j * 2, none⟩ = some (.string f.1) ∧ w.cell? ⟨g, off + (j * 2 + 1), none⟩ = some (.int .i64 f.2) := by
    rcases hx with h0 | h0
    · rw [h0] at hk; simp at hk
    · exact h0
  have q1 := (hq k l[k] (by simp [hk])).2
  rw [hbk, ← Nat.add_assoc] at q1
  have HQ := Lib.hid (fun w' (h : Below w.heap.size w w') => (h.cell (p := ⟨g, off + k * 2 + 1, none⟩) hg).trans q1)
  unfold maxLen at hcm
  have HPL := Lib.hid (fun w' (h : Below w.heap.size w w') => rplace_any l _ nm w' (HV.out.below h) h12 hbd)
  rw [hix] at HPL
  generalize plcI l nm = pz at *
  have HFO := Lib.hid (fun w => (show Calls Tryd.prog 84 #[.agg #[.string nm, .int .i64 op, .int .i64 2, .int .i64 (lo : Int), .int .i64 (hi : Int), .int .i64 (ln : Int), .string pt]] w fun e w' => e = .returned (.bool true) ∧ Below w.heap.size w w' from form_yes ⟨nm, op, 2, (lo : Int), (hi : Int), (ln : Int), pt⟩ hF hU w))
  have HT := Lib.hid (fun n (h : n ≤ 33) w => (rtop_any n h w).mono (fun _ _ x => And.intro x.1 x.2.symm))
  have x0 : (0 : Int) ≤ (k : Int) := by omega
  have x1 : (k : Int) < (l.length : Int) := by omega
  have d68710 : decide ((lo : Int) < 0) = false := decide_eq_false (by omega)
  have d27619 : decide (topN b < lo) = false := decide_eq_false (by omega)
  have d9814 : decide ((hi : Int) < 0) = false := decide_eq_false (by omega)
  have d26811 : decide (topN b < hi) = false := decide_eq_false (by omega)
  have d3609 : decide ((ln : Int) < 0) = false := decide_eq_false (by omega)
  have d68574 : decide (b < ln) = false := decide_eq_false (by omega)
  have htb := top_lt b hb
  have ha : bits .and .i64 (lo : Int) (topN (b - ln) : Int) = ((lo % 2 ^ (b - ln) : Nat) : Int) := and_top lo (b - ln) (by omega) (by omega)
  have HT2 := Lib.hid (fun w => (show Calls Tryd.prog 85 #[.int .i64 ((b : Int) - (ln : Int))] w fun e w' => e = .returned (.int .i64 (topN (b - ln) : Int)) ∧ w' = w from by have h := (rtop_any (b - ln) (by omega) w).mono (fun _ _ x => And.intro x.1 x.2.symm); rw [show ((b - ln : Nat) : Int) = (b : Int) - (ln : Int) from by omega] at h; exact h))
  have hw1 : IntKind.i64.wrap ((b : Int) - (ln : Int)) = (b : Int) - (ln : Int) := IntWalk.i64_in _ (by omega)
  rw [hp] at ha
  clear htb hp
  clear hx hw hq q1 hbk hix hbd hF hU
  go_enter Tryd.func53, Tryd.ntmps53
  go_wp2_with fail
  refine (HPL.out _ (bal (Below.refl _ _) _)).mono ?_
  rintro e w1 ⟨rfl, hb1⟩
  have hB1 := (Blk.new w 52 #[.string nm, .int .i64 op, .int .i64 2, .int .i64 (lo : Int), .int .i64 (hi : Int), .int .i64 (ln : Int), .string pt]).below hb1 (by simp)
  have HB1 := Lib.hid hB1
  have HG1 := Lib.hid (bnx (bal (Below.refl _ _) _) hb1)
  have e0 := hB1.cell 0
  have e1 := hB1.cell 1
  have e2 := hB1.cell 2
  have e3 := hB1.cell 3
  have e4 := hB1.cell 4
  have e5 := hB1.cell 5
  have e6 := hB1.cell 6
  have hs1 : w.heap.size < w1.heap.size := hB1.lt
  clear hB1 hb1 HPL
  go_wp2_with fail
  refine (HFO.out _).mono ?_
  rintro e w2 ⟨rfl, hb2⟩
  have hB2 := HB1.out.below hb2 hs1
  have q1 := HQ.out _ (bnx HG1.out hb2)
  have HG2 := Lib.hid (bnx HG1.out hb2)
  clear e0 e1 e2 e3 e4 e5 e6
  have e0 := hB2.cell 0
  have e1 := hB2.cell 1
  have e2 := hB2.cell 2
  have e3 := hB2.cell 3
  have e4 := hB2.cell 4
  have e5 := hB2.cell 5
  have e6 := hB2.cell 6
  have hs2 : w.heap.size < w2.heap.size := hB2.lt
  clear hB2 hb2 HFO HQ hs1 HB1 HG1
  go_wp2_with fail
  go_quiet ((go_at_call 85; exact Calls.quiet_of_same (HT.out _ (by omega) _)))
  go_wp2_with fail
  go_quiet ((go_at_call 85; exact quiet_again (HT2.out _)))
  go_wp2_with fail
  go_ret
  first | exact fit_ans HE.out (below_drewN HG2.out _) | exact fit_ans HE.out (below_drewN (below_drewN HG2.out _) _)
set_option maxRecDepth 100000 in
set_option maxHeartbeats 8000000 in
theorem tst_3r (l : List Fld) (v : Value) (nm : ByteArray) (op : Int) (lo hi ln : Nat) (pt : ByteArray) (b k : Nat) (hb : b ≤ 32) (hk : k < l.length) (hix : idxI l nm = (k : Int)) (hbk : l[k].2 = (b : Int)) (h12 : l.length ≤ 12) (hbd : ∀ j, (hj : j < l.length) → 1 ≤ l[j].2 ∧ l[j].2 ≤ 32) (hF : ¬ badForm ⟨nm, op, 3, (lo : Int), (hi : Int), (ln : Int), pt⟩) (hU : ¬ badUse ⟨nm, op, 3, (lo : Int), (hi : Int), (ln : Int), pt⟩) (hlo : lo ≤ topN b) (hhi : hi ≤ topN b) (hln : ln ≤ b) (hr : hi < lo) (w : World) (hv : SeesF w v l) :
    Calls Tryd.prog 53 #[v, .agg #[.string nm, .int .i64 op, .int .i64 3, .int .i64 (lo : Int), .int .i64 (hi : Int), .int .i64 (ln : Int), .string pt]] w (FitAns w ⟨nm, op, 3, (lo : Int), (hi : Int), (ln : Int), pt⟩ b) := by
  have HE := Lib.hid (show fitE ⟨nm, op, 3, (lo : Int), (hi : Int), (ln : Int), pt⟩ b = 43 from fit_rng hF hU (by unfold badVal; simp; try omega) (by unfold badPre; simp) ⟨rfl, Int.ofNat_lt.2 hr⟩)
  have HV := Lib.hid hv
  obtain ⟨a0, cap0, rfl, hcap, hcm, hx, hw⟩ := hv
  obtain ⟨g, off, rfl, hg, hq⟩ : ∃ g off, a0 = some ⟨g, off, none⟩ ∧ g < w.heap.size ∧ ∀ j f, l[j]? = some f → w.cell? ⟨g, off + j * 2, none⟩ = some (.string f.1) ∧ w.cell? ⟨g, off + (j * 2 + 1), none⟩ = some (.int .i64 f.2) := by
    rcases hx with h0 | h0
    · rw [h0] at hk; simp at hk
    · exact h0
  have q1 := (hq k l[k] (by simp [hk])).2
  rw [hbk, ← Nat.add_assoc] at q1
  have HQ := Lib.hid (fun w' (h : Below w.heap.size w w') => (h.cell (p := ⟨g, off + k * 2 + 1, none⟩) hg).trans q1)
  unfold maxLen at hcm
  have HPL := Lib.hid (fun w' (h : Below w.heap.size w w') => rplace_any l _ nm w' (HV.out.below h) h12 hbd)
  rw [hix] at HPL
  generalize plcI l nm = pz at *
  have HFO := Lib.hid (fun w => (show Calls Tryd.prog 84 #[.agg #[.string nm, .int .i64 op, .int .i64 3, .int .i64 (lo : Int), .int .i64 (hi : Int), .int .i64 (ln : Int), .string pt]] w fun e w' => e = .returned (.bool true) ∧ Below w.heap.size w w' from form_yes ⟨nm, op, 3, (lo : Int), (hi : Int), (ln : Int), pt⟩ hF hU w))
  have HT := Lib.hid (fun n (h : n ≤ 33) w => (rtop_any n h w).mono (fun _ _ x => And.intro x.1 x.2.symm))
  have x0 : (0 : Int) ≤ (k : Int) := by omega
  have x1 : (k : Int) < (l.length : Int) := by omega
  have d68710 : decide ((lo : Int) < 0) = false := decide_eq_false (by omega)
  have d27619 : decide (topN b < lo) = false := decide_eq_false (by omega)
  have d9814 : decide ((hi : Int) < 0) = false := decide_eq_false (by omega)
  have d26811 : decide (topN b < hi) = false := decide_eq_false (by omega)
  have d3609 : decide ((ln : Int) < 0) = false := decide_eq_false (by omega)
  have d68574 : decide (b < ln) = false := decide_eq_false (by omega)
  clear hx hw hq q1 hbk hix hbd hF hU
  go_enter Tryd.func53, Tryd.ntmps53
  go_wp2_with fail
  refine (HPL.out _ (bal (Below.refl _ _) _)).mono ?_
  rintro e w1 ⟨rfl, hb1⟩
  have hB1 := (Blk.new w 52 #[.string nm, .int .i64 op, .int .i64 3, .int .i64 (lo : Int), .int .i64 (hi : Int), .int .i64 (ln : Int), .string pt]).below hb1 (by simp)
  have HB1 := Lib.hid hB1
  have HG1 := Lib.hid (bnx (bal (Below.refl _ _) _) hb1)
  have e0 := hB1.cell 0
  have e1 := hB1.cell 1
  have e2 := hB1.cell 2
  have e3 := hB1.cell 3
  have e4 := hB1.cell 4
  have e5 := hB1.cell 5
  have e6 := hB1.cell 6
  have hs1 : w.heap.size < w1.heap.size := hB1.lt
  clear hB1 hb1 HPL
  go_wp2_with fail
  refine (HFO.out _).mono ?_
  rintro e w2 ⟨rfl, hb2⟩
  have hB2 := HB1.out.below hb2 hs1
  have q1 := HQ.out _ (bnx HG1.out hb2)
  have HG2 := Lib.hid (bnx HG1.out hb2)
  clear e0 e1 e2 e3 e4 e5 e6
  have e0 := hB2.cell 0
  have e1 := hB2.cell 1
  have e2 := hB2.cell 2
  have e3 := hB2.cell 3
  have e4 := hB2.cell 4
  have e5 := hB2.cell 5
  have e6 := hB2.cell 6
  have hs2 : w.heap.size < w2.heap.size := hB2.lt
  clear hB2 hb2 HFO HQ hs1 HB1 HG1
  go_wp2_with fail
  go_quiet ((go_at_call 85; exact Calls.quiet_of_same (HT.out _ (by omega) _)))
  go_wp2_with fail
  go_quiet ((go_at_call 85; exact quiet_again (HT.out _ (by omega) _)))
  go_wp2_with fail
  go_ret
  first | exact fit_ans HE.out (below_drewN HG2.out _) | exact fit_ans HE.out (below_drewN (below_drewN HG2.out _) _)
set_option maxRecDepth 100000 in
set_option maxHeartbeats 8000000 in
theorem tst_3 (l : List Fld) (v : Value) (nm : ByteArray) (op : Int) (lo hi ln : Nat) (pt : ByteArray) (b k : Nat) (hb : b ≤ 32) (hk : k < l.length) (hix : idxI l nm = (k : Int)) (hbk : l[k].2 = (b : Int)) (h12 : l.length ≤ 12) (hbd : ∀ j, (hj : j < l.length) → 1 ≤ l[j].2 ∧ l[j].2 ≤ 32) (hF : ¬ badForm ⟨nm, op, 3, (lo : Int), (hi : Int), (ln : Int), pt⟩) (hU : ¬ badUse ⟨nm, op, 3, (lo : Int), (hi : Int), (ln : Int), pt⟩) (hlo : lo ≤ topN b) (hhi : hi ≤ topN b) (hln : ln ≤ b) (hr : lo ≤ hi) (w : World) (hv : SeesF w v l) :
    Calls Tryd.prog 53 #[v, .agg #[.string nm, .int .i64 op, .int .i64 3, .int .i64 (lo : Int), .int .i64 (hi : Int), .int .i64 (ln : Int), .string pt]] w (FitAns w ⟨nm, op, 3, (lo : Int), (hi : Int), (ln : Int), pt⟩ b) := by
  have HE := Lib.hid (show fitE ⟨nm, op, 3, (lo : Int), (hi : Int), (ln : Int), pt⟩ b = 0 from fit_ok hF hU (by unfold badVal; simp; try omega) (by unfold badPre; simp) (by unfold badRng; simp; omega) (by unfold badPat; simp))
  have HV := Lib.hid hv
  obtain ⟨a0, cap0, rfl, hcap, hcm, hx, hw⟩ := hv
  obtain ⟨g, off, rfl, hg, hq⟩ : ∃ g off, a0 = some ⟨g, off, none⟩ ∧ g < w.heap.size ∧ ∀ j f, l[j]? = some f → w.cell? ⟨g, off + j * 2, none⟩ = some (.string f.1) ∧ w.cell? ⟨g, off + (j * 2 + 1), none⟩ = some (.int .i64 f.2) := by
    rcases hx with h0 | h0
    · rw [h0] at hk; simp at hk
    · exact h0
  have q1 := (hq k l[k] (by simp [hk])).2
  rw [hbk, ← Nat.add_assoc] at q1
  have HQ := Lib.hid (fun w' (h : Below w.heap.size w w') => (h.cell (p := ⟨g, off + k * 2 + 1, none⟩) hg).trans q1)
  unfold maxLen at hcm
  have HPL := Lib.hid (fun w' (h : Below w.heap.size w w') => rplace_any l _ nm w' (HV.out.below h) h12 hbd)
  rw [hix] at HPL
  generalize plcI l nm = pz at *
  have HFO := Lib.hid (fun w => (show Calls Tryd.prog 84 #[.agg #[.string nm, .int .i64 op, .int .i64 3, .int .i64 (lo : Int), .int .i64 (hi : Int), .int .i64 (ln : Int), .string pt]] w fun e w' => e = .returned (.bool true) ∧ Below w.heap.size w w' from form_yes ⟨nm, op, 3, (lo : Int), (hi : Int), (ln : Int), pt⟩ hF hU w))
  have HT := Lib.hid (fun n (h : n ≤ 33) w => (rtop_any n h w).mono (fun _ _ x => And.intro x.1 x.2.symm))
  have x0 : (0 : Int) ≤ (k : Int) := by omega
  have x1 : (k : Int) < (l.length : Int) := by omega
  have d68710 : decide ((lo : Int) < 0) = false := decide_eq_false (by omega)
  have d27619 : decide (topN b < lo) = false := decide_eq_false (by omega)
  have d9814 : decide ((hi : Int) < 0) = false := decide_eq_false (by omega)
  have d26811 : decide (topN b < hi) = false := decide_eq_false (by omega)
  have d3609 : decide ((ln : Int) < 0) = false := decide_eq_false (by omega)
  have d68574 : decide (b < ln) = false := decide_eq_false (by omega)
  clear hx hw hq q1 hbk hix hbd hF hU
  go_enter Tryd.func53, Tryd.ntmps53
  go_wp2_with fail
  refine (HPL.out _ (bal (Below.refl _ _) _)).mono ?_
  rintro e w1 ⟨rfl, hb1⟩
  have hB1 := (Blk.new w 52 #[.string nm, .int .i64 op, .int .i64 3, .int .i64 (lo : Int), .int .i64 (hi : Int), .int .i64 (ln : Int), .string pt]).below hb1 (by simp)
  have HB1 := Lib.hid hB1
  have HG1 := Lib.hid (bnx (bal (Below.refl _ _) _) hb1)
  have e0 := hB1.cell 0
  have e1 := hB1.cell 1
  have e2 := hB1.cell 2
  have e3 := hB1.cell 3
  have e4 := hB1.cell 4
  have e5 := hB1.cell 5
  have e6 := hB1.cell 6
  have hs1 : w.heap.size < w1.heap.size := hB1.lt
  clear hB1 hb1 HPL
  go_wp2_with fail
  refine (HFO.out _).mono ?_
  rintro e w2 ⟨rfl, hb2⟩
  have hB2 := HB1.out.below hb2 hs1
  have q1 := HQ.out _ (bnx HG1.out hb2)
  have HG2 := Lib.hid (bnx HG1.out hb2)
  clear e0 e1 e2 e3 e4 e5 e6
  have e0 := hB2.cell 0
  have e1 := hB2.cell 1
  have e2 := hB2.cell 2
  have e3 := hB2.cell 3
  have e4 := hB2.cell 4
  have e5 := hB2.cell 5
  have e6 := hB2.cell 6
  have hs2 : w.heap.size < w2.heap.size := hB2.lt
  clear hB2 hb2 HFO HQ hs1 HB1 HG1
  go_wp2_with fail
  go_quiet ((go_at_call 85; exact Calls.quiet_of_same (HT.out _ (by omega) _)))
  go_wp2_with fail
  go_quiet ((go_at_call 85; exact quiet_again (HT.out _ (by omega) _)))
  go_wp2_with fail
  go_ret
  first | exact fit_ans HE.out (below_drewN HG2.out _) | exact fit_ans HE.out (below_drewN (below_drewN HG2.out _) _)
set_option maxRecDepth 100000 in
set_option maxHeartbeats 8000000 in
theorem tst_4s (l : List Fld) (v : Value) (nm : ByteArray) (op : Int) (lo hi ln : Nat) (pt : ByteArray) (b k : Nat) (hb : b ≤ 32) (hk : k < l.length) (hix : idxI l nm = (k : Int)) (hbk : l[k].2 = (b : Int)) (h12 : l.length ≤ 12) (hbd : ∀ j, (hj : j < l.length) → 1 ≤ l[j].2 ∧ l[j].2 ≤ 32) (hF : ¬ badForm ⟨nm, op, 4, (lo : Int), (hi : Int), (ln : Int), pt⟩) (hU : ¬ badUse ⟨nm, op, 4, (lo : Int), (hi : Int), (ln : Int), pt⟩) (hlo : lo ≤ topN b) (hhi : hi ≤ topN b) (hln : ln ≤ b) (hpm : pt.size ≤ maxLen) (hs : pt.size ≠ b) (w : World) (hv : SeesF w v l) :
    Calls Tryd.prog 53 #[v, .agg #[.string nm, .int .i64 op, .int .i64 4, .int .i64 (lo : Int), .int .i64 (hi : Int), .int .i64 (ln : Int), .string pt]] w (FitAns w ⟨nm, op, 4, (lo : Int), (hi : Int), (ln : Int), pt⟩ b) := by
  have HE := Lib.hid (show fitE ⟨nm, op, 4, (lo : Int), (hi : Int), (ln : Int), pt⟩ b = 44 from fit_pat hF hU (by unfold badVal; simp; try omega) (by unfold badPre; simp) (by unfold badRng; simp) ⟨rfl, fun h => hs h.1⟩)
  have HV := Lib.hid hv
  obtain ⟨a0, cap0, rfl, hcap, hcm, hx, hw⟩ := hv
  obtain ⟨g, off, rfl, hg, hq⟩ : ∃ g off, a0 = some ⟨g, off, none⟩ ∧ g < w.heap.size ∧ ∀ j f, l[j]? = some f → w.cell? ⟨g, off + j * 2, none⟩ = some (.string f.1) ∧ w.cell? ⟨g, off + (j * 2 + 1), none⟩ = some (.int .i64 f.2) := by
    rcases hx with h0 | h0
    · rw [h0] at hk; simp at hk
    · exact h0
  have q1 := (hq k l[k] (by simp [hk])).2
  rw [hbk, ← Nat.add_assoc] at q1
  have HQ := Lib.hid (fun w' (h : Below w.heap.size w w') => (h.cell (p := ⟨g, off + k * 2 + 1, none⟩) hg).trans q1)
  unfold maxLen at hcm
  have HPL := Lib.hid (fun w' (h : Below w.heap.size w w') => rplace_any l _ nm w' (HV.out.below h) h12 hbd)
  rw [hix] at HPL
  generalize plcI l nm = pz at *
  have HFO := Lib.hid (fun w => (show Calls Tryd.prog 84 #[.agg #[.string nm, .int .i64 op, .int .i64 4, .int .i64 (lo : Int), .int .i64 (hi : Int), .int .i64 (ln : Int), .string pt]] w fun e w' => e = .returned (.bool true) ∧ Below w.heap.size w w' from form_yes ⟨nm, op, 4, (lo : Int), (hi : Int), (ln : Int), pt⟩ hF hU w))
  have HT := Lib.hid (fun n (h : n ≤ 33) w => (rtop_any n h w).mono (fun _ _ x => And.intro x.1 x.2.symm))
  have x0 : (0 : Int) ≤ (k : Int) := by omega
  have x1 : (k : Int) < (l.length : Int) := by omega
  have d68710 : decide ((lo : Int) < 0) = false := decide_eq_false (by omega)
  have d27619 : decide (topN b < lo) = false := decide_eq_false (by omega)
  have d9814 : decide ((hi : Int) < 0) = false := decide_eq_false (by omega)
  have d26811 : decide (topN b < hi) = false := decide_eq_false (by omega)
  have d3609 : decide ((ln : Int) < 0) = false := decide_eq_false (by omega)
  have d68574 : decide (b < ln) = false := decide_eq_false (by omega)
  have hne : ((pt.size : Int) != (b : Int)) = true := by rw [bne_iff_ne]; omega
  unfold maxLen at hpm
  clear hs
  clear hx hw hq q1 hbk hix hbd hF hU
  go_enter Tryd.func53, Tryd.ntmps53
  go_wp2_with fail
  refine (HPL.out _ (bal (Below.refl _ _) _)).mono ?_
  rintro e w1 ⟨rfl, hb1⟩
  have hB1 := (Blk.new w 52 #[.string nm, .int .i64 op, .int .i64 4, .int .i64 (lo : Int), .int .i64 (hi : Int), .int .i64 (ln : Int), .string pt]).below hb1 (by simp)
  have HB1 := Lib.hid hB1
  have HG1 := Lib.hid (bnx (bal (Below.refl _ _) _) hb1)
  have e0 := hB1.cell 0
  have e1 := hB1.cell 1
  have e2 := hB1.cell 2
  have e3 := hB1.cell 3
  have e4 := hB1.cell 4
  have e5 := hB1.cell 5
  have e6 := hB1.cell 6
  have hs1 : w.heap.size < w1.heap.size := hB1.lt
  clear hB1 hb1 HPL
  go_wp2_with fail
  refine (HFO.out _).mono ?_
  rintro e w2 ⟨rfl, hb2⟩
  have hB2 := HB1.out.below hb2 hs1
  have q1 := HQ.out _ (bnx HG1.out hb2)
  have HG2 := Lib.hid (bnx HG1.out hb2)
  clear e0 e1 e2 e3 e4 e5 e6
  have e0 := hB2.cell 0
  have e1 := hB2.cell 1
  have e2 := hB2.cell 2
  have e3 := hB2.cell 3
  have e4 := hB2.cell 4
  have e5 := hB2.cell 5
  have e6 := hB2.cell 6
  have hs2 : w.heap.size < w2.heap.size := hB2.lt
  clear hB2 hb2 HFO HQ hs1 HB1 HG1
  go_wp2_with fail
  go_quiet ((go_at_call 85; exact Calls.quiet_of_same (HT.out _ (by omega) _)))
  go_wp2_with fail
  go_quiet ((go_at_call 85; exact quiet_again (HT.out _ (by omega) _)))
  go_wp2_with fail
  go_ret
  first | exact fit_ans HE.out (below_drewN HG2.out _) | exact fit_ans HE.out (below_drewN (below_drewN HG2.out _) _)
set_option maxRecDepth 100000 in
set_option maxHeartbeats 8000000 in
theorem tst_4 (l : List Fld) (v : Value) (nm : ByteArray) (op : Int) (lo hi ln : Nat) (pt : ByteArray) (b k : Nat) (hb : b ≤ 32) (hk : k < l.length) (hix : idxI l nm = (k : Int)) (hbk : l[k].2 = (b : Int)) (h12 : l.length ≤ 12) (hbd : ∀ j, (hj : j < l.length) → 1 ≤ l[j].2 ∧ l[j].2 ≤ 32) (hF : ¬ badForm ⟨nm, op, 4, (lo : Int), (hi : Int), (ln : Int), pt⟩) (hU : ¬ badUse ⟨nm, op, 4, (lo : Int), (hi : Int), (ln : Int), pt⟩) (hlo : lo ≤ topN b) (hhi : hi ≤ topN b) (hln : ln ≤ b) (hs : pt.size = b) (w : World) (hv : SeesF w v l) :
    Calls Tryd.prog 53 #[v, .agg #[.string nm, .int .i64 op, .int .i64 4, .int .i64 (lo : Int), .int .i64 (hi : Int), .int .i64 (ln : Int), .string pt]] w (FitAns w ⟨nm, op, 4, (lo : Int), (hi : Int), (ln : Int), pt⟩ b) := by
  have HOK := Lib.hid (fun (hd : ∀ x ∈ pt.data.toList, x ∈ dShow) => (show fitE ⟨nm, op, 4, (lo : Int), (hi : Int), (ln : Int), pt⟩ b = 0 from fit_ok hF hU (by unfold badVal; simp; try omega) (by unfold badPre; simp) (by unfold badRng; simp) (fun h => h.2 ⟨hs, hd⟩)))
  have HBAD := Lib.hid (fun (hd : ¬ ∀ x ∈ pt.data.toList, x ∈ dShow) => (show fitE ⟨nm, op, 4, (lo : Int), (hi : Int), (ln : Int), pt⟩ b = 44 from fit_pat hF hU (by unfold badVal; simp; try omega) (by unfold badPre; simp) (by unfold badRng; simp) ⟨rfl, fun h => hd h.2⟩))
  have HPB := Lib.hid (bget pt)
  have HPL2 := Lib.hid (len_s pt)
  have HV := Lib.hid hv
  obtain ⟨a0, cap0, rfl, hcap, hcm, hx, hw⟩ := hv
  obtain ⟨g, off, rfl, hg, hq⟩ : ∃ g off, a0 = some ⟨g, off, none⟩ ∧ g < w.heap.size ∧ ∀ j f, l[j]? = some f → w.cell? ⟨g, off + j * 2, none⟩ = some (.string f.1) ∧ w.cell? ⟨g, off + (j * 2 + 1), none⟩ = some (.int .i64 f.2) := by
    rcases hx with h0 | h0
    · rw [h0] at hk; simp at hk
    · exact h0
  have q1 := (hq k l[k] (by simp [hk])).2
  rw [hbk, ← Nat.add_assoc] at q1
  have HQ := Lib.hid (fun w' (h : Below w.heap.size w w') => (h.cell (p := ⟨g, off + k * 2 + 1, none⟩) hg).trans q1)
  unfold maxLen at hcm
  have HPL := Lib.hid (fun w' (h : Below w.heap.size w w') => rplace_any l _ nm w' (HV.out.below h) h12 hbd)
  rw [hix] at HPL
  generalize plcI l nm = pz at *
  have HFO := Lib.hid (fun w => (show Calls Tryd.prog 84 #[.agg #[.string nm, .int .i64 op, .int .i64 4, .int .i64 (lo : Int), .int .i64 (hi : Int), .int .i64 (ln : Int), .string pt]] w fun e w' => e = .returned (.bool true) ∧ Below w.heap.size w w' from form_yes ⟨nm, op, 4, (lo : Int), (hi : Int), (ln : Int), pt⟩ hF hU w))
  have HT := Lib.hid (fun n (h : n ≤ 33) w => (rtop_any n h w).mono (fun _ _ x => And.intro x.1 x.2.symm))
  have x0 : (0 : Int) ≤ (k : Int) := by omega
  have x1 : (k : Int) < (l.length : Int) := by omega
  have d68710 : decide ((lo : Int) < 0) = false := decide_eq_false (by omega)
  have d27619 : decide (topN b < lo) = false := decide_eq_false (by omega)
  have d9814 : decide ((hi : Int) < 0) = false := decide_eq_false (by omega)
  have d26811 : decide (topN b < hi) = false := decide_eq_false (by omega)
  have d3609 : decide ((ln : Int) < 0) = false := decide_eq_false (by omega)
  have d68574 : decide (b < ln) = false := decide_eq_false (by omega)
  have hne : ((pt.size : Int) != (b : Int)) = false := by rw [hs]; simp
  have HSZ := Lib.hid hs
  have hsz : pt.size ≤ 32 := by omega
  have hsz2 : b ≤ pt.size := by omega
  clear hs
  clear hx hw hq q1 hbk hix hbd hF hU
  go_enter Tryd.func53, Tryd.ntmps53
  go_wp2_with fail
  refine (HPL.out _ (bal (Below.refl _ _) _)).mono ?_
  rintro e w1 ⟨rfl, hb1⟩
  have hB1 := (Blk.new w 52 #[.string nm, .int .i64 op, .int .i64 4, .int .i64 (lo : Int), .int .i64 (hi : Int), .int .i64 (ln : Int), .string pt]).below hb1 (by simp)
  have HB1 := Lib.hid hB1
  have HG1 := Lib.hid (bnx (bal (Below.refl _ _) _) hb1)
  have e0 := hB1.cell 0
  have e1 := hB1.cell 1
  have e2 := hB1.cell 2
  have e3 := hB1.cell 3
  have e4 := hB1.cell 4
  have e5 := hB1.cell 5
  have e6 := hB1.cell 6
  have hs1 : w.heap.size < w1.heap.size := hB1.lt
  clear hB1 hb1 HPL
  go_wp2_with fail
  refine (HFO.out _).mono ?_
  rintro e w2 ⟨rfl, hb2⟩
  have hB2 := HB1.out.below hb2 hs1
  have q1 := HQ.out _ (bnx HG1.out hb2)
  have HG2 := Lib.hid (bnx HG1.out hb2)
  clear e0 e1 e2 e3 e4 e5 e6
  have e0 := hB2.cell 0
  have e1 := hB2.cell 1
  have e2 := hB2.cell 2
  have e3 := hB2.cell 3
  have e4 := hB2.cell 4
  have e5 := hB2.cell 5
  have e6 := hB2.cell 6
  have hs2 : w.heap.size < w2.heap.size := hB2.lt
  clear hB2 hb2 HFO HQ hs1 HB1 HG1
  go_wp2_with fail
  go_quiet ((go_at_call 85; exact Calls.quiet_of_same (HT.out _ (by omega) _)))
  go_wp2_with fail
  go_quiet ((go_at_call 85; exact quiet_again (HT.out _ (by omega) _)))
  go_wp2_with fail
  go_loop [9] (fun i => ∃ j : Nat, j ≤ b ∧ i = .int .i64 (j : Int) ∧ ∀ x ∈ pt.data.toList.take j, x ∈ dShow) (fun i => b - (intOf i).toNat)
  case atStart => exact ⟨0, Nat.zero_le _, rfl, fun x hx => by simp at hx⟩
  case round =>
    obtain ⟨j, hj, rfl, hall⟩ := hrel
    have HALL := Lib.hid hall
    clear hall
    by_cases hlt : j < b
    · have hg2 := HPB.out j (by omega)
      have HST := Lib.hid (show ∀ (hx : pt[j] ∈ dShow), ∀ x ∈ pt.data.toList.take (j + 1), x ∈ dShow from fun hx x hm => by
        rw [List.take_add_one, hg2] at hm
        rcases List.mem_append.1 hm with h | h
        · exact HALL.out x h
        · have : x = pt[j] := by simpa using h
          rw [this]; exact hx)
      have HNO := Lib.hid (show ∀ (hx : ¬ pt[j] ∈ dShow), ¬ ∀ x ∈ pt.data.toList, x ∈ dShow from fun hx h => hx (h _ (List.mem_of_getElem? hg2)))
      have y0 : (0 : Int) ≤ (j : Int) := by omega
      have y1 : (j : Int) < (pt.size : Int) := by omega
      have y2 : (j : Int) < (b : Int) := by omega
      have y3 : j < pt.size := by omega
      clear hg2
      by_cases h48 : pt[j] = 48
      · have z : (pt[j].toNat : Int) = 48 := by rw [h48]; rfl
        have HM := Lib.hid (HST.out (by rw [h48]; decide))
        clear h48
        go_wp2_with fail
        go_round
        case rel => exact ⟨j + 1, by omega, by go_num, HM.out⟩
        case measure => simp [intOf]; omega
      · by_cases h49 : pt[j] = 49
        · have z : (pt[j].toNat : Int) = 49 := by rw [h49]; rfl
          have HM := Lib.hid (HST.out (by rw [h49]; decide))
          clear h48 h49
          go_wp2_with fail
          go_round
          case rel => exact ⟨j + 1, by omega, by go_num, HM.out⟩
          case measure => simp [intOf]; omega
        · by_cases h120 : pt[j] = 120
          · have z : (pt[j].toNat : Int) = 120 := by rw [h120]; rfl
            have HM := Lib.hid (HST.out (by rw [h120]; decide))
            clear h48 h49 h120
            go_wp2_with fail
            go_round
            case rel => exact ⟨j + 1, by omega, by go_num, HM.out⟩
            case measure => simp [intOf]; omega
          · have z1 : ((pt[j].toNat : Int) != 48) = true := by rw [bne_iff_ne]; exact fun h => h48 (UInt8.toNat_inj.1 (by have h58 : (48 : UInt8).toNat = 48 := rfl; omega))
            have z2 : ((pt[j].toNat : Int) != 49) = true := by rw [bne_iff_ne]; exact fun h => h49 (UInt8.toNat_inj.1 (by have h58 : (49 : UInt8).toNat = 49 := rfl; omega))
            have z3 : ((pt[j].toNat : Int) != 120) = true := by rw [bne_iff_ne]; exact fun h => h120 (UInt8.toNat_inj.1 (by have h58 : (120 : UInt8).toNat = 120 := rfl; omega))
            have HB := Lib.hid (HBAD.out (HNO.out (by unfold dShow; simp [h48, h49, h120])))
            clear h48 h49 h120
            go_wp2_with fail
            go_ret
            first | exact fit_ans HB.out (below_drewN HG2.out _) | exact fit_ans HB.out (below_drewN (below_drewN HG2.out _) _)
    · have HD := Lib.hid (HOK.out (by have h := HALL.out; rwa [List.take_of_length_le (by rw [HPL2.out, HSZ.out]; omega)] at h))
      go_wp2_with fail
      go_ret
      first | exact fit_ans HD.out (below_drewN HG2.out _) | exact fit_ans HD.out (below_drewN (below_drewN HG2.out _) _)
open Classical in
noncomputable def tstE (T : Tst) (l : List Fld) : Int := if h : idxF l T.nm < l.length then fitE T (l[idxF l T.nm].2).toNat else 41
def TstAns (w : World) (T : Tst) (l : List Fld) (e : Ending) (w' : World) : Prop := e = .returned (.int .i64 (tstE T l)) ∧ Below w.heap.size w w'
theorem tst_no {T : Tst} {l : List Fld} (h : ¬ idxF l T.nm < l.length) : tstE T l = 41 := by unfold tstE; rw [dif_neg h]
theorem tst_yes {T : Tst} {l : List Fld} {k b : Nat} (hk : k < l.length) (hi : idxF l T.nm = k) (hb : l[k].2 = (b : Int)) : tstE T l = fitE T b := by
  subst hi
  unfold tstE
  rw [dif_pos hk, hb]; rfl
set_option maxRecDepth 100000 in
set_option maxHeartbeats 8000000 in
theorem tst_none (l : List Fld) (v : Value) (T : Tst) (hix : idxI l T.nm = -1) (h12 : l.length ≤ 12) (hbd : ∀ j, (hj : j < l.length) → 1 ≤ l[j].2 ∧ l[j].2 ≤ 32) (w : World) (hv : SeesF w v l) :
    Calls Tryd.prog 53 #[v, T.val] w fun e w' => e = .returned (.int .i64 41) ∧ Below w.heap.size w w' := by
  have HPL := Lib.hid (fun w' (h : Below w.heap.size w w') => rplace_any l v T.nm w' (hv.below h) h12 hbd)
  rw [hix] at HPL
  generalize plcI l T.nm = pz at *
  obtain ⟨nm, op, fo, lo, hi, ln, pt⟩ := T
  show Calls Tryd.prog 53 #[v, .agg #[.string nm, .int .i64 op, .int .i64 fo, .int .i64 lo, .int .i64 hi, .int .i64 ln, .string pt]] w _
  simp only at HPL
  clear hix hbd h12 hv
  go_enter Tryd.func53, Tryd.ntmps53
  go_wp2_with fail
  refine (HPL.out _ (bal (Below.refl _ _) _)).mono ?_
  rintro e w1 ⟨rfl, hb1⟩
  have HG1 := Lib.hid (bnx (bal (Below.refl _ _) _) hb1)
  clear hb1
  go_wp2_with fail
  go_ret
  exact ⟨rfl, HG1.out⟩
set_option maxRecDepth 100000 in
set_option maxHeartbeats 8000000 in
theorem tst_form (l : List Fld) (v : Value) (T : Tst) (k : Nat) (hix : idxI l T.nm = (k : Int)) (hF : badForm T ∨ badUse T) (h12 : l.length ≤ 12) (hbd : ∀ j, (hj : j < l.length) → 1 ≤ l[j].2 ∧ l[j].2 ≤ 32) (w : World) (hv : SeesF w v l) :
    Calls Tryd.prog 53 #[v, T.val] w fun e w' => e = .returned (.int .i64 47) ∧ Below w.heap.size w w' := by
  have HPL := Lib.hid (fun w' (h : Below w.heap.size w w') => rplace_any l v T.nm w' (hv.below h) h12 hbd)
  have HFO := Lib.hid (fun w => form_no T hF w)
  rw [hix] at HPL
  generalize plcI l T.nm = pz at *
  obtain ⟨nm, op, fo, lo, hi, ln, pt⟩ := T
  show Calls Tryd.prog 53 #[v, .agg #[.string nm, .int .i64 op, .int .i64 fo, .int .i64 lo, .int .i64 hi, .int .i64 ln, .string pt]] w _
  unfold Tst.val Tst.cs at HFO
  simp only at HPL HFO
  have x0 : (0 : Int) ≤ (k : Int) := by omega
  clear hix hbd h12 hv hF
  go_enter Tryd.func53, Tryd.ntmps53
  go_wp2_with fail
  refine (HPL.out _ (bal (Below.refl _ _) _)).mono ?_
  rintro e w1 ⟨rfl, hb1⟩
  have hB1 := (Blk.new w 52 #[.string nm, .int .i64 op, .int .i64 fo, .int .i64 lo, .int .i64 hi, .int .i64 ln, .string pt]).below hb1 (by simp)
  have HG1 := Lib.hid (bnx (bal (Below.refl _ _) _) hb1)
  have e0 := hB1.cell 0
  have e1 := hB1.cell 1
  have e2 := hB1.cell 2
  have e3 := hB1.cell 3
  have e4 := hB1.cell 4
  have e5 := hB1.cell 5
  have e6 := hB1.cell 6
  clear hb1 hB1
  go_wp2_with fail
  refine (HFO.out _).mono ?_
  rintro e w2 ⟨rfl, hb2⟩
  have HG2 := Lib.hid (bnx HG1.out hb2)
  clear hb2
  go_wp2_with fail
  go_ret
  exact ⟨rfl, HG2.out⟩
theorem rtest_any (l : List Fld) (v : Value) (T : Tst) (hpm : T.pt.size ≤ maxLen) (h12 : l.length ≤ 12) (hbd : ∀ j, (hj : j < l.length) → 1 ≤ l[j].2 ∧ l[j].2 ≤ 32) (w : World) (hv : SeesF w v l) :
    Calls Tryd.prog 53 #[v, T.val] w (TstAns w T l) := by
  by_cases hix : idxF l T.nm < l.length
  · have hi2 : idxI l T.nm = (idxF l T.nm : Int) := by unfold idxI; rw [if_pos hix]
    obtain ⟨k, hk⟩ : ∃ k, idxF l T.nm = k := ⟨_, rfl⟩
    rw [hk] at hix hi2
    obtain ⟨b, hb⟩ := Int.eq_ofNat_of_zero_le (show 0 ≤ l[k].2 from by have := hbd k hix; omega)
    have hb32 : b ≤ 32 := by have := hbd k hix; omega
    unfold TstAns
    rw [tst_yes hix hk hb]
    show Calls _ _ _ _ (FitAns w T b)
    by_cases hF : badForm T ∨ badUse T
    · have h47 : fitE T b = 47 := by
        rcases hF with h | h
        · exact fit_form h
        · exact fit_use h
      unfold FitAns
      rw [h47]
      exact tst_form l v T k hi2 hF h12 hbd w hv
    · have hF1 : ¬ badForm T := fun h => hF (.inl h)
      have hU : ¬ badUse T := fun h => hF (.inr h)
      obtain ⟨nm, op, fo, lo, hi, ln, pt⟩ := T
      show Calls Tryd.prog 53 #[v, .agg #[.string nm, .int .i64 op, .int .i64 fo, .int .i64 lo, .int .i64 hi, .int .i64 ln, .string pt]] w _
      simp only at hi2 hpm
      have hfo : fo = 1 ∨ fo = 2 ∨ fo = 3 ∨ fo = 4 := by unfold badForm at hF1; simp only at hF1; omega
      rcases Int.lt_or_le lo 0 with h | h
      · exact tst_l1 l v nm op fo lo hi ln pt b k hb32 hix hi2 hb h12 hbd hF1 hU h w hv
      obtain ⟨lo, rfl⟩ := Int.eq_ofNat_of_zero_le h
      by_cases b1 : lo ≤ topN b
      case neg => exact tst_l2 l v nm op fo hi ln lo pt b k hb32 hix hi2 hb h12 hbd hF1 hU (by omega) w hv
      rcases Int.lt_or_le hi 0 with h | h
      · exact tst_h1 l v nm op fo hi ln lo pt b k hb32 hix hi2 hb h12 hbd hF1 hU b1 h w hv
      obtain ⟨hi, rfl⟩ := Int.eq_ofNat_of_zero_le h
      by_cases b2 : hi ≤ topN b
      case neg => exact tst_h2 l v nm op fo ln lo hi pt b k hb32 hix hi2 hb h12 hbd hF1 hU b1 (by omega) w hv
      rcases Int.lt_or_le ln 0 with h | h
      · exact tst_n1 l v nm op fo ln lo hi pt b k hb32 hix hi2 hb h12 hbd hF1 hU b1 b2 h w hv
      obtain ⟨ln, rfl⟩ := Int.eq_ofNat_of_zero_le h
      by_cases b3 : ln ≤ b
      case neg => exact tst_n2 l v nm op fo lo hi ln pt b k hb32 hix hi2 hb h12 hbd hF1 hU b1 b2 (by omega) w hv
      rcases hfo with rfl | rfl | rfl | rfl
      · exact tst_1 l v nm op lo hi ln pt b k hb32 hix hi2 hb h12 hbd hF1 hU b1 b2 b3 w hv
      · by_cases b4 : lo % 2 ^ (b - ln) = 0
        · exact tst_2 l v nm op lo hi ln pt b k hb32 hix hi2 hb h12 hbd hF1 hU b1 b2 b3 b4 w hv
        · exact tst_2p l v nm op lo hi ln pt b k hb32 hix hi2 hb h12 hbd hF1 hU b1 b2 b3 b4 w hv
      · by_cases b4 : lo ≤ hi
        · exact tst_3 l v nm op lo hi ln pt b k hb32 hix hi2 hb h12 hbd hF1 hU b1 b2 b3 b4 w hv
        · exact tst_3r l v nm op lo hi ln pt b k hb32 hix hi2 hb h12 hbd hF1 hU b1 b2 b3 (by omega) w hv
      · by_cases b4 : pt.size = b
        · exact tst_4 l v nm op lo hi ln pt b k hb32 hix hi2 hb h12 hbd hF1 hU b1 b2 b3 b4 w hv
        · exact tst_4s l v nm op lo hi ln pt b k hb32 hix hi2 hb h12 hbd hF1 hU b1 b2 b3 hpm b4 w hv
  · have hi2 : idxI l T.nm = -1 := by unfold idxI; rw [if_neg hix]
    unfold TstAns
    rw [tst_no hix]
    exact tst_none l v T hi2 h12 hbd w hv
end Go.Proofs.YtaleaicfllcpiaaDoor.Fl
