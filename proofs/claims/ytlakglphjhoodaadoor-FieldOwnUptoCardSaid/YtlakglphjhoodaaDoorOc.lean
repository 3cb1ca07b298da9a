/- FieldOwn: called. -/
import Derived.Test.YtlakglphjhoodaaDoorOb
import Derived.Test.YtlakglphjhoodaaDoorFM
import Derived.Test.YtlakglphjhoodaaDoorFP
namespace Go.Proofs.YtlakglphjhoodaaDoor.Fl
open Go.RowKit Mm Law
set_option linter.unusedSimpArgs false
set_option linter.unusedSectionVars false
set_option linter.unusedVariables false
def ClAns (w : World) (l : List Fld) (e : Ending) (w' : World) : Prop :=
  ∃ (u x : Value) (xs : List (List UInt8)) (ys : List Int), e = .returned (.tuple #[u, x, .bool true]) ∧ xs.length ≤ 8589934592 ∧ w'.ownsRow w.heap.size 9 1 u xs.length (sC xs) ∧ ys.length = l.length ∧ w'.ownsRow w.heap.size 3 1 x ys.length (inC ys) ∧ Below w.heap.size w w'
structure StepV where
  kd : Int
  a : Int
  b : Int
  c : Int
  s : ByteArray
def StepV.val (o : StepV) : Value := .agg #[.int .i64 o.kd, .int .i64 o.a, .int .i64 o.b, .int .i64 o.c, .string o.s]
def StepV.wf (o : StepV) : Prop := (Lit.int .i64 o.kd).wf = true ∧ (Lit.int .i64 o.a).wf = true ∧ (Lit.int .i64 o.b).wf = true ∧ (Lit.int .i64 o.c).wf = true ∧ o.s.size ≤ maxLen
theorem wf_nat {n : Nat} (h : n ≤ 9223372036854775807) : (Lit.int .i64 (n : Int)).wf = true := by
  simp [Lit.wf, IntKind.min, IntKind.max, IntKind.bits, IntKind.signed]
  omega
theorem cv_len {b lo hi : Nat} (h2 : b ≤ 32) (hl : lo ≤ hi) (hh : hi ≤ topN b) (h1 : 1 ≤ b) : cvE b lo hi = 0 ∧ (cvT b lo hi).length ≤ 8589934592 := by
  obtain ⟨h0, hT⟩ := rcov_ok b lo hi h1 h2 hl hh
  refine ⟨h0, ?_⟩
  rw [hT]
  have h3 := top_lt b h2
  have := gre_len (b := b) (x := lo) (e := hi + 1) h2 (by omega)
  omega
theorem wf_half {x : Int} (h : (Lit.int .i64 x).wf = true) : (Lit.int .i64 (x / 2)).wf = true := by
  simp [Lit.wf, IntKind.min, IntKind.max, IntKind.bits, IntKind.signed] at h ⊢
  omega
theorem cub_zero {l : List Fld} (hl : Lay l) {k : Nat} (hk : k < l.length) {T : Tst} (hn : T.nm = l[k].1) (hg : Good (bitsAt l k) T) {w w' : World} {v : Value} (hv : SeesF w v l) (hu : Used w') (hb : Below w.heap.size w w') :
    Calls Tryd.prog 16 #[v, T.val] w' fun e w'' => ∃ (u : Value) (xs : List (List UInt8)), e = .returned (.tuple #[u, .int .i64 0]) ∧ xs.length ≤ 8589934592 ∧ w''.ownsRow w'.heap.size 9 1 u xs.length (sC xs) ∧ Below w'.heap.size w' w'' := by
  have hc := cubes_any l v T (good_pt hg (bitsAt_get hl.wide hk).2.2) w' (hv.below hb) hu
  unfold CuAns at hc
  rw [(cu_good hl hk hn hg).1] at hc
  refine hc.mono ?_
  rintro e w'' ⟨u, rfl, ho, hb2⟩
  exact ⟨u, _, rfl, cu_few hl hk hn hg, ho, hb2⟩
abbrev Hd5 (W : World) (g : Nat) (x0 x1 x2 x3 x4 : Value) (X : World) : Prop :=
  X.cell? ⟨g, 0, none⟩ = some x0 ∧ X.cell? ⟨g, 1, none⟩ = some x1 ∧ X.cell? ⟨g, 2, none⟩ = some x2 ∧ X.cell? ⟨g, 3, none⟩ = some x3 ∧ X.cell? ⟨g, 4, none⟩ = some x4 ∧ Below W.heap.size W X
theorem Hd5.go {W X Y : World} {g : Nat} {x0 x1 x2 x3 x4 : Value} (hg : g < W.heap.size) (h : Hd5 W g x0 x1 x2 x3 x4 X) (hb : Below X.heap.size X Y) : Hd5 W g x0 x1 x2 x3 x4 Y := by
  obtain ⟨h0, h1, h2, h3, h4, hB⟩ := h
  have hgX := Nat.lt_of_lt_of_le hg hB.size
  have e : ∀ i : Nat, Y.cell? ⟨g, i, none⟩ = X.cell? ⟨g, i, none⟩ := fun i => hb.cell (p := ⟨g, i, none⟩) hgX
  exact ⟨(e _).trans h0, (e _).trans h1, (e _).trans h2, (e _).trans h3, (e _).trans h4, bnx hB hb⟩
theorem own_low {X : World} {B B' s n : Nat} {e : TypeId} {v : Value} {xs : List Value} (h : X.ownsRow B e s v n xs) (hB : B' ≤ B) : X.ownsRow B' e s v n xs := by
  refine ⟨h.1, ?_⟩
  rcases h.2 with h0 | ⟨g, cap, cur, hv, hb, rest⟩
  · exact .inl h0
  · exact .inr ⟨g, cap, cur, hv, Nat.le_trans hB hb, rest⟩
set_option maxRecDepth 100000 in
set_option maxHeartbeats 16000000 in
theorem called_any (l : List Fld) (hl : Lay l) (v : Value) (o : StepV) (ho : o.wf) (w : World) (hv : SeesF w v l) (hu : Used w) :
    Calls Tryd.prog 5 #[v, o.val] w (ClAns w l) := by
  obtain ⟨kd, A, B, C, s⟩ := o
  obtain ⟨w1', w2', w3', w4', hsm⟩ := ho
  simp only at w1' w2' w3' w4' hsm
  have HV := Lib.hid hv
  have HU := Lib.hid hu
  have HL := Lib.hid hl
  have hH1 := hdT_len s.data.toList (posN l l.length)
  have hH2 := hdT_bits s.data.toList (posN l l.length)
  have HHD := Lib.hid (fun w' v' (hv : SeesF w' v' l) => header_any l hl.wide (by have := hl.2.1; omega) v' s hsm w' hv)
  generalize hdT s.data.toList (posN l l.length) = HH at *
  have hun := un_ok (l := l) (h := HH) (by rw [lay_chk hl]) ⟨by rw [hH1, pos_int hl.wide (Nat.le_refl _)], hH2⟩
  have hps := sum_bd hl.wide l.length (Nat.le_refl _)
  rw [pos_int hl.wide (Nat.le_refl _)] at hps
  have hl8 := hl.2.1
  have hUN := fun w' v' (hv : SeesF w' v' l) => unpack_any l v' (str HH) (by rw [str_size, hH1]; unfold maxLen; omega) w' hv
  unfold UnAns at hUN
  rw [str_list, hun.1, hun.2] at hUN
  have hyl := unT_len l HH l.length
  generalize unT l HH l.length = YS at *
  rw [hyl] at hUN
  have HUN := Lib.hid hUN
  have HYL := Lib.hid hyl
  have HNU := Lib.hid (fun w => num_any 0 w (by decide))
  clear hH1 hH2 hun hps hUN hyl
  have hl0 := hl.1
  have hnb := nearI_bd (n := C) (m := (l.length : Int)) (by omega)
  obtain ⟨k, hkz⟩ := Int.eq_ofNat_of_zero_le hnb.1
  have hk : k < l.length := by omega
  have hNC := fun w => near_det C (l.length : Int) w4' (by omega) (by omega) w
  rw [hkz] at hNC
  have HNC := Lib.hid hNC
  have hbk := bitsAt_get hl.wide hk
  have HTS := Lib.hid (fun w' v' (hv : SeesF w' v' l) => test_any l v' k (bitsAt l k) hk hbk.2.2 hbk.1.symm (kd / 2) 0 A B C (wf_half w1') rfl w2' w3' w4' s hsm w' hv)
  have HCUB := Lib.hid (fun (T : Tst) (hg : Good (bitsAt l k) T) (hn : T.nm = l[k].1) (w' : World) (hb : Below w.heap.size w w') => cub_zero hl hk hn hg hv (hu.below hb) hb)
  have x0 : (0 : Int) ≤ (k : Int) := by omega
  have x1 : (k : Int) < (l.length : Int) := by omega
  generalize l[k].1 = nm at HTS HCUB
  generalize bitsAt l k = bb at *
  unfold TAns at HTS
  clear hnb hkz hNC hbk hk
  obtain ⟨a0, cap0, rfl, hcap, hcm, hx, _⟩ := hv
  unfold maxLen at hcm
  have n1 := nearI_bd (n := C) (m := 32) (by decide)
  have H1 := Lib.hid (fun w => near_det C 32 w4' (by decide) (by decide) w)
  obtain ⟨b, hb⟩ := Int.eq_ofNat_of_zero_le (show 0 ≤ 1 + nearI C 32 by omega)
  generalize nearI C 32 = r1 at *
  have y1 : IntKind.i64.wrap (1 + r1) = (b : Int) := by rw [hb]; exact IntWalk.i64_in _ (by omega)
  have hb1 : 1 ≤ b := by omega
  have hb2 : b ≤ 32 := by omega
  obtain ⟨t1, t2⟩ := pow_bS hb2
  have b3 := nearI_bd (n := A) t1
  have b4 := nearI_bd (n := B) t1
  have H2 := Lib.hid (fun w => near_det A (2 ^ b) w2' t1 t2 w)
  have H3 := Lib.hid (fun w => near_det B (2 ^ b) w3' t1 t2 w)
  obtain ⟨lo, hlo⟩ := Int.eq_ofNat_of_zero_le b3.1
  obtain ⟨hi, hhi⟩ := Int.eq_ofNat_of_zero_le b4.1
  rw [hlo] at H2 b3
  rw [hhi] at H3 b4
  have htb := top_lt b hb2
  have htp : topN b < 4294967296 := by omega
  have hlt : lo ≤ topN b := by have := b3.2; rw [pow_int] at this; omega
  have hht : hi ≤ topN b := by have := b4.2; rw [pow_int] at this; omega
  have hwt : IntKind.i64.wrap ((2 : Int) ^ b) = 2 ^ b := IntWalk.i64_in _ (by omega)
  have hb3 : (0 : Int) ≤ (b : Int) := by omega
  have hb4 : (b : Int) ≤ 32 := by omega
  clear hx n1 b3 b4 htb hlo hhi
  show Calls Tryd.prog 5 #[.slice a0 l.length cap0, .agg #[.int .i64 kd, .int .i64 A, .int .i64 B, .int .i64 C, .string s]] w (ClAns w l)
  go_enter Tryd.func5, Tryd.ntmps5
  go_wp2_with fail
  refine (H1.out _).mono ?_
  rintro e w1 ⟨rfl, rfl⟩
  have HBX := Lib.hid (Blk.new w 30 #[.int .i64 kd, .int .i64 A, .int .i64 B, .int .i64 C, .string s])
  have HB1 : Hid (Below w.heap.size w (w.alloc (.cells #[.int .i64 kd, .int .i64 A, .int .i64 B, .int .i64 C, .string s] 30))) := Lib.hid (bal (Below.refl _ _) _)
  go_upto_region 2 with fail
  have hgl := HBX.out.lt
  generalize w.alloc (.cells #[.int .i64 kd, .int .i64 A, .int .i64 B, .int .i64 C, .string s] 30) = W1 at *
  generalize hg0 : w.heap.size = g0 at HBX hgl ⊢
  have e1 := HBX.out.cell 1
  generalize hT : (2 : Int) ^ b = T at *
  go_quiet ((go_at_call 14; exact Calls.quiet_of_same (H2.out _)))
  obtain ⟨W2, hW2⟩ : ∃ W2, W2 = W1.drewN nq := ⟨_, rfl⟩
  have HBX2 : Hid (Blk W2 g0 30 #[.int .i64 kd, .int .i64 A, .int .i64 B, .int .i64 C, .string s]) := Lib.hid (by rw [hW2]; exact HBX.out.drewN _)
  have HB2 : Hid (Below w.heap.size w W2) := Lib.hid (by rw [hW2]; exact below_drewN HB1.out _)
  rw [← hW2]
  clear hW2 e1 hgl
  go_upto_region 3 with fail
  have hgl := HBX2.out.lt
  have e2 := HBX2.out.cell 2
  go_quiet ((go_at_call 14; exact Calls.quiet_of_same (H3.out _)))
  obtain ⟨W3, hW3⟩ : ∃ W3, W3 = W2.drewN nq := ⟨_, rfl⟩
  have HBX3 : Hid (Blk W3 g0 30 #[.int .i64 kd, .int .i64 A, .int .i64 B, .int .i64 C, .string s]) := Lib.hid (by rw [hW3]; exact HBX2.out.drewN _)
  have HB3 : Hid (Below w.heap.size w W3) := Lib.hid (by rw [hW3]; exact below_drewN HB2.out _)
  rw [← hW3]
  clear hW3 e2 hgl HBX HB1 HBX2 HB2 H1 H2 H3
  have HCV := Lib.hid (fun (L U : Nat) (h1 : L ≤ U) (h2 : U ≤ topN b) (W : World) => cov_walk (b : Int) (L : Int) (U : Int) (wf_nat (by omega)) (wf_nat (by omega)) (wf_nat (by omega)) W)
  have HCL := Lib.hid (fun (L U : Nat) (h1 : L ≤ U) (h2 : U ≤ topN b) => cv_len hb2 h1 h2 hb1)
  have hbb : lo < 9223372036854775807 ∧ hi < 9223372036854775807 := by omega
  clear hwt t1 t2 y1
  have e0 := HBX3.out.cell 0
  have hgl := HBX3.out.lt
  by_cases hgt : hi < lo
  · have hgi : (hi : Int) < (lo : Int) := by omega
    have hCV := HCV.out hi lo (by omega) hlt W3
    unfold CovAns at hCV
    have hCL := HCL.out hi lo (by omega) hlt
    rw [hCL.1] at hCV
    have HCV2 := Lib.hid hCV
    clear hCV
    go_wp2_with fail
    refine (HCV2.out).mono ?_
    rintro e W4 ⟨u, rfl, hou, hb4⟩
    have HOU := Lib.hid hou
    have HBX4 := Lib.hid (HBX3.out.below hb4 hgl)
    have HB4 := Lib.hid (bnx HB3.out hb4)
    have hll := hCL.2
    generalize cvT (b : Int) (hi : Int) (lo : Int) = L1 at *
    obtain ⟨pu, cu, rfl⟩ := own_len hou
    clear hou hb4 hgl e0 hCL HCL HCV HCV2
    have e0 := HBX4.out.cell 0
    by_cases hm : bits .and .i64 kd 1 = 1
    · have hmm : (bits .and .i64 kd 1 == 1) = true := by rw [hm]; rfl
      have hK := HBX4.out.cell
      have hg4 := HBX4.out.lt
      have hK0 : Hd5 W4 g0 (.int .i64 kd) (.int .i64 A) (.int .i64 B) (.int .i64 C) (.string s) W4.drew := ⟨hK 0, hK 1, hK 2, hK 3, hK 4, (Below.refl _ _).drew⟩
      have HOV := Lib.hid HB4.out
      clear HOU hK
      go_upto_region 8 with fail
      go_region_held3 (fun w' => Hd5 W4 g0 (.int .i64 kd) (.int .i64 A) (.int .i64 B) (.int .i64 C) (.string s) w')
        (with_reducible (first | assumption | exact hK0 | exact hK2 | exact hK3 | fail))
        (first | (go_at_call 14; (with_reducible refine (HNC.out _).mono ?_); rintro e wq ⟨rfl, rfl⟩) | (go_at_call 17; (with_reducible refine (HTS.out _ _ (HV.out.below (bnx HOV.out hK0.2.2.2.2.2))).mono ?_); rintro e x2 ⟨T, rfl, hgood, hnm, hb2⟩; have hK2 := hK0.go hg4 hb2) | (go_at_call 16; (with_reducible refine (HCUB.out T hgood hnm x2 (bnx HOV.out hK2.2.2.2.2.2)).mono ?_); rintro e x3 ⟨u2, xs2, rfl, hxl2, hou2, hb3⟩; obtain ⟨pu2, cu2, rfl⟩ := own_len hou2; have HOX := Lib.hid (own_low hou2 (bnx HOV.out hK2.2.2.2.2.2).size); have HBX := Lib.hid (bnx (bnx HOV.out hK2.2.2.2.2.2) hb3); have hK3 := hK2.go hg4 hb3) | fail)
      have e4 := hK3.2.2.2.2.1
      clear hK0 hK2 hK3 hb2 hb3 hou2
      go_wp2_with fail
      refine (HHD.out _ _ (HV.out.below HBX.out)).mono ?_
      rintro e x1 ⟨rfl, hc1⟩
      have HBY := Lib.hid (bnx HBX.out hc1)
      have HOY := Lib.hid (own_below HOX.out hc1 (Nat.le_refl _))
      clear hc1
      go_wp2_with fail
      refine (HUN.out _ _ (HV.out.below HBY.out)).mono ?_
      rintro e x2 ⟨x, rfl, hox, hc2⟩
      have HBZ := Lib.hid (bnx HBY.out hc2)
      have HOZ := Lib.hid (own_below HOY.out hc2 (Nat.le_refl _))
      have HXZ := Lib.hid (own_low hox HBY.out.size)
      obtain ⟨px, cx, rfl⟩ := own_len hox
      clear hox hc2
      go_wp2_with fail
      refine (HNU.out _).mono ?_
      rintro e x3 ⟨rfl, rfl⟩
      go_wp2_with fail
      refine (HNU.out _).mono ?_
      rintro e x4 ⟨rfl, rfl⟩
      go_wp2_with fail
      refine bodyPost_ret (v := .tuple #[.slice pu2 xs2.length cu2, .slice px l.length cx, .bool true]) (by simp [results, Tryd.results5, go_sem]) rfl ?_
      exact ⟨_, _, xs2, YS, rfl, by omega, HOZ.out, HYL.out, by rw [HYL.out]; exact HXZ.out, HBZ.out⟩
    · have hmm : (bits .and .i64 kd 1 == 1) = false := by rw [beq_eq_false_iff_ne]; exact hm
      have HBX := HB4
      have HOX := Lib.hid (own_low HOU.out HB3.out.size)
      have e4 := HBX4.out.cell 4
      clear HBX4 HB4 HOU
      go_wp2_with fail
      refine (HHD.out _ _ (HV.out.below HBX.out)).mono ?_
      rintro e x1 ⟨rfl, hc1⟩
      have HBY := Lib.hid (bnx HBX.out hc1)
      have HOY := Lib.hid (own_below HOX.out hc1 (Nat.le_refl _))
      clear hc1
      go_wp2_with fail
      refine (HUN.out _ _ (HV.out.below HBY.out)).mono ?_
      rintro e x2 ⟨x, rfl, hox, hc2⟩
      have HBZ := Lib.hid (bnx HBY.out hc2)
      have HOZ := Lib.hid (own_below HOY.out hc2 (Nat.le_refl _))
      have HXZ := Lib.hid (own_low hox HBY.out.size)
      obtain ⟨px, cx, rfl⟩ := own_len hox
      clear hox hc2
      go_wp2_with fail
      refine (HNU.out _).mono ?_
      rintro e x3 ⟨rfl, rfl⟩
      go_wp2_with fail
      refine (HNU.out _).mono ?_
      rintro e x4 ⟨rfl, rfl⟩
      go_wp2_with fail
      refine bodyPost_ret (v := .tuple #[.slice pu L1.length cu, .slice px l.length cx, .bool true]) (by simp [results, Tryd.results5, go_sem]) rfl ?_
      exact ⟨_, _, L1, YS, rfl, by omega, HOZ.out, HYL.out, by rw [HYL.out]; exact HXZ.out, HBZ.out⟩
  · have hgi : ¬ (hi : Int) < (lo : Int) := by omega
    have hCV := HCV.out lo hi (by omega) hht W3
    unfold CovAns at hCV
    have hCL := HCL.out lo hi (by omega) hht
    rw [hCL.1] at hCV
    have HCV2 := Lib.hid hCV
    clear hCV
    go_wp2_with fail
    refine (HCV2.out).mono ?_
    rintro e W4 ⟨u, rfl, hou, hb4⟩
    have HOU := Lib.hid hou
    have HBX4 := Lib.hid (HBX3.out.below hb4 hgl)
    have HB4 := Lib.hid (bnx HB3.out hb4)
    have hll := hCL.2
    generalize cvT (b : Int) (lo : Int) (hi : Int) = L1 at *
    obtain ⟨pu, cu, rfl⟩ := own_len hou
    clear hou hb4 hgl e0 hCL HCL HCV HCV2
    have e0 := HBX4.out.cell 0
    by_cases hm : bits .and .i64 kd 1 = 1
    · have hmm : (bits .and .i64 kd 1 == 1) = true := by rw [hm]; rfl
      have hK := HBX4.out.cell
      have hg4 := HBX4.out.lt
      have hK0 : Hd5 W4 g0 (.int .i64 kd) (.int .i64 A) (.int .i64 B) (.int .i64 C) (.string s) W4.drew := ⟨hK 0, hK 1, hK 2, hK 3, hK 4, (Below.refl _ _).drew⟩
      have HOV := Lib.hid HB4.out
      clear HOU hK
      go_upto_region 8 with fail
      go_region_held3 (fun w' => Hd5 W4 g0 (.int .i64 kd) (.int .i64 A) (.int .i64 B) (.int .i64 C) (.string s) w')
        (with_reducible (first | assumption | exact hK0 | exact hK2 | exact hK3 | fail))
        (first | (go_at_call 14; (with_reducible refine (HNC.out _).mono ?_); rintro e wq ⟨rfl, rfl⟩) | (go_at_call 17; (with_reducible refine (HTS.out _ _ (HV.out.below (bnx HOV.out hK0.2.2.2.2.2))).mono ?_); rintro e x2 ⟨T, rfl, hgood, hnm, hb2⟩; have hK2 := hK0.go hg4 hb2) | (go_at_call 16; (with_reducible refine (HCUB.out T hgood hnm x2 (bnx HOV.out hK2.2.2.2.2.2)).mono ?_); rintro e x3 ⟨u2, xs2, rfl, hxl2, hou2, hb3⟩; obtain ⟨pu2, cu2, rfl⟩ := own_len hou2; have HOX := Lib.hid (own_low hou2 (bnx HOV.out hK2.2.2.2.2.2).size); have HBX := Lib.hid (bnx (bnx HOV.out hK2.2.2.2.2.2) hb3); have hK3 := hK2.go hg4 hb3) | fail)
      have e4 := hK3.2.2.2.2.1
      clear hK0 hK2 hK3 hb2 hb3 hou2
      go_wp2_with fail
      refine (HHD.out _ _ (HV.out.below HBX.out)).mono ?_
      rintro e x1 ⟨rfl, hc1⟩
      have HBY := Lib.hid (bnx HBX.out hc1)
      have HOY := Lib.hid (own_below HOX.out hc1 (Nat.le_refl _))
      clear hc1
      go_wp2_with fail
      refine (HUN.out _ _ (HV.out.below HBY.out)).mono ?_
      rintro e x2 ⟨x, rfl, hox, hc2⟩
      have HBZ := Lib.hid (bnx HBY.out hc2)
      have HOZ := Lib.hid (own_below HOY.out hc2 (Nat.le_refl _))
      have HXZ := Lib.hid (own_low hox HBY.out.size)
      obtain ⟨px, cx, rfl⟩ := own_len hox
      clear hox hc2
      go_wp2_with fail
      refine (HNU.out _).mono ?_
      rintro e x3 ⟨rfl, rfl⟩
      go_wp2_with fail
      refine (HNU.out _).mono ?_
      rintro e x4 ⟨rfl, rfl⟩
      go_wp2_with fail
      refine bodyPost_ret (v := .tuple #[.slice pu2 xs2.length cu2, .slice px l.length cx, .bool true]) (by simp [results, Tryd.results5, go_sem]) rfl ?_
      exact ⟨_, _, xs2, YS, rfl, by omega, HOZ.out, HYL.out, by rw [HYL.out]; exact HXZ.out, HBZ.out⟩
    · have hmm : (bits .and .i64 kd 1 == 1) = false := by rw [beq_eq_false_iff_ne]; exact hm
      have HBX := HB4
      have HOX := Lib.hid (own_low HOU.out HB3.out.size)
      have e4 := HBX4.out.cell 4
      clear HBX4 HB4 HOU
      go_wp2_with fail
      refine (HHD.out _ _ (HV.out.below HBX.out)).mono ?_
      rintro e x1 ⟨rfl, hc1⟩
      have HBY := Lib.hid (bnx HBX.out hc1)
      have HOY := Lib.hid (own_below HOX.out hc1 (Nat.le_refl _))
      clear hc1
      go_wp2_with fail
      refine (HUN.out _ _ (HV.out.below HBY.out)).mono ?_
      rintro e x2 ⟨x, rfl, hox, hc2⟩
      have HBZ := Lib.hid (bnx HBY.out hc2)
      have HOZ := Lib.hid (own_below HOY.out hc2 (Nat.le_refl _))
      have HXZ := Lib.hid (own_low hox HBY.out.size)
      obtain ⟨px, cx, rfl⟩ := own_len hox
      clear hox hc2
      go_wp2_with fail
      refine (HNU.out _).mono ?_
      rintro e x3 ⟨rfl, rfl⟩
      go_wp2_with fail
      refine (HNU.out _).mono ?_
      rintro e x4 ⟨rfl, rfl⟩
      go_wp2_with fail
      refine bodyPost_ret (v := .tuple #[.slice pu L1.length cu, .slice px l.length cx, .bool true]) (by simp [results, Tryd.results5, go_sem]) rfl ?_
      exact ⟨_, _, L1, YS, rfl, by omega, HOZ.out, HYL.out, by rw [HYL.out]; exact HXZ.out, HBZ.out⟩
end Go.Proofs.YtlakglphjhoodaaDoor.Fl
