/- FieldWrites. -/
import Derived.Test.YtaleaicfllcpiaaDoorSe
import Derived.Test.YtaleaicfllcpiaaDoorVa
import Derived.Test.YtaleaicfllcpiaaDoorWs
import Derived.Test.YtaleaicfllcpiaaDoorBq
namespace Go.Proofs.YtaleaicfllcpiaaDoor.Fl
open Go.RowKit Mm Law
set_option linter.unusedVariables false
set_option linter.unusedSimpArgs false
set_option linter.unusedSectionVars false
theorem set_form {l S : List Fld} (hl : Lay l) (hS : SetOk l S) : ∀ f ∈ S, f.1.size ≤ maxLen ∧ (Lit.int .i64 f.2).wf = true := by
  intro f hf
  obtain ⟨j, hj, rfl⟩ := List.getElem_of_mem hf
  obtain ⟨k, hk, h1, h2, h3⟩ := hS.2.1 j hj
  have h4 := pow_33 (show bitsAt l k ≤ 32 from (bitsAt_get hl.wide hk).2.2)
  have h5 : (2 : Nat) ^ 32 = 4294967296 := by decide
  refine ⟨by rw [h1, (hl.2.2 k hk).1, letter_size]; decide, ?_⟩
  simp [Lit.wf, IntKind.min, IntKind.max, IntKind.bits, IntKind.signed]
  omega
theorem mix_take {H W : List UInt8} {i : Nat} (hh : i < H.length) (hw : i < W.length) : (mix H W).take (i + 1) = (mix H W).take i ++ [mixF H[i] W[i]] := by
  rw [List.take_add_one]
  congr 1
  unfold mix
  rw [List.getElem?_zipWith, List.getElem?_eq_getElem hh, List.getElem?_eq_getElem hw]
  rfl
theorem fold_step {S : List Fld} {nm : ByteArray} {z : Int} {j : Nat} (hj : j < S.length) : (S.take (j + 1)).foldl (wantF nm) z = wantF nm ((S.take j).foldl (wantF nm) z) S[j] := by
  rw [List.take_succ_eq_append_getElem hj, List.foldl_append]
  rfl
set_option maxRecDepth 100000 in
set_option maxHeartbeats 8000000 in
theorem writes_walk (v : Value) (ws : List Int) (_ : ws.length * 8 ≤ 140737488355328) (u : Value) (qs : List Int) (_ : qs.length * 8 ≤ 140737488355328) (x : Value) (xs : List Int) (_ : xs.length * 8 ≤ 140737488355328) (t : ByteArray) (htm : t.size ≤ maxLen) (w : World)
    (hX : SeesS w v 1 ws.length (inC ws) ∧ ∀ z ∈ ws, (Lit.int .i64 z).wf = true) (hQ : SeesS w u 1 qs.length (inC qs) ∧ ∀ z ∈ qs, (Lit.int .i64 z).wf = true) (hY : SeesS w x 1 xs.length (inC xs) ∧ ∀ z ∈ xs, (Lit.int .i64 z).wf = true) (_ : True) :
    Calls Tryd.prog 5 #[v, u, x, .string t] w fun e w' => e = .returned (.bool true) ∧ Below w.heap.size w w' := by
  have HLA := Lib.hid (layout_any ws v w hX.1 hX.2)
  have hlay := lay_L ws
  have hform := lay_form hlay
  generalize layL ws = l at *
  have HLY := Lib.hid hlay
  have hl0 := hlay.1
  have hl8 := hlay.2.1
  have HO := Lib.hid (fun (w' : World) (B : Nat) (u : Value) (h : w'.ownsRow B 27 2 u l.length (fcells l)) => own_sees h hform)
  have HST := Lib.hid (fun w' (f : Value) (hb : Below w.heap.size w w') (hf : SeesF w' f l) => sets_any l hlay f qs u xs x w' hf (hQ.1.below hb) hQ.2 (hY.1.below hb) hY.2)
  have HOS := Lib.hid (fun (S : List Fld) (hS : SetOk l S) (w' : World) (B : Nat) (u : Value) (h : w'.ownsRow B 49 2 u S.length (fcells S)) => own_sees h (set_form hlay hS))
  clear hX hQ hY hform hlay
  go_enter Tryd.func5, Tryd.ntmps5
  go_wp2_with fail
  refine HLA.out.mono ?_
  rintro e w1 ⟨f, rfl, hof, hb1⟩
  have HSF := Lib.hid (HO.out _ _ _ hof)
  have HB1 := Lib.hid hb1
  obtain ⟨a0, cap0, rfl, hcap, hcm, hx, _⟩ := HO.out _ _ _ hof
  have HX := Lib.hid hx
  unfold maxLen at hcm
  clear HLA hof hb1 hx
  go_wp2_with fail
  refine (HST.out _ _ HB1.out HSF.out).mono ?_
  rintro e w2 ⟨S, r, hS, rfl, hor, hb2⟩
  have HS := Lib.hid hS
  have HSS := Lib.hid (HOS.out S hS _ _ _ hor)
  have HB2 := Lib.hid (bnx HB1.out hb2)
  have HSF2 := Lib.hid (HSF.out.below hb2)
  have HSF2B := Lib.hid hb2
  obtain ⟨a1, cap1, rfl, hcap1, hcm1, hx1, _⟩ := HOS.out S hS _ _ _ hor
  have HX1 := Lib.hid hx1
  have hS12 := hS.1
  unfold maxLen at hcm1
  clear hor hx1 HST HOS
  have HHD := Lib.hid (header_any l HLY.out.wide (by omega) _ t htm w2 HSF2.out)
  have hHl := hdT_len t.data.toList (posN l l.length)
  have hHb := hdT_bits t.data.toList (posN l l.length)
  generalize hdT t.data.toList (posN l l.length) = H at *
  have hWl := wK_len HLY.out HS.out S.length (Nat.le_refl _)
  have hWb := wK_in (l := l) (S := S) S.length (Nat.le_refl _)
  have hwd := wd_word HLY.out HS.out
  have HWO := Lib.hid (fun k (hk : k < l.length) => want_ok HLY.out HS.out hHl hk S.length (Nat.le_refl _))
  have HWA := Lib.hid (fun w' (h : Below w2.heap.size w2 w') => word_any l S _ _ w' (HSF2.out.below h) (HSS.out.below h))
  unfold WdAns at HWA
  rw [hwd] at HWA
  generalize wK l S S.length = W at *
  have hml : (mix H W).length = posN l l.length := by rw [mix_len (by omega)]; exact hHl
  have hmb := mix_bits hHb hWb
  have hsum := sum_bd HLY.out.wide l.length (Nat.le_refl _)
  rw [pos_int HLY.out.wide (Nat.le_refl _)] at hsum
  have HUN := Lib.hid (fun w' (h : Below w2.heap.size w2 w') => unpack_any l _ (str (mix H W)) (by rw [str_size, hml]; unfold maxLen; omega) w' (HSF2.out.below h))
  have hBU := back_un HLY.out hml hmb
  unfold UnAns at HUN
  rw [str_list, hBU.1.1, hBU.1.2] at HUN
  have HVA := Lib.hid (fun w' (k : Nat) (hk : k < l.length) (h : Below w2.heap.size w2 w') => value_any l HLY.out.wide (by omega) _ k hk (str H) (by rw [str_list]; exact hHl) (by rw [str_list]; exact hHb) w' (HSF2.out.below h))
  rw [str_list] at HVA
  have HNUM := Lib.hid (fun w => num_any 0 w (by decide))
  have HHL := Lib.hid hHl
  have HWL := Lib.hid hWl
  have HML := Lib.hid hml
  have hsz1 : (str W).size = posN l l.length := by rw [str_size]; exact hWl
  have hsz2 : (str H).size = posN l l.length := by rw [str_size]; exact hHl
  have HBW := Lib.hid (fun i (hi : i < (str W).size) => bget (str W) i hi)
  have HBH := Lib.hid (fun i (hi : i < (str H).size) => bget (str H) i hi)
  rw [str_list] at HBW HBH
  generalize str W = wS at *
  generalize str H = hS' at *
  generalize posN l l.length = n at *
  have HSZ := Lib.hid (And.intro hsz1 hsz2)
  have hle : ((wS.size : Int) != (hS'.size : Int)) = false := by rw [hsz1, hsz2]; simp
  have hn384 : n ≤ 256 := by omega
  clear hHl hHb hWl hWb hwd hml hmb hsum hBU hS hsz1 hsz2 htm
  go_wp2_with fail
  refine HHD.out.mono ?_
  rintro e w3 ⟨rfl, hb3⟩
  have HC3 := Lib.hid hb3
  clear hb3
  go_wp2_with fail
  refine (HWA.out _ HC3.out).mono ?_
  rintro e w4 ⟨rfl, hb4⟩
  have HC4 := Lib.hid (bnx HC3.out hb4)
  clear hb4
  go_wp2_with fail
  refine (HNUM.out _).mono ?_
  rintro e w' ⟨rfl, rfl⟩
  go_wp2_with fail
  go_loopw [14, 15] (fun m i wr => ∃ q : Nat, q ≤ n ∧ i = .int .i64 (q : Int) ∧ wr.ownsRow w4.heap.size 5 1 m q (((mix H W).take q).map bv) ∧ Below w4.heap.size w4 wr) (fun _ i _ => n - (intOf i).toNat)
  case atStart => exact ⟨0, Nat.zero_le _, rfl, own_nilB _ _, Below.refl _ _⟩
  case round =>
    obtain ⟨q, hq, rfl, hown, hbel⟩ := hrel
    have HOW := Lib.hid hown
    clear hown
    have hz1 := HSZ.out.1
    have hz2 := HSZ.out.2
    by_cases hqn : q < n
    · have qw : q < wS.size := by omega
      have qh : q < hS'.size := by omega
      have b1 := HBW.out q qw
      have b2 := HBH.out q qh
      have hqW : q < W.length := by have := HWL.out; omega
      have hqH : q < H.length := by have := HHL.out; omega
      have HMT := Lib.hid (mix_take (i := q) hqH hqW)
      rw [List.getElem?_eq_getElem hqW] at b1
      rw [List.getElem?_eq_getElem hqH] at b2
      rw [Option.some.inj b1, Option.some.inj b2] at HMT
      have y0 : (0 : Int) ≤ (q : Int) := by omega
      have y1 : (q : Int) < (wS.size : Int) := by omega
      have y2 : (q : Int) < (hS'.size : Int) := by omega
      have hq6 : q ≤ 1000000 := by omega
      clear b1 b2 hz1 hz2
      by_cases h120 : wS[q]'qw = 120
      · have HMX := Lib.hid (show mixF (hS'[q]'qh) (wS[q]'qw) = hS'[q]'qh from if_pos h120)
        have h1 : ((wS[q]'qw).toNat : Int) = 120 := by rw [h120]; rfl
        clear h120
        go_wp2_with (at_builtin; refine app_byte (hS'[q]'qh) HOW.out rfl rfl rfl rfl hq6 hbel.size ?_; intro v1 w6 hown6 hb6)
        go_roundw
        case rel => exact ⟨q + 1, by omega, by go_num, by rw [HMT.out, HMX.out]; exact hown6, hbel.trans hb6⟩
        case measure => simp [intOf]; omega
      · have HMX := Lib.hid (show mixF (hS'[q]'qh) (wS[q]'qw) = wS[q]'qw from if_neg h120)
        have h1 : ¬ ((wS[q]'qw).toNat : Int) = 120 := fun h => h120 (UInt8.toNat_inj.1 (by have h58 : (120 : UInt8).toNat = 120 := rfl; omega))
        clear h120
        go_wp2_with (at_builtin; refine app_byte (wS[q]'qw) HOW.out rfl rfl rfl rfl hq6 hbel.size ?_; intro v1 w6 hown6 hb6)
        go_roundw
        case rel => exact ⟨q + 1, by omega, by go_num, by rw [HMT.out, HMX.out]; exact hown6, hbel.trans hb6⟩
        case measure => simp [intOf]; omega
    · have hqe : q = n := by omega
      have hst := str_own HOW.out
      rw [show (mix H W).take q = mix H W from by rw [hqe, ← HML.out, List.take_length]] at hst
      have HC5 := Lib.hid (bnx HC4.out hbel)
      have hz3 : ¬ (q : Int) < (hS'.size : Int) := by omega
      clear hz1 hz2 hqe hqn
      go_wp2_with fail
      refine (HUN.out _ HC5.out).mono ?_
      rintro e w6 ⟨v6, rfl, ho6, hb6⟩
      have HA6 := Lib.hid (SeesS.of_own ho6)
      have HC6 := Lib.hid (bnx HC5.out hb6)
      rw [unT_len] at HA6
      obtain ⟨a6, c6, rfl, hc6, hm6⟩ := HA6.out.form
      unfold maxLen at hm6
      clear ho6 hb6
      go_wp2_with fail
      refine (HNUM.out _).mono ?_
      rintro e w' ⟨rfl, rfl⟩
      go_wp2_with fail
      have HC7 := Lib.hid (HC5.out)
      clear HNUM HUN HWA
      go_loopw [18] (fun i wr => ∃ k : Nat, k ≤ l.length ∧ i = .int .i64 (k : Int) ∧ Below w6.heap.size w6 wr) (fun i _ => l.length - (intOf i).toNat)
      case atStart => exact ⟨0, Nat.zero_le _, rfl, Below.refl _ _⟩
      case round =>
        obtain ⟨k, hk, rfl, hbel7⟩ := hrel
        by_cases hkl : k < l.length
        · have HV := Lib.hid (HVA.out _ k hkl (bnx HC6.out hbel7))
          have HWK := Lib.hid (HWO.out k hkl)
          obtain ⟨gf, of_, rfl, hgf, hqf⟩ : ∃ g off, a0 = some ⟨g, off, none⟩ ∧ g < w1.heap.size ∧ ∀ j f, l[j]? = some f → w1.cell? ⟨g, off + j * 2, none⟩ = some (.string f.1) ∧ w1.cell? ⟨g, off + (j * 2 + 1), none⟩ = some (.int .i64 f.2) := by
            rcases HX.out with h0 | h0
            · rw [h0] at hl0; simp at hl0
            · exact h0
          have f0 := (hqf k l[k] (by simp [hkl])).1
          rw [← (HSF2B.out.cell (p := ⟨gf, of_ + k * 2, none⟩) hgf)] at f0
          rw [← ((bnx HC6.out hbel7).cell (p := ⟨gf, of_ + k * 2, none⟩) (Nat.lt_of_lt_of_le hgf HSF2B.out.size))] at f0
          obtain ⟨_, g6, o6, rfl, hg6, hq6⟩ := HA6.out.at (by omega)
          have p6 := hq6 k _ (inC_at (unT l (mix H W) l.length) k (numB (fldB l (mix H W) k) : Int) (by
            have h1 := unT_at (l := l) (H := mix H W) l.length hkl
            unfold valAt at h1
            rw [List.getD_eq_getElem?_getD, List.getElem?_eq_getElem (by rw [unT_len]; exact hkl)] at h1
            rw [List.getElem?_eq_getElem (by rw [unT_len]; exact hkl)]
            exact congrArg some h1))
          rw [← hbel7.cell (p := ⟨g6, o6 + k, none⟩) hg6] at p6
          rw [List.take_length] at HWK
          rw [HWK.out] at p6
          generalize (numB (fldB l H k) : Int) = z at *
          have HNMk := Lib.hid (name_beq · l[k].1)
          generalize l[k].1 = nm at *
          have x0 : (0 : Int) ≤ (k : Int) := by omega
          have x1 : (k : Int) < (l.length : Int) := by omega
          have HP6 := Lib.hid p6
          have HF0 := Lib.hid f0
          clear hqf hq6 p6 f0 HWK
          go_wp2_with fail
          refine HV.out.mono ?_
          rintro e w8 ⟨rfl, rfl⟩
          go_wp2_with fail
          go_loopw [19, 20] (fun m i wr' => ∃ j : Nat, j ≤ S.length ∧ i = .int .i64 (j : Int) ∧ m = .int .i64 ((S.take j).foldl (wantF nm) z) ∧ Below w8.heap.size w8 wr') (fun _ i _ => S.length - (intOf i).toNat)
          case atStart => exact ⟨0, Nat.zero_le _, rfl, rfl, Below.refl _ _⟩
          case round =>
            obtain ⟨j, hj, rfl, rfl, hbel8⟩ := hrel
            have f0 := HF0.out
            rw [← hbel8.cell (p := ⟨gf, of_ + k * 2, none⟩) (Nat.lt_of_lt_of_le (Nat.lt_of_lt_of_le hgf HSF2B.out.size) (bnx HC6.out hbel7).size)] at f0
            by_cases hjt : j < S.length
            · obtain ⟨gs, os, rfl, hgs, hqs⟩ : ∃ g off, a1 = some ⟨g, off, none⟩ ∧ g < w2.heap.size ∧ ∀ j f, S[j]? = some f → w2.cell? ⟨g, off + j * 2, none⟩ = some (.string f.1) ∧ w2.cell? ⟨g, off + (j * 2 + 1), none⟩ = some (.int .i64 f.2) := by
                rcases HX1.out with h0 | h0
                · rw [h0] at hjt; simp at hjt
                · exact h0
              have s0 := (hqs j S[j] (by simp [hjt])).1
              have s1 := (hqs j S[j] (by simp [hjt])).2
              rw [← (bnx (bnx HC6.out hbel7) hbel8).cell (p := ⟨gs, os + j * 2, none⟩) hgs] at s0
              rw [← (bnx (bnx HC6.out hbel7) hbel8).cell (p := ⟨gs, os + (j * 2 + 1), none⟩) hgs] at s1
              rw [← Nat.add_assoc] at s1
              have HFO := Lib.hid (fold_step (nm := nm) (z := z) hjt)
              obtain ⟨c, hc1, hc2⟩ := HNMk.out S[j].1
              have hwf : wantF nm ((S.take j).foldl (wantF nm) z) S[j] = if c = true then S[j].2 else (S.take j).foldl (wantF nm) z := by
                unfold wantF
                by_cases h : S[j].1 = nm
                · rw [if_pos h, if_pos (hc2.2 h)]
                · rw [if_neg h, if_neg (fun h1 => h (hc2.1 h1))]
              rw [hwf] at HFO
              generalize (S.take j).foldl (wantF nm) z = a at *
              generalize S[j] = sf at *
              obtain ⟨sn, sv⟩ := sf
              simp only at s0 s1 hc1 hc2 HFO
              have y0 : (0 : Int) ≤ (j : Int) := by omega
              have y1 : (j : Int) < (S.length : Int) := by omega
              clear hqs hc2 hwf
              cases c with
              | true =>
                have HFO2 := Lib.hid (show (S.take (j + 1)).foldl (wantF nm) z = sv from by rw [HFO.out]; rfl)
                clear HFO
                go_wp2
                go_quiet (fail)
                go_wp2
                go_roundw
                case rel => exact ⟨j + 1, by omega, by go_num, by rw [HFO2.out], below_drewN hbel8 _⟩
                case measure => simp [intOf]; omega
              | false =>
                have HFO2 := Lib.hid (show (S.take (j + 1)).foldl (wantF nm) z = a from by rw [HFO.out]; rfl)
                clear HFO
                go_wp2
                go_quiet (fail)
                go_wp2
                go_roundw
                case rel => exact ⟨j + 1, by omega, by go_num, by rw [HFO2.out], below_drewN hbel8 _⟩
                case measure => simp [intOf]; omega
            · have hje : j = S.length := by omega
              have y1 : ¬ (j : Int) < (S.length : Int) := by omega
              have p6 := HP6.out
              rw [← hbel8.cell (p := ⟨g6, o6 + k, none⟩) (Nat.lt_of_lt_of_le hg6 hbel7.size)] at p6
              rw [show S.take j = S from by rw [hje, List.take_length]]
              generalize S.foldl (wantF nm) z = a at *
              have haa : (a != a) = false := by simp
              have HBE := Lib.hid (bnx hbel7 hbel8)
              clear hje f0
              go_wp2
              go_roundw
              case rel => exact ⟨k + 1, by omega, by go_num, HBE.out⟩
              case measure => simp [intOf]; omega
        · go_wp2_with fail
          go_ret
          exact ⟨rfl, bnx HB2.out (bnx HC6.out hbel7)⟩
theorem fieldWrites_laid {w : World} (_ : laidMetH Tryd.prog Rows.fieldWritesRow.laid w) : True := trivial
end Go.Proofs.YtaleaicfllcpiaaDoor.Fl
