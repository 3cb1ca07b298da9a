/- FieldFewest: the walk. -/
import Derived.Test.YtaleaicfllcpiaaFh
import Derived.Deep.RegionHeld3
import Derived.Deep.DeepCutAuto
import Derived.WalkLawsBesides
namespace Go.Proofs.Ytaleaicfllcpiaa.Fl
open Go.RowKit Mm Law
set_option linter.unusedVariables false
set_option linter.unusedSimpArgs false
set_option linter.unusedSectionVars false
theorem str_takeF (s : ByteArray) (n : Nat) : s.extract 0 n = str (s.data.toList.take n) := by
  apply ByteArray.ext
  rw [← Array.toList_inj]
  simp [str, ByteArray.data_extract]
theorem pow_32 {B : Nat} (h : B ≤ 32) : 1 ≤ (2 : Int) ^ B ∧ (2 : Int) ^ B ≤ 4294967296 := by
  have h1 := topN_pos B
  have h2 := pow_33 h
  rw [pow_int]
  have h3 : (2 : Nat) ^ 32 = 4294967296 := by decide
  omega
abbrev CS1 (W : World) (g o : Nat) (z : Value) (w' : World) : Prop := w'.cell? ⟨g, o, none⟩ = some z ∧ Below W.heap.size W w'
theorem CS1.go {W w1 w2 : World} {g o : Nat} {z : Value} (hg : g < W.heap.size) (h : CS1 W g o z w1) (hb : Below w1.heap.size w1 w2) : CS1 W g o z w2 :=
  ⟨by rw [hb.cell (p := ⟨g, o, none⟩) (Nat.lt_of_lt_of_le hg h.2.size)]; exact h.1, bnx h.2 hb⟩
abbrev CS2 (W : World) (g o p : Nat) (z y : Value) (w' : World) : Prop := w'.cell? ⟨g, o, none⟩ = some z ∧ w'.cell? ⟨g, p, none⟩ = some y ∧ Below W.heap.size W w'
theorem CS2.go {W w1 w2 : World} {g o p : Nat} {z y : Value} (hg : g < W.heap.size) (h : CS2 W g o p z y w1) (hb : Below w1.heap.size w1 w2) : CS2 W g o p z y w2 :=
  ⟨by rw [hb.cell (p := ⟨g, o, none⟩) (Nat.lt_of_lt_of_le hg h.2.2.size)]; exact h.1, by rw [hb.cell (p := ⟨g, p, none⟩) (Nat.lt_of_lt_of_le hg h.2.2.size)]; exact h.2.1, bnx h.2.2 hb⟩
/-- what is known of a block's text -/
structure BlkT (b f x v : Nat) (c : ByteArray) : Prop where
  sz : c.size = b
  fb : f ≤ b
  pf : Pfx c.data.toList
  has : hasB c.data.toList (hiB v b b) = decide (x ≤ v ∧ v < x + 2 ^ f)
  dig : ∀ i, i < b - f → c.data.toList[i]? ≠ some 120
  dig2 : 0 < f → c.data.toList[b - f]? = some 120
  low : lowT c.data.toList = hiB x b b
  top : c.data.toList.take (b - f - 1) = hiB x b (b - f - 1)
theorem blkT {b v : Nat} {p : Nat × Nat} (hp : p.1 < 2 ^ b) (hf : p.2 ≤ b) (hv : v < 2 ^ b) (hm : p.1 % 2 ^ p.2 = 0) : BlkT b p.2 p.1 v (str (preT b p)) where
  sz := by rw [str_size, preT_len hf]
  fb := hf
  pf := by rw [str_list]; exact pre_pfx hf
  has := by rw [str_list]; exact has_pre hp hf hv hm
  dig := fun i hi h => by
    rw [str_list, pre_get, if_pos hi] at h
    exact bit_ne_x _ _ (Option.some.inj h)
  dig2 := fun h => by rw [str_list, pre_get, if_neg (by omega), if_pos (by omega)]
  low := by rw [str_list]; exact low_pre hf hm
  top := by
    rw [str_list]
    unfold preT
    rw [List.take_append_of_le_length (by rw [hiB_len]; omega)]
    unfold hiB
    rw [← List.map_take, List.take_range, show min (b - p.2 - 1) (b - p.2) = b - p.2 - 1 by omega]
theorem ne_lists {a b : List UInt8} (h : a ≠ b) : ((str a).toList == (str b).toList) = false := by
  rw [ByteArray.toList_eq, ByteArray.toList_eq, str_list, str_list]
  simpa using h
theorem geq_no {x y : List UInt8} (h : Op.bytesLess x y = true) : (!(Op.bytesLess (str x).toList (str y).toList)) = false := by
  rw [ByteArray.toList_eq, ByteArray.toList_eq, str_list, str_list, h]; rfl
theorem fewest_sees {w1 wr : World} {g off : Nat} {G : List (Nat × Nat)} {b k : Nat} {p : Nat × Nat} (hq : ∀ j u, (sC (G.map (preT b)))[j]? = some u → w1.cell? ⟨g, off + j, none⟩ = some u) (hg : g < w1.heap.size) (hb : Below w1.heap.size w1 wr) (hk : G[k]? = some p) : wr.cell? ⟨g, off + k, none⟩ = some (.string (str (preT b p))) := by
  rw [hb.cell (p := ⟨g, off + k, none⟩) hg]
  exact hq _ _ (sC_at _ k _ (by rw [List.getElem?_map, hk]; rfl))
theorem nat_wf {n : Nat} (h : n ≤ 4294967296) : (Lit.int .i64 (n : Int)).wf = true := by
  simp [Lit.wf, IntKind.min, IntKind.max, IntKind.bits, IntKind.signed]
  omega
theorem cov_ok (B L I : Nat) (b1 : 1 ≤ B) (b2 : B ≤ 32) (hLI : L ≤ I) (hI : I < 2 ^ B) (w : World) :
    Calls Try.prog 13 #[.int .i64 (B : Int), .int .i64 (L : Int), .int .i64 (I : Int)] w fun e w' => ∃ u, e = .returned (.tuple #[u, .int .i64 0]) ∧ w'.ownsRow w.heap.size 9 1 u (gre B L (I + 1)).length (sC ((gre B L (I + 1)).map (preT B))) ∧ Below w.heap.size w w' := by
  obtain ⟨t1, t2⟩ := top_lt B b2
  have h := cov_walk (B : Int) (L : Int) (I : Int) (nat_wf (by omega)) (nat_wf (by omega)) (nat_wf (by omega)) w
  unfold CovAns at h
  obtain ⟨e1, e2⟩ := rcov_ok B L I b1 b2 hLI (by omega)
  rw [e1, e2, List.length_map] at h
  exact h
theorem few_at (B L I V : Nat) (hLI : L ≤ I) (hI : I < 2 ^ B) (hV : V < 2 ^ B) : ∀ (k : Nat) (p : Nat × Nat), (gre B L (I + 1))[k]? = some p →
    BlkT B p.2 p.1 V (str (preT B p)) ∧ stt B L (I + 1) k = p.1 ∧ stt B L (I + 1) (k + 1) = p.1 + 2 ^ p.2 ∧ L ≤ p.1 := by
  intro k p hp
  obtain ⟨a1, a2, a3, a4, a5, a6⟩ := gre_at B (I + 1) _ L (Nat.le_refl _) (by omega) k p hp
  have hpos : 0 < 2 ^ p.2 := Nat.pow_pos (by omega)
  have := a1.2
  exact ⟨blkT (by omega) a2 hV a1.1, a4, a5, a6⟩
theorem few_next (B L I : Nat) (hLI : L ≤ I) (hI : I < 2 ^ B) : ∀ (k : Nat) (p q : Nat × Nat), (gre B L (I + 1))[k]? = some p → (gre B L (I + 1))[k + 1]? = some q →
    Op.bytesLess (hiB p.1 B B) (hiB q.1 B B) = true ∧ (p.2 = q.2 → p.2 < B ∧ hiB q.1 B (B - p.2 - 1) ≠ hiB p.1 B (B - p.2 - 1)) := by
  intro k p q hp hq
  obtain ⟨a1, a2, a3, a4, a5, a6⟩ := gre_at B (I + 1) _ L (Nat.le_refl _) (by omega) k p hp
  obtain ⟨c1, c2, c3, c4, c5, c6⟩ := gre_at B (I + 1) _ L (Nat.le_refl _) (by omega) (k + 1) q hq
  have hpos : 0 < 2 ^ p.2 := Nat.pow_pos (by omega)
  have hpos2 : 0 < 2 ^ q.2 := Nat.pow_pos (by omega)
  have e : q.1 = p.1 + 2 ^ p.2 := by omega
  have := c1.2
  refine ⟨hi_less B _ _ (by rw [Nat.mod_eq_of_lt (by omega), Nat.mod_eq_of_lt (by omega)]; omega), fun h => ?_⟩
  rw [e]
  exact no_halves (by omega) a1.1 a2 a3 (by rw [← e]; rw [h]; omega)
theorem swq {P : Program} {f : FuncId} {args : Array Value} {w : World} {v : Value} (h : Calls P f args w fun e w' => e = .returned v ∧ w' = w) : Calls P f args w fun e w' => e = .returned v ∧ w = w' :=
  h.mono fun _ _ ⟨a, b⟩ => ⟨a, b.symm⟩
def cntF (L V s : Nat) : Nat := if L ≤ V ∧ V < s then 1 else 0
theorem cntF_le (L V s : Nat) : cntF L V s ≤ 1 := by unfold cntF; split <;> omega
theorem cntF_next {L V x f : Nat} (h : L ≤ x) : cntF L V (x + 2 ^ f) = cntF L V x + (if x ≤ V ∧ V < x + 2 ^ f then 1 else 0) := (count_next h).symm
theorem gre_some {B L I : Nat} (h : L ≤ I) : 0 < (gre B L (I + 1)).length := by
  rw [gre_yes (by omega)]; simp
set_option maxRecDepth 100000 in
set_option maxHeartbeats 8000000 in
theorem fewest_walk (bits : Int) (wb : (Lit.int .i64 bits).wf = true) (lo : Int) (wl : (Lit.int .i64 lo).wf = true) (hi : Int) (wh : (Lit.int .i64 hi).wf = true) (v : Int) (wv : (Lit.int .i64 v).wf = true) (w : World) :
    Calls Try.prog 5 #[.int .i64 bits, .int .i64 lo, .int .i64 hi, .int .i64 v] w fun e w' => e = .returned (.bool true) ∧ Below w.heap.size w w' := by
  have HWL := Lib.hid wl
  have HWH := Lib.hid wh
  have HWV := Lib.hid wv
  have HWB := Lib.hid wb
  clear wl wh wv wb
  go_enter Try.func5, Try.ntmps5
  go_upto_region 2 with (go_at_call 17; refine (near_any _ _ HWB.out (by decide) (by decide) _).mono ?_; rintro e w' ⟨r, hr, rfl, rfl⟩)
  rw [show 1 + (r : Int) = ((r + 1 : Nat) : Int) by omega]
  obtain ⟨B, hB⟩ : ∃ B, B = r + 1 := ⟨_, rfl⟩
  have b1 : 1 ≤ B := by omega
  have b2 : B ≤ 32 := by omega
  rw [← hB]
  clear hB hr
  obtain ⟨p1, p2⟩ := pow_32 b2
  have hBi : (B : Int) ≤ 32 := by omega
  have HP := Lib.hid (show (2 : Int) ^ B = ((2 ^ B : Nat) : Int) from pow_int B)
  generalize hT : (2 : Int) ^ B = T at *
  go_wp2_with fail
  refine (near_any _ _ HWL.out p1 p2 _).mono ?_
  rintro e w' ⟨L0, hL0, rfl, rfl⟩
  go_wp2_with fail
  refine (near_any _ _ HWH.out p1 p2 _).mono ?_
  rintro e w' ⟨I0, hI0, rfl, rfl⟩
  go_wp2_with fail
  refine (near_any _ _ HWV.out p1 p2 _).mono ?_
  rintro e w' ⟨V, hV, rfl, rfl⟩
  rename_i wz wy
  go_upto_if 32 with fail
  go_cut [1, 2] (fun s1 s2 wx => ∃ L I : Nat, s1 = .int .i64 (L : Int) ∧ s2 = .int .i64 (I : Int) ∧ L ≤ I ∧ (I : Int) < T ∧ w' = wx)
  case first =>
    by_cases hs : I0 < L0
    · go_wp2_with fail
      go_meet
      exact ⟨I0, L0, rfl, rfl, by omega, hL0, rfl⟩
    · have hs' : L0 ≤ I0 := by omega
      clear hs
      go_wp2_with fail
      go_meet
      exact ⟨L0, I0, rfl, rfl, hs', hI0, rfl⟩
  case rest =>
  obtain ⟨L, I, rfl, rfl, hLI, hI, rfl⟩ := hcut
  clear hL0 hI0 HWL HWH HWV HWB
  rw [HP.out] at hV hI
  have hV' : V < 2 ^ B := by omega
  have hI' : I < 2 ^ B := by omega
  have HT2 := Lib.hid (top_lt B b2)
  have hV32 : V < 4294967296 := by have := HT2.out; omega
  have hI32 : I < 4294967296 := by have := HT2.out; omega
  have HC := Lib.hid (fun w => cov_ok B L I b1 b2 hLI hI' w)
  have HAT := Lib.hid (few_at B L I V hLI hI' hV')
  have HNX := Lib.hid (few_next B L I hLI hI')
  have HBO := Lib.hid (fun w => bitsOf_any V B hV32 b2 w)
  have hG0 := gre_some (B := B) hLI
  have HZ := Lib.hid (show cntF L V (stt B L (I + 1) 0) = 0 from by rw [stt_zero (by omega)]; unfold cntF; rw [if_neg (by omega)])
  have HE := Lib.hid (fun k (h : (gre B L (I + 1)).length ≤ k) => stt_end (b := B) (x := L) (e := I + 1) h)
  clear hI hV hV' hI' hT p1 p2 HP
  generalize gre B L (I + 1) = G at *
  generalize stt B L (I + 1) = st at *
  go_wp2_with fail
  refine (HC.out _).mono ?_
  rintro e w1 ⟨u, rfl, ho, hb1⟩
  have hSe := SeesS.of_own ho
  rw [show G.length = G.length from rfl] at hSe
  clear ho HC
  obtain ⟨a0, cap0, rfl, hcap, hcm⟩ := hSe.form
  have hGl : G.length ≤ cap0 := by first | exact hcap | simpa using hcap
  obtain ⟨_, g, off, rfl, hg, hq⟩ := hSe.at hG0
  unfold maxLen at hcm
  have HQ := Lib.hid hq
  have hGne : ((G.length : Int) == 0) = false := by rw [beq_eq_false_iff_ne]; omega
  clear hq hSe
  go_wp2_with fail
  refine (num_any 0 _ (by decide)).mono ?_
  rintro e w' ⟨rfl, rfl⟩
  have HB1 := Lib.hid hb1
  clear hb1
  go_wp2_with fail
  go_loopw [12, 13] (fun c i wr => ∃ k : Nat, k ≤ G.length ∧ i = .int .i64 k ∧ c = .int .i64 ((cntF L V (st k) : Nat) : Int) ∧ Below w1.heap.size w1 wr) (fun _ i _ => G.length - (intOf i).toNat)
  case atStart => exact ⟨0, Nat.zero_le _, rfl, by rw [HZ.out]; rfl, Below.refl _ _⟩
  case round =>
    obtain ⟨k, hk, rfl, rfl, hbel⟩ := hrel
    by_cases hlt : k < G.length
    · obtain ⟨p, hp⟩ : ∃ p, G[k]? = some p := ⟨G[k], by simp [hlt]⟩
      obtain ⟨hB, hst, hst1, hLp⟩ := HAT.out k p hp
      have q0 := fewest_sees HQ.out hg hbel hp
      have HPR := Lib.hid hp
      have hgr : g < wr.heap.size := Nat.lt_of_lt_of_le hg hbel.size
      have hcl := cntF_le L V (st k)
      have HSN := Lib.hid (show cntF L V (st (k + 1)) = cntF L V (st k) + (if p.1 ≤ V ∧ V < p.1 + 2 ^ p.2 then 1 else 0) from by rw [hst1, hst]; exact cntF_next hLp)
      clear hp hst hst1 hLp
      generalize cntF L V (st k) = cc at *
      generalize hc : str (preT B p) = c at *
      have HCE := Lib.hid hc
      clear hc
      obtain ⟨n, hn⟩ : ∃ n, n = B - p.2 := ⟨_, rfl⟩
      have HN := Lib.hid hn
      have HPF := Lib.hid (fun w => swq (prefix_yes c B hB.sz b2 hB.pf w))
      have hhs := fun w => has_any c (str (hiB V B B)) (by rw [hB.sz, str_size, hiB_len]) (by rw [str_size, hiB_len]; exact b2) w
      rw [str_list, hB.has] at hhs
      generalize hD : decide (p.1 ≤ V ∧ V < p.1 + 2 ^ p.2) = D at hhs
      have HSN2 := Lib.hid (show cntF L V (st (k + 1)) = cc + (if D = true then 1 else 0) from by rw [HSN.out, ← hD]; simp only [decide_eq_true_iff])
      clear hD HSN
      have HHS := Lib.hid hhs
      clear hhs
      have HDG := Lib.hid (fun w => swq (digits_len c n p.2 (by rw [hB.sz]; have := hB.fb; omega) (by have := hB.fb; omega) (by rw [hn]; exact hB.dig) (by rw [hn]; exact hB.dig2) w))
      have HBT := Lib.hid hB
      clear hB hn
      have x0 : (0 : Int) ≤ (k : Int) := by omega
      have x1 : (k : Int) < (G.length : Int) := by omega
      go_upto_region 16 with (go_at_call 18; refine (HPF.out _).mono ?_; rintro e w' ⟨rfl, rfl⟩)
      go_cut [70] (fun s70 wx => s70 = .bool D ∧ Below w1.heap.size w1 wx)
      case first =>
        have hK0 : CS1 wr g (off + k) (.string c) wr.drew := ⟨q0, (Below.refl _ _).drew⟩
        go_region_held3 (fun w' => CS1 wr g (off + k) (.string c) w')
          (with_reducible (first | assumption | exact hK0 | exact hK2))
          (first | (go_at_call 20; refine (HBO.out _).mono ?_; rintro e w9 ⟨rfl, hb9⟩; have hK2 := CS1.go hgr (by assumption : CS1 _ _ _ _ _) hb9) | (go_at_call 19; refine (HHS.out _).mono ?_; rintro e w8 ⟨rfl, hb8⟩; have hK3 := CS1.go hgr (by assumption : CS1 _ _ _ _ _) hb8))
        all_goals
          go_wp2_with fail
          go_meet
          exact ⟨rfl, bnx hbel (by assumption : CS1 _ _ _ _ _).2⟩
      case rest =>
        obtain ⟨rfl, hbx⟩ := hcut
        go_upto_if 70 with fail
        go_cut [12] (fun s12 wy => s12 = .int .i64 ((cntF L V (st (k + 1)) : Nat) : Int) ∧ wc = wy)
        case first =>
          cases D with
          | true =>
            go_wp2_with fail
            go_meet
            exact ⟨by rw [HSN2.out]; go_num, rfl⟩
          | false =>
            go_wp2_with fail
            go_meet
            exact ⟨by rw [HSN2.out]; rfl, rfl⟩
        case rest =>
          obtain ⟨rfl, rfl⟩ := hcut
          clear HSN2
          by_cases hk0 : k = 0
          · subst hk0
            go_wp2
            go_roundw
            case rel => exact ⟨1, by omega, by go_num, rfl, hbx⟩
            case measure => simp [intOf]; omega
          · obtain ⟨j, hj⟩ : ∃ j, k = j + 1 := ⟨k - 1, by omega⟩
            clear hk0
            obtain ⟨q, hq⟩ : ∃ q, G[j]? = some q := ⟨G[j]'(by omega), by simp [show j < G.length by omega]⟩
            obtain ⟨hB0, -, -, -⟩ := HAT.out j q hq
            obtain ⟨hless, hhalf⟩ := HNX.out j q p hq (by rw [← hj]; exact HPR.out)
            have q1 := fewest_sees HQ.out hg hbx HPR.out
            have q2 := fewest_sees HQ.out hg hbx hq
            rw [HCE.out] at q1
            generalize hc0 : str (preT B q) = c0 at *
            have HCE0 := Lib.hid hc0
            clear hc0
            have HQJ := Lib.hid hq
            obtain ⟨n0, hn0⟩ : ∃ n0, n0 = B - q.2 := ⟨_, rfl⟩
            have HDG0 := Lib.hid (fun w => digits_len c0 n0 q.2 (by rw [hB0.sz]; have := hB0.fb; omega) (by have := hB0.fb; omega) (by rw [hn0]; exact hB0.dig) (by rw [hn0]; exact hB0.dig2) w)
            obtain ⟨lw, hlw⟩ : ∃ lw : ByteArray → ByteArray, ∀ s, lw s = str (lowT s.data.toList) := ⟨_, fun _ => rfl⟩
            have HLS := Lib.hid (fun (s : ByteArray) (h : s.size ≤ 32) (w : World) => show Calls Try.prog 22 #[.string s] w (fun e w' => e = .returned (.string (lw s)) ∧ Below w.heap.size w w') from by rw [hlw]; exact least_any s h w)
            have hge := geq_no hless
            rw [← HBT.out.low, ← hB0.low, ← hlw, ← hlw] at hge
            have HGE := Lib.hid hge
            have z7 : c.size ≤ 32 := by rw [HBT.out.sz]; exact b2
            have z8 : c0.size ≤ 32 := by rw [hB0.sz]; exact b2
            have HSZ := Lib.hid (And.intro HBT.out.sz hB0.sz)
            have HFB := Lib.hid (And.intro HBT.out.fb hB0.fb)
            have HTP := Lib.hid (And.intro HBT.out.top hB0.top)
            have HHF := Lib.hid hhalf
            have HN0 := Lib.hid hn0
            clear hge hless hlw hhalf hB0 hn0 hq
            have y0 : (0 : Int) ≤ (j : Int) := by omega
            have y1 : (j : Int) < (G.length : Int) := by omega
            have hk1 : ((k : Int) == 0) = false := by rw [beq_eq_false_iff_ne]; omega
            have hw : IntKind.i64.wrap ((k : Int) - 1) = (j : Int) := by rw [IntWalk.i64_in _ (by omega)]; omega
            have HJ := Lib.hid hj
            clear hj
            have hgc : g < wc.heap.size := Nat.lt_of_lt_of_le hg hbx.size
            go_upto_region 20 with (go_at_call 21; refine (HDG.out _).mono ?_; rintro e w' ⟨rfl, rfl⟩)
            go_cut [91] (fun s91 wy => s91 = .bool false ∧ Below w1.heap.size w1 wy)
            case first =>
              have hK0 : CS2 wc g (off + k) (off + j) (.string c) (.string c0) wc.drew := ⟨q1, q2, (Below.refl _ _).drew⟩
              go_region_held3 (fun w' => CS2 wc g (off + k) (off + j) (.string c) (.string c0) w')
                (with_reducible (first | assumption | exact hK0 | exact hK2 | exact hK3))
                (first | (go_at_call 22; refine (HLS.out _ (by assumption) _).mono ?_; rintro e w9 ⟨rfl, hb9⟩; have hK2 := CS2.go hgc (by assumption : CS2 _ _ _ _ _ _ _) hb9))
              all_goals
                go_wp2_with fail
                go_meet
                exact ⟨by first | (rw [HGE.out]; done) | (simpa using HGE.out), bnx hbx (by assumption : CS2 _ _ _ _ _ _ _).2.2⟩
            case rest =>
              obtain ⟨rfl, hby⟩ := hcut
              have q1 := fewest_sees HQ.out hg hby HPR.out
              have q2 := fewest_sees HQ.out hg hby HQJ.out
              rw [HCE.out] at q1
              rw [HCE0.out] at q2
              by_cases hnn : n = n0
              · subst hnn
                obtain ⟨h1, h2⟩ := HHF.out (by have := HN.out; have := HN0.out; have := HFB.out; omega)
                obtain ⟨m, hnm⟩ : ∃ m, n = m + 1 := ⟨n - 1, by have := HN.out; have := HN0.out; omega⟩
                have hm : B - p.2 - 1 = m := by have := HN.out; omega
                have hne : ((c.extract 0 m).toList == (c0.extract 0 m).toList) = false := by
                  rw [str_takeF, str_takeF]
                  refine ne_lists ?_
                  obtain ⟨t1, t2⟩ := HTP.out
                  have hm0 : B - q.2 - 1 = m := by have := HN0.out; omega
                  rw [hm] at t1
                  rw [hm0] at t2
                  rw [t1, t2, show m = B - q.2 - 1 from hm0.symm]
                  exact h2
                have hs1 : c.size = B := HSZ.out.1
                have hs0 : c0.size = B := HSZ.out.2
                have z1 : m ≤ c.size := by have := HN.out; omega
                have z2 : m ≤ c0.size := by have := HN.out; omega
                have z3 : (m : Int) ≤ (c.size : Int) := by omega
                have z4 : (m : Int) ≤ (c0.size : Int) := by omega
                have z5 : (0 : Int) ≤ (m : Int) := by omega
                have hwm : IntKind.i64.wrap ((n : Int) - 1) = (m : Int) := by rw [IntWalk.i64_in _ (by omega)]; omega
                have z6 : (0 : Int) < (n : Int) := by omega
                have z6n : 0 < n := by omega
                clear h1 h2 hm hs1 hs0 hnm
                go_wp2
                go_quiet ((go_at_call 21; exact Calls.quiet_of_same (HDG0.out _)))
                go_wp2
                go_roundw
                case rel => exact ⟨k + 1, by omega, by go_num, rfl, below_drewN hby _⟩
                case measure => simp [intOf]; omega
              · have hnf : ((n : Int) == (n0 : Int)) = false := by rw [beq_eq_false_iff_ne]; omega
                go_wp2
                go_quiet ((go_at_call 21; exact Calls.quiet_of_same (HDG0.out _)))
                go_wp2
                go_roundw
                case rel => exact ⟨k + 1, by omega, by go_num, rfl, below_drewN hby _⟩
                case measure => simp [intOf]; omega
    · have hkG : k = G.length := by omega
      have HF := Lib.hid (show st k = I + 1 from HE.out k (by omega))
      by_cases hin : L ≤ V ∧ V ≤ I
      · have HCV := Lib.hid (show cntF L V (st k) = 1 from by rw [HF.out]; unfold cntF; rw [if_pos (by omega)])
        rw [HCV.out]
        obtain ⟨i1, i2⟩ := hin
        clear hkG
        go_wp2
        go_ret
        exact ⟨rfl, bnx HB1.out hbel⟩
      · have HCV := Lib.hid (show cntF L V (st k) = 0 from by rw [HF.out]; unfold cntF; rw [if_neg (by omega)])
        rw [HCV.out]
        have hin' : V < L ∨ (L ≤ V ∧ I < V) := by omega
        clear hkG hin
        rcases hin' with i1 | ⟨i1, i2⟩
        all_goals
          go_wp2
          go_ret
          exact ⟨rfl, bnx HB1.out hbel⟩
end Go.Proofs.Ytaleaicfllcpiaa.Fl
