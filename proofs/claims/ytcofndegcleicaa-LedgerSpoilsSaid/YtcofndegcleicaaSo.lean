/- LedgerSpoils. -/
import Derived.Test.YtcofndegcleicaaCc
import Derived.Laws.BitsAllLaws
namespace Go.Proofs.Ytcofndegcleicaa.Lg
open Go.RowKit Mm Law
theorem own_set {w : World} {B g cap n : Nat} {e : TypeId} {xs : List Value} (h : w.ownsRow B e 1 (.slice (some ⟨g, 0, none⟩) n cap) n xs) (p : Nat) (u : Value) : (w.setCell ⟨g, p, none⟩ u).ownsRow B e 1 (.slice (some ⟨g, 0, none⟩) n cap) n (xs.set p u) := by
  refine ⟨by rw [List.length_set]; exact h.1, ?_⟩
  rcases h.2 with ⟨h0, _⟩ | ⟨g', cap', cur, hv, hb, hg, hc, hm, hcs, htk⟩
  · cases h0
  · cases hv
    have hB : Blk w g e cur := hg
    refine .inr ⟨g, cap, cur.setIfInBounds p u, rfl, hb, hB.set_ p u, hc, hm, by rw [Array.size_setIfInBounds]; exact hcs, ?_⟩
    rw [Array.toList_setIfInBounds, List.take_set, htk]
theorem own_obj {w : World} {B g cap n s : Nat} {e : TypeId} {xs : List Value} (h : w.ownsRow B e s (.slice (some ⟨g, 0, none⟩) n cap) n xs) : ∃ cur, Blk w g e cur ∧ n ≤ cap ∧ cap ≤ maxLen := by
  rcases h.2 with ⟨h0, _⟩ | ⟨g', cap', cur, hv, hb, hg, hc, hm, hcs, htk⟩
  · cases h0
  · cases hv
    exact ⟨cur, hg, hc, hm⟩
theorem xor8 (x y : Nat) (h : x < 256) (k : y < 256) : bits .xor .u8 (x : Int) (y : Int) = ((x ^^^ y : Nat) : Int) := u8_xor_nat x y h k
def turned (b : UInt8) (t : Nat) : UInt8 := UInt8.ofNat (b.toNat ^^^ t)
theorem turned_nat (b : UInt8) (t : Nat) (h : t < 256) : (turned b t).toNat = b.toNat ^^^ t := by
  unfold turned
  rw [UInt8.toNat_ofNat']
  exact Nat.mod_eq_of_lt (Nat.xor_lt_two_pow (n := 8) b.toNat_lt h)
theorem turned_ne (b : UInt8) (t : Nat) (h : t < 256) (h0 : t ≠ 0) : turned b t ≠ b := by
  intro e
  have h1 := turned_nat b t h
  rw [e] at h1
  apply h0
  have h2 : b.toNat ^^^ 0 = b.toNat ^^^ t := by rw [Nat.xor_zero]; exact h1
  exact (xor_can_l h2).symm
set_option maxRecDepth 100000 in
set_option maxHeartbeats 4000000 in
theorem spoils_walk (v : Value) (l : List Ent) (hw : ∀ x ∈ l, x.2.size ≤ maxLen ∧ (Lit.int .i64 x.1).wf = true) (z : Int) (hz : (Lit.int .i64 z).wf = true) (b : Int) (hb : (Lit.int .u8 b).wf = true) (w : World) (hS : SeesS w v 2 l.length (esC l)) :
    Calls Try.prog 12 #[v, .int .i64 z, .int .u8 b] w fun e w' => e = .returned (.bool true) ∧ Below w.heap.size w w' := by
  obtain ⟨t, ht, rfl⟩ : ∃ t : Nat, t < 256 ∧ b = (t : Int) := by
    have := hb
    simp [Lit.wf, IntKind.min, IntKind.max, IntKind.bits, IntKind.signed] at this
    exact ⟨b.toNat, by omega, by omega⟩
  clear hb
  have HWR := Lib.hid (fun w' (h : Below w.heap.size w w') => written_any l hw v w' (hS.below h))
  have hok := entsW_ok l
  have hn40 : (entsW l).length ≤ 40 := by rw [entsW_len]; omega
  have hDL := diskOf_len (entsW l) hok 1
  generalize entsW l = ws at *
  have hDN : (diskOf ws 1).length ≤ 656160 := by omega
  have hok2 := Lib.hid hok
  clear hok hw hS
  go_enter Try.func12, Try.ntmps12
  go_wp2_with fail
  refine (fixed_yes _).mono ?_
  rintro e w1 ⟨rfl, hb1⟩
  go_wp2_with fail
  refine (HWR.out _ hb1).mono ?_
  rintro e w2 ⟨u, d, rfl, hou, hod, hb2⟩
  have g2 := bnx hb1 hb2
  have hb1s := hb1.size
  have HOU := Lib.hid hou
  have HOD := Lib.hid hod
  obtain ⟨au, cu, rfl⟩ := own_len hou
  obtain ⟨ad, cd, rfl⟩ := own_len hod
  clear hou hod HWR hb1 hb2
  by_cases hN : (diskOf ws 1).length = 0
  · have h0 : (((diskOf ws 1).length : Int) == 0) = true := by rw [hN]; rfl
    clear hN
    go_wp2_with fail
    go_ret
    exact ⟨rfl, g2⟩
  · have h0 : (((diskOf ws 1).length : Int) == 0) = false := by rw [beq_eq_false_iff_ne]; omega
    by_cases ht0 : t = 0
    · have h1 : ((t : Int) == 0) = true := by rw [ht0]; rfl
      clear ht0
      go_wp2_with fail
      go_ret
      exact ⟨rfl, g2⟩
    · have h1 : ((t : Int) == 0) = false := by rw [beq_eq_false_iff_ne]; omega
      have hNp : 0 < (diskOf ws 1).length := by omega
      have HT0 := Lib.hid ht0
      clear ht0 hN
      have q1 : -((diskOf ws 1).length : Int) < z.tmod (diskOf ws 1).length := Int.lt_tmod_of_pos z (by omega)
      have q2 : z.tmod (diskOf ws 1).length < ((diskOf ws 1).length : Int) := Int.tmod_lt_of_pos z (by omega)
      have hNN : ¬ ((diskOf ws 1).length : Int) = 0 := by omega
      go_upto_if 39 with fail
      generalize hq : z.tmod (diskOf ws 1).length = q at *
      obtain ⟨p, hp, hpq⟩ : ∃ p : Nat, p < (diskOf ws 1).length ∧ ((q < 0 ∧ (p : Int) = q + ((diskOf ws 1).length : Int)) ∨ (0 ≤ q ∧ (p : Int) = q)) := by
        by_cases h : q < 0
        · exact ⟨(q + ((diskOf ws 1).length : Int)).toNat, by omega, .inl ⟨h, by omega⟩⟩
        · exact ⟨q.toNat, by omega, .inr ⟨by omega, by omega⟩⟩
      have HPQ := Lib.hid hpq
      clear hpq hq
      go_cut [10] (fun s10 wx => s10 = .int .i64 (p : Int) ∧ w2 = wx)
      case first =>
        rcases HPQ.out with ⟨h, he⟩ | ⟨h, he⟩
        · have HE := Lib.hid he
          clear he
          go_wp2_with fail
          go_meet
          exact ⟨by rw [HE.out], rfl⟩
        · have HE := Lib.hid he
          clear he
          go_wp2_with fail
          go_meet
          exact ⟨by rw [HE.out], rfl⟩
      case rest =>
        obtain ⟨rfl, rfl⟩ := hcut
        obtain ⟨g, cap, hadv, hgB, hglt⟩ := own_form HOD.out hNp
        simp only [Value.slice.injEq] at hadv
        obtain ⟨rfl, _, rfl⟩ := hadv
        obtain ⟨cur, hblk, hcd1, hcd2⟩ := own_obj HOD.out
        obtain ⟨_, _, hadv2, _, _, _, hcell⟩ := own_at HOD.out hNp
        simp only [Value.slice.injEq, Option.some.injEq, Addr.mk.injEq] at hadv2
        obtain ⟨⟨rfl, _, _⟩, _, rfl⟩ := hadv2
        have cb := hcell p _ (bytesV_at (diskOf ws 1) p hp)
        have fb := hblk.frozen p
        unfold maxLen at hcd2
        have hX := xor8 (diskOf ws 1)[p].toNat t (UInt8.toNat_lt _) ht
        have hy := turned_ne (diskOf ws 1)[p] t ht HT0.out
        have hyn := turned_nat (diskOf ws 1)[p] t ht
        rw [← hyn] at hX
        obtain ⟨k1, k2, k3, k4⟩ := spoil_law ws hok2.out hn40 (by omega) p hp (turned (diskOf ws 1)[p] t) hy
        have hcv : bytesV ((diskOf ws 1).set p (turned (diskOf ws 1)[p] t)) = (bytesV (diskOf ws 1)).set p (.int .u8 ((turned (diskOf ws 1)[p] t).toNat : Int)) := by unfold bytesV; rw [List.map_set]; rfl
        have hbt : (diskOf ws 1)[p].toNat < 256 := UInt8.toNat_lt _
        have hyt : (turned (diskOf ws 1)[p] t).toNat < 256 := UInt8.toNat_lt _
        generalize turned (diskOf ws 1)[p] t = y at *
        generalize (diskOf ws 1)[p].toNat = b0 at *
        have HK1 := Lib.hid k1
        have HK2 := Lib.hid k2
        have HK3 := Lib.hid k3
        have HCV := Lib.hid hcv
        clear k1 k2 k3 hcell hblk hy hyn hcv HT0 HPQ q1 q2 h0 h1
        go_upto_region 13 with fail
        have hod3 := own_set HOD.out p (.int .u8 (y.toNat : Int))
        have hou3 := HOU.out.kept (only_set w2 g p (.int .u8 (y.toNat : Int))) (own_apart HOU.out HOD.out (by decide))
        have g3 : Below w.heap.size w (w2.setCell ⟨g, p, none⟩ (.int .u8 (y.toNat : Int))) := g2.setCell (p := ⟨g, p, none⟩) (by simp; omega) _
        generalize hW3 : World.setCell w2 _ _ = w3 at *
        rw [← HCV.out] at hod3
        have hSd := Sees.of_own hod3
        have hwh := whole_any _ (by rw [List.length_set]; omega) _ _ hSd
        rw [HK2.out, HK3.out] at hwh
        have HWH := Lib.hid hwh
        have HU3 := Lib.hid (SeesS.of_own hou3)
        have hcu : ws.length ≤ cu ∧ cu ≤ maxLen := by
          obtain ⟨a, cap, hv, h1, h2⟩ := HU3.out.form
          simp only [Value.slice.injEq] at hv
          rw [hv.2.2]
          exact ⟨h1, h2⟩
        obtain ⟨hcu1, hcu2⟩ := hcu
        unfold maxLen at hcu2
        clear hod3 hou3 hW3 hSd hwh cb fb hX HOD HOU HCV
        go_wp2_with fail
        go_loopw [11, 12] (fun a b wr => ∃ n e : Nat, a = .int .i64 n ∧ b = .int .i64 e ∧ e ≤ p ∧ cutN ws p = n + cutN (ws.drop n) (p - e) ∧ cutE ws p = e + cutE (ws.drop n) (p - e) ∧ w3 = wr) (fun a _ _ => ws.length - (intOf a).toNat)
        case atStart => exact ⟨0, 0, rfl, rfl, Nat.zero_le _, by simp, by simp, rfl⟩
        case round =>
          obtain ⟨n, e, rfl, rfl, he, h1, h2, rfl⟩ := hrel
          have H1 := Lib.hid h1
          have H2 := Lib.hid h2
          have hlt : n < ws.length := by omega
          clear h1 h2
          obtain ⟨_, gu, off, rfl, hg, hq⟩ := HU3.out.at (by omega)
          have hwn : ws[n]? = some ws[n] := by simp [hlt]
          have c2 := hq _ _ (ksC_at (numbered ws 1) n _ (numbered_at ws n 1 _ hwn)).2.2
          have HWN := Lib.hid hwn
          have hwl : ws[n].2.length ≤ 16384 := (hok2.out _ (List.getElem_mem hlt)).2.2
          generalize ws[n] = x at *
          obtain ⟨kd, tx⟩ := x
          simp only at c2 hwl
          have hsl : (str tx).size = tx.length := str_size _
          rw [← Nat.add_assoc] at c2
          clear hq hwn
          by_cases hfit : e + tx.length + 20 ≤ p
          · obtain ⟨s1, s2⟩ := cut_step ws p n e (kd, tx) HWN.out H1.out H2.out hfit
            have HS1 := Lib.hid s1
            have HS2 := Lib.hid s2
            clear s1 s2
            go_wp2_with fail
            go_roundw
            case rel => exact ⟨n + 1, e + tx.length + 20, by go_num, by go_num, by omega, HS1.out, HS2.out, by first | rfl | trivial⟩
            case measure => simp [intOf]; omega
          · obtain ⟨s1, s2⟩ := cut_stop ws p n e H1.out H2.out (fun w hw => by rw [HWN.out] at hw; cases hw; simp only; omega) he
            have HS1 := Lib.hid s1
            have HS2 := Lib.hid s2
            have hnf : p < e + tx.length + 20 := by omega
            clear s1 s2 hfit
            have hkl : ((numbered ws 1).take n).length = n := by rw [List.length_take, numbered_len]; omega
            have hB : SeesS w3 (.slice (some ⟨gu, off, none⟩) n cu) 3 ((numbered ws 1).take n).length (ksC ((numbered ws 1).take n)) := by have := HU3.out.take n (by omega); rw [ksC_take] at this; rw [hkl]; exact this
            have HKL := Lib.hid hkl
            have HBB := Lib.hid hB
            have hne : ((cutE ws p : Int) == (e : Int)) = true := by rw [HS2.out]; simp
            clear hkl hB
            go_wp2_with fail
            refine HWH.out.mono ?_
            rintro e9 w4 ⟨u2, rfl, ho4, hb4⟩
            have hlk : (whl ((diskOf ws 1).set p y)).length = cutN ws p := by
              have := congrArg List.length HK1.out
              rw [List.length_map, List.length_take, numbered_len] at this
              omega
            have hS4 := SeesS.of_own ho4
            rw [rasC_key, keyA_key, HK1.out, hlk, HS1.out] at hS4
            have hA : SeesS w4 u2 3 ((numbered ws 1).take n).length (ksC ((numbered ws 1).take n)) := by rw [HKL.out]; exact hS4
            have HRY := Lib.hid (records_yes _ _ _ _ hA (HBB.out.below hb4))
            clear hlk hS4 hA ho4
            go_wp2_with (go_at_call 25; refine HRY.out.mono ?_; rintro e9 w5 ⟨rfl, hb5⟩)
            go_ret
            exact ⟨rfl, bnx (bnx g3 hb4) hb5⟩
end Go.Proofs.Ytcofndegcleicaa.Lg
