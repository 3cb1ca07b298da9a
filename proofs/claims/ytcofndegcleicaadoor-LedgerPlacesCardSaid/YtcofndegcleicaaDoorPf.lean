/- The document's Pack. -/
import Derived.Test.YtcofndegcleicaaDoorPd
import Derived.Lib.QuietBelow
import Derived.Deep.DeepCutAuto
namespace Go.Proofs.YtcofndegcleicaaDoor.Lg
open Go.RowKit Mm Law
theorem itoa_cls (n : Nat) (hn : n ≤ 9223372036854775807) (w : World) (h : Tab w) (d : Nat) (os : Array Obj) :
    Calls Tryd.prog 25 #[.int .i64 (n : Int)] (Sort.grow (redrawn w d) os) fun e w'' => e = .returned (.string (str (Lib.itoa (n : Int)))) ∧ ∃ p : Regrown, w'' = Sort.grow (redrawn w p.d) p.os :=
  Calls.regrown_of (itoa_any n hn _ (tab_below h (below_regrown w d os)))
theorem str_cat (a b : List UInt8) (s : ByteArray) : str a ++ str b ++ ⟨#[58]⟩ ++ s = str (a ++ (b ++ (58 :: s.data.toList))) := by
  apply ByteArray.ext
  apply Array.ext'
  simp [str, ByteArray.data_append]
set_option maxRecDepth 100000 in
set_option maxHeartbeats 4000000 in
theorem rpack_any (l : List ByteArray) (v : Value) (w : World) (hv : Sees w v (sC l)) (hsz : ∀ s ∈ l, s.size ≤ 140737488355328) (ht : Tab w) :
    Calls Tryd.prog 18 #[v] w (PkAns w l) := by
  obtain ⟨a0, cap0, rfl, hN, hcap, hcm, hx⟩ := hv
  rw [sC_len] at hcap ⊢
  have hcl : l.length ≤ maxLen := Nat.le_trans hcap hcm
  unfold maxLen at hcm hcl
  have HX := Lib.hid hx
  have HT := Lib.hid ht
  have HSZ := Lib.hid hsz
  clear hx ht hsz hN
  go_enter Tryd.func18, Tryd.ntmps18
  go_wp2_with fail
  go_loopw [4, 5] (fun n i wr => ∃ k : Nat, k ≤ l.length ∧ i = .int .i64 (k : Int) ∧ n = .int .i64 ((pkL (l.take k)).length : Int) ∧ (pkL (l.take k)).length ≤ 16384 ∧ Below w.heap.size w wr) (fun _ i _ => l.length - (intOf i).toNat)
  case atStart => exact ⟨0, Nat.zero_le _, rfl, rfl, by simp [pkL], Below.refl _ _⟩
  case round =>
    obtain ⟨k, hk, rfl, rfl, hpk, hbel⟩ := hrel
    by_cases hlt : k < l.length
    · obtain ⟨g, off, rfl, hg, hq⟩ : ∃ g off, a0 = some ⟨g, off, none⟩ ∧ g < w.heap.size ∧ ∀ j u, (sC l)[j]? = some u → w.cell? ⟨g, off + j, none⟩ = some u := by
        rcases HX.out with h0 | h0
        · have := congrArg List.length h0; rw [sC_len] at this; simp only [List.length_nil] at this; omega
        · exact h0
      have q0 := hq k _ (sC_at (s := l[k]) (by simp [hlt]))
      rw [← hbel.cell (p := ⟨g, off + k, none⟩) hg] at q0
      have hs1 := HSZ.out l[k] (List.getElem_mem hlt)
      have HP := Lib.hid (show (pkL (l.take (k + 1))).length = (pkL (l.take k)).length + ((Lib.itoa (l[k].size : Int)).length + 1 + l[k].size) from by rw [pkL_succ hlt, List.length_append, lnT_len])
      have hit := itoa_short l[k].size (by omega)
      have cI := itoa_cls l[k].size (by omega) wr (tab_below HT.out hbel)
      have HB := Lib.hid (fun h => pk_big (l := l) (k := k + 1) h)
      clear hq
      generalize l[k] = s at *
      have HZ := Lib.hid (show (str (Lib.itoa (s.size : Int))).size = (Lib.itoa (s.size : Int)).length from str_size _)
      generalize str (Lib.itoa (s.size : Int)) = z at *
      generalize (Lib.itoa (s.size : Int)).length = zn at *
      generalize (pkL (l.take k)).length = n at *
      have hzn : z.size = zn := HZ.out
      subst hzn
      have c0 := cell_regrown q0
      have x0 : (0 : Int) ≤ (k : Int) := by omega
      have x1 : (k : Int) < (l.length : Int) := by omega
      go_upto_region 5 with fail
      refine wp_region_quiet_below (by kernel_rfl) (by kernel_rfl) ?_
      repeat (quiet_step (exact cI _ _))
      refine wpQuiet_nil ?_
      intro _ hw'
      obtain ⟨⟨dq, osq⟩, hw''⟩ := hw'
      subst hw''
      have hsum : n + z.size + 1 + s.size < 9223372036854775808 := by omega
      by_cases hbig : 16384 < n + (z.size + 1 + s.size)
      · have HA := Lib.hid (HB.out (by rw [HP.out]; exact hbig))
        have hw : wrap64 (↑n + ↑z.size + 1 + ↑s.size) = ↑n + ↑z.size + 1 + ↑s.size := by unfold wrap64; omega
        have hd : decide (wrap64 (↑n + ↑z.size + 1 + ↑s.size) ≤ 16384) = false := by rw [hw]; exact decide_eq_false (by omega)
        go_wp2_with fail
        refine bodyPost_ret (v := .tuple #[.string ⟨#[]⟩, .int .i64 2]) (by simp [results, Tryd.results18, go_sem]) rfl (pk_ans HA.out rfl (bnx hbel (below_regrown _ _ _)))
      · have hw : wrap64 (↑n + ↑z.size + 1 + ↑s.size) = ↑n + ↑z.size + 1 + ↑s.size := by unfold wrap64; omega
        have hd : decide (wrap64 (↑n + ↑z.size + 1 + ↑s.size) ≤ 16384) = true := by rw [hw]; exact decide_eq_true (by omega)
        go_wp2_with fail
        go_roundw
        have hw3 : IntKind.i64.wrap (IntKind.i64.wrap (IntKind.i64.wrap (↑n + ↑z.size) + 1) + ↑s.size) = ((n + (z.size + 1 + s.size) : Nat) : Int) := by
          rw [IntWalk.i64_in ((n : Int) + (z.size : Int)) (by omega), IntWalk.i64_in ((n : Int) + (z.size : Int) + 1) (by omega), IntWalk.i64_in ((n : Int) + (z.size : Int) + 1 + (s.size : Int)) (by omega)]
          omega
        case rel => exact ⟨k + 1, by omega, by go_num, by rw [HP.out, hw3], by rw [HP.out]; omega, bnx hbel (below_regrown _ _ _)⟩
        case measure => simp [intOf]; omega
    · have hkl : k = l.length := by omega
      subst hkl
      have HPK := Lib.hid (show (pkL l).length ≤ 16384 from by rw [List.take_length] at hpk; exact hpk)
      clear hpk hk
      generalize (pkL (l.take l.length)).length = N
      go_wp2_with fail
      go_loopw [6, 7] (fun t i wr => ∃ k : Nat, k ≤ l.length ∧ i = .int .i64 (k : Int) ∧ t = .string (str (pkL (l.take k))) ∧ Below w.heap.size w wr) (fun _ i _ => l.length - (intOf i).toNat)
      case atStart => exact ⟨0, Nat.zero_le _, rfl, rfl, hbel⟩
      case round =>
        obtain ⟨m, hm, rfl, rfl, hbel⟩ := hrel
        by_cases hlt : m < l.length
        · obtain ⟨g, off, rfl, hg, hq⟩ : ∃ g off, a0 = some ⟨g, off, none⟩ ∧ g < w.heap.size ∧ ∀ j u, (sC l)[j]? = some u → w.cell? ⟨g, off + j, none⟩ = some u := by
            rcases HX.out with h0 | h0
            · have := congrArg List.length h0; rw [sC_len] at this; simp only [List.length_nil] at this; omega
            · exact h0
          have q0 := hq m _ (sC_at (s := l[m]) (by simp [hlt]))
          rw [← hbel.cell (p := ⟨g, off + m, none⟩) hg] at q0
          have hs1 := HSZ.out l[m] (List.getElem_mem hlt)
          have hit := itoa_short l[m].size (by omega)
          have cI := itoa_cls l[m].size (by omega) wr (tab_below HT.out hbel)
          have hbel1 := hbel
          have HSC := Lib.hid (show str (pkL (l.take m)) ++ str (Lib.itoa (l[m].size : Int)) ++ ⟨#[58]⟩ ++ l[m] = str (pkL (l.take (m + 1))) from by rw [pkL_succ hlt]; exact str_cat _ _ _)
          have HPM := Lib.hid (show (str (pkL (l.take m))).size ≤ 16384 from by rw [str_size]; have := pkL_le l m; have := HPK.out; omega)
          have HZ := Lib.hid (show (str (Lib.itoa (l[m].size : Int))).size ≤ 21 from by rw [str_size]; exact hit)
          clear hq hit
          generalize l[m] = s at *
          generalize str (Lib.itoa (s.size : Int)) = z at *
          generalize str (pkL (l.take m)) = t at *
          have hpm := HPM.out
          have hz := HZ.out
          have n1 : ¬ 9223372036854775807 < t.size + z.size := by omega
          have n2 : ¬ 9223372036854775807 < t.size + z.size + 1 := by omega
          have n3 : ¬ 9223372036854775807 < t.size + z.size + 1 + s.size := by omega
          have c0 := cell_regrown q0
          have x0 : (0 : Int) ≤ (m : Int) := by omega
          have x1 : (m : Int) < (l.length : Int) := by omega
          go_upto_region 12 with fail
          refine wp_region_quiet_below (by kernel_rfl) (by kernel_rfl) ?_
          repeat (quiet_step (exact cI _ _))
          refine wpQuiet_nil ?_
          intro _ hw'
          obtain ⟨⟨dq, osq⟩, hw''⟩ := hw'
          subst hw''
          go_wp2_with fail
          go_roundw
          case rel => exact ⟨m + 1, by omega, by go_num, by rw [← HSC.out], bnx hbel1 (below_regrown _ _ _)⟩
          case measure => simp [intOf]; omega
        · have hml : m = l.length := by omega
          have HA := Lib.hid (pk_ok (l := l) HPK.out)
          have HTK := Lib.hid (show pkL (l.take m) = pkL l from by rw [hml, List.take_length])
          clear hml
          go_wp2_with fail
          refine bodyPost_ret (v := .tuple #[.string (str (pkL (l.take m))), .int .i64 0]) (by simp [results, Tryd.results18, go_sem]) rfl (pk_ans HA.out (by rw [HTK.out]) hbel)
end Go.Proofs.YtcofndegcleicaaDoor.Lg
