/- The document's Unpack. -/
import Derived.Test.YtndclkphglpknaaDoorUq
import Derived.Test.YtndclkphglpknaaDoorKP
import Derived.Test.YtndclkphglpknaaDoorKP
namespace Go.Proofs.YtndclkphglpknaaDoor.Lg
open Go.RowKit Mm Law
def UpAns (w : World) (t : List UInt8) (e : Ending) (w' : World) : Prop := ∃ v, e = .returned (.tuple #[v, .int .i64 (upE t)]) ∧ w'.ownsRow w.heap.size 9 1 v (upL t).length (sC (upL t)) ∧ Below w.heap.size w w'
theorem up_ans {w : World} {t : List UInt8} {l : List ByteArray} {v : Value} {c : Int} (h : upE t = c ∧ upL t = l) {w' : World} (ho : w'.ownsRow w.heap.size 9 1 v l.length (sC l)) (hb : Below w.heap.size w w') : UpAns w t (.returned (.tuple #[v, .int .i64 c])) w' := by
  refine ⟨v, ?_, ?_, hb⟩
  · rw [h.1]
  · rw [h.2]; exact ho
theorem strs_ne {s t : ByteArray} (h : ¬ s = t) : (s.toList == t.toList) = false := by
  rw [ByteArray.toList_eq, ByteArray.toList_eq, beq_eq_false_iff_ne]
  exact fun e => h (ByteArray.ext (Array.ext' e))
theorem str_inj {a b : List UInt8} (h : str a = str b) : a = b := by
  have := congrArg (fun s : ByteArray => s.data.toList) h
  exact this
set_option maxRecDepth 100000 in
set_option maxHeartbeats 4000000 in
theorem runpack_any (t : ByteArray) (w : World) (ht : Tab w) :
    Calls Tryd.prog 6 #[.string t] w (UpAns w t.data.toList) := by
  by_cases hl : t.size ≤ 16384
  · have hTL : t.data.toList.length = t.size := len_s t
    have hTT := Lib.hid ht
    have HBG := Lib.hid (fun k h => bget t k h)
    have HEX := Lib.hid (fun a b => ext_take t a b)
    obtain ⟨T, hT⟩ : ∃ T, t.data.toList = T := ⟨_, rfl⟩
    rw [hT] at hTL HBG HEX ⊢
    clear hT ht
    have HS := Lib.hid (fun a p => hd_stop (t := T) (a := a) (p := p) (by omega))
    have HBad := Lib.hid (fun l u h1 h2 h3 => up_bad (t := T) (u := u) (l := l) (by omega) h1 h2 h3)
    go_enter Tryd.func6, Tryd.ntmps6
    go_wp2_with fail
    go_loopw [4, 5] (fun v i wr => ∃ (L : List ByteArray) (u : List UInt8), i = .int .i64 ((pkL L).length : Int) ∧ T = pkL L ++ u ∧ wr.ownsRow w.heap.size 9 1 v L.length (sC L) ∧ Below w.heap.size w wr) (fun _ i _ => t.size - (intOf i).toNat)
    case atStart => exact ⟨[], T, rfl, by simp [pkL], World.ownsRow_nil _ _ _ _, Below.refl _ _⟩
    case round =>
      obtain ⟨L, u, rfl, hTu, hown, hbel⟩ := hrel
      have HO := Lib.hid hown
      have HTU := Lib.hid hTu
      have hlu := congrArg List.length hTu
      rw [List.length_append] at hlu
      obtain ⟨a, ha⟩ : ∃ a, (pkL L).length = a := ⟨_, rfl⟩
      rw [ha] at hlu ⊢
      have HA := Lib.hid ha
      have HDU := Lib.hid (show T.drop a = u from by rw [hTu, ← ha, List.drop_left])
      clear hown hTu ha
      by_cases hlt : a < t.size
      · have HNE := Lib.hid (show u ≠ [] from fun h => by rw [h] at hlu; simp at hlu; omega)
        have HFail := Lib.hid (fun hh => HBad.out L u HTU.out HNE.out hh)
        have xa : (a : Int) < (t.size : Int) := by omega
        go_wp2_with fail
        go_loopw [6] (fun i wr' => ∃ p : Nat, a ≤ p ∧ p ≤ t.size ∧ p ≤ a + 6 ∧ i = .int .i64 (p : Int) ∧ wr' = wr ∧ ∀ j, a ≤ j → j < p → T[j]? ≠ some 58) (fun i _ => t.size - (intOf i).toNat)
        case atStart => exact ⟨a, Nat.le_refl _, by omega, by omega, rfl, rfl, fun j h1 h2 => absurd h1 (by omega)⟩
        case round =>
          obtain ⟨p, hap, hpt, hp6, rfl, rfl, hno⟩ := hrel
          have HNO := Lib.hid hno
          clear hno
          by_cases hpl : p < t.size
          · have hbg := HBG.out p hpl
            have x0 : (0 : Int) ≤ (p : Int) := by omega
            have x1 : (p : Int) < (t.size : Int) := by omega
            by_cases hc : t[p] = 58
            · have HC := Lib.hid (show T[p]? = some 58 from by rw [hbg, hc])
              have hc1 : ((t[p].toNat : Int) != 58) = false := by rw [hc]; rfl
              have hpe : ((p : Int) == (t.size : Int)) = false := by rw [beq_eq_false_iff_ne]; omega
              clear hc hbg
              go_wp2_with fail
              go_loopw [7, 8] (fun n i wr' => ∃ q : Nat, a ≤ q ∧ q ≤ p ∧ i = .int .i64 (q : Int) ∧ n = .int .i64 (numI 0 ((T.drop a).take (q - a))) ∧ wr' = wr) (fun _ i _ => p - (intOf i).toNat)
              case atStart => exact ⟨a, Nat.le_refl _, hap, rfl, by rw [Nat.sub_self]; rfl, rfl⟩
              case round =>
                obtain ⟨q, haq, hqp, rfl, rfl, rfl⟩ := hrel
                have hnb := numI_take (t := T) (a := a) (m := q - a) (by omega) (by omega)
                by_cases hmlt : q < p
                · have hb := HBG.out q (by omega)
                  have HNN := Lib.hid (numI_at haq hb)
                  have hb8 := UInt8.toNat_lt t[q]
                  have x3 : (q : Int) < (p : Int) := by omega
                  have x4 : (q : Int) < (t.size : Int) := by omega
                  have x5 : (0 : Int) ≤ (q : Int) := by omega
                  clear hb
                  generalize numI 0 ((T.drop a).take (q - a)) = n at *
                  go_wp2_with fail
                  go_roundw
                  case rel => exact ⟨q + 1, by omega, by omega, by go_num, by rw [HNN.out], by trivial⟩
                  case measure => simp [intOf]; omega
                · have hqp2 : q = p := by omega
                  subst hqp2
                  have hX0 : Hd u → ∃ N : Nat, (T.drop a).take (q - a) = Lib.decDigits N ∧ numI 0 ((T.drop a).take (q - a)) = N ∧ N ≤ 16384 ∧ q + 1 + N ≤ t.size := fun hh => by
                    obtain ⟨N, h1, h2, h3, h4, h5, h6⟩ := HS.out a q HNO.out (by rw [HDU.out]; exact hh)
                    have hq : q = a + (Lib.decDigits N).length := by
                      refine Nat.le_antisymm h1 (Nat.le_of_not_lt fun hc => ?_)
                      exact h6 q haq hc HC.out
                    have he : (T.drop a).take (q - a) = Lib.decDigits N := by rw [hq, Nat.add_sub_cancel_left]; exact h4
                    exact ⟨N, he, by rw [he]; exact dd_num N, by omega, by omega⟩
                  have hex : t.extract a q = str ((T.drop a).take (q - a)) := HEX.out a q
                  have HK := Lib.hid (fun (N : Nat) (h1 : (T.drop a).take (q - a) = Lib.decDigits N) (h3 : q + 1 + N ≤ t.size) => hd_took HTU.out HA.out.symm h1 HC.out haq (by rw [hTL]; exact h3))
                  generalize (T.drop a).take (q - a) = D at *
                  have HX := Lib.hid hX0
                  have HNN := Lib.hid (show ∀ N : Nat, D = Lib.decDigits N → numI 0 D = N from fun N h => by rw [h]; exact dd_num N)
                  generalize numI 0 D = n at *
                  have x6 : (q : Int) ≤ (t.size : Int) := by omega
                  have x7 : (a : Int) ≤ (q : Int) := by omega
                  clear hX0
                  by_cases hn0 : n < 0
                  · have HF := Lib.hid (HFail.out (fun hh => by obtain ⟨N, _, h, _⟩ := HX.out hh; omega))
                    have hd0 : decide (n < 0) = true := decide_eq_true hn0
                    go_upto_region 16 with fail
                    refine wp_region_quiet_below (by kernel_rfl) (by kernel_rfl) ?_
                    repeat ((with_reducible refine wpQuiet_step (fun K hK => ?_)); go_simp; (with_reducible refine hK _ ?_); clear hK K)
                    with_reducible refine wpQuiet_nil ?_
                    intro W hw'
                    have hbW : Below wr.heap.size wr W := by
                      obtain ⟨⟨dq, osq⟩, hw''⟩ := hw'
                      rw [hw'']
                      exact below_regrown _ _ _
                    clear hw'
                    go_wp2_with fail
                    refine bodyPost_ret (v := .tuple #[.slice none 0 0, .int .i64 193]) (by simp [results, Tryd.results6, go_sem]) rfl (up_ans HF.out (World.ownsRow_nil _ _ _ _) (bnx hbel hbW))
                  · obtain ⟨N, rfl⟩ := Int.eq_ofNat_of_zero_le (show 0 ≤ n by omega)
                    have hd0 : decide ((N : Int) < 0) = false := decide_eq_false hn0
                    by_cases hn1 : 16384 < N
                    · have HF := Lib.hid (HFail.out (fun hh => by obtain ⟨M, _, h, h2, _⟩ := HX.out hh; omega))
                      have hd1 : decide ((16384 : Int) < (N : Int)) = true := decide_eq_true (by omega)
                      go_upto_region 16 with fail
                      refine wp_region_quiet_below (by kernel_rfl) (by kernel_rfl) ?_
                      repeat ((with_reducible refine wpQuiet_step (fun K hK => ?_)); go_simp; (with_reducible refine hK _ ?_); clear hK K)
                      with_reducible refine wpQuiet_nil ?_
                      intro W hw'
                      have hbW : Below wr.heap.size wr W := by
                        obtain ⟨⟨dq, osq⟩, hw''⟩ := hw'
                        rw [hw'']
                        exact below_regrown _ _ _
                      clear hw'
                      go_wp2_with fail
                      refine bodyPost_ret (v := .tuple #[.slice none 0 0, .int .i64 193]) (by simp [results, Tryd.results6, go_sem]) rfl (up_ans HF.out (World.ownsRow_nil _ _ _ _) (bnx hbel hbW))
                    · have hd1 : decide ((16384 : Int) < (N : Int)) = false := decide_eq_false (by omega)
                      have cI := itoa_cls N (by omega) wr (tab_below hTT.out hbel)
                      rw [Lib.itoa_nonneg] at cI
                      by_cases hDN : D = Lib.decDigits N
                      · have hseq : ((str (Lib.decDigits N)).toList == (str D).toList) = true := by rw [← hDN]; simp
                        by_cases hfit : q + 1 + N ≤ t.size
                        · have hd2 : decide ((t.size : Int) < (q : Int) + 1 + (N : Int)) = false := decide_eq_false (by omega)
                          have hex2 : t.extract (q + 1) (q + 1 + N) = str ((T.drop (q + 1)).take N) := by rw [HEX.out, Nat.add_sub_cancel_left]
                          obtain ⟨hk1, hk2⟩ := HK.out N hDN hfit
                          have HK1 := Lib.hid hk1
                          have HK2 := Lib.hid hk2
                          have HLL := Lib.hid (show (L.length + 1) * 16 ≤ 140737488355328 from by have := pkL_ge L; have := HA.out; omega)
                          clear hk1 hk2 HK hDN
                          generalize str ((T.drop (q + 1)).take N) = seg at *
                          have HSN := Lib.hid (fun w : World => (sees_new w 9 #[.string seg] (by simp [maxLen]) : Sees (w.alloc (.cells #[.string seg] 9)) (.slice (some ⟨w.heap.size, 0, none⟩) 1 1) (sC [seg])))
                          have hsl : ∀ W : World, (Instr.slice 9 (.string t) (some (.int .i64 ((q : Int) + 1))) (some (.int .i64 ((q : Int) + 1 + (N : Int)))) none).run Tryd.prog W = .ok (.string seg) W := fun W => by
                            have h := run_slice_string (P := Tryd.prog) W 9 t .i64 .i64 ((q : Int) + 1) ((q : Int) + 1 + (N : Int)) Tryd.underlying9 (by omega) (by omega) (by omega)
                            rw [show ((q : Int) + 1).toNat = q + 1 from by omega, show ((q : Int) + 1 + (N : Int)).toNat = q + 1 + N from by omega, hex2] at h
                            exact h
                          have hw1 : IntKind.i64.wrap ((q : Int) + 1) = (q : Int) + 1 := IntWalk.i64_in _ (by omega)
                          have hw2 : IntKind.i64.wrap ((q : Int) + 1 + (N : Int)) = (q : Int) + 1 + (N : Int) := IntWalk.i64_in _ (by omega)
                          have x8 : (0 : Int) ≤ (q : Int) + 1 := by omega
                          have x9 : (q : Int) + 1 ≤ (q : Int) + 1 + (N : Int) := by omega
                          have x10 : (q : Int) + 1 + (N : Int) ≤ (t.size : Int) := by omega
                          generalize str (Lib.decDigits N) = z at *
                          generalize str D = y at *
                          go_upto_region 16 with fail
                          refine wp_region_quiet_below (by kernel_rfl) (by kernel_rfl) ?_
                          repeat ((with_reducible refine wpQuiet_step (fun K hK => ?_)); go_simp; first | ((with_reducible refine hK _ ?_); clear hK K) | (apply Exists.intro; refine ⟨fun _ => ?_, hK _ ?_⟩; exact cI _ _; clear hK K))
                          with_reducible refine wpQuiet_nil ?_
                          intro W hw'
                          have hbW : Below wr.heap.size wr W := by
                            obtain ⟨⟨dq, osq⟩, hw''⟩ := hw'
                            rw [hw'']
                            exact below_regrown _ _ _
                          clear hw'
                          go_wp2_with (at_builtin; refine app_strs (l := [seg]) (own_below (own_below HO.out hbW (Nat.le_refl _)) (bal (Below.refl _ _) _) (Nat.le_refl _)) (HSN.out _) rfl rfl rfl rfl HLL.out (by have := hbel.size; have := hbW.size; simp only [World.size_alloc]; omega) ?_; intro v1 w1 hown1 hgr1)
                          have hb1 : Below w.heap.size w w1 := (bal (bnx hbel hbW) _).trans (below_grown (own_below (own_below HO.out hbW (Nat.le_refl _)) (bal (Below.refl _ _) _) (Nat.le_refl _)) hgr1 (by have := hbel.size; have := hbW.size; simp only [World.size_alloc]; omega))
                          have hown2 : w1.ownsRow w.heap.size 9 1 v1 (L ++ [seg]).length (sC (L ++ [seg])) := by
                            rw [List.length_append, List.length_singleton]
                            have e : sC (L ++ [seg]) = sC L ++ sC [seg] := by simp [sC]
                            rw [e]
                            exact hown1
                          clear hown1 hgr1
                          go_roundw
                          case rel => exact ⟨L ++ [seg], T.drop (q + 1 + N), by rw [← HK2.out]; go_num, HK1.out, hown2, hb1⟩
                          case measure => simp [intOf]; omega
                        · have HF := Lib.hid (HFail.out (fun hh => by obtain ⟨M, h1, h2, _, h4⟩ := HX.out hh; omega))
                          have hd2 : (t.size : Int) < (q : Int) + 1 + (N : Int) := by omega
                          have hw1 : IntKind.i64.wrap ((q : Int) + 1) = (q : Int) + 1 := IntWalk.i64_in _ (by omega)
                          have hw2 : IntKind.i64.wrap ((q : Int) + 1 + (N : Int)) = (q : Int) + 1 + (N : Int) := IntWalk.i64_in _ (by omega)
                          have hd3 : ¬ (q : Int) + 1 + (N : Int) ≤ (t.size : Int) := by omega
                          generalize str (Lib.decDigits N) = z at *
                          generalize str D = y at *
                          go_upto_region 16 with fail
                          refine wp_region_quiet_below (by kernel_rfl) (by kernel_rfl) ?_
                          repeat ((with_reducible refine wpQuiet_step (fun K hK => ?_)); go_simp; first | ((with_reducible refine hK _ ?_); clear hK K) | (apply Exists.intro; refine ⟨fun _ => ?_, hK _ ?_⟩; exact cI _ _; clear hK K))
                          with_reducible refine wpQuiet_nil ?_
                          intro W hw'
                          have hbW : Below wr.heap.size wr W := by
                            obtain ⟨⟨dq, osq⟩, hw''⟩ := hw'
                            rw [hw'']
                            exact below_regrown _ _ _
                          clear hw'
                          go_wp2_with fail
                          refine bodyPost_ret (v := .tuple #[.slice none 0 0, .int .i64 193]) (by simp [results, Tryd.results6, go_sem]) rfl (up_ans HF.out (World.ownsRow_nil _ _ _ _) (bnx hbel hbW))
                      · have HF := Lib.hid (HFail.out (fun hh => by obtain ⟨M, h1, h2, _⟩ := HX.out hh; exact hDN (by rw [h1]; congr 1; omega)))
                        have hsne : ((str (Lib.decDigits N)).toList == (str D).toList) = false := strs_ne fun e => hDN (str_inj e).symm
                        generalize str (Lib.decDigits N) = z at *
                        generalize str D = y at *
                        go_upto_region 16 with fail
                        refine wp_region_quiet_below (by kernel_rfl) (by kernel_rfl) ?_
                        repeat ((with_reducible refine wpQuiet_step (fun K hK => ?_)); go_simp; first | ((with_reducible refine hK _ ?_); clear hK K) | (apply Exists.intro; refine ⟨fun _ => ?_, hK _ ?_⟩; exact cI _ _; clear hK K))
                        with_reducible refine wpQuiet_nil ?_
                        intro W hw'
                        have hbW : Below wr.heap.size wr W := by
                          obtain ⟨⟨dq, osq⟩, hw''⟩ := hw'
                          rw [hw'']
                          exact below_regrown _ _ _
                        clear hw'
                        go_wp2_with fail
                        refine bodyPost_ret (v := .tuple #[.slice none 0 0, .int .i64 193]) (by simp [results, Tryd.results6, go_sem]) rfl (up_ans HF.out (World.ownsRow_nil _ _ _ _) (bnx hbel hbW))
            · have HC := Lib.hid (show T[p]? ≠ some 58 from by rw [hbg]; exact fun h => hc (Option.some.inj h))
              have hc1 : ((t[p].toNat : Int) != 58) = true := by
                rw [bne_iff_ne]
                intro h
                exact hc (UInt8.toNat_inj.1 (by have h58 : (58 : UInt8).toNat = 58 := rfl; omega))
              clear hc hbg
              by_cases hp5 : p < a + 6
              · have x2 : (p : Int) < (a : Int) + 6 := by omega
                go_wp2_with fail
                go_roundw
                case rel => exact ⟨p + 1, by omega, by omega, by omega, by go_num, by trivial, fun j h1 h2 => by rcases Nat.lt_succ_iff_lt_or_eq.1 h2 with h | rfl; exact HNO.out j h1 h; exact HC.out⟩
                case measure => simp [intOf]; omega
              · have x2 : ¬ (p : Int) < (a : Int) + 6 := by omega
                have HF := Lib.hid (HFail.out (fun hh => by
                  obtain ⟨N, h1, h2, _⟩ := HS.out a p HNO.out (by rw [HDU.out]; exact hh)
                  omega))
                go_wp2_with fail
                refine bodyPost_ret (v := .tuple #[.slice none 0 0, .int .i64 193]) (by simp [results, Tryd.results6, go_sem]) rfl (up_ans HF.out (World.ownsRow_nil _ _ _ _) hbel)
          · have HF := Lib.hid (HFail.out (fun hh => by
              obtain ⟨N, h1, h2, h3, _⟩ := HS.out a p HNO.out (by rw [HDU.out]; exact hh)
              have := (List.getElem?_eq_some_iff.1 h3).1
              omega))
            go_wp2_with fail
            refine bodyPost_ret (v := .tuple #[.slice none 0 0, .int .i64 193]) (by simp [results, Tryd.results6, go_sem]) rfl (up_ans HF.out (World.ownsRow_nil _ _ _ _) hbel)
      · have hu0 : u = [] := List.eq_nil_of_length_eq_zero (by omega)
        have hTL2 : T = pkL L := by rw [HTU.out, hu0, List.append_nil]
        have HK := Lib.hid (show upE T = 0 ∧ upL T = L from by
          have h := up_ok (l := L) (by rw [← hTL2]; omega)
          rw [← hTL2] at h
          exact h)
        have HO2 := Lib.hid HO.out
        have hxa : ¬ (a : Int) < (t.size : Int) := by omega
        clear hu0 hTL2
        go_wp2_with fail
        refine bodyPost_ret (v := .tuple #[u4, .int .i64 0]) (by simp [results, Tryd.results6, go_sem]) rfl (up_ans HK.out HO2.out hbel)
  · have HA := Lib.hid (up_long (t := t.data.toList) (by rw [len_s]; omega))
    go_enter Tryd.func6, Tryd.ntmps6
    go_wp2_with fail
    refine bodyPost_ret (v := .tuple #[.slice none 0 0, .int .i64 2]) (by simp [results, Tryd.results6, go_sem]) rfl (up_ans HA.out (World.ownsRow_nil _ _ _ _) (Below.refl _ _))
end Go.Proofs.YtndclkphglpknaaDoor.Lg
