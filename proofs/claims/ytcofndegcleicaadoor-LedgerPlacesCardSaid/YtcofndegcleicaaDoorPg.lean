/- The program's Pack. -/
import Derived.Test.YtcofndegcleicaaDoorPf
namespace Go.Proofs.YtcofndegcleicaaDoor.Lg
open Go.RowKit Mm Law
set_option maxRecDepth 100000 in
set_option maxHeartbeats 4000000 in
theorem pack_any (l : List ByteArray) (v : Value) (w : World) (hv : Sees w v (sC l)) (hsz : ∀ s ∈ l, s.size ≤ 140737488355328) (ht : Tab w) :
    Calls Tryd.prog 16 #[v] w (PkAns w l) := by
  obtain ⟨a0, cap0, rfl, hN, hcap, hcm, hx⟩ := hv
  rw [sC_len] at hcap ⊢
  have hcl : l.length ≤ maxLen := Nat.le_trans hcap hcm
  unfold maxLen at hcm hcl
  have HX := Lib.hid hx
  have HT := Lib.hid ht
  have HSZ := Lib.hid hsz
  clear hx ht hsz hN
  have HS0 := Lib.hid (SB_new w w.heap.size (Nat.le_refl _))
  have HE0 := Lib.hid (bal (Below.refl w.heap.size w) (.cells #[.pointer none, .slice none 0 0] 69))
  go_enter Tryd.func16, Tryd.ntmps16
  go_wp2_with fail
  go_loopw [10] (fun i wr => ∃ k : Nat, k ≤ l.length ∧ i = .int .i64 (k : Int) ∧ (pkL (l.take k)).length ≤ 16384 ∧ SB w.heap.size w.heap.size (pkL (l.take k)) wr ∧ Below w.heap.size w wr) (fun i _ => l.length - (intOf i).toNat)
  case atStart => exact ⟨0, Nat.zero_le _, rfl, by simp [pkL], HS0.out, HE0.out⟩
  case round =>
    obtain ⟨k, hk, rfl, hpk, hsb, hbel⟩ := hrel
    have HSB := Lib.hid hsb
    clear hsb
    by_cases hlt : k < l.length
    · obtain ⟨g, off, rfl, hg, hq⟩ : ∃ g off, a0 = some ⟨g, off, none⟩ ∧ g < w.heap.size ∧ ∀ j u, (sC l)[j]? = some u → w.cell? ⟨g, off + j, none⟩ = some u := by
        rcases HX.out with h0 | h0
        · have := congrArg List.length h0; rw [sC_len] at this; simp only [List.length_nil] at this; omega
        · exact h0
      have q0 := hq k _ (sC_at (s := l[k]) (by simp [hlt]))
      rw [← hbel.cell (p := ⟨g, off + k, none⟩) hg] at q0
      have hs1 := HSZ.out l[k] (List.getElem_mem hlt)
      have HP := Lib.hid (show (pkL (l.take (k + 1))).length = (pkL (l.take k)).length + ((Lib.itoa (l[k].size : Int)).length + 1 + l[k].size) from by rw [pkL_succ hlt, List.length_append, lnT_len])
      have HPS := Lib.hid (show pkL (l.take k) ++ (str (Lib.itoa (l[k].size : Int)) ++ ⟨#[58]⟩).data.toList ++ l[k].data.toList = pkL (l.take (k + 1)) from by rw [pkL_succ hlt]; simp [lnT, str, ByteArray.data_append])
      have hit := itoa_short l[k].size (by omega)
      have HI := Lib.hid (fun w h => itoa_any l[k].size (by omega) w h)
      have HB := Lib.hid (fun h => pk_big (l := l) (k := k + 1) h)
      clear hq
      generalize l[k] = s at *
      have HZ := Lib.hid (show (str (Lib.itoa (s.size : Int))).size = (Lib.itoa (s.size : Int)).length from str_size _)
      generalize str (Lib.itoa (s.size : Int)) = z at *
      generalize (Lib.itoa (s.size : Int)).length = zn at *
      generalize pkL (l.take k) = T at *
      have hzn : z.size = zn := HZ.out
      subst hzn
      have x0 : (0 : Int) ≤ (k : Int) := by omega
      have x1 : (k : Int) < (l.length : Int) := by omega
      have hw3 : wrap64 ((T.length : Int) + (z.size : Int) + 1 + (s.size : Int)) = ((T.length + (z.size + 1 + s.size) : Nat) : Int) := by unfold wrap64; omega
      go_wp2_with fail
      refine (HI.out _ (tab_below HT.out hbel)).mono ?_
      rintro e w1 ⟨rfl, hb1⟩
      have HS1 := Lib.hid (SB_below HSB.out hb1)
      have hg1 := bnx hbel hb1
      go_wp2_with fail
      refine (sb_len _ _ _ _ HS1.out).mono ?_
      rintro e w2 ⟨rfl, rfl⟩
      by_cases hbig : 16384 < T.length + (z.size + 1 + s.size)
      · have HA := Lib.hid (HB.out (by rw [HP.out]; exact hbig))
        have hd : decide (16384 < ((T.length + (z.size + 1 + s.size) : Nat) : Int)) = true := decide_eq_true (by omega)
        go_wp2_with fail
        refine bodyPost_ret (v := .tuple #[.string ⟨#[]⟩, .int .i64 2]) (by simp [results, Tryd.results16, go_sem]) rfl (pk_ans HA.out rfl hg1)
      · have HZS := Lib.hid (show (z ++ ⟨#[58]⟩).size = z.size + 1 from by rw [ByteArray.size_append]; rfl)
        go_wp2_with fail
        refine (sb_write _ _ _ _ _ HS1.out (by rw [HZS.out]; omega) hg1.size).mono ?_
        rintro e w3 ⟨rfl, hs3, hb3⟩
        have HS3 := Lib.hid hs3
        have hg3 := hg1.trans hb3
        clear hs3 hw3
        go_wp2_with fail
        refine (sb_write _ _ _ _ _ HS3.out (by rw [List.length_append, len_s, HZS.out]; omega) hg3.size).mono ?_
        rintro e w4 ⟨rfl, hs4, hb4⟩
        have HS4 := Lib.hid hs4
        have hg4 := hg3.trans hb4
        clear hs4
        go_wp2_with fail
        go_roundw
        case rel => exact ⟨k + 1, by omega, by go_num, by rw [HP.out]; omega, by rw [← HPS.out]; exact HS4.out, hg4⟩
        case measure => simp [intOf]; omega
    · have hkl : k = l.length := by omega
      have HA := Lib.hid (pk_ok (l := l) (by rw [hkl, List.take_length] at hpk; exact hpk))
      have HTK := Lib.hid (show pkL (l.take k) = pkL l from by rw [hkl, List.take_length])
      have HST := Lib.hid (sb_string _ _ _ _ HSB.out hbel.size)
      clear hkl hpk
      go_wp2_with fail
      refine HST.out.mono ?_
      rintro e w9 ⟨rfl, hb9⟩
      go_wp2_with fail
      refine bodyPost_ret (v := .tuple #[.string (str (pkL (l.take k))), .int .i64 0]) (by simp [results, Tryd.results16, go_sem]) rfl (pk_ans HA.out (by rw [HTK.out]) (hbel.trans hb9))
end Go.Proofs.YtcofndegcleicaaDoor.Lg
