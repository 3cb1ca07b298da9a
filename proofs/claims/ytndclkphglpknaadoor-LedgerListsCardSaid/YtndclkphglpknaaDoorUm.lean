/- The program's Unpack. -/
import Derived.Test.YtndclkphglpknaaDoorUl
import Derived.Test.YtndclkphglpknaaDoorUr
namespace Go.Proofs.YtndclkphglpknaaDoor.Lg
open Go.RowKit Mm Law
set_option maxRecDepth 100000 in
set_option maxHeartbeats 4000000 in
theorem clone_any (s : ByteArray) (hs : s.size ≤ 16384) (w : World) :
    Calls Tryd.prog 17 #[.string s] w fun e w' => e = .returned (.string s) ∧ Below w.heap.size w w' := by
  have HC := Lib.hid (fun w => Tryd.stringslite_Clone s w (by omega))
  go_enter Tryd.func17, Tryd.ntmps17
  go_wp2_with fail
  refine (HC.out _).mono ?_
  rintro e w' ⟨rfl, hb⟩
  go_wp2_with fail
  go_ret
  exact ⟨rfl, hb⟩
theorem emp_is {s : ByteArray} (h : s.data.toList = []) : s = .empty := ByteArray.ext (Array.ext' h)
theorem emp_not {s : ByteArray} (h : s.data.toList ≠ []) : s.toList.isEmpty = false := by
  rw [ByteArray.toList_eq]
  cases hx : s.data.toList with
  | nil => exact absurd hx h
  | cons a b => rfl
set_option maxRecDepth 100000 in
set_option maxHeartbeats 4000000 in
theorem unpack_any (t : ByteArray) (w : World) :
    Calls Tryd.prog 8 #[.string t] w (UpAns w t.data.toList) := by
  by_cases hl : t.size ≤ 16384
  · have hTL : t.data.toList.length = t.size := len_s t
    obtain ⟨T, hT⟩ : ∃ T, t.data.toList = T := ⟨_, rfl⟩
    have HTE := Lib.hid hT
    rw [hT] at hTL ⊢
    clear hT
    have HBad := Lib.hid (fun l u h1 h2 h3 => up_bad (t := T) (u := u) (l := l) (by omega) h1 h2 h3)
    go_enter Tryd.func8, Tryd.ntmps8
    go_wp2_with fail
    go_loopw [0, 4] (fun i v wr => ∃ (L : List ByteArray) (u : ByteArray), i = .string u ∧ T = pkL L ++ u.data.toList ∧ wr.ownsRow w.heap.size 9 1 v L.length (sC L) ∧ Below w.heap.size w wr) (fun i _ _ => match i with | .string u => u.size | _ => 0)
    case atStart => exact ⟨[], t, rfl, by rw [HTE.out]; simp [pkL], World.ownsRow_nil _ _ _ _, Below.refl _ _⟩
    case round =>
      obtain ⟨L, u, rfl, hTu, hown, hbel⟩ := hrel
      have HO := Lib.hid hown
      have HTU := Lib.hid hTu
      have hlu := congrArg List.length hTu
      rw [List.length_append, len_s] at hlu
      have HU := Lib.hid hlu
      clear hown hTu hlu
      by_cases hue : u.data.toList = []
      · have hTL2 : T = pkL L := by rw [HTU.out, hue, List.append_nil]
        have HK := Lib.hid (show upE T = 0 ∧ upL T = L from by
          have h := up_ok (l := L) (by rw [← hTL2]; omega)
          rw [← hTL2] at h
          exact h)
        have := emp_is hue
        subst this
        clear hue hTL2
        go_wp2_with fail
        refine bodyPost_ret (v := .tuple #[u4, .int .i64 0]) (by simp [results, Tryd.results8, go_sem]) rfl (up_ans HK.out HO.out hbel)
      · have hemp := emp_not hue
        have HNE := Lib.hid hue
        have HLN := Lib.hid (fun w => length_any u (by have := HU.out; omega) w)
        clear hue
        go_wp2_with fail
        refine (HLN.out _).mono ?_
        rintro e w1 ⟨n, r, b, rfl, hb1, h⟩
        rcases h with ⟨rfl, N, rfl, h2, h3⟩ | ⟨rfl, h⟩
        · have hu2 : u.data.toList = lnT (str (r.data.toList.take N)) ++ r.data.toList.drop N := by rw [h2]; exact hd_of (by rw [len_s]; exact h3)
          have e1 : r.extract 0 N = str (r.data.toList.take N) := by rw [ext_take]; simp
          have e2 : r.extract N r.size = str (r.data.toList.drop N) := by rw [ext_take, ← len_s, ← List.length_drop, List.take_length]
          obtain ⟨seg, hseg⟩ : ∃ seg, str (r.data.toList.take N) = seg := ⟨_, rfl⟩
          obtain ⟨rest, hrest⟩ : ∃ rest, str (r.data.toList.drop N) = rest := ⟨_, rfl⟩
          have hsz : seg.size = N := by rw [← hseg, str_size, List.length_take, len_s]; omega
          have hrl : rest.data.toList = r.data.toList.drop N := by rw [← hrest, str_list]
          rw [hseg] at hu2 e1
          rw [hrest] at e2
          rw [← hrl] at hu2
          have hT2 : T = pkL (L ++ [seg]) ++ rest.data.toList := by rw [HTU.out, hu2, pkL_snoc, List.append_assoc]
          have HT2 := Lib.hid hT2
          have hl1 := HU.out
          have hl2 := congrArg List.length hT2
          have hl3 := pkL_ge (L ++ [seg])
          have hl4 := congrArg List.length hu2
          rw [List.length_append, len_s] at hl2
          rw [List.length_append, List.length_singleton] at hl3
          rw [List.length_append, len_s, len_s, lnT_len] at hl4
          have HL := Lib.hid (show (L.length + 1) * 16 ≤ 140737488355328 from by omega)
          have HM := Lib.hid (show rest.size < u.size from by omega)
          have HCL := Lib.hid (fun w => clone_any seg (by omega) w)
          have HSN := Lib.hid (fun w : World => (sees_new w 9 #[.string seg] (by simp [maxLen]) : Sees (w.alloc (.cells #[.string seg] 9)) (.slice (some ⟨w.heap.size, 0, none⟩) 1 1) (sC [seg])))
          clear hl1 hl2 hl3 hl4 hT2 hu2 hrl hseg hrest hsz h2
          have x1 : (0 : Int) ≤ (N : Int) := by omega
          have x2 : (N : Int) ≤ (r.size : Int) := by omega
          go_wp2_with fail
          refine (HCL.out _).mono ?_
          rintro e w2 ⟨rfl, hb2⟩
          have HB2 := Lib.hid (bnx (bnx hbel hb1) hb2)
          have HO2 := Lib.hid (own_below (own_below HO.out hb1 (Nat.le_refl _)) hb2 (Nat.le_refl _))
          go_wp2_with (at_builtin; refine app_strs (l := [seg]) (own_below HO2.out (bal (Below.refl _ _) _) (Nat.le_refl _)) (HSN.out _) rfl rfl rfl rfl HL.out (by have := HB2.out.size; simp only [World.size_alloc]; omega) ?_; intro v1 w3 hown1 hgr1; have hb3 : Below w.heap.size w w3 := (bal HB2.out _).trans (below_grown (own_below HO2.out (bal (Below.refl _ _) _) (Nat.le_refl _)) hgr1 (by have := HB2.out.size; simp only [World.size_alloc]; omega)); have HB3 := Lib.hid hb3; have HO3 := Lib.hid (show w3.ownsRow w.heap.size 9 1 v1 (L ++ [seg]).length (sC (L ++ [seg])) from by
            rw [List.length_append, List.length_singleton]
            have e : sC (L ++ [seg]) = sC L ++ sC [seg] := by simp [sC]
            rw [e]
            exact hown1); clear hown1 hgr1 hb3)
          go_roundw
          case rel => exact ⟨L ++ [seg], rest, rfl, HT2.out, HO3.out, HB3.out⟩
          case measure => exact HM.out
        · have HF := Lib.hid (HBad.out _ _ HTU.out HNE.out h)
          go_wp2_with fail
          refine bodyPost_ret (v := .tuple #[.slice none 0 0, .int .i64 193]) (by simp [results, Tryd.results8, go_sem]) rfl (up_ans HF.out (World.ownsRow_nil _ _ _ _) (bnx hbel hb1))
  · have HA := Lib.hid (up_long (t := t.data.toList) (by rw [len_s]; omega))
    go_enter Tryd.func8, Tryd.ntmps8
    go_wp2_with fail
    refine bodyPost_ret (v := .tuple #[.slice none 0 0, .int .i64 2]) (by simp [results, Tryd.results8, go_sem]) rfl (up_ans HA.out (World.ownsRow_nil _ _ _ _) (Below.refl _ _))
end Go.Proofs.YtndclkphglpknaaDoor.Lg
