/- TernMembers. -/
import Derived.Test.YtdiijannpfogdaaMo
import Derived.Test.YtdiijannpfogdaaTh
namespace Go.Proofs.Ytdiijannpfogdaa.Tn
open Go.RowKit
theorem own_new (w : World) (t : TypeId) (xs : List Value) (m : Nat) (hm : xs.length = m) (h0 : 0 < m) (h1 : m ≤ maxLen) {B : Nat} (hB : B ≤ w.heap.size) : (w.alloc (.cells xs.toArray t)).ownsRow B t 1 (.slice (some ⟨w.heap.size, 0, none⟩) m m) m xs := by
  refine ⟨by omega, .inr ⟨_, m, xs.toArray, rfl, hB, heap_alloc_new w _, Nat.le_refl _, h1, by simp; omega, ?_⟩⟩
  rw [List.take_of_length_le (by simp; omega)]
theorem hdr_one (h : Nat → Bool) : hdr 1 h = [bitD (h 0)] := rfl
theorem mem_all1 {n : Nat} {c o : Nat → Bool} (h : Cub (allT 1) n c o) : memAll n c o = [[48], [49]] := by
  have hn : n = 1 := h.hn
  have hb := h.at_ 0 (by omega)
  have hc0 : c 0 = false := by rw [h.hc]; rfl
  have ho0 : o 0 = false := by rw [h.ho]; rfl
  subst hn
  rw [memAll_pos (by decide)]
  have h1 : nextF c 1 o = some (put o 0) := next_zero hc0 ho0
  have h2 : nextF c 1 (put o 0) = none := by rw [next_one hc0 (by simp [put])]; rfl
  rw [memT_some h1, memT_none h2, hdr_one, hdr_one, ho0]
  have h3 : put o 0 0 = true := by simp [put]
  rw [h3]
  rfl
attribute [local go_sem] cv cs wv
set_option maxRecDepth 100000 in
set_option maxHeartbeats 4000000 in
theorem tmembers_walk (s : ByteArray) (hs : s.size ≤ maxLen) (x : Int) (wx : (Lit.int .i64 x).wf = true) (y : Int) (wy : (Lit.int .i64 y).wf = true) (w : World) :
    Calls Try.prog 16 #[.string s, .int .i64 x, .int .i64 y] w fun e w' => e = .returned (.bool true) ∧ Below w.heap.size w w' := by
  obtain ⟨n, c, o, hC⟩ : ∃ n c o, Cub (cubeT s.data.toList) n c o := ⟨_, _, _, Cub.of _⟩
  have hn := hC.nrm.le
  have HC := Lib.hid hC
  clear hC
  have hx := clamp_le x 10000 (by decide)
  have hy := clamp_le y 10000 (by decide)
  go_enter Try.func16, Try.ntmps16
  go_wp2_with fail
  refine (made_any s hs HC.out _).mono ?_
  rintro e w1 ⟨rfl, hb1⟩
  go_wp2_with fail
  refine (rcube_any s _ hs).mono ?_
  rintro e w' ⟨rfl, rfl⟩
  go_wp2_with fail
  refine (within_law x 10000 (by decide) _).mono ?_
  rintro e w' ⟨rfl, rfl⟩
  go_wp2_with fail
  refine (within_law y 10000 (by decide) _).mono ?_
  rintro e w' ⟨rfl, rfl⟩
  have hbc := Blk.new w1 30 (cs n c o)
  have g1 := bal hb1 (.cells (cs n c o) 30)
  generalize hA : clamp x 10000 = k1 at *
  generalize hB : clamp y 10000 = k2 at *
  have HBC := Lib.hid hbc
  have HG1 := Lib.hid g1
  clear hbc g1 hb1 hA hB
  go_wp2_with fail
  refine (some_any (c := c) (o := o) hn k1 (by omega) _).mono ?_
  rintro e w2 ⟨v2, rfl, ho2, hb2⟩
  have hbc2 := HBC.out.below hb2 (by simp)
  have hc2 := hbc2.cell
  have hlt2 := hbc2.lt
  have HB2 := Lib.hid (bnx HG1.out hb2)
  have HO2 := Lib.hid ho2
  clear ho2 hb2
  go_wp2_with fail
  refine (some_any (c := c) (o := o) hn k2 (by omega) _).mono ?_
  rintro e w3 ⟨v3, rfl, ho3, hb3⟩
  have HB3 := Lib.hid (bnx HB2.out hb3)
  have HO2' := Lib.hid (own_below HO2.out hb3 (Nat.le_refl _))
  have HO3 := Lib.hid ho3
  clear ho3 hb3 hc2 hbc2 HO2 HB2
  go_wp2_with fail
  refine (all_any 1 _).mono ?_
  rintro e w4 ⟨n1, c1, o1, hC1, rfl, hb4⟩
  have HM1 := Lib.hid (mem_all1 hC1)
  have hn1 := hC1.nrm.le
  have HB4 := Lib.hid (bnx HB3.out hb4)
  have HO2 := Lib.hid (own_below HO2'.out hb4 (Nat.le_refl _))
  have HO3' := Lib.hid (own_below HO3.out hb4 (Nat.le_refl _))
  clear hb4 HO2' HO3 HB3 hC1
  go_wp2_with fail
  refine (some_any (c := c1) (o := o1) hn1 5 (by omega) _).mono ?_
  rintro e w5 ⟨v5, rfl, ho5, hb5⟩
  rw [HM1.out] at ho5
  have HB5 := Lib.hid (bnx HB4.out hb5)
  have HO2' := Lib.hid (own_below HO2.out hb5 (Nat.le_refl _))
  have HO3 := Lib.hid (own_below HO3'.out hb5 (Nat.le_refl _))
  have HO5 := Lib.hid ho5
  clear hb5 ho5 HO2 HO3' HB4
  go_wp2_with fail
  refine (rmembers_any (str (cubeT s.data.toList)) HC.out k1 (by omega) _).mono ?_
  rintro e w6 ⟨v6, rfl, ho6, hb6⟩
  have HB6 := Lib.hid (bnx HB5.out hb6)
  have HO2 := Lib.hid (own_below HO2'.out hb6 (Nat.le_refl _))
  have HO3' := Lib.hid (own_below HO3.out hb6 (Nat.le_refl _))
  have HO5' := Lib.hid (own_below HO5.out hb6 (Nat.le_refl _))
  have HO6 := Lib.hid ho6
  clear hb6 ho6 HO2' HO3 HO5 HB5
  have hl1 : ((memAll n c o).take k1).length ≤ 1000000 := by rw [List.length_take]; omega
  have hl2 : ((memAll n c o).take k2).length ≤ 1000000 := by rw [List.length_take]; omega
  go_wp2_with fail
  refine (same_yes _ v2 v6 _ _ _ HO2.out HO6.out hl1).mono ?_
  rintro e w7 ⟨rfl, hb7⟩
  have HB7 := Lib.hid (bnx HB6.out hb7)
  have HO3 := Lib.hid (own_below HO3'.out hb7 (Nat.le_refl _))
  have HO5 := Lib.hid (own_below HO5'.out hb7 (Nat.le_refl _))
  clear hb7 HO2 HO3' HO5' HB6 HO6
  go_wp2_with fail
  refine (rmembers_any (str (cubeT s.data.toList)) HC.out k2 (by omega) _).mono ?_
  rintro e w8 ⟨v8, rfl, ho8, hb8⟩
  have HB8 := Lib.hid (bnx HB7.out hb8)
  have HO3' := Lib.hid (own_below HO3.out hb8 (Nat.le_refl _))
  have HO5' := Lib.hid (own_below HO5.out hb8 (Nat.le_refl _))
  have HO8 := Lib.hid ho8
  clear hb8 ho8 HO3 HO5 HB7
  go_wp2_with fail
  refine (same_yes _ v3 v8 _ _ _ HO3'.out HO8.out hl2).mono ?_
  rintro e w9 ⟨rfl, hb9⟩
  have HB9 := Lib.hid (bnx HB8.out hb9)
  have HO5 := Lib.hid (own_below HO5'.out hb9 (Nat.le_refl _))
  clear hb9 HO3' HO5' HB8 HO8
  go_wp2_with fail
  have ho10 := own_new w9 9 (srow [[48], [49]]) 2 rfl (by decide) (by decide) (Nat.le_refl _)
  have hb10 : Below w.heap.size w (w9.alloc (.cells (srow [[48], [49]]).toArray 9)) := bal HB9.out _
  have HO5' := own_below HO5.out ((Below.refl w9.heap.size w9).alloc (Nat.le_refl _) (.cells (srow [[48], [49]]).toArray 9)) (Nat.le_refl _)
  refine (same_yes [[48], [49]] v5 _ _ _ _ HO5' ho10 (by decide)).mono ?_
  rintro e w11 ⟨rfl, hb11⟩
  have hb12 := bnx hb10 hb11
  clear ho10 hb10 HO5' hb11
  go_wp2_with fail
  go_ret
  exact ⟨rfl, hb12⟩
end Go.Proofs.Ytdiijannpfogdaa.Tn
