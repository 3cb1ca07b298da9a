import Derived.Test.YtdiijannpfogdaaLw
namespace Go.Proofs.Ytdiijannpfogdaa.Tn
open Go.RowKit
attribute [local go_sem] cv cs wv eq_arr
set_option maxHeartbeats 2000000 in
theorem meets_walk (s1 : ByteArray) (h1 : s1.size ≤ maxLen) (s2 : ByteArray) (h2 : s2.size ≤ maxLen) (w : World) : Calls Try.prog 8 #[.string s1, .string s2] w fun e w' => e = .returned (.bool true) ∧ Below w.heap.size w w' := by
  obtain ⟨n, c, o, hC⟩ : ∃ n c o, Cub (cubeT s1.data.toList) n c o := ⟨_, _, _, Cub.of _⟩
  obtain ⟨m, d, p, hD⟩ : ∃ n c o, Cub (cubeT s2.data.toList) n c o := ⟨_, _, _, Cub.of _⟩
  have HC := Lib.hid hC
  have HD := Lib.hid hD
  clear hC hD
  go_enter Try.func8, Try.ntmps8
  go_wp2_with fail
  refine (made_any s1 h1 HC.out _).mono ?_
  rintro e w1 ⟨rfl, hb1⟩
  go_wp2_with fail
  refine (made_any s2 h2 HD.out _).mono ?_
  rintro e w2 ⟨rfl, hb2⟩
  have hB1 : Blk w2 w1.heap.size 30 (cs n c o) := (Blk.new w1 30 (cs n c o)).below hb2 (by simp)
  have g2 : Below w.heap.size w w2 := bnx (bal hb1 _) hb2
  have hl1 := hB1.lt
  have hc1 := hB1.cell
  go_wp2_with fail
  refine (meet_any HC.out HD.out _).mono ?_
  rintro e w3 ⟨n3, c3, o3, hC3, rfl, hb3⟩
  have g3 := bnx (bal g2 _) hb3
  have H3 := Lib.hid hC3
  clear hC3 hc1
  go_wp2_with fail
  refine (rcube_any s1 _ h1).mono ?_
  rintro e w' ⟨rfl, rfl⟩
  go_wp2_with fail
  refine (rcube_any s2 _ h2).mono ?_
  rintro e w' ⟨rfl, rfl⟩
  go_wp2_with fail
  refine (rmeet_any (str (cubeT s1.data.toList)) (str (cubeT s2.data.toList)) _ (cubeT_size _)).mono ?_
  rintro e w4 ⟨rfl, hb4⟩
  simp only [str_list]
  have g4 := bnx (bal g3 _) hb4
  have hB4 : Blk w4 w3.heap.size 30 (cs n3 c3 o3) := (Blk.new w3 30 (cs n3 c3 o3)).below hb4 (by simp)
  go_wp2_with fail
  refine (all_any 3 _).mono ?_
  rintro e w5 ⟨n5, c5, o5, hC5, rfl, hb5⟩
  have g5 := bnx g4 hb5
  have H5 := Lib.hid hC5
  clear hC5
  have hB5 := hB4.below hb5 hB4.lt
  go_wp2_with fail
  refine (all_any 3 _).mono ?_
  rintro e w6 ⟨n6, c6, o6, hC6, rfl, hb6⟩
  have g6 := bnx g5 hb6
  have H6 := Lib.hid hC6
  clear hC6
  have hB6 := hB5.below hb6 hB5.lt
  go_wp2_with fail
  have hm := meet_any H5.out H6.out w6
  rw [show decide (meetOk (allT 3) (allT 3)) = true from by decide] at hm
  refine hm.mono ?_
  clear hm
  rintro e w7 ⟨n7, c7, o7, hC7, rfl, hb7⟩
  have g7 := bnx g6 hb7
  have H7 := Lib.hid hC7
  have hB7 := hB6.below hb7 hB6.lt
  have hl7 := hB7.lt
  have hc7 := hB7.cell
  clear hC7
  go_wp2_with fail
  refine (is_any H3.out _ rfl _).mono ?_
  rintro e w8 ⟨rfl, hb8⟩
  have g8 := bnx (bal g7 _) hb8
  have hB8 : Blk w8 w7.heap.size 30 (cs n7 c7 o7) := (Blk.new w7 30 (cs n7 c7 o7)).below hb8 (by simp)
  have hc8 := hB8.cell
  clear hc7
  go_wp2_with fail
  refine (is_any H7.out (str [120, 120, 120]) (by decide) _).mono ?_
  rintro e w9 ⟨rfl, hb9⟩
  have g9 := bnx g8 hb9
  go_wp2_with fail
  go_ret
  exact ⟨rfl, g9⟩
set_option maxHeartbeats 2000000 in
theorem within_walk (s1 : ByteArray) (h1 : s1.size ≤ maxLen) (s2 : ByteArray) (h2 : s2.size ≤ maxLen) (w : World) : Calls Try.prog 10 #[.string s1, .string s2] w fun e w' => e = .returned (.bool true) ∧ Below w.heap.size w w' := by
  obtain ⟨n, c, o, hC⟩ : ∃ n c o, Cub (cubeT s1.data.toList) n c o := ⟨_, _, _, Cub.of _⟩
  obtain ⟨m, d, p, hD⟩ : ∃ n c o, Cub (cubeT s2.data.toList) n c o := ⟨_, _, _, Cub.of _⟩
  have HC := Lib.hid hC
  have HD := Lib.hid hD
  clear hC hD
  go_enter Try.func10, Try.ntmps10
  go_wp2_with fail
  refine (made_any s1 h1 HC.out _).mono ?_
  rintro e w1 ⟨rfl, hb1⟩
  go_wp2_with fail
  refine (made_any s2 h2 HD.out _).mono ?_
  rintro e w2 ⟨rfl, hb2⟩
  have hB1 : Blk w2 w1.heap.size 30 (cs n c o) := (Blk.new w1 30 (cs n c o)).below hb2 (by simp)
  have g2 : Below w.heap.size w w2 := bnx (bal hb1 _) hb2
  have hl1 := hB1.lt
  have hc1 := hB1.cell
  go_wp2_with fail
  refine (within_any HC.out HD.out _).mono ?_
  rintro e w3 ⟨rfl, hb3⟩
  have g3 := bnx (bal g2 _) hb3
  clear hc1
  go_wp2_with fail
  refine (rcube_any s1 _ h1).mono ?_
  rintro e w' ⟨rfl, rfl⟩
  go_wp2_with fail
  refine (rcube_any s2 _ h2).mono ?_
  rintro e w' ⟨rfl, rfl⟩
  go_wp2_with fail
  refine (rwithin_any (str (cubeT s1.data.toList)) (str (cubeT s2.data.toList)) _ (cubeT_size _)).mono ?_
  rintro e w4 ⟨rfl, hb4⟩
  simp only [str_list]
  have g4 := bnx g3 hb4
  go_wp2_with fail
  refine (all_any 5 _).mono ?_
  rintro e w5 ⟨n5, c5, o5, hC5, rfl, hb5⟩
  have g5 := bnx g4 hb5
  have H5 := Lib.hid hC5
  clear hC5
  go_wp2_with fail
  refine (all_any 5 _).mono ?_
  rintro e w6 ⟨n6, c6, o6, hC6, rfl, hb6⟩
  have g6 := bnx g5 hb6
  have H6 := Lib.hid hC6
  clear hC6
  go_wp2_with fail
  have hm := within_any H5.out H6.out w6
  rw [show decide (withinOk (allT 5) (allT 5)) = true from by decide] at hm
  refine hm.mono ?_
  clear hm
  rintro e w7 ⟨rfl, hb7⟩
  have g7 := bnx g6 hb7
  go_wp2_with fail
  go_ret
  exact ⟨rfl, g7⟩
set_option maxHeartbeats 2000000 in
theorem befores_walk (s1 : ByteArray) (h1 : s1.size ≤ maxLen) (s2 : ByteArray) (h2 : s2.size ≤ maxLen) (w : World) : Calls Try.prog 12 #[.string s1, .string s2] w fun e w' => e = .returned (.bool true) ∧ Below w.heap.size w w' := by
  obtain ⟨n, c, o, hC⟩ : ∃ n c o, Cub (cubeT s1.data.toList) n c o := ⟨_, _, _, Cub.of _⟩
  obtain ⟨m, d, p, hD⟩ : ∃ n c o, Cub (cubeT s2.data.toList) n c o := ⟨_, _, _, Cub.of _⟩
  have HC := Lib.hid hC
  have HD := Lib.hid hD
  clear hC hD
  go_enter Try.func12, Try.ntmps12
  go_wp2_with fail
  refine (made_any s1 h1 HC.out _).mono ?_
  rintro e w1 ⟨rfl, hb1⟩
  go_wp2_with fail
  refine (made_any s2 h2 HD.out _).mono ?_
  rintro e w2 ⟨rfl, hb2⟩
  have hB1 : Blk w2 w1.heap.size 30 (cs n c o) := (Blk.new w1 30 (cs n c o)).below hb2 (by simp)
  have g2 : Below w.heap.size w w2 := bnx (bal hb1 _) hb2
  have hl1 := hB1.lt
  have hc1 := hB1.cell
  go_wp2_with fail
  refine (before_any HC.out HD.out _).mono ?_
  rintro e w3 ⟨n3, c3, o3, hC3, rfl, hb3⟩
  have g3 := bnx (bal g2 _) hb3
  have H3 := Lib.hid hC3
  clear hC3 hc1
  go_wp2_with fail
  refine (rcube_any s1 _ h1).mono ?_
  rintro e w' ⟨rfl, rfl⟩
  go_wp2_with fail
  refine (rcube_any s2 _ h2).mono ?_
  rintro e w' ⟨rfl, rfl⟩
  go_wp2_with fail
  refine (rbefore_any (str (cubeT s1.data.toList)) (str (cubeT s2.data.toList)) _ (cubeT_size _)).mono ?_
  rintro e w4 ⟨rfl, hb4⟩
  simp only [str_list]
  have g4 := bnx (bal g3 _) hb4
  have hB4 : Blk w4 w3.heap.size 30 (cs n3 c3 o3) := (Blk.new w3 30 (cs n3 c3 o3)).below hb4 (by simp)
  have hc4 := hB4.cell
  go_wp2_with fail
  refine (is_any H3.out _ rfl _).mono ?_
  rintro e w5 ⟨rfl, hb5⟩
  have g5 := bnx g4 hb5
  clear hc4
  go_wp2_with fail
  refine (all_any 4 _).mono ?_
  rintro e w6 ⟨n6, c6, o6, hC6, rfl, hb6⟩
  have g6 := bnx g5 hb6
  have H6 := Lib.hid hC6
  clear hC6
  go_wp2_with fail
  refine (is_any H6.out (str [120, 120, 120, 120]) (by decide) _).mono ?_
  rintro e w9 ⟨rfl, hb9⟩
  have g9 := bnx g6 hb9
  go_wp2_with fail
  go_ret
  exact ⟨rfl, g9⟩
end Go.Proofs.Ytdiijannpfogdaa.Tn
