import Derived.Test.YtdiijannpfogdaaTn
import Derived.Test.YtdiijannpfogdaaTt
namespace Go.Proofs.Ytdiijannpfogdaa.Tn
open Go.RowKit
attribute [local go_sem] cv cs wv eq_arr
theorem wf_small (b : Nat) (h : b < 1000) : (Lit.int .i64 (b : Int)).wf = true := WalkArith.wf_i64 (by omega)
theorem cubeT_size (l : List UInt8) : (str (cubeT l)).size ≤ 256 := by rw [str_size]; exact (cubeT_ok l).1
theorem bnx {w a b : World} (h : Below w.heap.size w a) (k : Below a.heap.size a b) : Below w.heap.size w b := h.trans (k.mono h.size)
theorem bal {w a : World} (h : Below w.heap.size w a) (o : Obj) : Below w.heap.size w (a.alloc o) := h.alloc h.size o
set_option maxHeartbeats 1000000 in
theorem alls_walk (b : Int) (wb : (Lit.int .i64 b).wf = true) (w : World) : Calls Try.prog 5 #[.int .i64 b] w fun e w' => e = .returned (.bool true) ∧ Below w.heap.size w w' := by
  have HB := Lib.hid wb
  clear wb
  go_enter Try.func5, Try.ntmps5
  go_wp2_with fail
  refine (all_any 1 _).mono ?_
  rintro e w1 ⟨n1, c1, o1, hC1, rfl, hb1⟩
  have H1 := Lib.hid hC1
  clear hC1
  go_wp2_with fail
  refine (is_any H1.out (str [120]) (by decide) _).mono ?_
  rintro e w2 ⟨rfl, hb2⟩
  go_wp2_with fail
  refine (all_any b _).mono ?_
  rintro e w3 ⟨n3, c3, o3, hC3, rfl, hb3⟩
  have H3 := Lib.hid hC3
  clear hC3
  go_wp2_with fail
  refine (rall_any b _ HB.out).mono ?_
  rintro e w4 ⟨rfl, hb4⟩
  go_wp2_with fail
  refine (is_any H3.out (str (allT b)) rfl _).mono ?_
  rintro e w5 ⟨rfl, hb5⟩
  go_wp2_with fail
  go_ret
  exact ⟨rfl, bnx (bnx (bnx (bnx hb1 hb2) hb3) hb4) hb5⟩
set_option maxHeartbeats 2000000 in
theorem writes_walk (s1 : ByteArray) (h1 : s1.size ≤ maxLen) (s2 : ByteArray) (h2 : s2.size ≤ maxLen) (w : World) : Calls Try.prog 6 #[.string s1, .string s2] w fun e w' => e = .returned (.bool true) ∧ Below w.heap.size w w' := by
  obtain ⟨n, c, o, hC⟩ : ∃ n c o, Cub (cubeT s1.data.toList) n c o := ⟨_, _, _, Cub.of _⟩
  obtain ⟨m, d, p, hD⟩ : ∃ n c o, Cub (cubeT s2.data.toList) n c o := ⟨_, _, _, Cub.of _⟩
  have HC := Lib.hid hC
  have HD := Lib.hid hD
  clear hC hD
  go_enter Try.func6, Try.ntmps6
  go_wp2_with fail
  refine (made_any s1 h1 HC.out _).mono ?_
  rintro e w1 ⟨rfl, hb1⟩
  go_wp2_with fail
  refine (made_any s2 h2 HD.out _).mono ?_
  rintro e w2 ⟨rfl, hb2⟩
  have hB1 : Blk w2 w1.heap.size 30 (cs n c o) := (Blk.new w1 30 (cs n c o)).below hb2 (by simp)
  have g2 : Below w.heap.size w w2 := bnx (bal hb1 _) hb2
  have hl1 := hB1.lt
  have hc1 := hB1.cell
  go_wp2_with fail
  refine (write_any HC.out HD.out _).mono ?_
  rintro e w3 ⟨n3, c3, o3, hC3, rfl, hb3⟩
  have g3 := bnx (bal g2 _) hb3
  have H3 := Lib.hid hC3
  clear hC3 hc1
  go_wp2_with fail
  refine (rcube_any s1 _ h1).mono ?_
  rintro e w' ⟨rfl, rfl⟩
  go_wp2_with fail
  refine (rcube_any s2 _ h2).mono ?_
  rintro e w' ⟨rfl, rfl⟩
  go_wp2_with fail
  refine (rwrite_any (str (cubeT s1.data.toList)) (str (cubeT s2.data.toList)) _ (cubeT_size _)).mono ?_
  rintro e w4 ⟨rfl, hb4⟩
  have g4 := bnx g3 hb4
  go_wp2_with fail
  refine (is_any H3.out _ rfl _).mono ?_
  rintro e w5 ⟨rfl, hb5⟩
  have g5 := bnx g4 hb5
  go_wp2_with fail
  refine (all_any 2 _).mono ?_
  rintro e w6 ⟨n6, c6, o6, hC6, rfl, hb6⟩
  have g6 := bnx g5 hb6
  have H6 := Lib.hid hC6
  clear hC6
  go_wp2_with fail
  refine (all_any 2 _).mono ?_
  rintro e w7 ⟨n7, c7, o7, hC7, rfl, hb7⟩
  have g7 := bnx g6 hb7
  have H7 := Lib.hid hC7
  clear hC7
  go_wp2_with fail
  refine (write_any H6.out H7.out _).mono ?_
  rintro e w8 ⟨n8, c8, o8, hC8, rfl, hb8⟩
  have g8 := bnx g7 hb8
  have H8 := Lib.hid hC8
  clear hC8
  go_wp2_with fail
  refine (is_any H8.out (str [120, 120]) (by decide) _).mono ?_
  rintro e w9 ⟨rfl, hb9⟩
  have g9 := bnx g8 hb9
  go_wp2_with fail
  go_ret
  exact ⟨rfl, g9⟩
set_option maxHeartbeats 2000000 in
theorem hass_walk (s1 : ByteArray) (h1 : s1.size ≤ maxLen) (s2 : ByteArray) (_ : s2.size ≤ maxLen) (w : World) : Calls Try.prog 7 #[.string s1, .string s2] w fun e w' => e = .returned (.bool true) ∧ Below w.heap.size w w' := by
  obtain ⟨n, c, o, hC⟩ : ∃ n c o, Cub (cubeT s1.data.toList) n c o := ⟨_, _, _, Cub.of _⟩
  have HC := Lib.hid hC
  clear hC
  go_enter Try.func7, Try.ntmps7
  go_wp2_with fail
  refine (made_any s1 h1 HC.out _).mono ?_
  rintro e w1 ⟨rfl, hb1⟩
  go_wp2_with fail
  refine (has_any HC.out s2 _).mono ?_
  rintro e w2 ⟨rfl, hb2⟩
  have g2 := bnx (bal hb1 _) hb2
  go_wp2_with fail
  refine (rcube_any s1 _ h1).mono ?_
  rintro e w' ⟨rfl, rfl⟩
  go_wp2_with fail
  refine (rhas_any (str (cubeT s1.data.toList)) s2 _ (cubeT_size _)).mono ?_
  rintro e w3 ⟨rfl, hb3⟩
  have g3 := bnx g2 hb3
  rw [str_list]
  go_wp2_with fail
  refine (all_any 2 _).mono ?_
  rintro e w4 ⟨n4, c4, o4, hC4, rfl, hb4⟩
  have g4 := bnx g3 hb4
  have H4 := Lib.hid hC4
  clear hC4
  go_wp2_with fail
  have hh := has_any H4.out (str [48, 49]) w4
  rw [show decide (hasOk (allT 2) (str [48, 49]).data.toList) = true from by decide] at hh
  refine hh.mono ?_
  clear hh
  rintro e w5 ⟨rfl, hb5⟩
  have g5 := bnx g4 hb5
  go_wp2_with fail
  go_ret
  exact ⟨rfl, g5⟩
end Go.Proofs.Ytdiijannpfogdaa.Tn
