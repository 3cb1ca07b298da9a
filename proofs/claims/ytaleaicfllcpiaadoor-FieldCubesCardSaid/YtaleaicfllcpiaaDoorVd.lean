/- The document's one, other and from. -/
import Derived.Test.YtaleaicfllcpiaaDoorVr
namespace Go.Proofs.YtaleaicfllcpiaaDoor.Fl
open Go.RowKit Mm Law
set_option linter.unusedSimpArgs false
set_option linter.unusedSectionVars false
set_option linter.unusedVariables false
theorem preT_zero (b v : Nat) : preT b (v, 0) = hiB v b b := by unfold preT; simp
theorem preT_cut (b v n : Nat) (hn : n ≤ b) : preT b (v, b - n) = hiB v b n ++ List.replicate (b - n) 120 := by
  unfold preT
  rw [show b - (b - n) = n from by omega]
theorem hiB_take (v b n : Nat) (hn : n ≤ b) : (hiB v b b).take n = hiB v b n := by
  unfold hiB
  rw [← List.map_take, List.take_range, Nat.min_eq_left hn]
set_option maxRecDepth 100000 in
set_option maxHeartbeats 4000000 in
theorem rone_num (nm : ByteArray) (op : Int) (lo b : Nat) (hb : b ≤ 32) (hlo : lo ≤ topN b) (w : World) :
    Calls Tryd.prog 87 #[.agg #[.string nm, .int .i64 op, .int .i64 1, .int .i64 (lo : Int), .int .i64 0, .int .i64 0, .string ⟨#[]⟩], .int .i64 (b : Int)] w fun e w' => e = .returned (.string (str (preT b (lo, 0)))) ∧ Below w.heap.size w w' := by
  have htb := top_lt b hb
  have HP := Lib.hid (fun w => digits_any lo b (by omega) hb w)
  rw [← preT_zero] at HP
  clear htb
  go_enter Tryd.func87, Tryd.ntmps87
  go_wp2_with fail
  refine (HP.out _).mono ?_
  rintro e w1 ⟨rfl, hb1⟩
  go_wp2_with fail
  go_ret
  exact ⟨rfl, bnx (bal (Below.refl _ _) _) hb1⟩
set_option maxRecDepth 100000 in
set_option maxHeartbeats 4000000 in
theorem rone_pat (nm : ByteArray) (op : Int) (pt : ByteArray) (b : Nat) (w : World) :
    Calls Tryd.prog 87 #[.agg #[.string nm, .int .i64 op, .int .i64 4, .int .i64 0, .int .i64 0, .int .i64 0, .string pt], .int .i64 (b : Int)] w fun e w' => e = .returned (.string pt) ∧ Below w.heap.size w w' := by
  go_enter Tryd.func87, Tryd.ntmps87
  go_wp2_with fail
  go_ret
  exact ⟨rfl, bal (Below.refl _ _) _⟩
set_option maxRecDepth 100000 in
set_option maxHeartbeats 8000000 in
theorem rone_pre (nm : ByteArray) (op : Int) (lo ln b : Nat) (hb : b ≤ 32) (hlo : lo ≤ topN b) (hln : ln ≤ b) (w : World) :
    Calls Tryd.prog 87 #[.agg #[.string nm, .int .i64 op, .int .i64 2, .int .i64 (lo : Int), .int .i64 0, .int .i64 (ln : Int), .string ⟨#[]⟩], .int .i64 (b : Int)] w fun e w' => e = .returned (.string (str (preT b (lo, b - ln)))) ∧ Below w.heap.size w w' := by
  have htb := top_lt b hb
  have H1 := Lib.hid (fun w => digits_any lo b (by omega) hb w)
  have H2 := Lib.hid (fun w => xs_any (b - ln) (by omega) w)
  rw [show ((b - ln : Nat) : Int) = (b : Int) - (ln : Int) from by omega] at H2
  have e1 : (str (hiB lo b b)).extract 0 ln = str (hiB lo b ln) := by rw [ext_take, str_list, List.drop_zero, Nat.sub_zero, hiB_take lo b ln hln]
  have hs0 : (str (hiB lo b b)).size = b := by rw [str_size, hiB_len]
  have hsl : ∀ W : World, (Instr.slice 9 (.string (str (hiB lo b b))) none (some (.int .i64 (ln : Int))) none).run Tryd.prog W = .ok (.string (str (hiB lo b ln))) W := fun W => by
    rw [run_slice_string_to_if (P := Tryd.prog) W 9 (str (hiB lo b b)) .i64 (ln : Int) Tryd.underlying9, if_pos (by omega), show ((ln : Int)).toNat = ln from by omega, e1]
  have hs1 : (str (hiB lo b ln)).size = ln := by rw [str_size, hiB_len]
  have hs2 : (str (List.replicate (b - ln) (120 : UInt8))).size = b - ln := by rw [str_size, List.length_replicate]
  have HR := Lib.hid (show str (hiB lo b ln) ++ str (List.replicate (b - ln) 120) = str (preT b (lo, b - ln)) from by rw [str_app, preT_cut b lo ln hln])
  have hw1 : IntKind.i64.wrap ((b : Int) - (ln : Int)) = (b : Int) - (ln : Int) := IntWalk.i64_in _ (by omega)
  rw [← HR.out]
  generalize str (hiB lo b b) = s0 at *
  generalize str (hiB lo b ln) = s1 at *
  generalize str (List.replicate (b - ln) (120 : UInt8)) = s2 at *
  have hss : ¬ 9223372036854775807 < s1.size + s2.size := by omega
  clear htb e1 hs1 hs2 hs0 HR
  go_enter Tryd.func87, Tryd.ntmps87
  go_wp2_with fail
  have hN := EiS.new w #[.string nm, .int .i64 op, .int .i64 2, .int .i64 (lo : Int), .int .i64 0, .int .i64 (ln : Int), .string ⟨#[]⟩]
  generalize hW : World.alloc w _ = W at *
  have hD : EiS w #[.string nm, .int .i64 op, .int .i64 2, .int .i64 (lo : Int), .int .i64 0, .int .i64 (ln : Int), .string ⟨#[]⟩] W.drew := ⟨hN.1.drew, hN.2.drew⟩
  have hK0 : W.drew.cell? ⟨w.heap.size, 3, none⟩ = some (.int .i64 (lo : Int)) ∧ W.drew.cell? ⟨w.heap.size, 5, none⟩ = some (.int .i64 (ln : Int)) ∧ Below w.heap.size w W.drew := ⟨hD.1.cell 3, hD.1.cell 5, hD.2⟩
  clear hW hN
  go_region_held3 (fun w' => w'.cell? ⟨w.heap.size, 3, none⟩ = some (.int .i64 (lo : Int)) ∧ w'.cell? ⟨w.heap.size, 5, none⟩ = some (.int .i64 (ln : Int)) ∧ Below w.heap.size w w')
    (with_reducible (first | assumption | exact hK0 | exact hK1 | exact hK3 | fail))
    (first | (go_at_call 105; refine (H1.out _).mono ?_; rintro e w1 ⟨rfl, hb1⟩; have hD1 := EiS.go hD hb1; have hK1 : w1.cell? ⟨w.heap.size, 3, none⟩ = some (.int .i64 (lo : Int)) ∧ w1.cell? ⟨w.heap.size, 5, none⟩ = some (.int .i64 (ln : Int)) ∧ Below w.heap.size w w1 := ⟨hD1.1.cell 3, hD1.1.cell 5, hD1.2⟩) | (go_at_call 56; refine (H2.out _).mono ?_; rintro e w3 ⟨rfl, hb3⟩; have hD3 := EiS.go hD1 hb3; have hK3 : w3.cell? ⟨w.heap.size, 3, none⟩ = some (.int .i64 (lo : Int)) ∧ w3.cell? ⟨w.heap.size, 5, none⟩ = some (.int .i64 (ln : Int)) ∧ Below w.heap.size w w3 := ⟨hD3.1.cell 3, hD3.1.cell 5, hD3.2⟩) | fail)
  go_wp2_with fail
  go_ret
  exact ⟨rfl, hD3.2⟩
theorem rone_any (T : Tst) (b : Nat) (hb : b ≤ 32) (h : Good b T) (h3 : T.fo ≠ 3) (w : World) :
    Calls Tryd.prog 87 #[T.val, .int .i64 (b : Int)] w fun e w' => e = .returned (.string (str (oneT T b))) ∧ Below w.heap.size w w' := by
  cases h with
  | num nm op lo h1 h2 hlo => exact rone_num nm op lo b hb hlo w
  | pre nm op lo ln h1 hlo hln hp => exact rone_pre nm op lo ln b hb hlo hln w
  | rng nm op lo hi h1 hlo hhi => exact absurd rfl h3
  | pat nm op pt h1 hs hd => exact rone_pat nm op pt b w
set_option maxRecDepth 100000 in
set_option maxHeartbeats 4000000 in
theorem rfrom_at (b x0 e : Nat) (x1 hi : Int) (hb : b ≤ 32) (hx0 : x0 ≤ 4294967296) (he : e ≤ 2 ^ b) (h1 : x1 = (x0 : Int)) (hhi : hi + 1 = (e : Int)) (w : World) :
    Calls Tryd.prog 86 #[.int .i64 (b : Int), .int .i64 x1, .int .i64 hi] w (StrRow w ((gre b x0 e).map (preT b))) := by
  subst h1
  have htb := top_lt b hb
  have HT := Lib.hid (fun w => (rtop_any b (by omega) w).mono (fun _ _ x => And.intro x.1 x.2.symm))
  by_cases hlt : x0 < e
  · have HH := Lib.hid (halves_any b x0 e hi hb hx0 (by omega) hhi b 0 0 (by omega) (by omega))
    unfold HalAt at HH
    rw [hal_top b x0 e he] at HH
    have y1 : (x0 : Int) ≤ hi := by omega
    have y2 : hi ≤ (topN b : Int) := by omega
    have y3 : (0 : Int) ≤ (x0 : Int) := by omega
    have HL := Lib.hid (show ((gre b x0 e).map (preT b)).length = (gre b x0 e).length from List.length_map _)
    generalize gre b x0 e = G at *
    clear htb hlt hhi he hx0
    go_enter Tryd.func86, Tryd.ntmps86
    go_wp2_with fail
    refine (HT.out _).mono ?_
    rintro e w0 ⟨rfl, rfl⟩
    go_wp2_with fail
    refine (HH.out _).mono ?_
    rintro e w1 ⟨v1, rfl, ho1, hb1⟩
    go_wp2_with fail
    go_ret
    exact ⟨_, rfl, by rw [HL.out]; exact ho1, hb1⟩
  · have HG := Lib.hid (gre_no (b := b) (x := x0) (e := e) (by omega))
    rw [HG.out]
    have y1 : hi < (x0 : Int) := by omega
    clear htb hlt hhi he hx0
    go_enter Tryd.func86, Tryd.ntmps86
    go_wp2_with fail
    go_ret
    exact ⟨_, rfl, World.ownsRow_nil _ _ _ _, Below.refl _ _⟩
end Go.Proofs.YtaleaicfllcpiaaDoor.Fl
