/- The program's values. -/
import Derived.Test.YtaleaicfllcpiaaDoorVq
import Derived.BigQuiet
import Derived.Deep.QuietTactic
namespace Go.Proofs.YtaleaicfllcpiaaDoor.Fl
open Go.RowKit Mm Law
set_option linter.unusedSimpArgs false
set_option linter.unusedSectionVars false
set_option linter.unusedVariables false
set_option maxRecDepth 100000 in
set_option maxHeartbeats 8000000 in
theorem values_3 (nm : ByteArray) (lo b : Nat) (hb : b ≤ 32) (hlo : lo ≤ topN b) (w : World) :
    Calls Tryd.prog 58 #[.agg #[.string nm, .int .i64 3, .int .i64 1, .int .i64 (lo : Int), .int .i64 0, .int .i64 0, .string ⟨#[]⟩], .int .i64 (b : Int)] w (StrRow w ((gre b 0 lo).map (preT b))) := by
  have htb := top_lt b hb
  have HC := Lib.hid (fun w => cov_at b 0 lo (0) ((lo : Int) - 1) hb (by omega) (by omega) (by omega) (by omega) w)
  have HT := Lib.hid (fun w => (top_any b (by omega) w).mono (fun _ _ x => And.intro x.1 x.2.symm))
  have hlo2 : lo ≤ 4294967296 := by omega
  clear htb hlo
  go_enter Tryd.func58, Tryd.ntmps58
  go_wp2_with fail
  go_quiet (fail)
  go_wp2_with fail
  refine (HC.out _).mono ?_
  rintro e w1 ⟨v1, rfl, ho1, hb1⟩
  go_wp2_with fail
  go_ret
  exact str_row (below_drewN (bal (Below.refl _ _) _) _) ho1 hb1
set_option maxRecDepth 100000 in
set_option maxHeartbeats 8000000 in
theorem values_4 (nm : ByteArray) (lo b : Nat) (hb : b ≤ 32) (hlo : lo ≤ topN b) (w : World) :
    Calls Tryd.prog 58 #[.agg #[.string nm, .int .i64 4, .int .i64 1, .int .i64 (lo : Int), .int .i64 0, .int .i64 0, .string ⟨#[]⟩], .int .i64 (b : Int)] w (StrRow w ((gre b 0 (lo + 1)).map (preT b))) := by
  have htb := top_lt b hb
  have HC := Lib.hid (fun w => cov_at b 0 (lo + 1) (0) ((lo : Int)) hb (by omega) (by omega) (by omega) (by omega) w)
  have HT := Lib.hid (fun w => (top_any b (by omega) w).mono (fun _ _ x => And.intro x.1 x.2.symm))
  have hlo2 : lo ≤ 4294967296 := by omega
  clear htb hlo
  go_enter Tryd.func58, Tryd.ntmps58
  go_wp2_with fail
  go_quiet (fail)
  go_wp2_with fail
  refine (HC.out _).mono ?_
  rintro e w1 ⟨v1, rfl, ho1, hb1⟩
  go_wp2_with fail
  go_ret
  exact str_row (below_drewN (bal (Below.refl _ _) _) _) ho1 hb1
set_option maxRecDepth 100000 in
set_option maxHeartbeats 8000000 in
theorem values_5 (nm : ByteArray) (lo b : Nat) (hb : b ≤ 32) (hlo : lo ≤ topN b) (w : World) :
    Calls Tryd.prog 58 #[.agg #[.string nm, .int .i64 5, .int .i64 1, .int .i64 (lo : Int), .int .i64 0, .int .i64 0, .string ⟨#[]⟩], .int .i64 (b : Int)] w (StrRow w ((gre b (lo + 1) (2 ^ b)).map (preT b))) := by
  have htb := top_lt b hb
  have HC := Lib.hid (fun w => cov_at b (lo + 1) (2 ^ b) ((lo : Int) + 1) ((topN b : Int)) hb (by omega) (by omega) (by omega) (by omega) w)
  have HT := Lib.hid (fun w => (top_any b (by omega) w).mono (fun _ _ x => And.intro x.1 x.2.symm))
  have hlo2 : lo ≤ 4294967296 := by omega
  clear htb hlo
  go_enter Tryd.func58, Tryd.ntmps58
  go_wp2_with fail
  go_quiet (fail)
  go_wp2_with fail
  refine (HT.out _).mono ?_
  rintro e w0 ⟨rfl, rfl⟩
  go_wp2_with fail
  refine (HC.out _).mono ?_
  rintro e w1 ⟨v1, rfl, ho1, hb1⟩
  go_wp2_with fail
  go_ret
  exact str_row (below_drewN (bal (Below.refl _ _) _) _) ho1 hb1
set_option maxRecDepth 100000 in
set_option maxHeartbeats 8000000 in
theorem values_6 (nm : ByteArray) (lo b : Nat) (hb : b ≤ 32) (hlo : lo ≤ topN b) (w : World) :
    Calls Tryd.prog 58 #[.agg #[.string nm, .int .i64 6, .int .i64 1, .int .i64 (lo : Int), .int .i64 0, .int .i64 0, .string ⟨#[]⟩], .int .i64 (b : Int)] w (StrRow w ((gre b lo (2 ^ b)).map (preT b))) := by
  have htb := top_lt b hb
  have HC := Lib.hid (fun w => cov_at b lo (2 ^ b) ((lo : Int)) ((topN b : Int)) hb (by omega) (by omega) (by omega) (by omega) w)
  have HT := Lib.hid (fun w => (top_any b (by omega) w).mono (fun _ _ x => And.intro x.1 x.2.symm))
  have hlo2 : lo ≤ 4294967296 := by omega
  clear htb hlo
  go_enter Tryd.func58, Tryd.ntmps58
  go_wp2_with fail
  go_quiet (fail)
  go_wp2_with fail
  refine (HT.out _).mono ?_
  rintro e w0 ⟨rfl, rfl⟩
  go_wp2_with fail
  refine (HC.out _).mono ?_
  rintro e w1 ⟨v1, rfl, ho1, hb1⟩
  go_wp2_with fail
  go_ret
  exact str_row (below_drewN (bal (Below.refl _ _) _) _) ho1 hb1
set_option maxRecDepth 100000 in
set_option maxHeartbeats 8000000 in
theorem values_e1 (nm : ByteArray) (fo lo hi ln : Int) (pt : ByteArray) (b : Nat) (L : List (List UInt8)) (HE : Hid (∀ w, Calls Tryd.prog 89 #[.agg #[.string nm, .int .i64 1, .int .i64 fo, .int .i64 lo, .int .i64 hi, .int .i64 ln, .string pt], .int .i64 (b : Int)] w (StrRow w L))) (w : World) :
    Calls Tryd.prog 58 #[.agg #[.string nm, .int .i64 1, .int .i64 fo, .int .i64 lo, .int .i64 hi, .int .i64 ln, .string pt], .int .i64 (b : Int)] w (StrRow w L) := by
  go_enter Tryd.func58, Tryd.ntmps58
  go_wp2_with fail
  go_quiet (fail)
  go_wp2_with fail
  refine (HE.out _).mono ?_
  rintro e w1 ⟨v1, rfl, ho1, hb1⟩
  go_wp2_with fail
  go_ret
  exact str_row (below_drewN (bal (Below.refl _ _) _) _) ho1 hb1
set_option maxRecDepth 100000 in
set_option maxHeartbeats 8000000 in
theorem values_e2 (nm : ByteArray) (fo lo hi ln : Int) (pt : ByteArray) (b : Nat) (L : List (List UInt8)) (HE : Hid (∀ w, Calls Tryd.prog 89 #[.agg #[.string nm, .int .i64 2, .int .i64 fo, .int .i64 lo, .int .i64 hi, .int .i64 ln, .string pt], .int .i64 (b : Int)] w (StrRow w L))) (w : World) :
    Calls Tryd.prog 58 #[.agg #[.string nm, .int .i64 2, .int .i64 fo, .int .i64 lo, .int .i64 hi, .int .i64 ln, .string pt], .int .i64 (b : Int)] w (StrRow w L) := by
  go_enter Tryd.func58, Tryd.ntmps58
  go_wp2_with fail
  go_quiet (fail)
  go_wp2_with fail
  refine (HE.out _).mono ?_
  rintro e w1 ⟨v1, rfl, ho1, hb1⟩
  go_wp2_with fail
  go_ret
  exact str_row (below_drewN (bal (Below.refl _ _) _) _) ho1 hb1
theorem preT_form (b v k : Nat) (hk : k ≤ b) : (preT b (v, k)).length = b ∧ ∀ x ∈ preT b (v, k), x ∈ dShow := by
  refine ⟨preT_len hk, fun x hx => ?_⟩
  unfold preT at hx
  rcases List.mem_append.1 hx with h | h
  · unfold hiB at h
    obtain ⟨i, _, rfl⟩ := List.mem_map.1 h
    unfold bitB dShow
    split <;> simp
  · have := List.eq_of_mem_replicate h
    subst this
    decide
theorem one_form {T : Tst} {b : Nat} (h : Good b T) (h3 : T.fo ≠ 3) : (oneT T b).length = b ∧ ∀ x ∈ oneT T b, x ∈ dShow := by
  cases h with
  | num nm op lo h1 h2 hlo => exact preT_form b lo 0 (Nat.zero_le _)
  | pre nm op lo ln h1 hlo hln hp => exact preT_form b lo (b - ln) (Nat.sub_le _ _)
  | rng nm op lo hi h1 hlo hhi => exact absurd rfl h3
  | pat nm op pt h1 hs hd => exact ⟨by show pt.data.toList.length = b; rw [len_s]; exact hs, hd⟩
theorem values_any (T : Tst) (b : Nat) (h1 : 1 ≤ b) (hb : b ≤ 32) (h : Good b T) (w : World) : Calls Tryd.prog 58 #[T.val, .int .i64 (b : Int)] w (StrRow w (valT T b)) := by
  have hone := fun (h3 : T.fo ≠ 3) w => one_any T b hb h h3 w
  have hform := fun (h3 : T.fo ≠ 3) => one_form h h3
  have key : (T.op = 1 ∨ T.op = 2) → T.fo ≠ 3 → Calls Tryd.prog 58 #[T.val, .int .i64 (b : Int)] w (StrRow w (if T.op = 1 then [oneT T b] else othT (oneT T b))) := by
    intro hop h3
    have hq : (T.fo == 3) = false := by simpa using h3
    have HO := Lib.hid (hone h3)
    obtain ⟨f1, f2⟩ := hform h3
    generalize oneT T b = c at *
    clear hone hform h
    obtain ⟨nm, op, fo, lo, hi, ln, pt⟩ := T
    simp only at hop hq
    rcases hop with rfl | rfl
    · rw [if_pos rfl]
      exact values_e1 nm fo lo hi ln pt b _ (Lib.hid (fun w => either_is nm fo lo hi ln pt b c hq HO w)) w
    · rw [if_neg (by show ¬ (2 : Int) = 1; decide)]
      exact values_e2 nm fo lo hi ln pt b _ (Lib.hid (fun w => either_not nm fo lo hi ln pt b c hq f1 h1 hb f2 HO w)) w
  have kv : (T.op = 1 ∨ T.op = 2) → T.fo ≠ 3 → valT T b = if T.op = 1 then [oneT T b] else othT (oneT T b) := by
    intro hop h3
    unfold valT
    rw [if_neg (by omega), if_neg (by omega), if_neg (by omega), if_neg (by omega), if_neg h3]
  cases h with
  | num nm op lo g1 g2 hlo =>
    have hop : (op = 1 ∨ op = 2) ∨ op = 3 ∨ op = 4 ∨ op = 5 ∨ op = 6 := by omega
    rcases hop with hop | rfl | rfl | rfl | rfl
    · rw [kv hop (by show (1 : Int) ≠ 3; decide)]; exact key hop (by show (1 : Int) ≠ 3; decide)
    · exact values_3 nm lo b hb hlo w
    · exact values_4 nm lo b hb hlo w
    · exact values_5 nm lo b hb hlo w
    · exact values_6 nm lo b hb hlo w
  | pre nm op lo ln g1 hlo hln hp => rw [kv g1 (by show (2 : Int) ≠ 3; decide)]; exact key g1 (by show (2 : Int) ≠ 3; decide)
  | rng nm op lo hi g1 hlo hhi =>
    rcases g1 with rfl | rfl
    · exact values_e1 nm 3 lo hi 0 ⟨#[]⟩ b _ (Lib.hid (fun w => either_rng nm lo hi b hb hlo hhi w)) w
    · exact values_e2 nm 3 lo hi 0 ⟨#[]⟩ b _ (Lib.hid (fun w => either_nrng nm lo hi b hb hlo hhi w)) w
  | pat nm op pt g1 hs hd => rw [kv g1 (by show (4 : Int) ≠ 3; decide)]; exact key g1 (by show (4 : Int) ≠ 3; decide)
end Go.Proofs.YtaleaicfllcpiaaDoor.Fl
