/- The laws' fixed example; LedgerEncodes, LedgerReads. -/
import Derived.Test.YtndclkphglpknaaDoorRm
import Derived.Test.YtndclkphglpknaaDoorRr
import Derived.ChangeKeysEq
namespace Go.Proofs.YtndclkphglpknaaDoor.Lg
open Go.RowKit Mm
theorem rec_eql (a b : Int) (s : ByteArray) (w : World) : (binOp .eql 40 (.agg #[.int .i64 a, .int .i64 b, .string s]) (.agg #[.int .i64 a, .int .i64 b, .string s])).run Tryd.prog w = .ok (.bool true) w := by
  rw [run_eql_struct]
  simp [go_sem]
def ex : List UInt8 := enc 4 1 [55]
theorem ex_len : ex.length = 21 := by rfl
theorem ex_rd : rdE ex = 0 := by decide +kernel
theorem ex_parts : n4 ex 4 = 1 ∧ (bt ex 2).toNat = 4 ∧ rdT ex = [55] ∧ n4 ex 8 = 1 := by decide +kernel
theorem ex_read : readV ex 0 = .tuple #[.agg #[.int .i64 1, .int .i64 4, .string (str [55])], .int .i64 21, .int .i64 0] := by
  have h := readV_ok (l := ex) (k := 0) (Nat.zero_le _) (by rw [List.drop_zero]; exact ex_rd)
  rw [List.drop_zero] at h
  obtain ⟨p1, p2, p3, p4⟩ := ex_parts
  rw [p1, p2, p3, p4] at h
  exact h
theorem ex_enc : encE 4 1 [55] = 0 ∧ encT 4 1 [55] = ex := by
  have h : encE 4 1 [55] = 0 := by decide
  exact ⟨h, by unfold encT; rw [h]; rfl⟩
set_option maxRecDepth 100000 in
set_option maxHeartbeats 1000000 in
theorem fixed_yes (w : World) : Calls Tryd.prog 4 #[] w fun e w' => e = .returned (.bool true) ∧ Below w.heap.size w w' := by
  have hen := fun w => encode_any 1 4 ⟨#[55]⟩ w (by decide)
  rw [show (⟨#[55]⟩ : ByteArray).data.toList = [55] from rfl, ex_enc.1, ex_enc.2, ex_len] at hen
  have HE := Lib.hid hen
  have HR := Lib.hid (fun v w (h : Sees w v (bytesV ex)) => show Calls Tryd.prog 12 #[v, .int .i64 0] w fun e w' => e = .returned (.tuple #[.agg #[.int .i64 1, .int .i64 4, .string ⟨#[55]⟩], .int .i64 21, .int .i64 0]) ∧ Below w.heap.size w w' from by
    have := read_any ex v 0 w h
    rw [ex_read] at this
    exact this)
  have hq := rec_eql 1 4 ⟨#[55]⟩
  clear hen
  go_enter Tryd.func4, Tryd.ntmps4
  go_wp2_with fail
  refine (HE.out _).mono ?_
  rintro e w1 ⟨v, rfl, ho, hb1⟩
  obtain ⟨a1, cap1, hv⟩ := own_len ho
  subst hv
  have hS := Sees.of_own ho
  go_wp2_with fail
  refine (HR.out _ _ hS).mono ?_
  rintro e w2 ⟨rfl, hb2⟩
  go_wp2_with fail
  go_ret
  exact ⟨rfl, bal (bnx hb1 hb2) _⟩
theorem readV_form (l : List UInt8) (x : Int) : ∃ a b s nx E, readV l x = .tuple #[.agg #[.int .i64 a, .int .i64 b, .string s], .int .i64 nx, .int .i64 E] := by
  unfold readV
  split
  · exact ⟨_, _, _, _, _, rfl⟩
  · split
    · exact ⟨_, _, _, _, _, rfl⟩
    · exact ⟨_, _, _, _, _, rfl⟩
end Go.Proofs.YtndclkphglpknaaDoor.Lg
