import Derived.Test.YtdiijannpfogdaaRows
import Derived.WalkKit
import Derived.BigQuiet
import Derived.BigRegion
import Derived.Deep.QuietTactic
import Derived.Handy
import Derived.Lib.Hide
namespace Go.Proofs.Ytdiijannpfogdaa.Nm
open Go.RowKit

set_option maxHeartbeats 400000 in
theorem num_any (n : Int) (w : World) : Calls Try.prog 40 #[.int .i64 n] w fun e w' => e = .returned (.int .i64 n) ∧ w = w' := by
  go_enter Try.func40, Try.ntmps40
  go_wp2
  go_ret
  exact ⟨rfl, rfl⟩

theorem wp_buildSlice {P : Program} {o : Oper} {a : Act} {K : Act → World → Prop} {Q : Exit → Act → World → Prop} {w w' : World} {t : TypeId} {len : Nat} {parts : Array (Nat × Operand)} {ps : List (Nat × Value)} {v : Value}
    (ho : o.op = .buildSlice t len parts) (hps : (parts.toList.map fun p => (p.1, a.eval p.2)) = ps) (hrun : (Instr.buildSlice t len ps.toArray).run P w = .ok v w') (h : K (a.put o.dst v) w') : o.wp P a w K Q := by
  have e : (parts.map fun (x : Nat × Operand) => (x.1, a.eval x.2)) = ps.toArray := by
    apply Array.toList_inj.1
    rw [Array.toList_map, hps]
  unfold Oper.wp execOp
  simp only [ho]
  have e2 : (parts.map fun (i, x) => (i, a.eval x)) = ps.toArray := e
  simp only [e2, Sem.run_bind, hrun, Result.andThen_ok, Sem.run_pure]
  exact h

def Pairs (w0 : World) (n : Nat) (e : Ending) (w : World) : Prop := e = .returned (.slice (some ⟨w0.heap.size, 0, none⟩) n n) ∧ Below w0.heap.size w0 w ∧ ∃ f : Nat → Int,
  ∀ k, k < n → w.cell? ⟨w0.heap.size, k * 2, none⟩ = some (.int .i64 (f k)) ∧ w.cell? ⟨w0.heap.size, k * 2 + 1, none⟩ = some (.int .i64 (f k))

def dbl : List Int → List Value
  | [] => []
  | v :: l => .int .i64 v :: .int .i64 v :: dbl l
theorem dbl_at (l : List Int) : ∀ k, k < l.length → (dbl l)[k * 2]? = some (.int .i64 (l.getD k 0)) ∧ (dbl l)[k * 2 + 1]? = some (.int .i64 (l.getD k 0)) := by
  induction l with
  | nil => intro k hk; simp at hk
  | cons v l ih =>
    intro k hk
    cases k with
    | zero => simp [dbl]
    | succ k =>
      have := ih k (by simpa using hk)
      rw [show (k + 1) * 2 = k * 2 + 1 + 1 by omega]
      simpa [dbl] using this

theorem pairs_of {w : World} (t : TypeId) (l : List Int) (n : Nat) (hn : l.length = n) (cs : Array Value) (h : cs = (dbl l).toArray) : Pairs w n (.returned (.slice (some ⟨w.heap.size, 0, none⟩) n n)) (w.alloc (.cells cs t)) := by
  subst h hn
  refine ⟨rfl, (Below.refl _ _).alloc (Nat.le_refl _) _, fun k => l.getD k 0, fun k hk => ?_⟩
  rw [World.cell?_alloc_new, World.cell?_alloc_new, List.getElem?_toArray, List.getElem?_toArray]
  exact dbl_at l k hk

set_option maxRecDepth 100000 in
set_option maxHeartbeats 4000000 in
theorem kinds_any (w : World) : Calls Try.prog 25 #[] w fun e w' => Pairs w 46 e w' := by
  go_enter Try.func25, Try.ntmps25
  go_wp2
  go_ret
  exact pairs_of _ [1, 2, 3, 4, 5, 6, 7, 1, 2, 3, 4, 5, 6, 1, 2, 3, 4, 1, 2, 3, 4, 5, 6, 1, 2, 3, 1, 2, 3, 1, 2, 3, 4, 5, 6, 7, 8, 9, 1, 2, 3, 4, 1, 2, 3, 4] 46 rfl _ rfl

set_option maxRecDepth 100000 in
set_option maxHeartbeats 4000000 in
theorem limits_any (w : World) : Calls Try.prog 24 #[] w fun e w' => Pairs w 39 e w' := by
  go_enter Try.func24, Try.ntmps24
  go_wp2
  go_ret
  exact pairs_of _ [256, 128, 2048, 2048, 33024, 16384, 24, 256, 4294967295, 12, 32, 64, 32, 16, 48, 48, 64, 64, 64, 8, 65535, 9999, 4, 12, 64, 512, 256, 64, 1024, 4096, 256, 48, 8, 16, 8, 32, 64, 131072, 2147483647] 39 rfl _ rfl

def errs : List (Nat × Value) := [(0, .agg #[.int .i64 0, .int .i64 0]), (1, .agg #[.int .i64 1, .int .i64 1]), (2, .agg #[.int .i64 2, .int .i64 2]), (3, .agg #[.int .i64 3, .int .i64 3]), (4, .agg #[.int .i64 10, .int .i64 10]), (5, .agg #[.int .i64 11, .int .i64 11]), (6, .agg #[.int .i64 20, .int .i64 20]), (7, .agg #[.int .i64 30, .int .i64 30]), (8, .agg #[.int .i64 31, .int .i64 31]), (9, .agg #[.int .i64 32, .int .i64 32]), (10, .agg #[.int .i64 33, .int .i64 33]), (11, .agg #[.int .i64 34, .int .i64 34]), (12, .agg #[.int .i64 35, .int .i64 35]), (13, .agg #[.int .i64 36, .int .i64 36]), (14, .agg #[.int .i64 37, .int .i64 37]), (15, .agg #[.int .i64 40, .int .i64 40]), (16, .agg #[.int .i64 41, .int .i64 41]), (17, .agg #[.int .i64 42, .int .i64 42]), (18, .agg #[.int .i64 43, .int .i64 43]), (19, .agg #[.int .i64 44, .int .i64 44]), (20, .agg #[.int .i64 45, .int .i64 45]), (21, .agg #[.int .i64 46, .int .i64 46]), (22, .agg #[.int .i64 47, .int .i64 47]), (23, .agg #[.int .i64 50, .int .i64 50]), (24, .agg #[.int .i64 51, .int .i64 51]), (25, .agg #[.int .i64 52, .int .i64 52]), (26, .agg #[.int .i64 53, .int .i64 53]), (27, .agg #[.int .i64 60, .int .i64 60]), (28, .agg #[.int .i64 61, .int .i64 61]), (29, .agg #[.int .i64 62, .int .i64 62]), (30, .agg #[.int .i64 63, .int .i64 63]), (31, .agg #[.int .i64 64, .int .i64 64]), (32, .agg #[.int .i64 70, .int .i64 70]), (33, .agg #[.int .i64 71, .int .i64 71]), (34, .agg #[.int .i64 72, .int .i64 72]), (35, .agg #[.int .i64 73, .int .i64 73]), (36, .agg #[.int .i64 74, .int .i64 74]), (37, .agg #[.int .i64 75, .int .i64 75]), (38, .agg #[.int .i64 76, .int .i64 76]), (39, .agg #[.int .i64 77, .int .i64 77]), (40, .agg #[.int .i64 78, .int .i64 78]), (41, .agg #[.int .i64 79, .int .i64 79]), (42, .agg #[.int .i64 80, .int .i64 80]), (43, .agg #[.int .i64 81, .int .i64 81]), (44, .agg #[.int .i64 90, .int .i64 90]), (45, .agg #[.int .i64 100, .int .i64 100]), (46, .agg #[.int .i64 101, .int .i64 101]), (47, .agg #[.int .i64 110, .int .i64 110]), (48, .agg #[.int .i64 120, .int .i64 120]), (49, .agg #[.int .i64 130, .int .i64 130]), (50, .agg #[.int .i64 140, .int .i64 140]), (51, .agg #[.int .i64 150, .int .i64 150]), (52, .agg #[.int .i64 160, .int .i64 160]), (53, .agg #[.int .i64 170, .int .i64 170]), (54, .agg #[.int .i64 171, .int .i64 171]), (55, .agg #[.int .i64 172, .int .i64 172]), (56, .agg #[.int .i64 180, .int .i64 180]), (57, .agg #[.int .i64 181, .int .i64 181]), (58, .agg #[.int .i64 182, .int .i64 182]), (59, .agg #[.int .i64 183, .int .i64 183]), (60, .agg #[.int .i64 184, .int .i64 184]), (61, .agg #[.int .i64 190, .int .i64 190]), (62, .agg #[.int .i64 191, .int .i64 191]), (63, .agg #[.int .i64 192, .int .i64 192]), (64, .agg #[.int .i64 193, .int .i64 193]), (65, .agg #[.int .i64 200, .int .i64 200])]
set_option maxRecDepth 100000 in
theorem slice_errnos (w : World) : (Instr.buildSlice 23 66 errs.toArray).run Try.prog w = .ok (.slice (some ⟨w.heap.size, 0, none⟩) 66 66) (w.alloc (.cells (dbl [0, 1, 2, 3, 10, 11, 20, 30, 31, 32, 33, 34, 35, 36, 37, 40, 41, 42, 43, 44, 45, 46, 47, 50, 51, 52, 53, 60, 61, 62, 63, 64, 70, 71, 72, 73, 74, 75, 76, 77, 78, 79, 80, 81, 90, 100, 101, 110, 120, 130, 140, 150, 160, 170, 171, 172, 180, 181, 182, 183, 184, 190, 191, 192, 193, 200]).toArray 85)) := by kernel_rfl
set_option maxRecDepth 100000 in
set_option maxHeartbeats 8000000 in
theorem errnos_any (w : World) : Calls Try.prog 23 #[] w fun e w' => Pairs w 66 e w' := by
  go_enter Try.func23, Try.ntmps23
  go_wp2_with (go_at_call 40; refine (num_any _ _).mono ?_; rintro e w' ⟨rfl, rfl⟩)
  simp only [List.append_eq, List.cons_append, List.nil_append]
  refine wp_buildSlice (ps := errs) rfl (by kernel_rfl) (slice_errnos w) ?_
  go_wp2
  go_ret
  exact pairs_of _ [0, 1, 2, 3, 10, 11, 20, 30, 31, 32, 33, 34, 35, 36, 37, 40, 41, 42, 43, 44, 45, 46, 47, 50, 51, 52, 53, 60, 61, 62, 63, 64, 70, 71, 72, 73, 74, 75, 76, 77, 78, 79, 80, 81, 90, 100, 101, 110, 120, 130, 140, 150, 160, 170, 171, 172, 180, 181, 182, 183, 184, 190, 191, 192, 193, 200] 66 rfl _ rfl

set_option maxHeartbeats 400000 in
theorem numbered_any (b n : Nat) (f : Nat → Int) (w : World) (hn : n ≤ 1000)
    (hc : ∀ k, k < n → w.cell? ⟨b, k * 2, none⟩ = some (.int .i64 (f k)) ∧ w.cell? ⟨b, k * 2 + 1, none⟩ = some (.int .i64 (f k))) :
    Calls Try.prog 22 #[.slice (some ⟨b, 0, none⟩) n n] w fun e w' => e = .returned (.bool true) ∧ ∃ m, w' = w.drewN m := by
  have HC := Lib.hid hc
  clear hc
  go_enter Try.func22, Try.ntmps22
  go_wp2
  go_loopw [3] (fun i wr => ∃ k m : Nat, k ≤ n ∧ i = .int .i64 k ∧ wr = w.drewN m) (fun i _ => n - (intOf i).toNat)
  case atStart => exact ⟨0, 0, Nat.zero_le _, rfl, rfl⟩
  case round =>
    obtain ⟨k, m, hk, rfl, rfl⟩ := hrel
    by_cases hlt : k < n
    · obtain ⟨h1, h2⟩ := HC.out k hlt
      go_wp2
      go_quiet (fail)
      go_wp2
      go_roundw
      case rel => exact ⟨k + 1, _, by omega, by go_num, rfl⟩
      case measure => simp [intOf]; omega
    · go_wp2
      go_ret
      exact ⟨rfl, m, rfl⟩

set_option maxHeartbeats 400000 in
theorem names_walk (w : World) : Calls Try.prog 3 #[] w fun e w' => e = .returned (.bool true) ∧ Below w.heap.size w w' := by
  go_enter Try.func3, Try.ntmps3
  go_wp2_with fail
  refine (errnos_any _).mono ?_
  rintro e w1 ⟨rfl, hb1, f1, hc1⟩
  have H1 := Lib.hid hc1
  clear hc1
  go_wp2_with fail
  refine (numbered_any _ _ _ _ (by omega) H1.out).mono ?_
  rintro e w2 ⟨rfl, m1, rfl⟩
  go_wp2_with fail
  refine (limits_any _).mono ?_
  rintro e w2 ⟨rfl, hb2, f2, hc2⟩
  have H2 := Lib.hid hc2
  clear hc2
  go_wp2_with fail
  refine (numbered_any _ _ _ _ (by omega) H2.out).mono ?_
  rintro e w3 ⟨rfl, m2, rfl⟩
  go_wp2_with fail
  refine (kinds_any _).mono ?_
  rintro e w3 ⟨rfl, hb3, f3, hc3⟩
  have H3 := Lib.hid hc3
  clear hc3
  go_wp2_with fail
  refine (numbered_any _ _ _ _ (by omega) H3.out).mono ?_
  rintro e w4 ⟨rfl, m3, rfl⟩
  go_wp2
  go_ret
  refine ⟨rfl, ?_⟩
  have d : ∀ {a b : World} (n : Nat), Below w.heap.size a b → Below w.heap.size a (b.drewN n) := fun n h => ⟨h.os, h.tape, h.output, h.size, h.block⟩
  have h1 := d m1 hb1
  have h2 := d m2 (h1.trans (hb2.mono hb1.size))
  exact d m3 (h2.trans (hb3.mono h2.size))
end Go.Proofs.Ytdiijannpfogdaa.Nm
