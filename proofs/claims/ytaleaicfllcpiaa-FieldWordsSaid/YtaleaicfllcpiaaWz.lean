/- FieldWords. -/
import Derived.Test.YtaleaicfllcpiaaWs
import Derived.Test.YtaleaicfllcpiaaRv
namespace Go.Proofs.Ytaleaicfllcpiaa.Fl
open Go.RowKit Mm Law
set_option linter.unusedVariables false
set_option linter.unusedSimpArgs false
set_option linter.unusedSectionVars false
theorem set_neq (s : ByteArray) (b : Int) (w : World) : (binOp .neq 57 (.agg #[.string s, .int .i64 b]) (.agg #[.string s, .int .i64 b])).run Try.prog w = .ok (.bool false) w := by
  rw [run_neq_struct]
  simp [go_sem]
theorem info_set : (Try.prog.info? 57).map (fun i => (i.zero, i.size, i.bytes)) = some (some (.agg #[.string ⟨#[]⟩, .int .i64 0]), 2, 24) := by kernel_rfl
theorem app_set {B : Nat} {v : Value} {m : Nat} {L : List Fld} {w : World} {s0 : ByteArray} {b0 : Int} {ops : Array Oper} {rest : List Oper} {op : Oper} {a : Act} {Q : Exit → Act → World → Prop} {s x : Operand}
    (hown : w.ownsRow B 57 2 v m (fcells L)) (hgd : op.guard = none) (ho : op.op = .call { callee := .builtin .append, args := #[s, x], argTypes := #[54, 54] })
    (hs : a.eval s = v) (hx : a.eval x = .slice (some ⟨w.heap.size, 0, none⟩) 1 1) (hn : (m + 1) * 24 ≤ 140737488355328) (hB : B ≤ w.heap.size)
    (h : ∀ v' w', w'.ownsRow B 57 2 v' (m + 1) (fcells (L ++ [(s0, b0)])) → Below B w w' → wpList Try.prog ops Q rest (a.put op.dst v') w') : wpList Try.prog ops Q (op :: rest) a (w.alloc (.cells #[.string s0, .int .i64 b0] 57)) := by
  obtain ⟨i0, hi, hz0, hz1, hz2⟩ := info_parts info_set
  refine wpList_append_own _ hgd s x 54 ho B 57 i0 _ 2 24 Try.underlying54 hi hz0 hz1 hz2 rfl (by decide) v m _ hs (hown.alloc _) ⟨w.heap.size, 0, none⟩ 1 1 [.string s0, .int .i64 b0] hx rfl (cells_new _ #[.string s0, .int .i64 b0] _)
    (by simp [Value.oneCell']) (by simp only [maxLen]; omega) (by omega) (by simp; omega) ?_
  intro v' w1 hown' hg _
  refine h v' w1 (by rw [fcells_snoc]; exact hown') ?_
  have h1 : Below B w (w.alloc (.cells #[.string s0, .int .i64 b0] 57)) := (Below.refl _ _).alloc hB _
  exact h1.grown hg (by simp; omega) (fun k hk => (hown.lt k hk).1)
set_option maxRecDepth 100000 in
set_option maxHeartbeats 8000000 in
theorem words_walk (v : Value) (l : List Fld) (hsz : l.length * 24 ≤ 140737488355328) (u : Value) (S : List Fld) (hSz : S.length * 24 ≤ 140737488355328) (w : World) (hS : SeesF w v l) (hT : SeesF w u S) :
    Calls Try.prog 7 #[v, u] w fun e w' => e = .returned (.bool true) ∧ Below w.heap.size w w' := by
  have hfm : ∀ f ∈ l, f.1.size ≤ maxLen ∧ (Lit.int .i64 f.2).wf = true := by
    obtain ⟨_, _, _, _, _, _, hw⟩ := hS; exact hw
  have hsm : ∀ f ∈ S, f.1.size ≤ maxLen ∧ (Lit.int .i64 f.2).wf = true := by
    obtain ⟨_, _, _, _, _, _, hw⟩ := hT; exact hw
  have hC := fun w' (h : Below w.heap.size w w') => rword_any l S v u w' (hS.below h) (hT.below h)
  have hD := fun w' (h : Below w.heap.size w w') => word_any l S v u w' (hS.below h) (hT.below h)
  unfold WdAns at hC hD
  have hE := wdA_form l S
  generalize (wdA l S).1 = E at *
  generalize str (wdA l S).2 = T at *
  have HC := Lib.hid hC
  have HD := Lib.hid hD
  have HEF := Lib.hid hE
  have HP := Lib.hid (fun w' (h : Below w.heap.size w w') => copy_any l v w' (hS.below h) hsz)
  have HUN := Lib.hid (fun w' u (h : Below w.heap.size w w') (hu : SeesF w' u l) => unlike_no l v u w' (hS.below h) hu)
  have HO := Lib.hid (fun (w' : World) (B : Nat) (u : Value) (h : w'.ownsRow B 61 2 u l.length (fcells l)) => own_sees h hfm)
  have HOS := Lib.hid (fun (w' : World) (B : Nat) (u : Value) (h : w'.ownsRow B 57 2 u S.length (fcells S)) => own_sees h hsm)
  obtain ⟨a1, cap1, rfl, hcap1, hcm1, hx1, -⟩ := hT
  have HX1 := Lib.hid hx1
  have HSZ := Lib.hid hSz
  unfold maxLen at hcm1
  have t1 : (E == E) = true := by simp
  have t2 : (T.toList == T.toList) = true := by simp
  clear hfm hsm hS hsz hC hD hE hSz hx1
  go_enter Try.func7, Try.ntmps7
  go_wp2_with fail
  refine (HC.out _ (Below.refl _ _)).mono ?_
  rintro e w1 ⟨rfl, hb1⟩
  go_wp2_with fail
  refine (HP.out _ hb1).mono ?_
  rintro e w2 ⟨u, rfl, ho, hb2⟩
  have HG2 := Lib.hid (bnx hb1 hb2)
  have HSU := Lib.hid (HO.out _ _ _ ho)
  clear ho hb1 hb2
  go_wp2_with fail
  go_loopw [8, 9] (fun m i wr => ∃ k : Nat, k ≤ S.length ∧ i = .int .i64 k ∧ Below w2.heap.size w2 wr ∧ wr.ownsRow w2.heap.size 57 2 m k (fcells (S.take k))) (fun _ i _ => S.length - (intOf i).toNat)
  case atStart => exact ⟨0, Nat.zero_le _, rfl, Below.refl _ _, World.ownsRow_nil _ _ _ _⟩
  case round =>
    obtain ⟨k, hk, rfl, hbel, hown⟩ := hrel
    have HOW := Lib.hid hown
    clear hown
    by_cases hlt : k < S.length
    · obtain ⟨g, off, rfl, hg, hq⟩ := cells_later HX1.out (by omega)
      obtain ⟨q0, q1⟩ := hq _ (bnx HG2.out hbel) k S[k] (by simp [hlt])
      have HT := Lib.hid (show S.take (k + 1) = S.take k ++ [S[k]] from List.take_succ_eq_append_getElem hlt)
      generalize S[k] = f at *
      obtain ⟨s, b⟩ := f
      simp only at q0 q1
      clear hq
      go_wp2_with (at_builtin; refine app_set HOW.out rfl rfl rfl rfl (by have := HSZ.out; omega) hbel.size ?_; intro v1 w3 hown1 hb3)
      go_roundw
      case rel => exact ⟨k + 1, by omega, by go_num, hbel.trans hb3, by rw [HT.out]; exact hown1⟩
      case measure => simp [intOf]; omega
    · have hkk : k = S.length := by omega
      have HO2 := Lib.hid (HOS.out _ _ _ (show wr.ownsRow w2.heap.size 57 2 u8 S.length (fcells S) from by have := HOW.out; rw [hkk, List.take_length] at this; exact this))
      have HG3 := Lib.hid (bnx HG2.out hbel)
      have HSU3 := Lib.hid (HSU.out.below hbel)
      clear HOW hbel hkk
      go_wp2_with fail
      refine (HD.out _ HG3.out).mono ?_
      rintro e w4 ⟨rfl, hb4⟩
      have HG4 := Lib.hid (bnx HG3.out hb4)
      have HO4 := Lib.hid (HO2.out.below hb4)
      have HSU4 := Lib.hid (HSU3.out.below hb4)
      clear hb4
      obtain ⟨a8, cap8, rfl, hcap8, hcm8, hx8, -⟩ := HO4.out
      have HX8 := Lib.hid hx8
      unfold maxLen at hcm8
      clear hx8
      go_wp2_with fail
      go_loopw [12] (fun i wr => ∃ k : Nat, k ≤ S.length ∧ i = .int .i64 k ∧ Below w4.heap.size w4 wr) (fun i _ => S.length - (intOf i).toNat)
      case atStart => exact ⟨0, Nat.zero_le _, rfl, Below.refl _ _⟩
      case round =>
        obtain ⟨m, hm, rfl, hbm⟩ := hrel
        by_cases hlt : m < S.length
        · obtain ⟨g, off, rfl, hg, hq⟩ := cells_later HX1.out (by omega)
          obtain ⟨g8, off8, rfl, hg8, hq8⟩ := cells_later HX8.out (by omega)
          obtain ⟨q0, q1⟩ := hq _ (bnx HG4.out hbm) m S[m] (by simp [hlt])
          obtain ⟨p0, p1⟩ := hq8 _ hbm m S[m] (by simp [hlt])
          generalize S[m] = f at *
          obtain ⟨s, b⟩ := f
          have hqq := set_neq s b
          simp only at q0 q1 p0 p1
          clear hq hq8
          go_wp2
          go_quiet (fail)
          go_wp2
          go_roundw
          case rel => exact ⟨m + 1, by omega, by go_num, below_drewN hbm _⟩
          case measure => simp [intOf]; omega
        · have hg5 := bnx HG4.out hbm
          go_wp2_with fail
          refine (num_any _ _ HEF.out).mono ?_
          rintro e w' ⟨rfl, rfl⟩
          go_wp2_with fail
          refine (HUN.out _ _ hg5 (HSU4.out.below hbm)).mono ?_
          rintro e w5 ⟨rfl, hb5⟩
          go_wp2_with fail
          refine (known_yes _).mono ?_
          rintro e w7 ⟨rfl, hb7⟩
          go_wp2_with fail
          go_ret
          exact ⟨rfl, bnx (bnx hg5 hb5) hb7⟩
end Go.Proofs.Ytaleaicfllcpiaa.Fl
