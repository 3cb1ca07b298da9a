/- Check at any list of fields, the program's and the document's; FieldChecks. -/
import Derived.Test.YtaleaicfllcpiaaCq
namespace Go.Proofs.Ytaleaicfllcpiaa.Law
set_option linter.unusedVariables false
set_option linter.unusedSimpArgs false
set_option linter.unusedSectionVars false
theorem len_argF {H : Type} {P : Program} {ts : List TypeId} {ds : List (DataW H)} {j : Nat} {t e : TypeId} {d : DataW H} {l : List Fld} (h : (DataW.weightsEach P ts ds).all (· ≤ reachBytes) = true) (ht : ts[j]? = some t) (hd : ds[j]? = some d) (hu : P.underlying t = some (.slice e)) (hb : P.bytesOf e = 24)
    (hD : (d = .nil ∧ l = []) ∨ ∃ es spare, d = .slice es spare ∧ es.length = l.length) : l.length * 24 ≤ 140737488355328 := by
  rcases hD with ⟨_, rfl⟩ | ⟨es, spare, rfl, he⟩
  · simp
  · have h1 := sized_slice h ht hd hu
    have h2 := reachBytes_lt
    rw [hb, he] at h1
    omega
end Go.Proofs.Ytaleaicfllcpiaa.Law
namespace Go.Proofs.Ytaleaicfllcpiaa.Fl
open Go.RowKit Mm Law
theorem chk_cases (l : List Fld) : (12 < l.length ∧ chk l = (2, 0)) ∨ (l = [] ∧ chk l = (40, 0)) ∨ (0 < l.length ∧ l.length ≤ 12 ∧ chk l = chkFrom l 0) := by
  unfold chk
  by_cases h : 12 < l.length
  · exact .inl ⟨h, by rw [if_pos h]⟩
  · by_cases h0 : l = []
    · exact .inr (.inl ⟨h0, by rw [if_neg h, if_pos h0]⟩)
    · exact .inr (.inr ⟨List.length_pos_iff.2 h0, by omega, by rw [if_neg h, if_neg h0]⟩)
theorem check_any (l : List Fld) (v : Value) (w : World) (hv : SeesF w v l) : Calls Try.prog 10 #[v] w (Ans w (chk l)) := by
  rcases chk_cases l with ⟨h, e⟩ | ⟨h, e⟩ | ⟨h, h2, e⟩
  · rw [e]; exact check_long l v w hv h
  · rw [e]; subst h; exact check_nil v w hv
  · rw [e]; exact check_main l v w hv h h2
theorem rcheck_any (l : List Fld) (v : Value) (w : World) (hv : SeesF w v l) : Calls Try.prog 8 #[v] w (Ans w (chk l)) := by
  rcases chk_cases l with ⟨h, e⟩ | ⟨h, e⟩ | ⟨h, h2, e⟩
  · rw [e]; exact rcheck_long l v w hv h
  · rw [e]; subst h; exact rcheck_nil v w hv
  · rw [e]; exact rcheck_main l v w hv h h2
theorem num_any (x : Int) (w : World) (h : -9223372036854775808 ≤ x ∧ x ≤ 9223372036854775807) : Calls Try.prog 11 #[.int .i64 x] w fun e w' => e = .returned (.int .i64 x) ∧ w = w' := by
  obtain ⟨h1, h2⟩ := h
  go_enter Try.func11, Try.ntmps11
  go_wp2
  go_ret
  exact ⟨rfl, rfl⟩
theorem nil_seesF (w : World) : SeesF w (.slice none 0 0) [] := ⟨none, 0, rfl, Nat.le_refl _, Nat.zero_le _, .inl rfl, by simp⟩
theorem chkFrom_form (l : List Fld) : ∀ (n k : Nat), l.length - k ≤ n → (chkFrom l k).1 = 0 ∧ (chkFrom l k).2 = 0 ∨ (chkFrom l k).1 = 40 ∧ 0 ≤ (chkFrom l k).2 ∧ (chkFrom l k).2 < l.length := by
  intro n
  induction n with
  | zero => intro k hn; rw [chkFrom_end (by omega)]; exact .inl ⟨rfl, rfl⟩
  | succ n ih =>
    intro k hn
    by_cases hk : k < l.length
    · by_cases hb : badAt l k l[k]
      · rw [chkFrom_bad hk hb]; exact .inr ⟨rfl, by simp, by simpa using hk⟩
      · rw [chkFrom_ok hk hb]; exact ih _ (by omega)
    · rw [chkFrom_end hk]; exact .inl ⟨rfl, rfl⟩
theorem chk_form (l : List Fld) : ((chk l).1 = 0 ∨ (chk l).1 = 2 ∨ (chk l).1 = 40) := by
  rcases chk_cases l with ⟨h, e⟩ | ⟨h, e⟩ | ⟨h, h2, e⟩
  · rw [e]; exact .inr (.inl rfl)
  · rw [e]; exact .inr (.inr rfl)
  · rw [e]
    rcases chkFrom_form l l.length 0 (by omega) with h | h
    · exact .inl h.1
    · exact .inr (.inr h.1)
set_option maxRecDepth 100000 in
set_option maxHeartbeats 2000000 in
theorem checks_walk (v : Value) (l : List Fld) (hsz : l.length * 24 ≤ 140737488355328) (w : World) (hS : SeesF w v l) :
    Calls Try.prog 3 #[v] w fun e w' => e = .returned (.bool true) ∧ Below w.heap.size w w' := by
  have hfm : ∀ f ∈ l, f.1.size ≤ maxLen ∧ (Lit.int .i64 f.2).wf = true := by
    obtain ⟨_, _, _, _, _, _, hw⟩ := hS; exact hw
  obtain ⟨c1, c2, hcc⟩ : ∃ c1 c2, chk l = (c1, c2) := ⟨_, _, rfl⟩
  have hcb : -9223372036854775808 ≤ c1 ∧ c1 ≤ 9223372036854775807 := by
    have := chk_form l
    rw [hcc] at this
    simp only at this
    omega
  have hC := fun w' (h : Below w.heap.size w w') => rcheck_any l v w' (hS.below h)
  have hD := fun w' (h : Below w.heap.size w w') => check_any l v w' (hS.below h)
  rw [hcc] at hC hD
  have HC := Lib.hid hC
  have HD := Lib.hid hD
  have HP := Lib.hid (fun w' (h : Below w.heap.size w w') => copy_any l v w' (hS.below h) hsz)
  have HU := Lib.hid (fun w' u (h : Below w.heap.size w w') (hu : SeesF w' u l) => unlike_no l v u w' (hS.below h) hu)
  have HO := Lib.hid (fun (w' : World) (B : Nat) (u : Value) (h : w'.ownsRow B 61 2 u l.length (fcells l)) => own_sees h hfm)
  have t1 : (c1 == c1) = true := by simp
  have t2 : (c2 == c2) = true := by simp
  clear hfm hS hsz hC hD hcc
  go_enter Try.func3, Try.ntmps3
  go_wp2_with fail
  refine (HC.out _ (Below.refl _ _)).mono ?_
  rintro e w1 ⟨rfl, hb1⟩
  go_wp2_with fail
  refine (HP.out _ hb1).mono ?_
  rintro e w2 ⟨u, rfl, ho, hb2⟩
  have g2 := bnx hb1 hb2
  have hSU := HO.out _ _ _ ho
  clear ho
  go_wp2_with fail
  refine (HD.out _ g2).mono ?_
  rintro e w3 ⟨rfl, hb3⟩
  have g3 := bnx g2 hb3
  have hSU3 := hSU.below hb3
  clear hSU
  go_wp2_with fail
  have hn := check_nil (.slice none 0 0) w3 (nil_seesF w3)
  refine hn.mono ?_
  clear hn
  rintro e w4 ⟨rfl, hb4⟩
  have g4 := bnx g3 hb4
  have hSU4 := hSU3.below hb4
  clear hSU3
  go_wp2_with fail
  refine (num_any _ _ hcb).mono ?_
  rintro e w' ⟨rfl, rfl⟩
  go_wp2_with fail
  refine (num_any _ _ (by decide)).mono ?_
  rintro e w' ⟨rfl, rfl⟩
  go_wp2_with fail
  refine (HU.out _ _ g4 hSU4).mono ?_
  rintro e w5 ⟨rfl, hb5⟩
  go_wp2_with fail
  go_ret
  exact ⟨rfl, bnx g4 hb5⟩
end Go.Proofs.Ytaleaicfllcpiaa.Fl
