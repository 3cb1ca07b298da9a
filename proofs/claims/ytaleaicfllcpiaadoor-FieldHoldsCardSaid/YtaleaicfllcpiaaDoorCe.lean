/- Check at any list of fields, the program's and the document's; FieldChecks. -/
import Derived.Test.YtaleaicfllcpiaaDoorCq
namespace Go.Proofs.YtaleaicfllcpiaaDoor.Law
set_option linter.unusedVariables false
set_option linter.unusedSimpArgs false
set_option linter.unusedSectionVars false
theorem len_argF {H : Type} {P : Program} {ts : List TypeId} {ds : List (DataW H)} {j : Nat} {t e : TypeId} {d : DataW H} {l : List Fld} (h : (DataW.weightsEach P ts ds).all (· ≤ reachBytes) = true) (ht : ts[j]? = some t) (hd : ds[j]? = some d) (hu : P.underlying t = some (.slice e)) (hb : P.bytesOf e = 24)
    (hD : (d = .nil ∧ l = []) ∨ ∃ es spare, d = .slice es spare ∧ es.length = l.length) : l.length * 24 ≤ 140737488355328 := by
  rcases hD with ⟨_, rfl⟩ | ⟨es, spare, rfl, he⟩
  · simp
  · have h1 := sized_slice h ht hd hu
    have h2 := reachBytes_lt
    rw [hb, he] at h1
    omega
end Go.Proofs.YtaleaicfllcpiaaDoor.Law
namespace Go.Proofs.YtaleaicfllcpiaaDoor.Fl
open Go.RowKit Mm Law
theorem chk_cases (l : List Fld) : (12 < l.length ∧ chk l = (2, 0)) ∨ (l = [] ∧ chk l = (40, 0)) ∨ (0 < l.length ∧ l.length ≤ 12 ∧ chk l = chkFrom l 0) := by
  unfold chk
  by_cases h : 12 < l.length
  · exact .inl ⟨h, by rw [if_pos h]⟩
  · by_cases h0 : l = []
    · exact .inr (.inl ⟨h0, by rw [if_neg h, if_pos h0]⟩)
    · exact .inr (.inr ⟨List.length_pos_iff.2 h0, by omega, by rw [if_neg h, if_neg h0]⟩)
theorem check_any (l : List Fld) (v : Value) (w : World) (hv : SeesF w v l) : Calls Tryd.prog 38 #[v] w (Ans w (chk l)) := by
  rcases chk_cases l with ⟨h, e⟩ | ⟨h, e⟩ | ⟨h, h2, e⟩
  · rw [e]; exact check_long l v w hv h
  · rw [e]; subst h; exact check_nil v w hv
  · rw [e]; exact check_main l v w hv h h2
theorem rcheck_any (l : List Fld) (v : Value) (w : World) (hv : SeesF w v l) : Calls Tryd.prog 46 #[v] w (Ans w (chk l)) := by
  rcases chk_cases l with ⟨h, e⟩ | ⟨h, e⟩ | ⟨h, h2, e⟩
  · rw [e]; exact rcheck_long l v w hv h
  · rw [e]; subst h; exact rcheck_nil v w hv
  · rw [e]; exact rcheck_main l v w hv h h2
theorem num_any (x : Int) (w : World) (h : -9223372036854775808 ≤ x ∧ x ≤ 9223372036854775807) : Calls Tryd.prog 13 #[.int .i64 x] w fun e w' => e = .returned (.int .i64 x) ∧ w = w' := by
  obtain ⟨h1, h2⟩ := h
  go_enter Tryd.func13, Tryd.ntmps13
  go_wp2
  go_ret
  exact ⟨rfl, rfl⟩
theorem nil_seesF (w : World) : SeesF w (.slice none 0 0) [] := ⟨none, 0, rfl, Nat.le_refl _, Nat.zero_le _, .inl rfl, by simp⟩
theorem chkFrom_form (l : List Fld) : ∀ (n k : Nat), l.length - k ≤ n → (chkFrom l k).1 = 0 ∧ (chkFrom l k).2 = 0 ∨ (chkFrom l k).1 = 40 ∧ 0 ≤ (chkFrom l k).2 ∧ (chkFrom l k).2 < l.length := by
  intro n
  induction n with
  | zero => intro k hn; rw [chkFrom_end (by omega)]; exact .inl ⟨rfl, rfl⟩
  | succ n ih =>
    intro k hn
    by_cases hk : k < l.length
    · by_cases hb : badAt l k l[k]
      · rw [chkFrom_bad hk hb]; exact .inr ⟨rfl, by simp, by simpa using hk⟩
      · rw [chkFrom_ok hk hb]; exact ih _ (by omega)
    · rw [chkFrom_end hk]; exact .inl ⟨rfl, rfl⟩
theorem chk_form (l : List Fld) : ((chk l).1 = 0 ∨ (chk l).1 = 2 ∨ (chk l).1 = 40) := by
  rcases chk_cases l with ⟨h, e⟩ | ⟨h, e⟩ | ⟨h, h2, e⟩
  · rw [e]; exact .inr (.inl rfl)
  · rw [e]; exact .inr (.inr rfl)
  · rw [e]
    rcases chkFrom_form l l.length 0 (by omega) with h | h
    · exact .inl h.1
    · exact .inr (.inr h.1)
end Go.Proofs.YtaleaicfllcpiaaDoor.Fl
