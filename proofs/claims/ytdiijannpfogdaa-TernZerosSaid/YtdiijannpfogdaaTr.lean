import Derived.Test.YtdiijannpfogdaaTo
namespace Go.Proofs.Ytdiijannpfogdaa.Tn
open Go.RowKit

/-- append(l, b): one byte more behind a row of the call's own. -/
theorem app_byte {B : Nat} {v : Value} {n : Nat} {l : List UInt8} {w : World} (b : UInt8) {ops : Array Oper} {rest : List Oper} {o : Oper} {a : Act} {Q : Exit → Act → World → Prop} {s x : Operand}
    (hown : w.ownsRow B 5 1 v n (l.map bv)) (hgd : o.guard = none) (ho : o.op = .call { callee := .builtin .append, args := #[s, x], argTypes := #[83, 83] })
    (hs : a.eval s = v) (hx : a.eval x = .slice (some ⟨w.heap.size, 0, none⟩) 1 1) (hn : n ≤ 1000000) (hB : B ≤ w.heap.size)
    (h : ∀ v' w', w'.ownsRow B 5 1 v' (n + 1) ((l ++ [b]).map bv) → Below B w w' → wpList Try.prog ops Q rest (a.put o.dst v') w') : wpList Try.prog ops Q (o :: rest) a (w.alloc (.cells #[bv b] 5)) := by
  obtain ⟨i0, hi, hz0, hz1, hz2⟩ := info_parts info_byte
  refine wpList_append_own _ hgd s x 83 ho B 5 i0 (.int .u8 0) 1 1 Try.underlying83 hi hz0 hz1 hz2 rfl (by decide) v n _ hs (hown.alloc _) ⟨w.heap.size, 0, none⟩ 1 1 [bv b] hx rfl (cell_one_new _ _ _)
    (by simp [bv, Value.oneCell']) (by simp only [maxLen]; omega) (by omega) (by simp; omega) ?_
  intro v' w1 hown' hg _
  refine h v' w1 (by rw [List.map_append]; exact hown') ?_
  have h1 : Below B w (w.alloc (.cells #[bv b] 5)) := (Below.refl _ _).alloc hB _
  exact h1.grown hg (by simp; omega) (fun k hk => (hown.lt k hk).1)
theorem str_own {w : World} {B : Nat} {v : Value} {n : Nat} {l : List UInt8} (h : w.ownsRow B 5 1 v n (l.map bv)) : (convert 83 9 v).run Try.prog w = .ok (.string (str l)) w :=
  run_string_own Try.underlying83 Try.underlying5 Try.underlying9 h
theorem own_nil (w : World) (B : Nat) : w.ownsRow B 5 1 (.slice none 0 0) 0 (([] : List UInt8).map bv) := World.ownsRow_nil w B 5 1

theorem ieq_ne {b c : UInt8} (h : ¬ b = c) : ((b.toNat : Int) == (c.toNat : Int)) = false := by
  rw [beq_eq_false_iff_ne]
  intro e
  exact h (UInt8.toNat_inj.1 (by omega))

theorem rfit_any (a b : ByteArray) (w : World) : Calls Try.prog 67 #[.string a, .string b] w fun e w' => e = .returned (.bool (decide (fitT a.data.toList b.data.toList))) ∧ w = w' := by
  have ha := len_s a
  have hb := len_s b
  by_cases h0 : a.size = 0
  · have he := isEmpty_yes a h0
    have hd : decide (fitT a.data.toList b.data.toList) = false := decide_eq_false fun H => H.1 (List.eq_nil_of_length_eq_zero (by omega))
    rw [hd]
    clear hd ha hb h0
    go_enter Try.func67, Try.ntmps67
    go_wp2
    go_ret
    exact ⟨rfl, rfl⟩
  · have he := isEmpty_no a (by omega)
    by_cases h1 : a.size = b.size
    · have hd : decide (fitT a.data.toList b.data.toList) = true := decide_eq_true ⟨fun e => by rw [e] at ha; simp at ha; omega, by omega⟩
      rw [hd]
      have h2 : ((a.size : Int) == (b.size : Int)) = true := by simp [h1]
      clear hd ha hb h0 h1
      go_enter Try.func67, Try.ntmps67
      go_wp2
      go_ret
      exact ⟨rfl, rfl⟩
    · have hd : decide (fitT a.data.toList b.data.toList) = false := decide_eq_false fun H => h1 (by have := H.2; omega)
      rw [hd]
      have h2 : ((a.size : Int) == (b.size : Int)) = false := by simp; omega
      clear hd ha hb h0 h1
      go_enter Try.func67, Try.ntmps67
      go_wp2
      go_ret
      exact ⟨rfl, rfl⟩
set_option maxHeartbeats 1000000 in
theorem rwrite_any (a b : ByteArray) (w : World) (hl : a.size ≤ 256) :
    Calls Try.prog 32 #[.string a, .string b] w fun e w' => e = .returned (.string (str (writeT a.data.toList b.data.toList))) ∧ Below w.heap.size w w' := by
  have hf := rfit_any a b
  by_cases hF : fitT a.data.toList b.data.toList
  · have ha := len_s a
    have hb := len_s b
    have hsz : b.size = a.size := by have := hF.2; omega
    have e1 : writeT a.data.toList b.data.toList = up (writeF a.data.toList b.data.toList) a.size := by unfold writeT; rw [if_pos hF, ha]
    rw [e1]
    rw [decide_eq_true hF] at hf
    have HF := Lib.hid hf
    have HS := Lib.hid hsz
    clear hf hF e1 ha hb hsz
    go_enter Try.func32, Try.ntmps32
    go_wp2_with fail
    refine (HF.out _).mono ?_
    rintro e w1 ⟨rfl, rfl⟩
    go_wp2_with fail
    go_loopw [6, 7] (fun v i wr => ∃ k : Nat, k ≤ a.size ∧ i = .int .i64 k ∧ wr.ownsRow w.heap.size 5 1 v k ((up (writeF a.data.toList b.data.toList) k).map bv) ∧ Below w.heap.size w wr) (fun _ i _ => a.size - (intOf i).toNat)
    case atStart => exact ⟨0, Nat.zero_le _, rfl, own_nil _ _, Below.refl _ _⟩
    case round =>
      obtain ⟨k, hk, rfl, hown, hbel⟩ := hrel
      by_cases hlt : k < a.size
      · have hlb : k < b.size := by rw [HS.out]; exact hlt
        have hba := byt_str a k hlt
        have hbb := byt_str b k hlb
        by_cases hx : b[k] = 120
        · have t1 := is120 hx
          have HV : Hid (writeF a.data.toList b.data.toList k = a[k]) := by unfold writeF; rw [hbb, if_pos hx, hba]; exact rfl
          clear hba hbb hx
          go_wp2_with (at_builtin; refine app_byte a[k] hown rfl rfl rfl rfl (by omega) hbel.size ?_; intro v' w2 hown2 hb2)
          go_roundw
          case rel => exact ⟨k + 1, by omega, by go_num, by rw [up_succ, HV.out]; exact hown2, hbel.trans hb2⟩
          case measure => simp [intOf]; omega
        · have t1 := not120 hx
          have HV : Hid (writeF a.data.toList b.data.toList k = b[k]) := by unfold writeF; rw [hbb, if_neg hx]; exact rfl
          clear hba hbb hx
          go_wp2_with (at_builtin; refine app_byte b[k] hown rfl rfl rfl rfl (by omega) hbel.size ?_; intro v' w2 hown2 hb2)
          go_roundw
          case rel => exact ⟨k + 1, by omega, by go_num, by rw [up_succ, HV.out]; exact hown2, hbel.trans hb2⟩
          case measure => simp [intOf]; omega
      · obtain rfl : k = a.size := by omega
        have hst := str_own hown
        go_wp2
        go_ret
        exact ⟨rfl, hbel⟩
  · have e1 : writeT a.data.toList b.data.toList = [] := by unfold writeT; rw [if_neg hF]
    rw [e1]
    rw [decide_eq_false hF] at hf
    have HF := Lib.hid hf
    clear hf hF e1
    go_enter Try.func32, Try.ntmps32
    go_wp2_with fail
    refine (HF.out _).mono ?_
    rintro e w1 ⟨rfl, rfl⟩
    go_wp2_with fail
    go_ret
    exact ⟨rfl, Below.refl _ _⟩
end Go.Proofs.Ytdiijannpfogdaa.Tn
