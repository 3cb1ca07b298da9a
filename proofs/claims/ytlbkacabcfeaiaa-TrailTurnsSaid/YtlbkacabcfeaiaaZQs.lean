/- Patterns: the program's sequences and choices laid flat. -/
import Derived.Test.YtlbkacabcfeaiaaZQm
namespace Go.Proofs.Ytlbkacabcfeaiaa.Tl
open Go.RowKit Mm
set_option linter.unusedVariables false
def intOf : Value → Int | .int _ q => q | _ => 0
@[go_sem] theorem as_seq (v : Value) (w : World) : (Instr.typeAssert (.iface 98 v) 57 98 true).run Try.prog w = .ok (.tuple #[v, .bool true]) w := by kernel_rfl
@[go_sem] theorem as_alt (v : Value) (w : World) : (Instr.typeAssert (.iface 99 v) 57 99 true).run Try.prog w = .ok (.tuple #[v, .bool true]) w := by kernel_rfl
theorem zero_seq (w : World) : (do pure (Value.tuple #[← zeroValue 98, .bool false]) : Sem Value).run Try.prog w = .ok (.tuple #[.slice none 0 0, .bool false]) w := by kernel_rfl
theorem as_seq_no (u : TypeId) (v : Value) (w : World) (h : u ≠ 98) : (Instr.typeAssert (.iface u v) 57 98 true).run Try.prog w = .ok (.tuple #[.slice none 0 0, .bool false]) w := by
  have e : (Instr.typeAssert (.iface u v) 57 98 true).run Try.prog w = (if u = 98 then (pure (Value.tuple #[v, .bool true]) : Sem Value) else (do pure (Value.tuple #[← zeroValue 98, .bool false]))).run Try.prog w :=
    by kernel_rfl
  rw [e, if_neg h]
  exact zero_seq w
theorem zero_alt (w : World) : (do pure (Value.tuple #[← zeroValue 99, .bool false]) : Sem Value).run Try.prog w = .ok (.tuple #[.slice none 0 0, .bool false]) w := by kernel_rfl
theorem as_alt_no (u : TypeId) (v : Value) (w : World) (h : u ≠ 99) : (Instr.typeAssert (.iface u v) 57 99 true).run Try.prog w = .ok (.tuple #[.slice none 0 0, .bool false]) w := by
  have e : (Instr.typeAssert (.iface u v) 57 99 true).run Try.prog w = (if u = 99 then (pure (Value.tuple #[v, .bool true]) : Sem Value) else (do pure (Value.tuple #[← zeroValue 99, .bool false]))).run Try.prog w :=
    by kernel_rfl
  rw [e, if_neg h]
  exact zero_alt w
theorem IsT.seq_or {w : World} {S : Nat → Prop} {v : Value} {t : T} (h : IsT w S v t) :
    (∃ u vs ts, t = .seq ts ∧ v = .iface 98 u ∧ Fz w 57 1 u ts.length vs ∧ AllT w S vs ts) ∨ ∃ ty pay, v = .iface ty pay ∧ ty ≠ 98 ∧ inSeq t = [t] := by
  cases h with
  | leaf tx n p d => exact .inr ⟨_, _, rfl, by decide, rfl⟩
  | suf v t s _ => exact .inr ⟨_, _, rfl, by decide, rfl⟩
  | alt u vs ts hf hs hx => exact .inr ⟨_, _, rfl, by decide, rfl⟩
  | seq u vs ts hf hs hx =>
    have hl : vs.length = ts.length := by obtain ⟨_, _, _, _, _, hl, _⟩ := hf; omega
    exact .inl ⟨u, vs, ts, rfl, rfl, hf, hl, hx⟩
theorem IsT.alt_or {w : World} {S : Nat → Prop} {v : Value} {t : T} (h : IsT w S v t) :
    (∃ u vs ts, t = .alt ts ∧ v = .iface 99 u ∧ Fz w 57 1 u ts.length vs ∧ AllT w S vs ts) ∨ ∃ ty pay, v = .iface ty pay ∧ ty ≠ 99 ∧ inAlt t = [t] := by
  cases h with
  | leaf tx n p d => exact .inr ⟨_, _, rfl, by decide, rfl⟩
  | suf v t s _ => exact .inr ⟨_, _, rfl, by decide, rfl⟩
  | seq u vs ts hf hs hx => exact .inr ⟨_, _, rfl, by decide, rfl⟩
  | alt u vs ts hf hs hx =>
    have hl : vs.length = ts.length := by obtain ⟨_, _, _, _, _, hl, _⟩ := hf; omega
    exact .inl ⟨u, vs, ts, rfl, rfl, hf, hl, hx⟩
theorem Fz.toSees {w : World} {e : TypeId} {v : Value} {n : Nat} {xs : List Value} (h : Fz w e 1 v n xs) : Sees w v xs := by
  obtain ⟨a, cap, rfl, hc, hm, hl, hx⟩ := h
  have hn : xs.length = n := by omega
  subst hn
  refine ⟨a, cap, rfl, fun h0 => ?_, hc, hm, ?_⟩
  · rcases hx with ⟨_, _, h1⟩ | ⟨g, cur, h1, _⟩
    · exact h1
    · rw [h0] at h1; cases h1
  rcases hx with ⟨rfl, h0, h1⟩ | ⟨g, cur, rfl, hg, hx⟩
  · exact .inl (List.length_eq_zero_iff.1 h0)
  · refine .inr ⟨g, 0, rfl, (Array.getElem?_eq_some_iff.1 hg).1, fun j u hj => ?_⟩
    have hB : Blk w g e cur := hg
    rw [hB.cell, Nat.zero_add]
    exact hx j u hj
/-- blocks told, and those made since -/
def Sx (S : Nat → Prop) (w w' : World) (g : Nat) : Prop := S g ∨ (w.heap.size ≤ g ∧ g < w'.heap.size)
/-- the list laid flat so far -/
structure Fl (w : World) (S : Nat → Prop) (v : Value) (ts : List T) (X : World) : Prop where
  bel : Below w.heap.size w X
  row : ∃ xs, X.ownsRow w.heap.size 57 1 v ts.length xs ∧ AllT w S xs ts
theorem Fl.start (w : World) (S : Nat → Prop) : Fl w S (.slice none 0 0) [] w := ⟨Below.refl _ _, [], World.ownsRow_nil w w.heap.size 57 1, AllT.nil⟩
theorem Fl.len {w X : World} {S : Nat → Prop} {v : Value} {ts : List T} (h : Fl w S v ts X) : ∃ a cap, v = .slice a ts.length cap := by
  obtain ⟨xs, ho, _⟩ := h.row
  exact own_len ho
theorem Fl.one {w X : World} {S : Nat → Prop} {v : Value} {t : T} (h : Fl w S v [t] X) : ∃ g cap u, v = .slice (some ⟨g, 0, none⟩) 1 cap ∧ X.cell? ⟨g, 0, none⟩ = some u ∧ IsT X (Sx S w X) u t := by
  obtain ⟨xs, ho, hA⟩ := h.row
  obtain ⟨g, cap, rfl, _, _⟩ := own_form ho (by simp)
  obtain ⟨u, hu, ht⟩ := hA.at (i := 0) (by simp)
  have hc := ho.cells (g := g) rfl 0 u hu
  rw [add_off] at hc
  exact ⟨g, cap, u, rfl, hc, ht.keep (fun _ h => .inl h) fun g _ hg => h.bel.block g hg⟩
theorem Fl.frozen {w X : World} {S : Nat → Prop} {v : Value} {ts : List T} (h : Fl w S v ts X) : ∃ vs, Fz X 57 1 v ts.length vs ∧ (∀ g, v.ownBlock = some g → Sx S w X g) ∧ AllT X (Sx S w X) vs ts := by
  obtain ⟨xs, ho, hA⟩ := h.row
  refine ⟨xs, Fz.of_own ho, fun g hg => .inr ?_, hA.keep (fun _ h => .inl h) fun g _ hg => h.bel.block g hg⟩
  obtain ⟨h1, h2, _⟩ := own_ty ho hg
  exact ⟨h1, h2⟩
theorem Fl.seq {w X : World} {S : Nat → Prop} {v : Value} {ts : List T} (h : Fl w S v ts X) : IsT X (Sx S w X) (.iface 98 v) (.seq ts) := by
  obtain ⟨vs, h1, h2, h3⟩ := h.frozen
  exact .seq v vs ts h1 h2 h3.2
theorem Fl.alt {w X : World} {S : Nat → Prop} {v : Value} {ts : List T} (h : Fl w S v ts X) : IsT X (Sx S w X) (.iface 99 v) (.alt ts) := by
  obtain ⟨vs, h1, h2, h3⟩ := h.frozen
  exact .alt v vs ts h1 h2 h3.2
/-- one more -/
theorem Fl.push {st : Nat} {w X : World} {S : Nat → Prop} {v u : Value} {ts : List T} {t : T} (ht : Try.prog.underlying st = some (.slice 57)) (h : Fl w S v ts X) (hu : IsT w S u t) (hl : ts.length ≤ 100000) {ops : Array Oper} {rest : List Oper} {o : Oper} {a : Act} {Q : Exit → Act → World → Prop} {s x : Operand}
    (hgd : o.guard = none) (ho : o.op = .call { callee := .builtin .append, args := #[s, x], argTypes := #[st, st] })
    (hs : a.eval s = v) (hx : a.eval x = .slice (some ⟨X.heap.size, 0, none⟩) 1 1)
    (k : ∀ v' w', Fl w S v' (ts ++ [t]) w' → wpList Try.prog ops Q rest (a.put o.dst v') w') : wpList Try.prog ops Q (o :: rest) a (X.alloc (.cells #[u] 57)) := by
  obtain ⟨xs, hr, hA⟩ := h.row
  refine app_tree ht hu.one hr hgd ho hs hx (by omega) h.bel.size fun v' w' h1 h2 => k v' w' ⟨?_, xs ++ [u], by rw [List.length_append]; exact h1, hA.app (.single hu)⟩
  exact (bal h.bel _).trans ((below_grown (hr.alloc _) h2.by (by have := h.bel.size; rw [World.size_alloc]; omega)))
/-- a list more -/
theorem Fl.pushes {st : Nat} {w X : World} {S : Nat → Prop} {v sv : Value} {ts rs : List T} {ys : List Value} (ht : Try.prog.underlying st = some (.slice 57)) (h : Fl w S v ts X) (hu : AllT w S ys rs) (hf : Fz w 57 1 sv rs.length ys) (hl : ts.length + rs.length ≤ 100000) {ops : Array Oper} {rest : List Oper} {o : Oper} {a : Act} {Q : Exit → Act → World → Prop} {s x : Operand}
    (hgd : o.guard = none) (ho : o.op = .call { callee := .builtin .append, args := #[s, x], argTypes := #[st, st] })
    (hs : a.eval s = v) (hx : a.eval x = sv)
    (k : ∀ v' w', Fl w S v' (ts ++ rs) w' → wpList Try.prog ops Q rest (a.put o.dst v') w') : wpList Try.prog ops Q (o :: rest) a X := by
  obtain ⟨xs, hr, hA⟩ := h.row
  refine app_trees ht hr (Fz.toSees (Fz.below hf h.bel)) hu.one hgd ho hs hx (by rw [hu.1]; omega) h.bel.size fun v' w' h1 h2 => k v' w' ⟨?_, xs ++ ys, by rw [List.length_append, ← hu.1]; exact h1, hA.app hu⟩
  exact h.bel.trans (below_grown hr h2 (by have := h.bel.size; omega))
theorem flat_len (g : T → List T) (hg : ∀ t, bdL (g t) ≤ bd t) (l : List T) (k : Nat) (h : bdL l ≤ 100000) : ((l.take k).flatMap g).length * 8 ≤ bdL l := by
  have h1 := bdL_len ((l.take k).flatMap g)
  have h2 := bd_flat g hg (l.take k)
  have h3 : bdL (l.take k) ≤ bdL l := by
    conv => rhs; rw [← List.take_append_drop k l, bdL_app]
    omega
  omega
theorem flat_step (g : T → List T) {l : List T} {k : Nat} (h : k < l.length) : (l.take (k + 1)).flatMap g = (l.take k).flatMap g ++ g l[k] := by
  rw [List.take_succ_eq_append_getElem h, List.flatMap_append, List.flatMap_cons, List.flatMap_nil, List.append_nil]
set_option maxRecDepth 100000 in
set_option maxHeartbeats 4000000 in
theorem newSeq_any (w : World) (S : Nat → Prop) (v : Value) (vs : List Value) (ts : List T) (hf : Fz w 57 1 v ts.length vs) (hA : AllT w S vs ts) (hl : bdL ts ≤ 100000) :
    Calls Try.prog 27 #[v] w fun e w' => ∃ u, e = .returned u ∧ IsT w' (Sx S w w') u (mkSeq ts) ∧ Below w.heap.size w w' := by
  obtain ⟨a0, cap, rfl, hcap, hcm⟩ := hf.form
  unfold maxLen at hcm
  have HC := Lib.hid (fun h : 0 < ts.length => Fz.cells hf h)
  have HA := Lib.hid hA
  have hlen := bdL_len ts
  clear hf hA
  go_enter Try.func27, Try.ntmps27
  go_wp2_with fail
  go_loopw [3, 10] (fun s i wr => ∃ k : Nat, k ≤ ts.length ∧ i = .int .i64 (k : Int) ∧ Fl w S s ((ts.take k).flatMap inSeq) wr) (fun _ i _ => ts.length - (intOf i).toNat)
  case atStart => exact ⟨0, Nat.zero_le _, rfl, Fl.start w S⟩
  case round =>
    obtain ⟨k, hk, rfl, hfl⟩ := hrel
    have HF := Lib.hid hfl
    have hfl2 := flat_len inSeq bd_inSeq ts k hl
    by_cases hlt : k < ts.length
    · obtain ⟨g, rfl, hg, hc⟩ := HC.out (by omega)
      obtain ⟨u, hu, ht⟩ := HA.out.at hlt
      have q := hc k u hu
      have q0 : wr.cell? ⟨g, k, none⟩ = some u := (Below.cell hfl.bel (p := ⟨g, k, none⟩) hg).trans q
      have HS := Lib.hid (flat_step inSeq hlt)
      have hfl3 := flat_len inSeq bd_inSeq ts (k + 1) hl
      rw [flat_step _ hlt, List.length_append] at hfl3
      have hd := fun h => HC.out h
      clear hfl hc hd hu q
      rcases ht.seq_or with ⟨u1, us, rs, et, rfl, hf1, hA1⟩ | ⟨ty, pay, rfl, hty, he⟩
      · rw [et] at hfl3 HS
        have HP := Lib.hid hA1
        have HZ := Lib.hid hf1
        clear ht et hf1 hA1
        go_wp2_with first | refine Fl.pushes Try.underlying98 HF.out HP.out HZ.out (by simp only [inSeq] at hfl3; omega) rfl rfl rfl rfl (fun v' w' HF2 => ?_) | fail
        rename_i HF2
        have HF3 := Lib.hid HF2
        clear HF2
        go_wp2_with fail
        go_roundw
        case rel => exact ⟨k + 1, by omega, by go_num, by rw [HS.out]; exact HF3.out⟩
        case measure => simp [intOf]; omega
      · rw [he] at HS
        have hno := as_seq_no ty pay wr hty
        go_wp2_with first | refine Fl.push Try.underlying98 HF.out ht (by omega) rfl rfl rfl rfl (fun v' w' HF2 => ?_) | fail
        rename_i HF2
        have HF3 := Lib.hid HF2
        clear HF2
        go_wp2_with fail
        go_roundw
        case rel => exact ⟨k + 1, by omega, by go_num, by rw [HS.out]; exact HF3.out⟩
        case measure => simp [intOf]; omega
    · obtain rfl : k = ts.length := by omega
      rw [List.take_length] at HF
      have hmk : mkSeq ts = oneOr .seq (ts.flatMap inSeq) := rfl
      clear hfl
      obtain ⟨a1, cap1, rfl⟩ := HF.out.len
      by_cases h1 : (ts.flatMap inSeq).length = 1
      · obtain ⟨t, ht⟩ := List.length_eq_one_iff.1 h1
        rw [ht] at HF
        obtain ⟨g, cap2, u, e0, hc, hu⟩ := HF.out.one
        replace e0 : Value.slice a1 1 cap1 = Value.slice (some ⟨g, 0, none⟩) 1 cap2 := e0
        cases e0
        have hmk2 : mkSeq ts = t := by rw [hmk, ht]; rfl
        have h1' : ((((ts.flatMap inSeq).length : Nat) : Int) = 1) := by omega
        go_wp2_with fail
        go_ret
        exact ⟨_, rfl, by rw [hmk2]; exact hu, HF.out.bel⟩
      · have hoo : oneOr T.seq (ts.flatMap inSeq) = .seq (ts.flatMap inSeq) := by
          unfold oneOr
          split
          · rename_i e
            rw [e] at h1
            exact absurd rfl h1
          · rfl
        have h1' : ¬ (((ts.flatMap inSeq).length : Nat) : Int) = 1 := by omega
        have hnl : (ts.flatMap inSeq).length ≤ 100000 := by have := flat_len inSeq bd_inSeq ts ts.length hl; rw [List.take_length] at this; omega
        rw [hoo] at hmk
        have HM := Lib.hid hmk
        clear hoo hmk hfl2
        generalize ts.flatMap inSeq = fl at *
        go_wp2_with fail
        go_ret
        exact ⟨_, rfl, by rw [HM.out]; exact HF.out.seq, HF.out.bel⟩
set_option maxRecDepth 100000 in
set_option maxHeartbeats 4000000 in
theorem newAlt_any (w : World) (S : Nat → Prop) (v : Value) (vs : List Value) (ts : List T) (hf : Fz w 57 1 v ts.length vs) (hA : AllT w S vs ts) (hl : bdL ts ≤ 100000) :
    Calls Try.prog 29 #[v] w fun e w' => ∃ u, e = .returned u ∧ IsT w' (Sx S w w') u (mkAlt ts) ∧ Below w.heap.size w w' := by
  obtain ⟨a0, cap, rfl, hcap, hcm⟩ := hf.form
  unfold maxLen at hcm
  have HC := Lib.hid (fun h : 0 < ts.length => Fz.cells hf h)
  have HA := Lib.hid hA
  have hlen := bdL_len ts
  clear hf hA
  go_enter Try.func29, Try.ntmps29
  go_wp2_with fail
  go_loopw [3, 10] (fun s i wr => ∃ k : Nat, k ≤ ts.length ∧ i = .int .i64 (k : Int) ∧ Fl w S s ((ts.take k).flatMap inAlt) wr) (fun _ i _ => ts.length - (intOf i).toNat)
  case atStart => exact ⟨0, Nat.zero_le _, rfl, Fl.start w S⟩
  case round =>
    obtain ⟨k, hk, rfl, hfl⟩ := hrel
    have HF := Lib.hid hfl
    have hfl2 := flat_len inAlt bd_inAlt ts k hl
    by_cases hlt : k < ts.length
    · obtain ⟨g, rfl, hg, hc⟩ := HC.out (by omega)
      obtain ⟨u, hu, ht⟩ := HA.out.at hlt
      have q := hc k u hu
      have q0 : wr.cell? ⟨g, k, none⟩ = some u := (Below.cell hfl.bel (p := ⟨g, k, none⟩) hg).trans q
      have HS := Lib.hid (flat_step inAlt hlt)
      have hfl3 := flat_len inAlt bd_inAlt ts (k + 1) hl
      rw [flat_step _ hlt, List.length_append] at hfl3
      have hd := fun h => HC.out h
      clear hfl hc hd hu q
      rcases ht.alt_or with ⟨u1, us, rs, et, rfl, hf1, hA1⟩ | ⟨ty, pay, rfl, hty, he⟩
      · rw [et] at hfl3 HS
        have HP := Lib.hid hA1
        have HZ := Lib.hid hf1
        clear ht et hf1 hA1
        go_wp2_with first | refine Fl.pushes Try.underlying99 HF.out HP.out HZ.out (by simp only [inAlt] at hfl3; omega) rfl rfl rfl rfl (fun v' w' HF2 => ?_) | fail
        rename_i HF2
        have HF3 := Lib.hid HF2
        clear HF2
        go_wp2_with fail
        go_roundw
        case rel => exact ⟨k + 1, by omega, by go_num, by rw [HS.out]; exact HF3.out⟩
        case measure => simp [intOf]; omega
      · rw [he] at HS
        have hno := as_alt_no ty pay wr hty
        go_wp2_with first | refine Fl.push Try.underlying99 HF.out ht (by omega) rfl rfl rfl rfl (fun v' w' HF2 => ?_) | fail
        rename_i HF2
        have HF3 := Lib.hid HF2
        clear HF2
        go_wp2_with fail
        go_roundw
        case rel => exact ⟨k + 1, by omega, by go_num, by rw [HS.out]; exact HF3.out⟩
        case measure => simp [intOf]; omega
    · obtain rfl : k = ts.length := by omega
      rw [List.take_length] at HF
      have hmk : mkAlt ts = oneOr .alt (ts.flatMap inAlt) := rfl
      clear hfl
      obtain ⟨a1, cap1, rfl⟩ := HF.out.len
      by_cases h1 : (ts.flatMap inAlt).length = 1
      · obtain ⟨t, ht⟩ := List.length_eq_one_iff.1 h1
        rw [ht] at HF
        obtain ⟨g, cap2, u, e0, hc, hu⟩ := HF.out.one
        replace e0 : Value.slice a1 1 cap1 = Value.slice (some ⟨g, 0, none⟩) 1 cap2 := e0
        cases e0
        have hmk2 : mkAlt ts = t := by rw [hmk, ht]; rfl
        have h1' : ((((ts.flatMap inAlt).length : Nat) : Int) = 1) := by omega
        go_wp2_with fail
        go_ret
        exact ⟨_, rfl, by rw [hmk2]; exact hu, HF.out.bel⟩
      · have hoo : oneOr T.alt (ts.flatMap inAlt) = .alt (ts.flatMap inAlt) := by
          unfold oneOr
          split
          · rename_i e
            rw [e] at h1
            exact absurd rfl h1
          · rfl
        have h1' : ¬ (((ts.flatMap inAlt).length : Nat) : Int) = 1 := by omega
        have hnl : (ts.flatMap inAlt).length ≤ 100000 := by have := flat_len inAlt bd_inAlt ts ts.length hl; rw [List.take_length] at this; omega
        rw [hoo] at hmk
        have HM := Lib.hid hmk
        clear hoo hmk hfl2
        generalize ts.flatMap inAlt = fl at *
        go_wp2_with fail
        go_ret
        exact ⟨_, rfl, by rw [HM.out]; exact HF.out.alt, HF.out.bel⟩
end Go.Proofs.Ytlbkacabcfeaiaa.Tl
