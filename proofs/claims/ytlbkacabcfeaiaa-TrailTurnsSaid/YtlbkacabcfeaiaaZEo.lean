/- Patterns: the program's code of a choice. Printed by mkem.py. -/
import Derived.Test.YtlbkacabcfeaiaaZEn
namespace Go.Proofs.Ytlbkacabcfeaiaa.Tl
open Go.RowKit Mm
set_option linter.unusedVariables false
def stA (last : Bool) (t : T) (r : List Sp × List Nat) : List Sp × List Nat :=
  if last then (em t r.1, r.2)
  else
    let c1 := em t (r.1 ++ [⟨none, r.1.length + 1, 0, false⟩])
    let c2 := c1 ++ [⟨none, 0, 0, false⟩]
    (setOt c2 r.1.length c2.length, r.2 ++ [c1.length])
def emB : List T → Nat → List Sp × List Nat → List Sp × List Nat
  | [], _, r => r
  | _ :: _, 0, r => r
  | t :: l, k + 1, r => emB l k (stA l.isEmpty t r)
theorem emB_0 (l : List T) (r : List Sp × List Nat) : emB l 0 r = r := by cases l <;> rfl
theorem emB_all : (l : List T) → (c : List Sp) → (js : List Nat) → emB l l.length (c, js) = emA l c js
  | [], c, js => by rw [emB, emA]
  | t :: l, c, js => by
    rw [List.length_cons, emB, emA]
    unfold stA
    cases hl : l.isEmpty with
    | true => simp only [if_true]; exact emB_all l _ _
    | false => simp only [Bool.false_eq_true, if_false]; exact emB_all l _ _
theorem emB_step : (l : List T) → (k : Nat) → (r : List Sp × List Nat) → (h : k < l.length) → emB l (k + 1) r = stA (decide (k + 1 = l.length)) l[k] (emB l k r)
  | [], k, r, h => by simp at h
  | t :: l, 0, r, h => by
    rw [show emB (t :: l) (0 + 1) r = emB l 0 (stA l.isEmpty t r) from rfl, emB_0, emB_0]
    congr 1
    cases l <;> simp
  | t :: l, k + 1, r, h => by
    rw [emB, emB_step l k _ (by simpa using h), emB]
    congr 1
    simp
theorem stA_js (b : Bool) (t : T) (r : List Sp × List Nat) (h : ∀ j ∈ r.2, j < r.1.length) : ∀ j ∈ (stA b t r).2, j < (stA b t r).1.length := by
  intro j hj
  unfold stA at hj ⊢
  cases b with
  | true =>
    simp only [if_true] at hj ⊢
    have := (em_len t r.1).1
    have := h j hj
    omega
  | false =>
    simp only [Bool.false_eq_true, if_false] at hj ⊢
    have h1 := (em_len t (r.1 ++ [⟨none, r.1.length + 1, 0, false⟩])).1
    rw [List.length_append, List.length_cons, List.length_nil] at h1
    rw [setOt_len, List.length_append, List.length_cons, List.length_nil]
    rcases List.mem_append.1 hj with hj | hj
    · have := h j hj
      omega
    · rw [List.mem_singleton] at hj
      omega
theorem emB_js : (k : Nat) → (l : List T) → (r : List Sp × List Nat) → (∀ j ∈ r.2, j < r.1.length) → ∀ j ∈ (emB l k r).2, j < (emB l k r).1.length
  | 0, l, r, h => by rw [emB_0]; exact h
  | k + 1, [], r, h => by rw [emB]; exact h
  | k + 1, t :: l, r, h => by rw [emB]; exact emB_js k l _ (stA_js _ t r h)
theorem stA_len (b : Bool) (t : T) (r : List Sp × List Nat) : r.1.length ≤ (stA b t r).1.length ∧ (stA b t r).1.length ≤ r.1.length + bd t ∧ (stA b t r).2.length ≤ r.2.length + 1 := by
  have h1 := em_len t r.1
  have h2 := em_len t (r.1 ++ [⟨none, r.1.length + 1, 0, false⟩])
  rw [List.length_append, List.length_cons, List.length_nil] at h2
  unfold stA
  cases b with
  | true => simp only [if_true]; omega
  | false =>
    simp only [Bool.false_eq_true, if_false]
    rw [setOt_len, List.length_append, List.length_append, List.length_cons, List.length_nil, List.length_cons, List.length_nil]
    omega
theorem emB_len : (k : Nat) → (l : List T) → (r : List Sp × List Nat) → r.1.length ≤ (emB l k r).1.length ∧ (emB l k r).1.length ≤ r.1.length + bdL (l.take k) ∧ (emB l k r).2.length ≤ r.2.length + k
  | 0, l, r => by rw [emB_0]; simp
  | k + 1, [], r => by rw [emB]; simp
  | k + 1, t :: l, r => by
    rw [emB, List.take_succ_cons, bdL]
    have h1 := stA_len l.isEmpty t r
    have h2 := emB_len k l (stA l.isEmpty t r)
    omega
def iv (l : List Nat) : List Value := l.map fun (n : Nat) => Value.int .i64 (n : Int)
theorem iv_len (l : List Nat) : (iv l).length = l.length := List.length_map _
theorem info_int : (Try.prog.info? 3).map (fun i => (i.zero, i.size, i.bytes)) = some (some (.int .i64 0), 1, 8) := by kernel_rfl
/-- the row of jumps beside the row of steps -/
theorem jump_keep {w X Y : World} {B B' : Nat} {v v1 v2 : Value} {c1 c2 : List Sp} {j : Value} {n : Nat} {xs : List Value} (hj : X.ownsRow B' 3 1 j n xs) (h1 : EmW w B v c1 v1 X) (h2 : EmW X B v1 c2 v2 Y) : Y.ownsRow B' 3 1 j n xs :=
  own_grown hj h2.grow (own_apart hj h1.row (by decide))
theorem app_int {B : Nat} {v : Value} {js : List Nat} {w : World} {k : Nat} {iv0 : Int} (hiv : iv0 = (k : Int)) {ops : Array Oper} {rest : List Oper} {o : Oper} {a : Act} {Q : Exit → Act → World → Prop} {x y : Operand} {g : Nat}
    (hown : w.ownsRow B 3 1 v js.length (iv js)) (hgd : o.guard = none) (ho : o.op = .call { callee := .builtin .append, args := #[x, y], argTypes := #[72, 72] })
    (hs : a.eval x = v) (hx : a.eval y = .slice (some ⟨g, 0, none⟩) 1 1) (hg : g = w.heap.size) (hn : js.length ≤ 100000) (hB : B ≤ w.heap.size)
    (h : ∀ v' w', w'.ownsRow B 3 1 v' (js ++ [k]).length (iv (js ++ [k])) → Keeps (w.alloc (.cells #[.int .i64 iv0] 3)) v v' w' → wpList Try.prog ops Q rest (a.put o.dst v') w') : wpList Try.prog ops Q (o :: rest) a (w.alloc (.cells #[.int .i64 iv0] 3)) := by
  subst hg hiv
  obtain ⟨i0, hi, hz0, hz1, hz2⟩ := info_parts info_int
  refine wpList_append_keep _ hgd x y 72 ho B 3 i0 _ 1 8 Try.underlying72 hi hz0 hz1 hz2 rfl (by decide) v js.length _ hs (hown.alloc _) ⟨w.heap.size, 0, none⟩ 1 1 [.int .i64 (k : Int)] hx rfl (cells_new _ #[.int .i64 (k : Int)] _)
    (by simp [Value.oneCell']) (by decide) (by simp only [maxLen]; omega) (by omega) (by simp; omega) (fun v2 w2 h2 h3 => h v2 w2 ?_ h3)
  have e : iv (js ++ [k]) = iv js ++ [.int .i64 (k : Int)] := by simp [iv]
  rw [List.length_append, e]
  exact h2
/-- the row of steps beside an append onto the row of jumps -/
theorem EmW.beside {w X Y : World} {B : Nat} {v v1 j j' : Value} {c1 : List Sp} {n : Nat} {xs : List Value} {o : Obj} (h1 : EmW w B v c1 v1 X) (hj : X.ownsRow w.heap.size 3 1 j n xs) (hk : Keeps (X.alloc o) j j' Y) : EmW w B v c1 v1 Y := by
  have h2 := h1.alloc o
  have hg := hk.by
  refine ⟨own_grown h2.row hg (own_apart h2.row (hj.alloc o) (by decide)), ?_, h2.new⟩
  refine ⟨hg.os.trans h2.grow.os, hg.tape.trans h2.grow.tape, hg.output.trans h2.grow.output, Nat.le_trans h2.grow.size hg.size, fun g hlt hne => ?_⟩
  rw [hg.block g (Nat.lt_of_lt_of_le hlt h2.grow.size) ?_, h2.grow.block g hlt hne]
  intro e
  have := (hj.lt g e.symm).1
  omega
set_option maxRecDepth 100000 in
set_option maxHeartbeats 8000000 in
theorem choice_emit {l : List T} (hall : ∀ t ∈ l, EmC t) (w : World) (S : Nat → Prop) (u : Value) (vs : List Value) (B : Nat) (v : Value) (c : List Sp) (hf : Fz w 57 1 u l.length vs) (hsu : ∀ g, u.ownBlock = some g → S g) (hA : AllT w S vs l)
    (hSB : ∀ g, S g → g < B) (hB : B ≤ w.heap.size) (hrow : w.ownsRow B 64 4 v c.length (spC c)) (hbd : c.length + bdL l + 8 ≤ 90000) :
    Calls Try.prog 85 #[u, v] w fun e w' => ∃ v', e = .returned v' ∧ EmW w B v (em (.alt l) c) v' w' := by
  obtain ⟨a0, cap, rfl, hcap, hcm⟩ := hf.form
  unfold maxLen at hcm
  have HC := Lib.hid (fun h : 0 < l.length => Fz.cells hf h)
  have HA := Lib.hid hA
  have HW := Lib.hid hall
  have hlen := bdL_len l
  have HB := Lib.hid (fun (X : World) (c1 : List Sp) (v1 : Value) (h : EmW w B v c1 v1 X) => h.below hrow hB)
  have HS := Lib.hid (EmW.start hrow)
  have HSU := Lib.hid hsu
  have HEM := Lib.hid (show em (.alt l) c = (emA l c []).2.foldl (fun d j => setNx d j (emA l c []).1.length) (emA l c []).1 from by rw [em])
  have HLEN := Lib.hid (show ∀ k, (emB l k (c, [])).1.length ≤ c.length + bdL (l.take k) ∧ (emB l k (c, [])).2.length ≤ k from fun k => by have := emB_len k l (c, []); simp only [List.length_nil, Nat.zero_add] at this; exact this.2)
  have HJS := Lib.hid (fun k => emB_js k l (c, []) (by intro j hj; cases hj))
  have HALL := Lib.hid (emB_all l c [])
  clear hf hA hall hrow hsu
  go_enter Try.func85, Try.ntmps85
  go_wp2_with fail
  go_loopw [1, 5, 14] (fun s j i wr => ∃ k : Nat, k ≤ l.length ∧ i = .int .i64 (k : Int) ∧ EmW w B v (emB l k (c, [])).1 s wr ∧ wr.ownsRow w.heap.size 3 1 j (emB l k (c, [])).2.length (iv (emB l k (c, [])).2)) (fun _ _ i _ => l.length - (intOf i).toNat)
  case atStart => exact ⟨0, Nat.zero_le _, rfl, by rw [emB_0]; exact HS.out, by rw [emB_0]; exact (show w.ownsRow w.heap.size 3 1 (.slice none 0 0) 0 [] from World.ownsRow_nil _ _ _ _)⟩
  case round =>
    obtain ⟨k, hk, rfl, hE, hJ⟩ := hrel
    have hln := HLEN.out k
    have hjs := HJS.out k
    by_cases hlt : k < l.length
    · obtain ⟨g, rfl, hg, hc⟩ := HC.out (by omega)
      obtain ⟨x, hx, ht⟩ := HA.out.at hlt
      have hbel := HB.out _ _ _ hE
      have hgB := hSB g (HSU.out g rfl)
      have q := hc k x hx
      have q0 : wr.cell? ⟨g, k, none⟩ = some x := (Below.cell hbel (p := ⟨g, k, none⟩) hgB).trans q
      have hem := HW.out _ (List.getElem_mem hlt)
      have hb1 := bdL_at hlt
      have HT := Lib.hid (emB_step l k (c, []) hlt)
      have HKP := Lib.hid (show ∀ X, Below B w X → IsT X S x l[k] from fun X hb => ht.keep (fun _ h => h) (fun g h _ => hb.block g (hSB g h)))
      obtain ⟨a1, cap1, rfl⟩ := hE.len
      obtain ⟨a2, cap2, rfl⟩ := own_len hJ
      generalize l[k] = t at *
      obtain ⟨ty, pay, rfl⟩ := ht.form
      have hlc : (emB l k (c, [])).1.length ≤ 90000 := by omega
      have hlj : (emB l k (c, [])).2.length ≤ 90000 := by omega
      have hlb : (emB l k (c, [])).1.length + bd t + 8 ≤ 90000 := by omega
      generalize emB l k (c, []) = r at *
      obtain ⟨C, J⟩ := r
      simp only at hE hJ hjs hlc hlj hlb
      have HE := Lib.hid hE
      have HJ := Lib.hid hJ
      have HBB := Lib.hid hbel.size
      have ht2 := HKP.out _ hbel
      clear hE hJ hc hx q ht hbel hln
      by_cases hlast : k + 1 = l.length
      · have HT2 := Lib.hid (show emB l (k + 1) (c, []) = (em t C, J) from by rw [HT.out, hlast]; unfold stA; simp)
        have HX := Lib.hid (hem wr S ty pay B _ _ ht2 hSB (Nat.le_trans hB HBB.out) HE.out.row (by omega))
        clear hem
        have hq : (l.length : Int) - 1 = (k : Int) := by omega
        cases ht2
        all_goals
          go_wp2_with fail
          refine HX.out.mono ?_
          rintro e w3 ⟨v', rfl, hE3⟩
          have HF := Lib.hid (HE.out.trans hE3)
          have HJ3 := Lib.hid (jump_keep HJ.out HE.out hE3)
          clear hE3
          go_wp2_with fail
          go_roundw
          case rel => exact ⟨k + 1, by omega, by go_num, by rw [HT2.out]; exact HF.out, by rw [HT2.out]; exact HJ3.out⟩
          case measure => simp [intOf]; omega
      · have hdec : decide (k + 1 = l.length) = false := by simpa using hlast
        have hq : ((k : Int) == (l.length : Int) - 1) = false := by rw [beq_eq_false_iff_ne]; omega
        have HT2 := Lib.hid (show emB l (k + 1) (c, []) = (setOt (em t (C ++ [⟨none, C.length + 1, 0, false⟩]) ++ [⟨none, 0, 0, false⟩]) C.length ((em t (C ++ [⟨none, C.length + 1, 0, false⟩])).length + 1), J ++ [(em t (C ++ [⟨none, C.length + 1, 0, false⟩])).length]) from by
          rw [HT.out, hdec]; unfold stA; simp)
        have HX := Lib.hid (fun (X : World) (v1 : Value) (hX : EmW w B v (C ++ [⟨none, C.length + 1, 0, false⟩]) v1 X) => hem X S ty pay B v1 _ (HKP.out X (HB.out X _ _ hX)) hSB (Nat.le_trans hB hX.grow.size) hX.row (by rw [List.length_append, List.length_cons, List.length_nil]; omega))
        have hel := em_len t (C ++ [⟨none, C.length + 1, 0, false⟩])
        rw [List.length_append, List.length_cons, List.length_nil] at hel
        clear hem HT hdec
        generalize em t (C ++ [⟨none, C.length + 1, 0, false⟩]) = C1 at *
        have hc1 : C.length < C1.length ∧ C1.length ≤ 90010 := by omega
        have hwr := Nat.le_trans hB HBB.out
        clear hel hlb hb1
        have HIX : IntKind.i64.wrap (C.length : Int) = (C.length : Int) := IntWalk.i64_in _ (by omega)
        have hlt5 : C.length < C1.length + 1 := by omega
        cases ht2
        all_goals
          go_wp2_with (at_builtin; refine EmW.push ⟨none, C.length + 1, 0, false⟩ rfl (EmW.start HE.out.row) hwr (by omega) rfl rfl rfl rfl (by simp) (fun g2 cap2 w2 HF0 => ?_))
          refine (HX.out _ _ (HE.out.trans HF0)).mono ?_
          rintro e w3 ⟨v', rfl, hE3⟩
          have HF3 := Lib.hid (HE.out.trans (HF0.trans hE3))
          have HJ3 := Lib.hid (jump_keep HJ.out HE.out (HF0.trans hE3))
          obtain ⟨a3, cap3, rfl⟩ := hE3.len
          have hw3 := HF3.out.grow.size
          clear hE3 HF0
          go_wp2_with first | (at_builtin; refine app_int (k := C1.length) rfl HJ3.out rfl rfl rfl rfl (by simp) (by omega) hw3 ?_; intro v4 w4 hJ4 hK4) | (at_builtin; refine EmW.push ⟨none, 0, 0, false⟩ rfl (EmW.start (HF3.out.beside HJ3.out hK4).row) (Nat.le_trans hB (HF3.out.beside HJ3.out hK4).grow.size) (by omega) rfl rfl rfl rfl (by simp) ?_; intro g5 cap5 w5 hF5; obtain ⟨⟨x5, hx5⟩, _, hf5, _⟩ := hF5.cell (i := C.length) (by simp; omega))
          have HF5 := Lib.hid ((HF3.out.beside HJ3.out hK4).trans hF5)
          have HJ5 := Lib.hid (jump_keep hJ4 (HF3.out.beside HJ3.out hK4) hF5)
          go_roundw
          case rel => exact ⟨k + 1, by omega, by go_num, by rw [HT2.out]; exact HF5.out.storeOt (i := C.length) (k := C1.length + 1) (by simp) (by simp; omega), by rw [HT2.out]; exact jump_keep HJ5.out HF5.out ((EmW.start HF5.out.row).storeOt (i := C.length) (k := C1.length + 1) (by simp) (by simp; omega))⟩
          case measure => simp [intOf]; omega
    · obtain rfl : k = l.length := by omega
      rw [HALL.out] at hE hJ hjs hln
      clear hlt hk HC HA HW HB HS HSU HLEN HJS HALL
      generalize emA l c [] = r at *
      obtain ⟨C, J⟩ := r
      simp only at hE hJ hjs hln HEM
      have hlc : C.length ≤ 90000 := by have := hln.1; rw [List.take_length] at this; omega
      have hlj : J.length ≤ 90000 := by omega
      obtain ⟨a1, cap1, rfl⟩ := hE.len
      obtain ⟨a2, cap2, rfl⟩ := own_len hJ
      have HE := Lib.hid hE
      have HJ := Lib.hid hJ
      clear hE hJ hln
      go_wp2_with fail
      go_loopw [57] (fun i wr2 => ∃ m : Nat, m ≤ J.length ∧ i = .int .i64 (m : Int) ∧ EmW w B v ((J.take m).foldl (fun d j => setNx d j C.length) C) (.slice a1 C.length cap1) wr2 ∧ wr2.ownsRow w.heap.size 3 1 (.slice a2 J.length cap2) J.length (iv J)) (fun i _ => J.length - (intOf i).toNat)
      case atStart => exact ⟨0, Nat.zero_le _, rfl, HE.out, HJ.out⟩
      case round =>
        obtain ⟨m, hm, rfl, hE2, hJ2⟩ := hrel
        by_cases hlt2 : m < J.length
        · have hfl : ((J.take m).foldl (fun d j => setNx d j C.length) C).length = C.length := fold_len _ _ _
          have hjl := hjs J[m] (List.getElem_mem hlt2)
          have HT3 := Lib.hid (show (J.take (m + 1)).foldl (fun d j => setNx d j C.length) C = setNx ((J.take m).foldl (fun d j => setNx d j C.length) C) J[m] C.length from by rw [List.take_succ_eq_append_getElem hlt2, List.foldl_append]; rfl)
          obtain ⟨gj, cj, hjv, _, _, hjlt, hjc⟩ := own_at hJ2 (by omega)
          cases hjv
          have qj : wr.cell? ⟨gj, m, none⟩ = some (.int .i64 (J[m] : Int)) := hjc m _ (by simp [iv, hlt2])
          obtain ⟨ge, ce, hev, _, _⟩ := own_form hE2.row (by omega)
          simp only [Value.slice.injEq] at hev
          obtain ⟨rfl, hz, rfl⟩ := hev
          clear hz
          obtain ⟨_, ⟨x1, hx1⟩, _, hf1⟩ := hE2.cell (i := J[m]) (by rw [hfl]; exact hjl)
          have HE2 := Lib.hid hE2
          have HJ2 := Lib.hid hJ2
          have HFL := Lib.hid hfl
          clear hE2 hJ2 hjc hjs HE HJ hfl
          generalize (J.take m).foldl (fun d j => setNx d j C.length) C = D at *
          generalize J[m] = j at *
          have HIX : IntKind.i64.wrap (j : Int) = (j : Int) := IntWalk.i64_in _ (by omega)
          go_wp2_with fail
          go_roundw
          case rel => exact ⟨m + 1, by omega, by go_num, by rw [HT3.out]; exact HE2.out.storeNx HFL.out.symm (by rw [HFL.out]; exact hjl), jump_keep HJ2.out HE2.out ((EmW.start HE2.out.row).storeNx HFL.out.symm (by rw [HFL.out]; exact hjl))⟩
          case measure => simp [intOf]; omega
        · obtain rfl : m = J.length := by omega
          rw [List.take_length] at hE2
          have HE2 := Lib.hid hE2
          clear hE2 HE
          go_wp2_with fail
          go_ret
          exact ⟨_, rfl, by rw [HEM.out]; exact HE2.out⟩
end Go.Proofs.Ytlbkacabcfeaiaa.Tl
