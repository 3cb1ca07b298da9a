/- Patterns: what a bracket holds, as a tree. -/
import Derived.Test.YtlbkacabcfeaiaaZRn
namespace Go.Proofs.Ytlbkacabcfeaiaa.Tl
open Go.RowKit Mm
set_option linter.unusedVariables false
theorem IsT.form {w : World} {S : Nat → Prop} {v : Value} {t : T} (h : IsT w S v t) : ∃ ty pay, v = .iface ty pay := by
  cases h <;> exact ⟨_, _, rfl⟩
theorem trees_append {st ty : TypeId} {B n : Nat} {v sv : Value} {xs ys : List Value} {w : World} (ht : Try.prog.underlying st = some (.slice 57)) (hown : w.ownsRow B 57 1 v n xs) (hS : Sees w sv ys) (h1 : ∀ u ∈ ys, u.oneCell' = true) (hn : n + ys.length ≤ 1000000) (hB : B ≤ w.heap.size) :
    ∃ v' w', (Builtin.append_ #[st, st] ty #[v, sv]).run Try.prog w = .ok v' w' ∧ w'.ownsRow B 57 1 v' (n + ys.length) (xs ++ ys) ∧ w.grownBy w' v.ownBlock := by
  obtain ⟨i0, hi, hz0, hz1, hz2⟩ := info_parts info_tree
  obtain ⟨ad, cap, rfl, hN, hc, hm, hq⟩ := hS
  cases ad with
  | none =>
    have hc0 := hN rfl
    have hM : ys = [] := List.eq_nil_of_length_eq_zero (by omega)
    subst hM
    subst hc0
    have hr := run_append_owned_none (P := Try.prog) (w := w) B st ty 57 i0 1 ht hi v n _ hown
    exact ⟨v, w, hr, by simpa using hown, grefl _ _⟩
  | some ad =>
    obtain ⟨v', w', hr, h2, h3, _, _⟩ := run_append_own_at (P := Try.prog) w B st ty 57 i0 _ 1 16 ht hi hz0 hz1 hz2 rfl (by decide) v n _ hown ad ys.length cap ys (by simp)
      (by
        intro j u hj
        rcases hq with hq | ⟨g, off, ha, hg, hq⟩
        · rw [hq] at hj; simp at hj
        · cases ha
          rw [add_offs]
          exact hq j u hj) h1 (by simp only [maxLen]; omega) (by omega) hB
    exact ⟨v', w', hr, h2, h3⟩
theorem step_trees {st : TypeId} {B n : Nat} {v sv : Value} {xs ys : List Value} {w : World} {ops : Array Oper} {o : Oper} {a : Act} {K : Act → World → Prop} {Q : Exit → Act → World → Prop} {E : Prop} (s x : Operand)
    (ht : Try.prog.underlying st = some (.slice 57)) (hown : w.ownsRow B 57 1 v n xs) (hS : Sees w sv ys) (h1 : ∀ u ∈ ys, u.oneCell' = true) (hgd : o.guard = none) (ho : o.op = .call { callee := .builtin .append, args := #[s, x], argTypes := #[st, st] })
    (hs : a.eval s = v) (hx : a.eval x = sv) (hn : n + ys.length ≤ 1000000) (hB : B ≤ w.heap.size)
    (h : ∀ v' w', w'.ownsRow B 57 1 v' (n + ys.length) (xs ++ ys) → w.grownBy w' v.ownBlock → K (a.put o.dst v') w') :
    if Region.wanted o (yielded ops a.tmps) = true then Oper.wp Try.prog o a w K Q else E := by
  have hw : Region.wanted o (yielded ops a.tmps) = true := by simp [Region.wanted, hgd]
  rw [if_pos hw]
  obtain ⟨v', w', hr, h2, h3⟩ := trees_append (ty := o.type) ht hown hS h1 hn hB
  unfold Oper.wp execOp
  simp only [ho, resolve, invoke, builtin, Sem.run_bind, Sem.run_pure, Result.andThen_ok, List.map_toArray, List.map_cons, List.map_nil, hs, hx, hr]
  exact h v' w' h2 h3
abbrev HdO (b : Nat) (v0 v1 : Value) (W : World) : Prop := W.cell? ⟨b, 0, none⟩ = some v0 ∧ W.cell? ⟨b, 1, none⟩ = some v1
theorem HdO.of {X : World} {b : Nat} {v0 v1 : Value} {t : TypeId} (h : Blk X b t #[v0, v1]) : HdO b v0 v1 X := ⟨h.cell 0, h.cell 1⟩
set_option maxRecDepth 100000 in
set_option maxHeartbeats 8000000 in
theorem whole_any (w : World) (S : Nat → Prop) (vc vp : Value) (cs ps : List Value) (ch pt : List T) (hc : Fz w 57 1 vc ch.length cs) (hAc : AllT w S cs ch) (hp : Fz w 57 1 vp pt.length ps) (hAp : AllT w S ps pt) (hl : bdL ch + bdL pt ≤ 90000) (hSl : ∀ k, S k → k < w.heap.size) :
    Calls Try.prog 18 #[.agg #[vc, vp]] w fun e w' => ∃ u, e = .returned u ∧ IsT w' (Sx S w w') u (whole ch pt) ∧ Below w.heap.size w w' := by
  have hcl := bdL_len ch
  have hpl := bdL_len pt
  obtain ⟨ac, cc, rfl, _, _⟩ := hc.form
  obtain ⟨ap, cp, rfl, _, _⟩ := hp.form
  have hB0 := Blk.new w 52 #[.slice ac ch.length cc, .slice ap pt.length cp]
  have HB := Lib.hid hB0
  have HS0 := Lib.hid (HdO.of hB0.drew)
  have HC := Lib.hid hc
  have HP := Lib.hid hp
  have HAC := Lib.hid hAc
  have HAP := Lib.hid hAp
  have hbl : Below w.heap.size w ((w.alloc (.cells #[.slice ac ch.length cc, .slice ap pt.length cp] 52)).drew) := (bal (Below.refl _ _) _).drew
  have hsz : ((w.alloc (.cells #[.slice ac ch.length cc, .slice ap pt.length cp] 52)).drew).heap.size = w.heap.size + 1 := by simp
  have HBL := Lib.hid hbl
  have HSZ := Lib.hid hsz
  clear hc hp hAc hAp hB0 hbl hsz
  go_enter Try.func18, Try.ntmps18
  go_wp2_with fail
  have hS0 : HdO w.heap.size (.slice ac ch.length cc) (.slice ap pt.length cp) ((w.alloc (.cells #[.slice ac ch.length cc, .slice ap pt.length cp] 52)).drew) := HS0.out
  refine wp_region_last 9 (fun w' => HdO w.heap.size (.slice ac ch.length cc) (.slice ap pt.length cp) w') mixed ?_
  generalize hw2 : (w.alloc (.cells #[.slice ac ch.length cc, .slice ap pt.length cp] 52)).drew = w2 at *
  clear hw2
  refine wpLast_take (i := 0) (oi := { dst := some 3, op := Op.fieldAddr 52 (Operand.tmp 1) 0, type := 0, pos := "read.go:13", after := #[], guard := none }) (v := ?_) rfl (by kernel_rfl) (by kernel_rfl) (by kernel_rfl) (by kernel_rfl) (fun _ _ _ h => h) (Or.inl ⟨by rfl, ?_⟩) (by assumption) ?_
  rotate_left
  · intro w hSw
    try dsimp only at hSw
    go_simp
    try with_reducible rfl
  try simp only [Act.put, List.setIfInBounds_toArray, List.set_cons_zero, List.set_cons_succ]
  refine wpLast_take (i := 1) (oi := { dst := some 4, op := Op.load 50 (Operand.tmp 3), type := 50, pos := "read.go:13", after := #[{ on := 0, ground := Ground.data }], guard := none }) (v := ?_) rfl (by kernel_rfl) (by kernel_rfl) (by kernel_rfl) (by kernel_rfl) (fun _ _ _ h => h) (Or.inl ⟨by rfl, ?_⟩) (by assumption) ?_
  rotate_left
  · intro w hSw
    try dsimp only at hSw
    go_simp
    try with_reducible rfl
  try simp only [Act.put, List.setIfInBounds_toArray, List.set_cons_zero, List.set_cons_succ]
  refine wpLast_take (i := 3) (oi := { dst := some 6, op := Op.fieldAddr 52 (Operand.tmp 1) 1, type := 0, pos := "read.go:13", after := #[], guard := none }) (v := ?_) rfl (by kernel_rfl) (by kernel_rfl) (by kernel_rfl) (by kernel_rfl) (fun _ _ _ h => h) (Or.inl ⟨by rfl, ?_⟩) (by assumption) ?_
  rotate_left
  · intro w hSw
    try dsimp only at hSw
    go_simp
    try with_reducible rfl
  try simp only [Act.put, List.setIfInBounds_toArray, List.set_cons_zero, List.set_cons_succ]
  refine wpLast_take (i := 4) (oi := { dst := some 7, op := Op.load 50 (Operand.tmp 6), type := 50, pos := "read.go:13", after := #[{ on := 3, ground := Ground.data }], guard := none }) (v := ?_) rfl (by kernel_rfl) (by kernel_rfl) (by kernel_rfl) (by kernel_rfl) (fun _ _ _ h => h) (Or.inl ⟨by rfl, ?_⟩) (by assumption) ?_
  rotate_left
  · intro w hSw
    try dsimp only at hSw
    go_simp
    try with_reducible rfl
  try simp only [Act.put, List.setIfInBounds_toArray, List.set_cons_zero, List.set_cons_succ]
  refine wpLast_ready (rs := [2]) (by kernel_rfl) (by simp) ?_
  refine EachLast.cons (o := { dst := some 5, op := Op.call { callee := Callee.builtin Builtin.append, args := #[Operand.const (Value.slice none 0 0), Operand.tmp 4], argTypes := #[50, 50] }, type := 50, pos := "read.go:13", after := #[{ on := 1, ground := Ground.data }], guard := none }) rfl (fun K hK => ?_) EachLast.nil
  refine step_trees (n := 0) (xs := []) (B := w2.heap.size) (.const (.slice none 0 0)) (.tmp 4) Try.underlying50 (World.ownsRow_nil w2 w2.heap.size 57 1) (Fz.toSees (Fz.below HC.out HBL.out)) HAC.out.one ?gd ?go ?gs ?gx (by rw [HAC.out.1]; omega) (Nat.le_refl _) ?_
  case gd => rfl
  case go => rfl
  case gs => rfl
  case gx => rfl
  intro v1 w3 ho1 hg1
  have hb3 : Below w2.heap.size w2 w3 := (Below.refl _ _).grown hg1 (Nat.le_refl _) (fun k hk => by cases hk)
  have hlt : w.heap.size < w2.heap.size := by rw [HSZ.out]; omega
  have hS3 : HdO w.heap.size (.slice ac ch.length cc) (.slice ap pt.length cp) w3 := ⟨(hb3.cell (p := ⟨w.heap.size, 0, none⟩) hlt).trans hS0.1, (hb3.cell (p := ⟨w.heap.size, 1, none⟩) hlt).trans hS0.2⟩
  refine hK.out _ _ (fun _ => hS3) ?_
  try simp only [Act.put, List.setIfInBounds_toArray, List.set_cons_zero, List.set_cons_succ]
  have hb03 : Below w.heap.size w w3 := HBL.out.trans (hb3.mono (by omega))
  have HN := Lib.hid (newSeq_any w3 S (.slice ap pt.length cp) ps pt (Fz.below HP.out hb03) (HAP.out.keep (fun _ h => h) (fun g _ hg => hb03.block g hg)) (by omega))
  refine wpLast_ready (rs := [5]) (by kernel_rfl) (by simp) ?_
  refine EachLast.cons (o := { dst := some 8, op := Op.call { callee := Callee.value (Operand.func 27), args := #[Operand.tmp 7], argTypes := #[50] }, type := 57, pos := "read.go:13", after := #[{ on := 4, ground := Ground.data }, { on := 2, ground := Ground.chain }], guard := none }) rfl (fun K hK => ?_) EachLast.nil
  go_simp
  refine HN.out.mono ?_
  rintro e w4 ⟨u, rfl, hu, hb4⟩
  have hS4 : HdO w.heap.size (.slice ac ch.length cc) (.slice ap pt.length cp) w4 := ⟨(hb4.cell (p := ⟨w.heap.size, 0, none⟩) (Nat.lt_of_lt_of_le hlt hb3.size)).trans hS3.1, (hb4.cell (p := ⟨w.heap.size, 1, none⟩) (Nat.lt_of_lt_of_le hlt hb3.size)).trans hS3.2⟩
  refine hK.out _ _ (fun _ => hS4) ?_
  try simp only [Act.put, List.setIfInBounds_toArray, List.set_cons_zero, List.set_cons_succ]
  have ho4 := own_below ho1 hb4 (Nat.le_refl _)
  have hb34 := hb3.size
  have hb45 := hb4.size
  obtain ⟨ty, pay, rfl⟩ := hu.form
  refine wpLast_ready (rs := [6]) (by kernel_rfl) (by simp) ?_
  refine EachLast.cons (o := { dst := some 9, op := Op.buildSlice 50 1 #[(0, Operand.tmp 8)], type := 50, pos := "read.go:13", after := #[{ on := 5, ground := Ground.data }], guard := none }) rfl (fun K hK => ?_) EachLast.nil
  go_simp
  have hS5 : HdO w.heap.size (.slice ac ch.length cc) (.slice ap pt.length cp) (w4.alloc (.cells #[.iface ty pay] 57)) := ⟨(((Below.refl w4.heap.size w4).alloc (Nat.le_refl _) _).cell (p := ⟨w.heap.size, 0, none⟩) (show w.heap.size < w4.heap.size by omega)).trans hS4.1, (((Below.refl w4.heap.size w4).alloc (Nat.le_refl _) _).cell (p := ⟨w.heap.size, 1, none⟩) (show w.heap.size < w4.heap.size by omega)).trans hS4.2⟩
  refine hK.out _ _ (fun _ => hS5) ?_
  try simp only [Act.put, List.setIfInBounds_toArray, List.set_cons_zero, List.set_cons_succ]
  refine wpLast_ready (rs := [7]) (by kernel_rfl) (by simp) ?_
  refine EachLast.cons (o := { dst := some 10, op := Op.call { callee := Callee.builtin Builtin.append, args := #[Operand.tmp 5, Operand.tmp 9], argTypes := #[50, 50] }, type := 50, pos := "read.go:13", after := #[{ on := 2, ground := Ground.data }, { on := 6, ground := Ground.data }, { on := 5, ground := Ground.chain }], guard := none }) rfl (fun K hK => ?_) EachLast.nil
  refine step_keep (w := w4) [.iface ty pay] (.tmp 5) (.tmp 9) Try.underlying50 info_tree rfl (by decide) (by simp [Value.oneCell']) rfl ho4 ?gd ?go ?gs ?gx (by rw [HAC.out.1]; simp only [maxLen]; omega) (by rw [HAC.out.1]; omega) (by omega) ?_
  case gd => rfl
  case go => rfl
  case gs => rfl
  case gx => rfl
  intro v5 w5 ho5 hk5
  have hb5 : Below w2.heap.size w4 w5 := ((Below.refl _ _).alloc (by omega) _).trans (below_grown (ho4.alloc _) hk5.by (by simp; omega))
  have hb5s := hb5.size
  have hS6 : HdO w.heap.size (.slice ac ch.length cc) (.slice ap pt.length cp) w5 := ⟨(hb5.cell (p := ⟨w.heap.size, 0, none⟩) hlt).trans hS4.1, (hb5.cell (p := ⟨w.heap.size, 1, none⟩) hlt).trans hS4.2⟩
  refine hK.out _ _ (fun _ => hS6) ?_
  try simp only [Act.put, List.setIfInBounds_toArray, List.set_cons_zero, List.set_cons_succ]
  have hb05 : Below w.heap.size w w5 := (hb03.trans (hb4.mono (by omega))).trans (hb5.mono (by omega))
  have hA5 : AllT w5 (Sx S w w5) cs ch := HAC.out.keep (fun _ h => .inl h) (fun g _ hg => hb05.block g hg)
  have hu5 : IsT w5 (Sx S w w5) (.iface ty pay) (mkSeq pt) := hu.keep (fun k hk => by
    rcases hk with h1 | h1
    · exact .inl h1
    · exact .inr (by omega)) fun k hk hkl => by
    have hne : some k ≠ v1.ownBlock := fun e => by
      have h2 := own_ty ho1 e.symm
      rcases hk with h1 | h1
      · have := hSl k h1; omega
      · omega
    exact (hk5.by.block k (by simp; omega) hne).trans (((Below.refl w4.heap.size w4).alloc (Nat.le_refl _) _).block k hkl)
  have hf5 := Fz.of_own ho5
  have hln : 0 + cs.length + 1 = (ch ++ [mkSeq pt]).length := by rw [List.length_append, HAC.out.1]; simp
  rw [hln] at hf5
  have hbm := bd_mkSeq pt
  have HM := Lib.hid (newAlt_any w5 (Sx S w w5) v5 ([] ++ cs ++ [.iface ty pay]) (ch ++ [mkSeq pt]) hf5 (by rw [List.nil_append]; exact hA5.app (.single hu5)) (by rw [bdL_app]; simp only [bdL]; omega))
  refine wpLast_ready (rs := [8]) (by kernel_rfl) (by simp) ?_
  refine EachLast.cons (o := { dst := some 11, op := Op.call { callee := Callee.value (Operand.func 29), args := #[Operand.tmp 10], argTypes := #[50] }, type := 57, pos := "read.go:13", after := #[{ on := 7, ground := Ground.data }, { on := 7, ground := Ground.chain }], guard := none }) rfl (fun K hK => ?_) EachLast.nil
  go_simp
  refine HM.out.mono ?_
  rintro e w6 ⟨u6, rfl, hu6, hb6⟩
  have hb6s := hb6.size
  have hS7 : HdO w.heap.size (.slice ac ch.length cc) (.slice ap pt.length cp) w6 := ⟨(hb6.cell (p := ⟨w.heap.size, 0, none⟩) (show w.heap.size < w5.heap.size by omega)).trans hS6.1, (hb6.cell (p := ⟨w.heap.size, 1, none⟩) (show w.heap.size < w5.heap.size by omega)).trans hS6.2⟩
  refine hK.out _ _ (fun _ => hS7) ?_
  try simp only [Act.put, List.setIfInBounds_toArray, List.set_cons_zero, List.set_cons_succ]
  refine wpLast_ready (rs := [9]) (by kernel_rfl) (by simp) ?_
  refine EachLast.cons (o := { dst := some 2, op := Op.assign (Operand.tmp 11), type := 57, pos := "read.go:13", after := #[{ on := 8, ground := Ground.data }, { on := 8, ground := Ground.chain }, { on := 0, ground := Ground.phase }, { on := 1, ground := Ground.phase }, { on := 2, ground := Ground.phase }, { on := 3, ground := Ground.phase }, { on := 4, ground := Ground.phase }, { on := 5, ground := Ground.phase }, { on := 6, ground := Ground.phase }, { on := 7, ground := Ground.phase }, { on := 8, ground := Ground.phase }], guard := none }) rfl (fun K hK => ?_) EachLast.nil
  go_simp
  refine hK.out _ _ (fun h => absurd rfl h) ?_
  try simp only [Act.put, List.setIfInBounds_toArray, List.set_cons_zero, List.set_cons_succ]
  refine wpLast_done (by kernel_rfl) ?_ _
  go_wp2_with fail
  go_ret
  exact ⟨u6, rfl, hu6.keep (fun k hk => by
    rcases hk with (h1 | h1) | h1
    · exact .inl h1
    · exact .inr (by omega)
    · exact .inr (by omega)) (fun _ _ _ => rfl), hb05.trans (hb6.mono (by omega))⟩
end Go.Proofs.Ytlbkacabcfeaiaa.Tl
