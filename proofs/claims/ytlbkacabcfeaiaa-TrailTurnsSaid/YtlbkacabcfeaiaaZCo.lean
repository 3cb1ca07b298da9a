/- Patterns: the program's Compile and Text. -/
import Derived.Test.YtlbkacabcfeaiaaZWf
namespace Go.Proofs.Ytlbkacabcfeaiaa.Tl
open Go.RowKit Mm
set_option linter.unusedVariables false
theorem own_mono {w : World} {B B' : Nat} {e : TypeId} {k n : Nat} {v : Value} {l : List Value} (h : w.ownsRow B e k v n l) (hb : B' ≤ B) : w.ownsRow B' e k v n l := by
  refine ⟨h.1, ?_⟩
  rcases h.2 with h0 | ⟨g, cap, cur, hv, hbg, rest⟩
  · exact .inl h0
  · exact .inr ⟨g, cap, cur, hv, Nat.le_trans hb hbg, rest⟩
def st0 : St := ⟨0, 0, [], [], []⟩
def nilR : Rw := ⟨.slice none 0 0, 0, []⟩
theorem Rd.start (W : World) (g : Nat) (s : ByteArray) (hb : Blk W g 54 (rdC s 0 0 (.slice none 0 0) (.slice none 0 0) (.slice none 0 0))) : Rd W g s st0 (.slice none 0 0) [] nilR nilR (fun _ => False) W := by
  refine ⟨⟨hb.lt, grefl _ _, ⟨_, hb⟩, World.ownsRow_nil _ _ _ _, ⟨?_, ?_⟩, rfl, ?_, ⟨rfl, AllT.nil⟩, ⟨rfl, AllT.nil⟩, fun g h => h.elim, fun _ _ _ _ h => h⟩, hb⟩
  · intro i r h
    have hr : r = nilR := by
      match i, h with
      | 0, h => simpa using h.symm
      | 1, h => simpa using h.symm
      | i + 2, h => simp at h
    subst hr
    exact World.ownsRow_nil _ _ _ _
  · intro i j a b _ h _
    have ha : a = nilR := by
      match i, h with
      | 0, h => simpa using h.symm
      | 1, h => simpa using h.symm
      | i + 2, h => simp at h
    subst ha
    exact .inl rfl
  · intro i r l h
    simp at h
theorem st0_ok (n : Nat) (hn : n ≤ 256) : Ok n st0 := by
  refine ⟨?_, ?_, ?_, ?_⟩ <;> simp [st0, bdS, bdL] <;> omega
theorem st0_good : goodS st0 := by
  simp [goodS, st0, goodL]
/-- the last step -/
def endSp : Sp := ⟨none, 0, 0, true⟩
/-- a pattern that stands -/
structure Pat (w : World) (B : Nat) (t : T) (v : Value) : Prop where
  pat : ∃ g cs, v = .pointer (some ⟨g, 0, none⟩) ∧ B ≤ g ∧ g < w.heap.size ∧ Blk w g 61 #[.string (str (txt t)), cs] ∧ w.ownsRow B 64 4 cs (em t [] ++ [endSp]).length (spC (em t [] ++ [endSp]))
/-- what Compile answers -/
def CoR (w : World) (text : ByteArray) (e : Ending) (w' : World) : Prop :=
  Below w.heap.size w w' ∧ ((256 < text.size ∧ e = .returned (.tuple #[.pointer none, .int .i64 2, .int .i64 0])) ∨
    (text.size ≤ 256 ∧ ∃ k : Nat, res (xs text) st0 = .err k ∧ e = .returned (.tuple #[.pointer none, .int .i64 140, .int .i64 (k : Int)])) ∨
    (text.size ≤ 256 ∧ ∃ t p, res (xs text) st0 = .ok t ∧ good t = true ∧ bd t ≤ 20000 ∧ e = .returned (.tuple #[p, .int .i64 0, .int .i64 0]) ∧ Pat w' w.heap.size t p))
set_option maxRecDepth 100000 in
set_option maxHeartbeats 8000000 in
theorem compile_any (text : ByteArray) (w : World) (hsz : text.size ≤ 9223372036854775807) : Calls Try.prog 6 #[.string text] w (CoR w text) := by
  by_cases hlong : 256 < text.size
  · go_enter Try.func6, Try.ntmps6
    go_wp2_with fail
    refine bodyPost_ret (v := .tuple #[.pointer none, .int .i64 2, .int .i64 0]) (by simp [results, Try.results6, go_sem]) rfl ?_
    exact ⟨Below.refl _ _, .inl ⟨hlong, rfl⟩⟩
  · have hsh : text.size ≤ 256 := by omega
    have hxl : (xs text).length ≤ 256 := by rw [xs_len]; omega
    have hBW := Blk.new w 54 (rdC text 0 0 (.slice none 0 0) (.slice none 0 0) (.slice none 0 0))
    have HBW := Lib.hid (bal (Below.refl w.heap.size w) (.cells (rdC text 0 0 (.slice none 0 0) (.slice none 0 0) (.slice none 0 0)) 54))
    have HRun := Lib.hid (run_any (Rd.start _ _ text hBW) (st0_ok _ hxl) (by omega))
    clear hBW
    go_enter Try.func6, Try.ntmps6
    go_wp2_with fail
    refine HRun.out.mono ?_
    rintro e X ⟨st, out, R, c, p, S, hR, hc⟩
    have HX := Lib.hid (HBW.out.grown hR.q.bel (by simp) (fun k hk => by cases hk; exact Nat.le_refl _))
    have q1 := Blk.c1 hR.blk
    have q4 := Blk.c4 hR.blk
    have q5 := Blk.c5 hR.blk
    obtain ⟨ac, cc, xc, rfl⟩ := hR.q.cForm
    obtain ⟨ap, cp, xp, rfl⟩ := hR.q.pForm
    clear HRun HBW
    rcases hc with ⟨rfl, ok, hres⟩ | ⟨rfl, hres⟩
    · have hbs : bdL st.ch + bdL st.ps ≤ 4096 := by have := bdS_parts st; have := ok.2.2.2; have := ok.1; omega
      have HW := Lib.hid (whole_any X S _ _ _ _ st.ch st.ps (Fz.of_own (hR.q.fam.1 _ _ (at_c R _ _))) hR.q.trc.2 (Fz.of_own (hR.q.fam.1 _ _ (at_p R _ _))) hR.q.trp.2 (by omega) (fun k hk => (hR.q.sb k hk).lt))
      have HSB := Lib.hid (fun g (h : S g) => (hR.q.sb g h).lt)
      have hbw : bd (whole st.ch st.ps) ≤ 5000 := by have := bd_whole st.ch st.ps; omega
      have hgd := good_res st0_good hres
      dsimp only at HW q4 q5
      have HRS := Lib.hid hres
      clear hR q1 ok hres
      go_wp2_with fail
      refine HW.out.mono ?_
      rintro e X2 ⟨u, rfl, hT, hb2⟩
      have HX2 := Lib.hid (bnx HX.out hb2)
      obtain ⟨ty, pay, rfl⟩ := hT.form
      have hSB2 : ∀ g, Sx S X X2 g → g < X2.heap.size := fun g h => by
        rcases h with h | h
        · exact Nat.lt_of_lt_of_le (HSB.out g h) hb2.size
        · exact h.2
      generalize whole st.ch st.ps = t at *
      obtain ⟨t0, ht0⟩ : ∃ t0, t0 = t := ⟨t, rfl⟩
      have HWr := Lib.hid (show Calls Try.prog (wrF t) #[pay] X2 fun e w' => e = .returned (.string (str (txt t0))) ∧ Below X2.heap.size X2 w' from by rw [ht0]; exact wr_all t hgd (by omega) X2 _ ty pay hT)
      have HEm := Lib.hid (show ∀ (w : World) (S : Nat → Prop) (B : Nat) (v : Value) (c : List Sp), IsT w S (.iface ty pay) t0 → (∀ g, S g → g < B) → B ≤ w.heap.size → w.ownsRow B 64 4 v c.length (spC c) → c.length + bd t0 ≤ 90000 →
        Calls Try.prog (emF t) #[pay, v] w fun e w' => ∃ v', e = .returned v' ∧ EmW w B v (em t0 c) v' w' from by rw [ht0]; exact fun w S B v c => em_all t hgd w S ty pay B v c)
      have HT := Lib.hid (show IsT X2 (Sx S X X2) (.iface ty pay) t0 from by rw [ht0]; exact hT)
      rw [← ht0] at hbw hgd HRS
      clear ht0
      have HSB2 := Lib.hid hSB2
      clear hb2 q4 q5 HW hSB2 HSB
      cases hT
      all_goals
        go_wp2_with fail
        refine HWr.out.mono ?_
        rintro e X3 ⟨rfl, hb3⟩
        have HX3 := Lib.hid (bnx HX2.out hb3)
        have HT3 := Lib.hid (HT.out.low hb3)
        have HSB3 := Lib.hid (fun g h => Nat.lt_of_lt_of_le (HSB2.out g h) hb3.size)
        have hB0 := Blk.new X3 61 #[.string (str (txt t0)), .slice none 0 0]
        have HE4 := Lib.hid (HEm.out _ _ X3.heap.size _ [] (HT3.out.low (bal (Below.refl _ X3) (.cells #[.string (str (txt t0)), .slice none 0 0] 61))) HSB3.out (by simp) (World.ownsRow_nil _ _ _ _) (by simp only [List.length_nil]; omega))
        clear hb3
        have hlc := em_len t0 []
        simp only [List.length_nil] at hlc
        have hlc2 : (em t0 []).length ≤ 5000 := by omega
        generalize hC0 : em t0 [] = C at *
        have HC0 := Lib.hid hC0
        clear hC0
        have hsz3 : X3.heap.size ≤ (X3.alloc (.cells #[.string (str (txt t0)), .slice none 0 0] 61)).heap.size := by simp
        have HX4 := Lib.hid (bal HX3.out (.cells #[.string (str (txt t0)), .slice none 0 0] 61))
        generalize hX4 : X3.alloc (.cells #[.string (str (txt t0)), .slice none 0 0] 61) = X4 at *
        go_wp2_with fail
        refine HE4.out.mono ?_
        rintro e X5 ⟨v', rfl, hE5⟩
        obtain ⟨a5, cap5, rfl⟩ := hE5.len
        clear hX4
        have HE5 := Lib.hid hE5
        clear hE5
        go_wp2_with (at_builtin; refine EmW.push endSp rfl HE5.out hsz3 (by omega) rfl rfl rfl rfl (by simp) ?_; intro g6 cap6 X6 HE6; have hB6 := hB0.grown HE6.grow (by intro h; cases h); have hc6 := hB6.cell 1; have hf6 := hB6.frozen 1)
        have hap : some X3.heap.size ≠ (Value.slice (some ⟨g6, 0, none⟩) (C.length + 1) cap6).ownBlock := blk_apart hB6 HE6.row (by decide)
        refine bodyPost_ret (v := .tuple #[.pointer (some ⟨X3.heap.size, 0, none⟩), .int .i64 0, .int .i64 0]) (by simp [results, Try.results6, go_sem]) rfl ?_
        refine ⟨(HX4.out.grown HE6.grow (Nat.le_trans HX3.out.size hsz3) (fun k hk => by cases hk)).grown (only_set _ _ _ _) (Nat.le_trans (Nat.le_trans HX3.out.size hsz3) HE6.grow.size) (fun k hk => by cases hk; exact HX3.out.size), .inr (.inr ⟨hsh, t0, _, HRS.out, hgd, by omega, rfl, ⟨_, _, rfl, HX3.out.size, ?_, hB6.set_ 1 _, ?_⟩⟩)⟩
        · simpa using hB6.lt
        · rw [HC0.out]
          exact own_mono (own_grown HE6.row (only_set _ _ _ _) (.inr fun e => hap e.symm)) HX3.out.size
    · have HRS := Lib.hid hres
      have HXd := Lib.hid HX.out.drew
      have hS0 : X.drew.cell? ⟨w.heap.size, 1, none⟩ = some (.int .i64 (st.pos : Int)) := q1
      clear hres hR q4 q5 q1
      go_wp2_with fail
      refine wp_region_last 4 (fun w' => w'.cell? ⟨w.heap.size, 1, none⟩ = some (.int .i64 (st.pos : Int))) mixed ?_
      generalize X.drew = w2 at *
      refine wpLast_take (i := 0) (oi := { dst := some 15, op := Op.fieldAddr 54 (Operand.tmp 5) 1, type := 0, pos := "trail.go:26", after := #[{ on := 3, ground := Ground.gcOnly Departure.lateStores }], guard := none }) (v := ?_) rfl (by kernel_rfl) (by kernel_rfl) (by kernel_rfl) (by kernel_rfl) (fun _ _ _ h => h) (Or.inl ⟨by rfl, ?_⟩) (by assumption) ?_
      rotate_left
      · intro w hSw
        try dsimp only at hSw
        go_simp
        try with_reducible rfl
      try simp only [Act.put, List.setIfInBounds_toArray, List.set_cons_zero, List.set_cons_succ]
      refine wpLast_take (i := 1) (oi := { dst := some 16, op := Op.load 3 (Operand.tmp 15), type := 3, pos := "trail.go:26", after := #[{ on := 0, ground := Ground.data }, { on := 3, ground := Ground.gcOnly Departure.lateStores }], guard := none }) (v := ?_) rfl (by kernel_rfl) (by kernel_rfl) (by kernel_rfl) (by kernel_rfl) (fun _ _ _ h => h) (Or.inl ⟨by rfl, ?_⟩) (by assumption) ?_
      rotate_left
      · intro w hSw
        try dsimp only at hSw
        go_simp
        try with_reducible rfl
      try simp only [Act.put, List.setIfInBounds_toArray, List.set_cons_zero, List.set_cons_succ]
      refine wpLast_take (i := 2) (oi := { dst := some 2, op := Op.assign (Operand.const (Value.pointer none)), type := 22, pos := "trail.go:26", after := #[{ on := 0, ground := Ground.textOnly Departure.lateStores }, { on := 1, ground := Ground.textOnly Departure.lateStores }], guard := none }) (v := ?_) rfl (by kernel_rfl) (by kernel_rfl) (by kernel_rfl) (by kernel_rfl) (fun _ _ _ h => h) (Or.inl ⟨by rfl, ?_⟩) (by assumption) ?_
      rotate_left
      · intro w hSw
        try dsimp only at hSw
        go_simp
        try with_reducible rfl
      try simp only [Act.put, List.setIfInBounds_toArray, List.set_cons_zero, List.set_cons_succ]
      refine wpLast_take (i := 3) (oi := { dst := some 3, op := Op.assign (Operand.const (Value.int IntKind.i64 140)), type := 23, pos := "trail.go:26", after := #[{ on := 2, ground := Ground.chain }, { on := 0, ground := Ground.textOnly Departure.lateStores }, { on := 1, ground := Ground.textOnly Departure.lateStores }, { on := 2, ground := Ground.phase }], guard := none }) (v := ?_) rfl (by kernel_rfl) (by kernel_rfl) (by kernel_rfl) (by kernel_rfl) (fun _ _ _ h => h) (Or.inl ⟨by rfl, ?_⟩) (by assumption) ?_
      rotate_left
      · intro w hSw
        try dsimp only at hSw
        go_simp
        try with_reducible rfl
      try simp only [Act.put, List.setIfInBounds_toArray, List.set_cons_zero, List.set_cons_succ]
      refine wpLast_ready (rs := [4]) (by kernel_rfl) (by simp) ?_
      refine EachLast.cons (o := { dst := some 4, op := Op.assign (Operand.tmp 16), type := 3, pos := "trail.go:26", after := #[{ on := 1, ground := Ground.data }, { on := 3, ground := Ground.chain }, { on := 0, ground := Ground.phase }, { on := 1, ground := Ground.phase }, { on := 2, ground := Ground.phase }, { on := 3, ground := Ground.phase }], guard := none }) rfl (fun K hK => ?_) EachLast.nil
      go_simp
      refine hK.out _ _ (fun h => absurd rfl h) ?_
      try simp only [Act.put, List.setIfInBounds_toArray, List.set_cons_zero, List.set_cons_succ]
      refine wpLast_done (by kernel_rfl) ?_ _
      go_wp2_with fail
      refine bodyPost_ret (v := .tuple #[.pointer none, .int .i64 140, .int .i64 (st.pos : Int)]) (by simp [results, Try.results6, go_sem]) rfl ?_
      exact ⟨HXd.out, .inr (.inl ⟨hsh, st.pos, HRS.out, rfl⟩)⟩
set_option maxRecDepth 100000 in
set_option maxHeartbeats 2000000 in
/-- the text that a pattern tells -/
theorem text_any {w : World} {B : Nat} {t : T} {v : Value} (h : Pat w B t v) : Calls Try.prog 9 #[v] w fun e w' => e = .returned (.string (str (txt t))) ∧ w' = w := by
  obtain ⟨g, cs, rfl, _, _, hb, _⟩ := h.pat
  have hc := hb.cell 0
  generalize str (txt t) = z at *
  clear hb
  go_enter Try.func9, Try.ntmps9
  go_wp2_with fail
  go_ret
  exact ⟨rfl, rfl⟩
theorem Pat.below {w w' : World} {B : Nat} {t : T} {v : Value} (h : Pat w B t v) (hb : Below w.heap.size w w') : Pat w' B t v := by
  obtain ⟨g, cs, rfl, h1, h2, h3, h4⟩ := h.pat
  exact ⟨g, cs, rfl, h1, Nat.lt_of_lt_of_le h2 hb.size, h3.below hb h2, own_below h4 hb (Nat.le_refl _)⟩
end Go.Proofs.Ytlbkacabcfeaiaa.Tl
