/- RunRenders: an api.Result that came in. -/
import Derived.Test.YtmcijdpbjhcimaaDoorRz
import Derived.Test.YtmcijdpbjhcimaaDoorLaw
import Derived.Deep.SlicePairs
import Derived.Deep.Slices
import Derived.Deep.Fields
import Derived.Lib.SmallJoins
import Derived.Lib.LaidTab
import Derived.ChangeSame
import Derived.SliceStrings
import Derived.SizedLaws
import Derived.MakeChecks
import Derived.Stop.LaidErr
namespace Go.Proofs.YtmcijdpbjhcimaaDoor.Rn
open Go.RowKit Go.WideShapes Go.ChangeShapes Go.ChangeAt Go.Joins Go.Deep Mm
section
variable {H : Type} {enc : TypeId × Value → H} {P : Program} {W : World}
theorem bulk_strs (l : List ByteArray) : wL l ≤ 20 * Rows.uptoBulkAll (strs (H := H) l) := by
  induction l with
  | nil => simp [wL]
  | cons x l ih =>
    have h : Rows.uptoBulkAll (strs (H := H) (x :: l)) = (x.size + 1) + Rows.uptoBulkAll (strs (H := H) l) := by
      have e : x.data.toList.length = x.size := by rw [Array.length_toList]; rfl
      show Rows.uptoBulk (DataW.lit (.string x.data.toList)) + _ = _
      rw [show Rows.uptoBulk (DataW.lit (H := H) (.string x.data.toList)) = x.data.toList.length + 1 from by simp [Rows.uptoBulk], e]
      rfl
    rw [wL_cons, h]
    omega
theorem open_ss {t e : TypeId} {n : Nat} {v : Value} {y : DataW H × List MemPlace} (ht : P.underlying t = some (.slice e)) (he : P.underlying e = some .string) (hc : P.cellsOf e = 1)
    (h : DataW.trod enc P W 0 (fun _ => true) true n t [v] = some y) : ∃ l, Sees W v (ss l) ∧ wL l ≤ 20 * Rows.uptoBulk y.1 := by
  rcases open_strings ht he hc h with ⟨hcs, hx⟩ | ⟨a, len', cap', sx, hcs, _, hl, hm, hz, hx, hcell, hsz⟩
  · simp at hcs
    subst hcs
    exact ⟨[], ⟨none, 0, rfl, fun _ => rfl, Nat.le_refl _, Nat.zero_le _, .inl rfl⟩, by simp [wL]⟩
  · simp at hcs
    subst hcs
    simp only [if_true] at hz
    obtain ⟨b, off, spot⟩ := a
    have hlen : (sx.take len').length = len' := by simp; omega
    refine ⟨sx.take len', ⟨some ⟨b, off, spot⟩, cap', by rw [ss_len, hlen], (fun h => by cases h), by rw [ss_len, hlen]; exact hl, hm, ?_⟩, ?_⟩
    · by_cases h0 : len' = 0
      · left; subst h0; simp [ss]
      · right
        have hspot : spot = none := by simpa [Addr.add] using World.cell?_spot (hcell 0 (by omega))
        subst hspot
        refine ⟨b, off, rfl, World.block_lt_of_cell? W _ (hcell 0 (by omega)), fun j u hj => ?_⟩
        have hj1 : j < len' := by
          have := (List.getElem?_eq_some_iff.1 hj).1
          rw [ss_len, hlen] at this
          exact this
        have hj2 := hcell j (by omega)
        rw [add_plain] at hj2
        rw [hj2]
        rw [ss_at (by rw [hlen]; exact hj1)] at hj
        rw [← hj, List.getElem_take]
        simp [List.getD, show j < sx.length by omega]
    · rw [hx]
      have := bulk_strs (H := H) (sx.take len')
      simp only [Rows.uptoBulk]
      omega
theorem open_reps {t e te : TypeId} {f0 f1 f2 f3 f4 f5 f6 f7 f8 : Field} {fuel : Nat} {v : Value} {x : DataW H × List MemPlace} (ht : P.underlying t = some (.slice e)) (he : P.underlying e = some (.struct #[f0, f1, f2, f3, f4, f5, f6, f7, f8])) (ce : P.cellsOf e = 9)
    (hone : oneCellFields P #[f0, f1, f2, f3, f4, f5, f6, f7, f8] = true) (u0 : P.underlying f0.type = some (.int .i64)) (u1 : P.underlying f1.type = some .bool) (u2 : P.underlying f2.type = some .string) (u3 : P.underlying f3.type = some .string) (u4 : P.underlying f4.type = some (.slice te)) (u5 : P.underlying f5.type = some (.slice te)) (u6 : P.underlying f6.type = some .string) (u7 : P.underlying f7.type = some (.slice te)) (u8 : P.underlying f8.type = some .bool)
    (hte : P.underlying te = some .string) (hct : P.cellsOf te = 1) (h : DataW.trod enc P W 0 (fun _ => true) true fuel t [v] = some x) :
    ∃ (R : List Rep) (V : List Vs), RepsW W v R V ∧ wR R ≤ 300 * Rows.uptoBulk x.1 := by
  rcases Go.Deep.open_slice ht h with ⟨hcs, hx⟩ | ⟨a, len, cap, m, n, D, Pl, hcs, _, hl, hm, hmm, hxe, hq⟩
  · simp at hcs
    subst hcs
    exact ⟨[], [], reps_nil W, by simp [wR]⟩
  · simp at hcs
    subst hcs
    simp only [if_true] at hmm
    subst hmm
    have each : ∀ i, i < m → ∃ q : Rep × Vs, (∀ j u, (yC q.1 q.2)[j]? = some u → W.cell? (a.add (i * 9 + j)) = some u) ∧ RepW W q.2 q.1 ∧ wY q.1 ≤ 300 * Rows.uptoBulk (D i) := by
      intro i hi
      obtain ⟨cs', h1, h2⟩ := hq i (by omega)
      rw [ce] at h1
      obtain ⟨_, hlen, hcell⟩ := World.cells?_some h1
      obtain ⟨xs, k, hk, hxy, _, hxl, hg⟩ := DataW.trod_struct he h2
      match xs, hxl, cs', hlen with
      | [y0, y1, y2, y3, y4, y5, y6, y7, y8], _, [v0, v1, v2, v3, v4, v5, v6, v7, v8], _ =>
        obtain ⟨o0, c0⟩ := hone_of hone 0 f0 rfl
        have g0 := hg 0 f0 rfl
        obtain ⟨o1, c1⟩ := hone_of hone 1 f1 rfl
        have g1 := hg 1 f1 rfl
        obtain ⟨o2, c2⟩ := hone_of hone 2 f2 rfl
        have g2 := hg 2 f2 rfl
        obtain ⟨o3, c3⟩ := hone_of hone 3 f3 rfl
        have g3 := hg 3 f3 rfl
        obtain ⟨o4, c4⟩ := hone_of hone 4 f4 rfl
        have g4 := hg 4 f4 rfl
        obtain ⟨o5, c5⟩ := hone_of hone 5 f5 rfl
        have g5 := hg 5 f5 rfl
        obtain ⟨o6, c6⟩ := hone_of hone 6 f6 rfl
        have g6 := hg 6 f6 rfl
        obtain ⟨o7, c7⟩ := hone_of hone 7 f7 rfl
        have g7 := hg 7 f7 rfl
        obtain ⟨o8, c8⟩ := hone_of hone 8 f8 rfl
        have g8 := hg 8 f8 rfl
        simp only [o0, c0, o1, c1, o2, c2, o3, c3, o4, c4, o5, c5, o6, c6, o7, c7, o8, c8, List.drop_succ_cons, List.drop_zero, List.take_succ_cons, List.take_zero] at g0 g1 g2 g3 g4 g5 g6 g7 g8
        obtain ⟨z0, e0, d0, _⟩ := DataW.trod_int u0 g0
        obtain ⟨z1, e1, d1⟩ := DataW.trod_bool u1 g1
        obtain ⟨z2, e2, d2, _⟩ := DataW.trod_string u2 g2
        obtain ⟨z3, e3, d3, _⟩ := DataW.trod_string u3 g3
        obtain ⟨l4, s4, b4⟩ := open_ss u4 hte hct g4
        obtain ⟨l5, s5, b5⟩ := open_ss u5 hte hct g5
        obtain ⟨z6, e6, d6, _⟩ := DataW.trod_string u6 g6
        obtain ⟨l7, s7, b7⟩ := open_ss u7 hte hct g7
        obtain ⟨z8, e8, d8⟩ := DataW.trod_bool u8 g8
        simp only [List.cons.injEq, and_true] at e0 e1 e2 e3 e6 e8
        subst e0 e1 e2 e3 e6 e8
        refine ⟨⟨⟨z0, z1, z2, z3, l4, l5, z6, l7, z8⟩, ⟨v4, v5, v7⟩⟩, fun j u hj => ?_, ⟨s4, s5, s7⟩, ?_⟩
        · have hj9 : j < 9 := (List.getElem?_eq_some_iff.1 hj).1
          have hc := hcell j hj9
          rw [Go.Deep.add_add] at hc
          rw [hc]
          rw [← hj]
          rfl
        · simp only [Prod.mk.injEq] at hxy
          rw [hxy.1]
          have eb : ∀ s : ByteArray, Rows.uptoBulk (DataW.lit (H := H) (.string s.data.toList)) = s.size + 1 := fun s => by simp only [Rows.uptoBulk]; rw [Array.length_toList]; rfl
          have p2 : Rows.uptoBulk y2.1 = z2.size + 1 := by rw [← eb, d2]
          have p3 : Rows.uptoBulk y3.1 = z3.size + 1 := by rw [← eb, d3]
          have p6 : Rows.uptoBulk y6.1 = z6.size + 1 := by rw [← eb, d6]
          simp only [List.map_cons, List.map_nil, Rows.uptoBulk, Rows.uptoBulkAll, wY]
          omega
    have hI : Inhabited (Rep × Vs) := ⟨⟨⟨0, false, .empty, .empty, [], [], .empty, [], false⟩, ⟨.slice none 0 0, .slice none 0 0, .slice none 0 0⟩⟩⟩
    obtain ⟨F, hF⟩ := Go.Deep.choose_lt each
    obtain ⟨b, off, spot⟩ := a
    have hR : ((List.range len).map fun i => (F i).1).length = len := by simp
    have hV : ((List.range len).map fun i => (F i).2).length = len := by simp
    refine ⟨(List.range len).map fun i => (F i).1, (List.range len).map fun i => (F i).2, ⟨by rw [hR, hV], ?_, fun k y u h1 h2 => ?_⟩, ?_⟩
    · refine ⟨some ⟨b, off, spot⟩, m, by rw [hR], (fun h => by cases h), by rw [hR]; exact hl, hm, by rw [rC_len _ _ (by rw [hR, hV])], ?_⟩
      rw [hR]
      by_cases h0 : len = 0
      · exact .inl h0
      · right
        have hspot : spot = none := by simpa [Addr.add] using World.cell?_spot ((hF 0 (by omega)).1 0 _ rfl)
        subst hspot
        refine ⟨b, off, rfl, World.block_lt_of_cell? W _ ((hF 0 (by omega)).1 0 _ rfl), fun j u hj => ?_⟩
        have hjl : j < len * 9 := by
          have h1 := (List.getElem?_eq_some_iff.1 hj).1
          rw [rC_len _ _ (by rw [hR, hV]), hR] at h1
          exact h1
        have hk : j / 9 < len := by omega
        have hr : ((List.range len).map fun i => (F i).1)[j / 9]? = some (F (j / 9)).1 := by simp [hk]
        have hv : ((List.range len).map fun i => (F i).2)[j / 9]? = some (F (j / 9)).2 := by simp [hk]
        have h3 := rC_at _ _ (j / 9) _ _ (j % 9) hr hv (by omega)
        rw [show j / 9 * 9 + j % 9 = j by omega, hj] at h3
        have h4 := (hF (j / 9) (by omega)).1 (j % 9) u h3.symm
        rw [add_plain, show j / 9 * 9 + j % 9 = j by omega] at h4
        exact h4
    · have hk : k < len := by
        have h3 := (List.getElem?_eq_some_iff.1 h1).1
        rw [hR] at h3
        exact h3
      have e1 : (F k).1 = y := by simpa [hk] using h1
      have e2 : (F k).2 = u := by simpa [hk] using h2
      rw [← e1, ← e2]
      exact (hF k (by omega)).2.1
    · rw [hxe]
      have key : ∀ l : List Nat, (∀ i ∈ l, i < m) → wR (l.map fun i => (F i).1) ≤ 300 * Rows.uptoBulkAll (l.map D) := by
        intro l
        induction l with
        | nil => intro _; simp [wR]
        | cons i l ih =>
          intro hl
          rw [List.map_cons, List.map_cons, wR_cons]
          simp only [Rows.uptoBulkAll]
          have h1 := (hF i (hl i (List.mem_cons_self ..))).2.2
          have h2 := ih fun j hj => hl j (List.mem_cons_of_mem _ hj)
          omega
      have := key (List.range len) fun i hi => by have := List.mem_range.1 hi; omega
      simp only [Rows.uptoBulk]
      omega
theorem i64_of {n : Int} (h : (Lit.int .i64 n).wf = true) : -9223372036854775808 ≤ n ∧ n ≤ 9223372036854775807 := by
  simp [Lit.wf, IntKind.min, IntKind.max, IntKind.bits, IntKind.signed] at h
  omega
theorem open_argW {base : Nat} {tt t e te : TypeId} {h0 h1 h2 h3 h4 f0 f1 f2 f3 f4 f5 f6 f7 f8 : Field} {v : Value} {d : DataW H} {p : List MemPlace} (hs : P.underlying tt = some (.struct #[h0, h1, h2, h3, h4])) (hones : oneCellFields P #[h0, h1, h2, h3, h4] = true) (hC : P.cellsOf tt = 5)
    (k0 : P.underlying h0.type = some (.int .i64)) (k1 : P.underlying h1.type = some (.int .i64)) (k2 : P.underlying h2.type = some (.int .i64)) (k3 : P.underlying h3.type = some (.int .i64)) (k4 : h4.type = t)
    (ht : P.underlying t = some (.slice e)) (he : P.underlying e = some (.struct #[f0, f1, f2, f3, f4, f5, f6, f7, f8])) (ce : P.cellsOf e = 9)
    (hone : oneCellFields P #[f0, f1, f2, f3, f4, f5, f6, f7, f8] = true) (u0 : P.underlying f0.type = some (.int .i64)) (u1 : P.underlying f1.type = some .bool) (u2 : P.underlying f2.type = some .string) (u3 : P.underlying f3.type = some .string) (u4 : P.underlying f4.type = some (.slice te)) (u5 : P.underlying f5.type = some (.slice te)) (u6 : P.underlying f6.type = some .string) (u7 : P.underlying f7.type = some (.slice te)) (u8 : P.underlying f8.type = some .bool)
    (hte : P.underlying te = some .string) (hct : P.cellsOf te = 1) (hv : Value.okWide P W .any base tt v) (h : DataW.Trod enc P W 0 (fun _ => true) true tt v d p) :
    ∃ (kd co tx li : Int) (sl : Value) (R : List Rep) (V : List Vs), v = .agg #[.int .i64 kd, .int .i64 co, .int .i64 tx, .int .i64 li, sl] ∧ RepsW W sl R V ∧ ((-9223372036854775808 ≤ co ∧ co ≤ 9223372036854775807) ∧ -9223372036854775808 ≤ li ∧ li ≤ 9223372036854775807) ∧ wR R ≤ 300 * Rows.uptoBulk d := by
  obtain ⟨cs, rfl, hsz⟩ := okWide_struct hs hv
  obtain ⟨l⟩ := cs
  match l, hsz.trans hC with
  | [w0, w1, w2, w3, w4], _ =>
    obtain ⟨fuel, hf⟩ := h
    obtain ⟨xs, n, _, hx, _, hlen, hg⟩ := DataW.trod_struct hs hf
    match xs, hlen with
    | [y0, y1, y2, y3, y4], _ =>
      simp only [Prod.mk.injEq] at hx
      obtain ⟨o0, c0⟩ := hone_of hones 0 h0 rfl
      have g0 := hg 0 h0 rfl
      obtain ⟨o1, c1⟩ := hone_of hones 1 h1 rfl
      have g1 := hg 1 h1 rfl
      obtain ⟨o2, c2⟩ := hone_of hones 2 h2 rfl
      have g2 := hg 2 h2 rfl
      obtain ⟨o3, c3⟩ := hone_of hones 3 h3 rfl
      have g3 := hg 3 h3 rfl
      obtain ⟨o4, c4⟩ := hone_of hones 4 h4 rfl
      have g4 := hg 4 h4 rfl
      simp only [Value.cells, o0, c0, o1, c1, o2, c2, o3, c3, o4, c4, List.drop_succ_cons, List.drop_zero, List.take_succ_cons, List.take_zero] at g0 g1 g2 g3 g4
      obtain ⟨z0, e0, _, _⟩ := DataW.trod_int k0 g0
      obtain ⟨z1, e1, _, q1⟩ := DataW.trod_int k1 g1
      obtain ⟨z2, e2, _, _⟩ := DataW.trod_int k2 g2
      obtain ⟨z3, e3, _, q3⟩ := DataW.trod_int k3 g3
      simp only [List.cons.injEq, and_true] at e0 e1 e2 e3
      subst e0 e1 e2 e3
      rw [k4] at g4
      obtain ⟨R, V, hRV, hb⟩ := open_reps ht he ce hone u0 u1 u2 u3 u4 u5 u6 u7 u8 hte hct g4
      refine ⟨z0, z1, z2, z3, w4, R, V, rfl, hRV, ⟨i64_of q1, i64_of q3⟩, Nat.le_trans hb (Nat.mul_le_mul_left _ ?_)⟩
      rw [hx.1]
      simp only [List.map_cons, List.map_nil, Rows.uptoBulk, Rows.uptoBulkAll]
      omega
theorem bulk_one {d : DataW H} {l : List (DataW H)} (h : d ∈ l) : Rows.uptoBulk d ≤ Rows.uptoBulkAll l := by
  induction l with
  | nil => cases h
  | cons x r ih =>
    simp only [Rows.uptoBulkAll]
    cases List.mem_cons.1 h with
    | inl e => subst e; omega
    | inr e => have := ih e; omega
theorem bound_W {d : DataW H} {l : List (DataW H)} {R : List Rep} (hk : Rows.uptoSmall H l = true) (hb : wR R ≤ 300 * Rows.uptoBulk d) (hm : d ∈ l) : wR R ≤ 17179869184 := by
  have h1 : Rows.uptoBulkAll l ≤ 1048576 := of_decide_eq_true hk
  have h2 := bulk_one hm
  have h3 : 300 * Rows.uptoBulk d ≤ 300 * 1048576 := Nat.mul_le_mul_left _ (by omega)
  omega
/-- a table of texts -/
theorem table_strs {t e : TypeId} {n fuel : Nat} {cs : List Value} {rows : List (DataW H)} {p : List MemPlace} {base : Nat} {spare : Nat → Bool} {held : Bool} (ht : P.underlying t = some (.array n e)) (he : P.underlying e = some .string) (hc : P.cellsOf e = 1) (h : DataW.trod enc P W base spare held fuel t cs = some (.agg rows, p)) :
    ∀ (i : Nat) (b : List UInt8), rows[i]? = some (.lit (.string b)) → cs[i]? = some (.string (str b)) := by
  intro i b hi
  cases fuel with
  | zero => simp [DataW.trod] at h
  | succ fuel =>
    simp only [DataW.trod, ht] at h
    split at h
    · obtain ⟨xs, hm, hx⟩ := Option.map_eq_some_iff.1 h
      simp only [Prod.mk.injEq, DataW.agg.injEq] at hx
      rw [← hx.1, List.getElem?_map] at hi
      obtain ⟨y, hy, hy1⟩ := Option.map_eq_some_iff.1 hi
      have hxl : xs.length = n := by simpa using Lib.mapM_length hm
      have hin : i < n := by have := (List.getElem?_eq_some_iff.1 hy).1; omega
      obtain ⟨y', hy', hf⟩ := Lib.mapM_at hm i i (by simp [hin])
      obtain rfl := Option.some.inj (hy.symm.trans hy')
      obtain ⟨s, e1, e2, _⟩ := DataW.trod_string he hf
      rw [e2] at hy1
      simp only [DataW.lit.injEq, Lit.string.injEq] at hy1
      have hs : str b = s := by rw [← hy1]; exact str_of s
      have h4 := congrArg (·[0]?) e1
      rw [hc] at h4
      rw [hs]
      simpa [List.getElem?_take, List.getElem?_drop] using h4
    · cases h
end
theorem runRenders_walk2 (kd co tx li : Int) (sl : Value) (R : List Rep) (V : List Vs) (w : World) (hv : RepsW w sl R V) (hb : (-9223372036854775808 ≤ co ∧ co ≤ 9223372036854775807) ∧ -9223372036854775808 ≤ li ∧ li ≤ 9223372036854775807) (hR : wR R ≤ 17179869184) (hu : Words w ∧ Tab w) :
    Calls Tryd.prog 3 #[.agg #[.int .i64 kd, .int .i64 co, .int .i64 tx, .int .i64 li, sl]] w fun e w' => e = .returned (.bool true) ∧ Below w.heap.size w w' :=
  renders_walk w kd co tx li R V sl hv hu.1 hu.2 hb.1.1 hb.1.2 hb.2.1 hb.2.2 hR
set_option maxRecDepth 100000 in
theorem words_of {w : World} {rest : List (String × DataW Unit)} (h : laidMet Tryd.prog (("reach/run.words", Rows.laid_reach_run_words) :: rest) w) : Words w := by
  obtain ⟨ps, ⟨g', t', cs, fuel, p, q, hg', ht', hvar, hd, _, _⟩, _⟩ := h
  have hg : Tryd.prog.globalNamed "reach/run.words" = some 0 := by kernel_rfl
  obtain rfl := Option.some.inj (hg.symm.trans hg')
  have hty : (Tryd.prog.globals[0]?).map (·.type) = some 50 := by kernel_rfl
  obtain rfl := Option.some.inj (hty.symm.trans ht')
  have hc : ∀ j u, wordsA[j]? = some u → w.cell? ⟨0, j, none⟩ = some u := by
    intro j u hj
    have hj10 : j < 10 := by
      have := (Array.getElem?_eq_some_iff.1 hj).1
      exact this
    have hcell := table_strs (e := 9) Tryd.underlying50 Tryd.underlying9 (by kernel_rfl) hd
    have hv := World.var?_cell hg hvar j
    rw [hv]
    have h9 : j = 0 ∨ j = 1 ∨ j = 2 ∨ j = 3 ∨ j = 4 ∨ j = 5 ∨ j = 6 ∨ j = 7 ∨ j = 8 ∨ j = 9 := by omega
    rcases h9 with rfl | rfl | rfl | rfl | rfl | rfl | rfl | rfl | rfl | rfl
    · have h5 := hcell 0 [] rfl
      rw [← hj, show wordsA[0]? = some (.string (str [])) from rfl, ← h5]
      simp
    · have h5 := hcell 1 [114, 101, 97, 99, 104] rfl
      rw [← hj, show wordsA[1]? = some (.string (str [114, 101, 97, 99, 104])) from rfl, ← h5]
      simp
    · have h5 := hcell 2 [109, 105, 115, 115, 101, 100] rfl
      rw [← hj, show wordsA[2]? = some (.string (str [109, 105, 115, 115, 101, 100])) from rfl, ← h5]
      simp
    · have h5 := hcell 3 [108, 111, 111, 112] rfl
      rw [← hj, show wordsA[3]? = some (.string (str [108, 111, 111, 112])) from rfl, ← h5]
      simp
    · have h5 := hcell 4 [108, 111, 115, 116] rfl
      rw [← hj, show wordsA[4]? = some (.string (str [108, 111, 115, 116])) from rfl, ← h5]
      simp
    · have h5 := hcell 5 [105, 115, 111, 108, 97, 116, 101] rfl
      rw [← hj, show wordsA[5]? = some (.string (str [105, 115, 111, 108, 97, 116, 101])) from rfl, ← h5]
      simp
    · have h5 := hcell 6 [112, 97, 116, 104] rfl
      rw [← hj, show wordsA[6]? = some (.string (str [112, 97, 116, 104])) from rfl, ← h5]
      simp
    · have h5 := hcell 7 [97, 118, 111, 105, 100] rfl
      rw [← hj, show wordsA[7]? = some (.string (str [97, 118, 111, 105, 100])) from rfl, ← h5]
      simp
    · have h5 := hcell 8 [99, 111, 118, 101, 114] rfl
      rw [← hj, show wordsA[8]? = some (.string (str [99, 111, 118, 101, 114])) from rfl, ← h5]
      simp
    · have h5 := hcell 9 [116, 114, 97, 99, 101] rfl
      rw [← hj, show wordsA[9]? = some (.string (str [116, 114, 97, 99, 101])) from rfl, ← h5]
      simp
  refine ⟨?_, hc⟩
  have h0 := hc 0 _ rfl
  refine Classical.byContradiction fun hz => ?_
  have : w.heap.size = 0 := by omega
  simp [World.cell?, this] at h0
set_option maxRecDepth 100000 in
theorem runRenders_laid {w : World} (h : laidMetH Tryd.prog Rows.runRendersUptoRow.laid w) : Words w ∧ Tab w := by
  rw [MakeChecks.laidMetH_plain _ _ _ (by kernel_rfl)] at h
  have hg0 : Tryd.prog.globalNamed "internal/strconv.uint64pow10" = some 1 := by kernel_rfl
  exact ⟨words_of h.tail.tail.tail, Lib.tabIs_of_head (n := 20) (t := 64) (e := 55) hg0 (by kernel_rfl) (by kernel_rfl) (by kernel_rfl) (by kernel_rfl) (by kernel_rfl) h.tail.tail⟩
end Go.Proofs.YtmcijdpbjhcimaaDoor.Rn
