/- Patterns: the reference's Compile. -/
import Derived.Test.YtlbkacabcfeaiaaKl
import Derived.Test.YtlbkacabcfeaiaaCo
namespace Go.Proofs.Ytlbkacabcfeaiaa.Tl
open Go.RowKit Mm
set_option linter.unusedVariables false
/-- a pattern of the reference that stands -/
structure RPat (w : World) (B : Nat) (t : T) (v : Value) : Prop where
  pat : ∃ (nv : Value) (root : Nat) (N : List Nd), v = .agg #[nv, .int .i64 (root : Int)] ∧ w.ownsRow B 92 4 nv N.length (ndC N) ∧ (∀ d ∈ N, Fz w 3 1 d.kv d.kids.length (iv d.kids)) ∧ Den N root t ∧ N.length ≤ 2000
/-- what the reference's Compile answers -/
def RCoR (w : World) (text : ByteArray) (e : Ending) (w' : World) : Prop :=
  Below w.heap.size w w' ∧ ((256 < text.size ∧ e = .returned (.tuple #[.agg #[.slice none 0 0, .int .i64 0], .int .i64 2, .int .i64 0])) ∨
    (text.size ≤ 256 ∧ ∃ k : Nat, res (xs text) st0 = .err k ∧ e = .returned (.tuple #[.agg #[.slice none 0 0, .int .i64 0], .int .i64 140, .int .i64 (k : Int)])) ∨
    (text.size ≤ 256 ∧ ∃ t p, res (xs text) st0 = .ok t ∧ e = .returned (.tuple #[p, .int .i64 0, .int .i64 0]) ∧ RPat w' w.heap.size t p))
theorem Rf.start {W : World} {g : Nat} {s : ByteArray} (hb : Blk W g 67 (rfC s 0 0 0 (-1) (.slice none 0 0))) : Rf W g s 0 0 0 (-1) [] (.slice none 0 0) W :=
  ⟨hb.lt, grefl _ _, hb, World.ownsRow_nil _ _ _ _, fun d hd => by cases hd⟩
set_option maxRecDepth 100000 in
set_option maxHeartbeats 8000000 in
theorem rcompile_any (text : ByteArray) (w : World) (hsz : text.size ≤ 9223372036854775807) : Calls Try.prog 7 #[.string text] w (RCoR w text) := by
  have hB0 := Blk.new w 28 #[.slice none 0 0, .int .i64 0]
  have hA0 : Below w.heap.size w (w.alloc (.cells #[.slice none 0 0, .int .i64 0] 28)) := bal (Below.refl _ w) _
  by_cases hlong : 256 < text.size
  · have c0 := hB0.cell 0
    have c1 := hB0.cell 1
    have f0 := hB0.frozen 0
    have hA := hA0
    go_enter Try.func7, Try.ntmps7
    go_wp2_with fail
    refine bodyPost_ret (v := .tuple #[.agg #[.slice none 0 0, .int .i64 0], .int .i64 2, .int .i64 0]) (by simp [results, Try.results7, go_sem, c0, c1]) rfl ?_
    exact ⟨hA, .inl ⟨hlong, rfl⟩⟩
  · have hsh : text.size ≤ 256 := by omega
    have he1 : (w.alloc (.cells #[.slice none 0 0, .int .i64 0] 28)).heap.size = w.heap.size + 1 := by simp
    have hB1 := Blk.new (w.alloc (.cells #[.slice none 0 0, .int .i64 0] 28)) 67 (rfC text 0 0 0 (-1) (.slice none 0 0))
    rw [he1] at hB1
    have hA1 := bal hA0 (.cells (rfC text 0 0 0 (-1) (.slice none 0 0)) 67)
    have hBW := hB0.alloc (.cells (rfC text 0 0 0 (-1) (.slice none 0 0)) 67)
    have hsW : w.heap.size + 2 ≤ ((w.alloc (.cells #[.slice none 0 0, .int .i64 0] 28)).alloc (.cells (rfC text 0 0 0 (-1) (.slice none 0 0)) 67)).heap.size := by simp
    have HPAT := Lib.hid (patC_all text hsh 256 _ _ (w.heap.size + 1) 0 0 0 [] (.slice none 0 0) (Rf.start hB1) (Nat.zero_le _) (by omega) (by omega) (by omega) (by simp))
    clear hB0 hA0 hB1 he1
    go_enter Try.func7, Try.ntmps7
    go_wp2_with fail
    have HPAT2 := Lib.hid (show Calls Try.prog 19 #[.pointer (some ⟨w.heap.size + 1, 0, none⟩)] ((w.alloc (.cells #[.slice none 0 0, .int .i64 0] 28)).alloc (.cells #[.string text, .int .i64 0, .int .i64 0, .int .i64 0, .int .i64 (-1), .slice none 0 0] 67)) _ from HPAT.out)
    have hA2 : Below w.heap.size w ((w.alloc (.cells #[.slice none 0 0, .int .i64 0] 28)).alloc (.cells #[.string text, .int .i64 0, .int .i64 0, .int .i64 0, .int .i64 (-1), .slice none 0 0] 67)) := hA1
    have hBW2 : Blk ((w.alloc (.cells #[.slice none 0 0, .int .i64 0] 28)).alloc (.cells #[.string text, .int .i64 0, .int .i64 0, .int .i64 0, .int .i64 (-1), .slice none 0 0] 67)) w.heap.size 28 #[.slice none 0 0, .int .i64 0] := hBW
    have hsW2 : w.heap.size + 2 ≤ ((w.alloc (.cells #[.slice none 0 0, .int .i64 0] 28)).alloc (.cells #[.string text, .int .i64 0, .int .i64 0, .int .i64 0, .int .i64 (-1), .slice none 0 0] 67)).heap.size := hsW
    refine HPAT2.out.mono ?_
    clear HPAT HPAT2 hA1 hBW hsW
    rintro e X ⟨k, M, nv, p, i, b, rfl, hO, hge, hcnt, hR⟩
    rw [show rfC text 0 0 0 (-1) (.slice none 0 0) = #[.string text, .int .i64 0, .int .i64 0, .int .i64 0, .int .i64 (-1), .slice none 0 0] from rfl] at hO
    generalize (w.alloc (.cells #[.slice none 0 0, .int .i64 0] 28)).alloc (.cells #[.string text, .int .i64 0, .int .i64 0, .int .i64 0, .int .i64 (-1), .slice none 0 0] 67) = W at *
    have hrf := hO.rf
    rw [List.nil_append] at hrf
    have HX := Lib.hid (hA2.grown hrf.bel (Nat.le_trans (Nat.le_succ _) (Nat.le_trans (Nat.le_succ _) hsW2)) (fun z hz => by cases hz; omega))
    have hBX := hBW2.grown hrf.bel (fun e => by have := Option.some.inj e; omega)
    have HBX := Lib.hid hBX
    have HRF := Lib.hid hrf
    have q1 := Blk.f1 hrf.blk
    have q4 := Blk.f4 hrf.blk
    have q5 := Blk.f5 hrf.blk
    have f0 := hBX.frozen 0
    have f1 := hBX.frozen 1
    have c0 : X.cell? ⟨w.heap.size, 0, none⟩ = some (.slice none 0 0) := hBX.cell 0
    have c1 : X.cell? ⟨w.heap.size, 1, none⟩ = some (.int .i64 0) := hBX.cell 1
    have p2 : p ≤ 300 := by rcases hR with ⟨_, h, _⟩ | ⟨_, _, h, _⟩ <;> omega
    have hsX := hrf.bel.size
    obtain ⟨an, cn, rfl⟩ := own_len hrf.row
    by_cases hok : b = -1 ∧ (xs text)[p]? = none
    · obtain ⟨rfl, hx⟩ := hok
      have hpI : ¬ (p : Int) < (text.size : Int) := by
        have := List.getElem?_eq_none_iff.1 hx
        rw [xs_len] at this
        omega
      have HRES := Lib.hid (show ∃ t, res (xs text) st0 = .ok t ∧ Den M k t from by
        rcases hR with ⟨_, h1, h2, ch, ps, h3, h4, h5, h6⟩ | ⟨b0, hb, _⟩
        · refine ⟨whole ch ps, ?_, by rw [List.nil_append] at h3; exact h3⟩
          show res (xs text) ⟨0, 0, [], [], []⟩ = _
          rw [h6 [] rfl, st_end hx, if_pos rfl]
        · omega)
      have hM : M.length ≤ 2000 := by omega
      clear hO hrf hR hBX hBW2 hA2 hx
      go_wp2_with fail
      have hZ := (HBX.out.set_ 0 (.slice an M.length cn)).set_ 1 (.int .i64 (k : Int))
      have z0 : ((X.setCell ⟨w.heap.size, 0, none⟩ (.slice an M.length cn)).setCell ⟨w.heap.size, 1, none⟩ (.int .i64 (k : Int))).cell? ⟨w.heap.size, 0, none⟩ = some (.slice an M.length cn) := hZ.cell 0
      have z1 : ((X.setCell ⟨w.heap.size, 0, none⟩ (.slice an M.length cn)).setCell ⟨w.heap.size, 1, none⟩ (.int .i64 (k : Int))).cell? ⟨w.heap.size, 1, none⟩ = some (.int .i64 (k : Int)) := hZ.cell 1
      obtain ⟨t, ht, hden⟩ := HRES.out
      refine bodyPost_ret (v := .tuple #[.agg #[.slice an M.length cn, .int .i64 (k : Int)], .int .i64 0, .int .i64 0]) (by simp [results, Try.results7, go_sem, z0, z1]) rfl ?_
      have hsz2 : w.heap.size ≤ X.heap.size := by omega
      have hgg : X.grownBy ((X.setCell ⟨w.heap.size, 0, none⟩ (.slice an M.length cn)).setCell ⟨w.heap.size, 1, none⟩ (.int .i64 (k : Int))) (some w.heap.size) := gtrans (only_set _ _ _ _) (only_set _ _ _ _)
      have hff := Fr.by hgg (fun z hz c e => by
        cases hz
        have h := HBX.out
        unfold Blk at h
        rw [h] at e
        cases e)
      refine ⟨HX.out.grown hgg hsz2 (fun z hz => by cases hz; exact Nat.le_refl _), .inr (.inr ⟨hsh, t, _, ht, rfl, ⟨_, k, M, rfl, ?_, ?_, hden, hM⟩⟩)⟩
      · exact own_mono (own_put HRF.out.row hgg (by omega)) (by omega)
      · exact fun d hd => Fz.fr (HRF.out.kid d hd) hff
    · have hbad : ∃ b0 : Nat, res (xs text) st0 = .err b0 ∧ ((b = -1 ∧ p < text.size ∧ b0 = p) ∨ b = (b0 : Int)) := by
        rcases hR with ⟨rfl, h1, h2, ch, ps, h3, h4, h5, h6⟩ | ⟨b0, hb, h1, h2, h3⟩
        · rcases h5 with hx | hx
          · exact absurd ⟨rfl, hx⟩ hok
          · have hql : p < text.size := by have := (List.getElem?_eq_some_iff.1 hx).1; rw [xs_len] at this; exact this
            refine ⟨p, ?_, .inl ⟨rfl, hql, rfl⟩⟩
            show res (xs text) ⟨0, 0, [], [], []⟩ = _
            rw [h6 [] rfl]
            exact st_41e hx
        · exact ⟨b0, h3 [] rfl, .inr hb⟩
      obtain ⟨b0, hres, hcs⟩ := hbad
      have HRES := Lib.hid hres
      have HRFU := Lib.hid (refuse_any X (w.heap.size + 1) p text _ _ _ _ _ hrf.blk)
      clear hO hrf hR hBX hBW2 hA2 hres hok
      rcases hcs with ⟨rfl, hpl, rfl⟩ | rfl
      · have hpI : (b0 : Int) < (text.size : Int) := by omega
        rw [if_pos (by decide)] at HRFU
        clear c0 c1 f0 f1
        go_wp2_with fail
        refine HRFU.out.mono ?_
        rintro e Y ⟨rfl, hbY, hgY⟩
        have HRF2 := Lib.hid (HRF.out.put hgY hbY).1
        have HBX2 := Lib.hid (HBX.out.grown hgY (fun e => by have := Option.some.inj e; omega))
        have HX2 := Lib.hid (HX.out.grown hgY (by omega) (fun z hz => by cases hz; omega))
        clear hbY hgY q1 q4 q5
        have q44 := Blk.f4 HRF2.out.blk
        have hb0 : (0 : Int) ≤ (b0 : Int) := by omega
        have c0 : Y.cell? ⟨w.heap.size, 0, none⟩ = some (.slice none 0 0) := HBX2.out.cell 0
        have c1 : Y.cell? ⟨w.heap.size, 1, none⟩ = some (.int .i64 0) := HBX2.out.cell 1
        have hS0 : Y.drew.cell? ⟨w.heap.size + 1, 4, none⟩ = some (.int .i64 (b0 : Int)) := q44
        have HB5 := Lib.hid (HRF2.out.blk.drew)
        have HP5 := Lib.hid (HBX2.out.drew)
        have HX5 := Lib.hid (HX2.out.drew)
        have hsz2 : w.heap.size ≤ Y.drew.heap.size := by have := HRF2.out.bel.size; show w.heap.size ≤ Y.heap.size; omega
        go_wp2_with fail
        refine wp_region_last 7 (fun w' => w'.cell? ⟨w.heap.size + 1, 4, none⟩ = some (.int .i64 (b0 : Int))) mixed ?_
        clear c0 c1 q44
        generalize World.drew _ = w5 at *
        have d0 : w5.cell? ⟨w.heap.size, 0, none⟩ = some (.slice none 0 0) := HP5.out.cell 0
        have d1 : w5.cell? ⟨w.heap.size, 1, none⟩ = some (.int .i64 0) := HP5.out.cell 1
        have e0 := HP5.out.frozen 0
        have e1 := HP5.out.frozen 1
        refine wpLast_take (i := 0) (oi := { dst := some 41, op := Op.build 28 #[], type := 28, pos := "pattern.go:250", after := #[], guard := none }) (v := ?_) rfl (by kernel_rfl) (by kernel_rfl) (by kernel_rfl) (by kernel_rfl) (fun _ _ _ h => h) (Or.inl ⟨by rfl, ?_⟩) (by assumption) ?_
        rotate_left
        · intro w hSw
          try dsimp only at hSw
          go_simp
          try with_reducible rfl
        try simp only [Act.put, List.setIfInBounds_toArray, List.set_cons_zero, List.set_cons_succ]
        refine wpLast_take (i := 1) (oi := { dst := some 42, op := Op.move (Operand.tmp 5), type := 65, pos := "pattern.go:250", after := #[{ on := 6, ground := Ground.gcOnly Departure.lateStores }], guard := none }) (v := ?_) rfl (by kernel_rfl) (by kernel_rfl) (by kernel_rfl) (by kernel_rfl) (fun _ _ _ h => h) (Or.inl ⟨by rfl, ?_⟩) (by assumption) ?_
        rotate_left
        · intro w hSw
          try dsimp only at hSw
          go_simp
          try with_reducible rfl
        try simp only [Act.put, List.setIfInBounds_toArray, List.set_cons_zero, List.set_cons_succ]
        refine wpLast_take (i := 2) (oi := { dst := some 43, op := Op.nilCheck (Operand.tmp 42), type := 0, pos := "pattern.go:250", after := #[{ on := 1, ground := Ground.data }, { on := 6, ground := Ground.gcOnly Departure.lateStores }], guard := none }) (v := ?_) rfl (by kernel_rfl) (by kernel_rfl) (by kernel_rfl) (by kernel_rfl) (fun _ _ _ h => h) (Or.inl ⟨by rfl, ?_⟩) (by assumption) ?_
        rotate_left
        · intro w hSw
          try dsimp only at hSw
          go_simp
          try with_reducible rfl
        try simp only [Act.put, List.setIfInBounds_toArray, List.set_cons_zero, List.set_cons_succ]
        refine wpLast_take (i := 3) (oi := { dst := some 44, op := Op.fieldAddr 67 (Operand.tmp 43) 4, type := 0, pos := "pattern.go:250", after := #[{ on := 2, ground := Ground.data }, { on := 6, ground := Ground.gcOnly Departure.lateStores }], guard := none }) (v := ?_) rfl (by kernel_rfl) (by kernel_rfl) (by kernel_rfl) (by kernel_rfl) (fun _ _ _ h => h) (Or.inl ⟨by rfl, ?_⟩) (by assumption) ?_
        rotate_left
        · intro w hSw
          try dsimp only at hSw
          go_simp
          try with_reducible rfl
        try simp only [Act.put, List.setIfInBounds_toArray, List.set_cons_zero, List.set_cons_succ]
        refine wpLast_take (i := 4) (oi := { dst := some 45, op := Op.load 3 (Operand.tmp 44), type := 3, pos := "pattern.go:250", after := #[{ on := 3, ground := Ground.data }, { on := 6, ground := Ground.gcOnly Departure.lateStores }], guard := none }) (v := ?_) rfl (by kernel_rfl) (by kernel_rfl) (by kernel_rfl) (by kernel_rfl) (fun _ _ _ h => h) (Or.inl ⟨by rfl, ?_⟩) (by assumption) ?_
        rotate_left
        · intro w hSw
          try dsimp only at hSw
          go_simp
          try with_reducible rfl
        try simp only [Act.put, List.setIfInBounds_toArray, List.set_cons_zero, List.set_cons_succ]
        have hne : w.heap.size + 1 ≠ w.heap.size := by omega
        have hB6 : Blk ((w5.setCell ⟨w.heap.size, 0, none⟩ (.slice none 0 0)).setCell ⟨w.heap.size, 1, none⟩ (.int .i64 0)) (w.heap.size + 1) 67 _ := (HB5.out.far (p := ⟨w.heap.size, 0, none⟩) hne _).far (p := ⟨w.heap.size, 1, none⟩) hne _
        have hS6 := Blk.f4 hB6
        have hZ := (HP5.out.set_ 0 (.slice none 0 0)).set_ 1 (.int .i64 0)
        have z0 : ((w5.setCell ⟨w.heap.size, 0, none⟩ (.slice none 0 0)).setCell ⟨w.heap.size, 1, none⟩ (.int .i64 0)).cell? ⟨w.heap.size, 0, none⟩ = some (.slice none 0 0) := hZ.cell 0
        have z1 : ((w5.setCell ⟨w.heap.size, 0, none⟩ (.slice none 0 0)).setCell ⟨w.heap.size, 1, none⟩ (.int .i64 0)).cell? ⟨w.heap.size, 1, none⟩ = some (.int .i64 0) := hZ.cell 1
        refine wpLast_ready (rs := [5]) (by kernel_rfl) (by simp) ?_
        refine EachLast.cons (o := { dst := none, op := Op.store 28 (Operand.tmp 2) (Operand.tmp 41), type := 0, pos := "pattern.go:250", after := #[{ on := 0, ground := Ground.data }, { on := 0, ground := Ground.phase }, { on := 1, ground := Ground.textOnly Departure.lateStores }, { on := 2, ground := Ground.textOnly Departure.lateStores }, { on := 3, ground := Ground.textOnly Departure.lateStores }, { on := 4, ground := Ground.textOnly Departure.lateStores }], guard := none }) rfl (fun K hK => ?_) EachLast.nil
        go_simp
        refine hK.out _ _ (fun _ => hS6) ?_
        try simp only [Act.put, List.setIfInBounds_toArray, List.set_cons_zero, List.set_cons_succ]
        refine wpLast_ready (rs := [6]) (by kernel_rfl) (by simp) ?_
        refine EachLast.cons (o := { dst := some 3, op := Op.assign (Operand.const (Value.int IntKind.i64 140)), type := 3, pos := "pattern.go:250", after := #[{ on := 5, ground := Ground.chain }, { on := 0, ground := Ground.phase }, { on := 1, ground := Ground.textOnly Departure.lateStores }, { on := 2, ground := Ground.textOnly Departure.lateStores }, { on := 3, ground := Ground.textOnly Departure.lateStores }, { on := 4, ground := Ground.textOnly Departure.lateStores }, { on := 5, ground := Ground.phase }], guard := none }) rfl (fun K hK => ?_) EachLast.nil
        go_simp
        refine hK.out _ _ (fun _ => hS6) ?_
        try simp only [Act.put, List.setIfInBounds_toArray, List.set_cons_zero, List.set_cons_succ]
        refine wpLast_ready (rs := [7]) (by kernel_rfl) (by simp) ?_
        refine EachLast.cons (o := { dst := some 4, op := Op.assign (Operand.tmp 45), type := 3, pos := "pattern.go:250", after := #[{ on := 4, ground := Ground.data }, { on := 6, ground := Ground.chain }, { on := 0, ground := Ground.phase }, { on := 1, ground := Ground.phase }, { on := 2, ground := Ground.phase }, { on := 3, ground := Ground.phase }, { on := 4, ground := Ground.phase }, { on := 5, ground := Ground.phase }, { on := 6, ground := Ground.phase }], guard := none }) rfl (fun K hK => ?_) EachLast.nil
        go_simp
        refine hK.out _ _ (fun h => absurd rfl h) ?_
        try simp only [Act.put, List.setIfInBounds_toArray, List.set_cons_zero, List.set_cons_succ]
        refine wpLast_done (by kernel_rfl) ?_ _
        go_wp2_with fail
        refine bodyPost_ret (v := .tuple #[.agg #[.slice none 0 0, .int .i64 0], .int .i64 140, .int .i64 (b0 : Int)]) (by simp [results, Try.results7, go_sem, z0, z1]) rfl ?_
        exact ⟨HX5.out.grown (gtrans (only_set _ _ _ _) (only_set _ _ _ _)) hsz2 (fun z hz => by cases hz; exact Nat.le_refl _), .inr (.inl ⟨hsh, b0, HRES.out, rfl⟩)⟩
      · clear c0 c1 f0 f1
        have q44 := Blk.f4 HRF.out.blk
        have hb0 : (0 : Int) ≤ (b0 : Int) := by omega
        have c0 : X.cell? ⟨w.heap.size, 0, none⟩ = some (.slice none 0 0) := HBX.out.cell 0
        have c1 : X.cell? ⟨w.heap.size, 1, none⟩ = some (.int .i64 0) := HBX.out.cell 1
        have hS0 : X.drew.cell? ⟨w.heap.size + 1, 4, none⟩ = some (.int .i64 (b0 : Int)) := q44
        have HB5 := Lib.hid (HRF.out.blk.drew)
        have HP5 := Lib.hid (HBX.out.drew)
        have HX5 := Lib.hid (HX.out.drew)
        have hsz2 : w.heap.size ≤ X.drew.heap.size := by have := HRF.out.bel.size; show w.heap.size ≤ X.heap.size; omega
        go_wp2_with fail
        refine wp_region_last 7 (fun w' => w'.cell? ⟨w.heap.size + 1, 4, none⟩ = some (.int .i64 (b0 : Int))) mixed ?_
        clear c0 c1 q44
        generalize World.drew _ = w5 at *
        have d0 : w5.cell? ⟨w.heap.size, 0, none⟩ = some (.slice none 0 0) := HP5.out.cell 0
        have d1 : w5.cell? ⟨w.heap.size, 1, none⟩ = some (.int .i64 0) := HP5.out.cell 1
        have e0 := HP5.out.frozen 0
        have e1 := HP5.out.frozen 1
        refine wpLast_take (i := 0) (oi := { dst := some 41, op := Op.build 28 #[], type := 28, pos := "pattern.go:250", after := #[], guard := none }) (v := ?_) rfl (by kernel_rfl) (by kernel_rfl) (by kernel_rfl) (by kernel_rfl) (fun _ _ _ h => h) (Or.inl ⟨by rfl, ?_⟩) (by assumption) ?_
        rotate_left
        · intro w hSw
          try dsimp only at hSw
          go_simp
          try with_reducible rfl
        try simp only [Act.put, List.setIfInBounds_toArray, List.set_cons_zero, List.set_cons_succ]
        refine wpLast_take (i := 1) (oi := { dst := some 42, op := Op.move (Operand.tmp 5), type := 65, pos := "pattern.go:250", after := #[{ on := 6, ground := Ground.gcOnly Departure.lateStores }], guard := none }) (v := ?_) rfl (by kernel_rfl) (by kernel_rfl) (by kernel_rfl) (by kernel_rfl) (fun _ _ _ h => h) (Or.inl ⟨by rfl, ?_⟩) (by assumption) ?_
        rotate_left
        · intro w hSw
          try dsimp only at hSw
          go_simp
          try with_reducible rfl
        try simp only [Act.put, List.setIfInBounds_toArray, List.set_cons_zero, List.set_cons_succ]
        refine wpLast_take (i := 2) (oi := { dst := some 43, op := Op.nilCheck (Operand.tmp 42), type := 0, pos := "pattern.go:250", after := #[{ on := 1, ground := Ground.data }, { on := 6, ground := Ground.gcOnly Departure.lateStores }], guard := none }) (v := ?_) rfl (by kernel_rfl) (by kernel_rfl) (by kernel_rfl) (by kernel_rfl) (fun _ _ _ h => h) (Or.inl ⟨by rfl, ?_⟩) (by assumption) ?_
        rotate_left
        · intro w hSw
          try dsimp only at hSw
          go_simp
          try with_reducible rfl
        try simp only [Act.put, List.setIfInBounds_toArray, List.set_cons_zero, List.set_cons_succ]
        refine wpLast_take (i := 3) (oi := { dst := some 44, op := Op.fieldAddr 67 (Operand.tmp 43) 4, type := 0, pos := "pattern.go:250", after := #[{ on := 2, ground := Ground.data }, { on := 6, ground := Ground.gcOnly Departure.lateStores }], guard := none }) (v := ?_) rfl (by kernel_rfl) (by kernel_rfl) (by kernel_rfl) (by kernel_rfl) (fun _ _ _ h => h) (Or.inl ⟨by rfl, ?_⟩) (by assumption) ?_
        rotate_left
        · intro w hSw
          try dsimp only at hSw
          go_simp
          try with_reducible rfl
        try simp only [Act.put, List.setIfInBounds_toArray, List.set_cons_zero, List.set_cons_succ]
        refine wpLast_take (i := 4) (oi := { dst := some 45, op := Op.load 3 (Operand.tmp 44), type := 3, pos := "pattern.go:250", after := #[{ on := 3, ground := Ground.data }, { on := 6, ground := Ground.gcOnly Departure.lateStores }], guard := none }) (v := ?_) rfl (by kernel_rfl) (by kernel_rfl) (by kernel_rfl) (by kernel_rfl) (fun _ _ _ h => h) (Or.inl ⟨by rfl, ?_⟩) (by assumption) ?_
        rotate_left
        · intro w hSw
          try dsimp only at hSw
          go_simp
          try with_reducible rfl
        try simp only [Act.put, List.setIfInBounds_toArray, List.set_cons_zero, List.set_cons_succ]
        have hne : w.heap.size + 1 ≠ w.heap.size := by omega
        have hB6 : Blk ((w5.setCell ⟨w.heap.size, 0, none⟩ (.slice none 0 0)).setCell ⟨w.heap.size, 1, none⟩ (.int .i64 0)) (w.heap.size + 1) 67 _ := (HB5.out.far (p := ⟨w.heap.size, 0, none⟩) hne _).far (p := ⟨w.heap.size, 1, none⟩) hne _
        have hS6 := Blk.f4 hB6
        have hZ := (HP5.out.set_ 0 (.slice none 0 0)).set_ 1 (.int .i64 0)
        have z0 : ((w5.setCell ⟨w.heap.size, 0, none⟩ (.slice none 0 0)).setCell ⟨w.heap.size, 1, none⟩ (.int .i64 0)).cell? ⟨w.heap.size, 0, none⟩ = some (.slice none 0 0) := hZ.cell 0
        have z1 : ((w5.setCell ⟨w.heap.size, 0, none⟩ (.slice none 0 0)).setCell ⟨w.heap.size, 1, none⟩ (.int .i64 0)).cell? ⟨w.heap.size, 1, none⟩ = some (.int .i64 0) := hZ.cell 1
        refine wpLast_ready (rs := [5]) (by kernel_rfl) (by simp) ?_
        refine EachLast.cons (o := { dst := none, op := Op.store 28 (Operand.tmp 2) (Operand.tmp 41), type := 0, pos := "pattern.go:250", after := #[{ on := 0, ground := Ground.data }, { on := 0, ground := Ground.phase }, { on := 1, ground := Ground.textOnly Departure.lateStores }, { on := 2, ground := Ground.textOnly Departure.lateStores }, { on := 3, ground := Ground.textOnly Departure.lateStores }, { on := 4, ground := Ground.textOnly Departure.lateStores }], guard := none }) rfl (fun K hK => ?_) EachLast.nil
        go_simp
        refine hK.out _ _ (fun _ => hS6) ?_
        try simp only [Act.put, List.setIfInBounds_toArray, List.set_cons_zero, List.set_cons_succ]
        refine wpLast_ready (rs := [6]) (by kernel_rfl) (by simp) ?_
        refine EachLast.cons (o := { dst := some 3, op := Op.assign (Operand.const (Value.int IntKind.i64 140)), type := 3, pos := "pattern.go:250", after := #[{ on := 5, ground := Ground.chain }, { on := 0, ground := Ground.phase }, { on := 1, ground := Ground.textOnly Departure.lateStores }, { on := 2, ground := Ground.textOnly Departure.lateStores }, { on := 3, ground := Ground.textOnly Departure.lateStores }, { on := 4, ground := Ground.textOnly Departure.lateStores }, { on := 5, ground := Ground.phase }], guard := none }) rfl (fun K hK => ?_) EachLast.nil
        go_simp
        refine hK.out _ _ (fun _ => hS6) ?_
        try simp only [Act.put, List.setIfInBounds_toArray, List.set_cons_zero, List.set_cons_succ]
        refine wpLast_ready (rs := [7]) (by kernel_rfl) (by simp) ?_
        refine EachLast.cons (o := { dst := some 4, op := Op.assign (Operand.tmp 45), type := 3, pos := "pattern.go:250", after := #[{ on := 4, ground := Ground.data }, { on := 6, ground := Ground.chain }, { on := 0, ground := Ground.phase }, { on := 1, ground := Ground.phase }, { on := 2, ground := Ground.phase }, { on := 3, ground := Ground.phase }, { on := 4, ground := Ground.phase }, { on := 5, ground := Ground.phase }, { on := 6, ground := Ground.phase }], guard := none }) rfl (fun K hK => ?_) EachLast.nil
        go_simp
        refine hK.out _ _ (fun h => absurd rfl h) ?_
        try simp only [Act.put, List.setIfInBounds_toArray, List.set_cons_zero, List.set_cons_succ]
        refine wpLast_done (by kernel_rfl) ?_ _
        go_wp2_with fail
        refine bodyPost_ret (v := .tuple #[.agg #[.slice none 0 0, .int .i64 0], .int .i64 140, .int .i64 (b0 : Int)]) (by simp [results, Try.results7, go_sem, z0, z1]) rfl ?_
        exact ⟨HX5.out.grown (gtrans (only_set _ _ _ _) (only_set _ _ _ _)) hsz2 (fun z hz => by cases hz; exact Nat.le_refl _), .inr (.inl ⟨hsh, b0, HRES.out, rfl⟩)⟩
end Go.Proofs.Ytlbkacabcfeaiaa.Tl
