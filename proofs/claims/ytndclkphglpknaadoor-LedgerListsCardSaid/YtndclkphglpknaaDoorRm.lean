/- Read: the walk from sixteen bytes on. -/
import Derived.Test.YtndclkphglpknaaDoorRd
import Derived.Deep.RegionHeld3
import Derived.Deep.RegionWith
namespace Go.Proofs.YtndclkphglpknaaDoor.Lg
open Go.RowKit Mm
/-- What the pieces keep: the record's block, the answer's, all below. -/
def RdS (ty : TypeId) (g8 g4 : Nat) (C : Array Value) (w0 w : World) : Prop := Blk w g8 ty C ∧ Blk w g4 ty rz ∧ Below w0.heap.size w0 w
theorem keepS {W w' : World} {a : Addr} {u : Value} (hc : W.cell? a = some u) (h : Below W.heap.size W w') : w'.cell? a = some u ∧ Below W.heap.size W w' :=
  ⟨by rw [h.cell (World.block_lt_of_cell? W a hc)]; exact hc, h⟩
theorem rdKeep {W w' : World} {a0 a1 a3 : Addr} {u0 u1 u3 : Value} {g8 : Nat} {ty : TypeId} {C : Array Value} (h0 : W.cell? a0 = some u0) (h1 : W.cell? a1 = some u1) (h3 : W.cell? a3 = some u3) (hR : Blk W g8 ty C) (h : Below W.heap.size W w') :
    Below W.heap.size W w' ∧ w'.cell? a0 = some u0 ∧ w'.cell? a1 = some u1 ∧ w'.cell? a3 = some u3 ∧ ∀ i, w'.cell? ⟨g8, i, none⟩ = C[i]? :=
  ⟨h, (keepS h0 h).1, (keepS h1 h).1, (keepS h3 h).1, (hR.below h hR.lt).cell⟩
set_option maxRecDepth 100000 in
set_option maxHeartbeats 20000000 in
theorem read_main (l : List UInt8) (v : Value) (k : Nat) (w : World) (hS : Sees w v (bytesV l)) (h16 : k + 16 ≤ l.length) :
    Calls Tryd.prog 12 #[v, .int .i64 (k : Int)] w fun e w' => e = .returned (readV l (k : Int)) ∧ Below w.heap.size w w' := by
  have HSW := Lib.hid hS
  obtain ⟨a0, cap0, rfl, hN, hcap, hcm, hx⟩ := hS
  have hbl := bytesV_len l
  rw [hbl] at hcap HSW ⊢
  unfold maxLen at hcm
  obtain ⟨g, off, rfl, hg, _⟩ : ∃ g off, a0 = some ⟨g, off, none⟩ ∧ g < w.heap.size ∧ ∀ j u, (bytesV l)[j]? = some u → w.cell? ⟨g, off + j, none⟩ = some u := by
    rcases hx with h0 | h0
    · rw [h0] at hbl; simp at hbl; omega
    · exact h0
  have hSd := sees_drop HSW.out (k := k) (by omega)
  have hkc : ¬ cap0 = k := by omega
  have hkc2 : k ≤ cap0 := by omega
  clear hx hN hbl HSW
  go_enter Tryd.func12, Tryd.ntmps12
  go_upto_region 4 with fail
  have hd : (l.drop k).length = l.length - k := by simp
  have hc16 : l.length - k ≤ cap0 - k := by omega
  have hcm' : cap0 - k ≤ 9223372036854775807 := by omega
  rw [← hd] at hSd hc16 ⊢
  have hlen : 16 ≤ (l.drop k).length := by omega
  have HLD := Lib.hid hd
  clear hd
  generalize hD : l.drop k = d at *
  have HDD := Lib.hid hD
  clear hD
  generalize cap0 - k = c at *
  generalize off + k = o at *
  go_upto_region 6 with fail
  generalize hW : World.alloc w _ = W
  have hSW : Sees W (.slice (some ⟨g, o, none⟩) d.length c) (bytesV d) := by rw [← hW]; exact hSd.alloc _
  have hZ : Blk W w.heap.size 40 rz := by rw [← hW]; exact Blk.new w _ _
  have hbW : Below w.heap.size w W := by rw [← hW]; go_grown
  clear hW hSd
  have q2 := sees_byte hSW (k := 2) (by omega)
  have HS4 := Lib.hid (fun (w' : World) (h : w'.cell? ⟨g, o + 2, none⟩ = some (.int .u8 ((bt d 2).toNat : Int)) ∧ Below W.heap.size W w') => number_any (d.drop 4) _ w' (sees_drop (hSW.below h.2) (k := 4) (by omega)) (by simp; omega))
  have HKS := Lib.hid (fun (w' : World) (h : Below W.heap.size W w') => keepS q2 h)
  have y1 : ¬ c = 4 := by omega
  have y2 : 4 ≤ d.length := by omega
  have y2' : (4 : Int) ≤ (d.length : Int) := by omega
  have y3 : (2 : Int) < (d.length : Int) := by omega
  have y4 : 2 < d.length := by omega
  have ub := wrap_b (bt d 2).toNat (by have := (bt d 2).toNat_lt; omega)
  have HE4 := Lib.hid (show num4 ((d.drop 4).take 4) = n4 d 4 from rfl)
  go_cut [8] (fun s8 wx => ∃ g8, s8 = .pointer (some ⟨g8, 0, none⟩) ∧ W.heap.size ≤ g8 ∧ Blk wx g8 40 #[.int .i64 (n4 d 4 : Int), .int .i64 ((bt d 2).toNat : Int), .string ⟨#[]⟩] ∧ Below W.heap.size W wx)
  case first =>
    go_region_held3 (fun w' => w'.cell? ⟨g, o + 2, none⟩ = some (.int .u8 ((bt d 2).toNat : Int)) ∧ Below W.heap.size W w')
      (with_reducible (first | assumption | exact HKS.out _ (Below.refl _ _).drew | exact HKS.out _ (bal (Below.refl _ _) _).drew | exact HKS.out _ (bal (And.right (by assumption)) _)))
      (first | (go_at_call 21; refine (HS4.out _ (by assumption)).mono ?_; rintro e w' ⟨rfl, rfl⟩))
    all_goals
      rw [HE4.out]
      go_wp2_with fail
      go_meet
      exact ⟨W.heap.size, rfl, Nat.le_refl _, (Blk.new W _ _).drew, (bal (Below.refl _ _) _).drew⟩
  case rest =>
    obtain ⟨V, rfl⟩ : ∃ V : World, V = wc := ⟨_, rfl⟩
    obtain ⟨g8, rfl, hg8, hR, hbV⟩ := hcut
    clear q2 HS4 HKS y3 y4 ub HE4
    have hSV := hSW.below hbV
    have hZV := hZ.below hbV hZ.lt
    have hbwV := bnx hbW hbV
    have hgz : w.heap.size ≠ g8 := by have := hZ.lt; omega
    have hgw : w.heap.size ≤ g8 := by have := hZ.lt; omega
    clear hSW hZ hbW hbV hg8
    have y8 : ¬ c = 8 := by omega
    have y9 : (8 : Int) ≤ (d.length : Int) := by omega
    have hn8 := number_any (d.drop 8) _ V (sees_drop hSV (k := 8) (by omega)) (by simp; omega)
    rw [show num4 ((d.drop 8).take 4) = n4 d 8 from rfl] at hn8
    have HN8 := Lib.hid hn8
    clear hn8
    go_upto_region 8 with (go_at_call 21; refine HN8.out.mono ?_; rintro e w' ⟨rfl, rfl⟩)
    have HN12 := Lib.hid (fun (w' : World) (h : Below V.heap.size V w') => show Calls Tryd.prog 21 #[_] w' (fun e w'_1 => e = .returned (.int .i64 (n4 d 12 : Int)) ∧ w' = w'_1) from number_any (d.drop 12) _ w' (sees_drop (hSV.below h) (k := 12) (by omega)) (by simp; omega))
    have HS12 := Lib.hid (fun (w' : World) (h : Below V.heap.size V w') => sum_any (d.take 12) _ w' (sees_take (hSV.below h) (k := 12) (by omega)))
    have q0 := sees_byte hSV (k := 0) (by omega)
    have q1 := sees_byte hSV (k := 1) (by omega)
    have q3 := sees_byte hSV (k := 3) (by omega)
    rw [Nat.add_zero] at q0
    have r8 := hR.cell
    have z0 : (0 : Int) < (d.length : Int) := by omega
    have z1 : (1 : Int) < (d.length : Int) := by omega
    have z3 : (3 : Int) < (d.length : Int) := by omega
    have z0n : 0 < d.length := by omega
    have z1n : 1 < d.length := by omega
    have z3n : 3 < d.length := by omega
    have z12d : 12 ≤ d.length := by omega
    have z12 : ¬ c = 12 := by omega
    have z12' : (12 : Int) ≤ (d.length : Int) := by omega
    have z12c : (12 : Int) ≤ (c : Int) := by omega
    have z12n : 12 ≤ c := by omega
    go_cut [73] (fun s73 wx => s73 = .bool (decide (spoilt d)) ∧ Below V.heap.size V wx)
    case first =>
      by_cases c0 : bt d 0 ≠ 82
      · have HSP := Lib.hid (decide_eq_true (show spoilt d from .inl c0))
        have t0 : (((bt d 0).toNat : Int) != 82) = true := byte_ne c0
        clear c0
        go_quiet (fail)
        go_wp2_with fail
        go_meet
        exact ⟨by rw [HSP.out], below_drewN (Below.refl _ _) _⟩
      have c0 : bt d 0 = 82 := Classical.byContradiction c0
      have t0 : (((bt d 0).toNat : Int) != 82) = false := byte_eq c0
      by_cases c1 : bt d 1 ≠ 76
      · have HSP := Lib.hid (decide_eq_true (show spoilt d from .inr (.inl c1)))
        have t1 : (((bt d 1).toNat : Int) != 76) = true := byte_ne c1
        clear c0 c1
        go_quiet (fail)
        go_wp2_with fail
        go_meet
        exact ⟨by rw [HSP.out], below_drewN (Below.refl _ _) _⟩
      have c1 : bt d 1 = 76 := Classical.byContradiction c1
      have t1 : (((bt d 1).toNat : Int) != 76) = false := byte_eq c1
      by_cases c3 : bt d 3 ≠ 0
      · have HSP := Lib.hid (decide_eq_true (show spoilt d from .inr (.inr (.inl c3))))
        have t3 : (((bt d 3).toNat : Int) != 0) = true := byte_ne c3
        clear c0 c1 c3
        go_quiet (fail)
        go_wp2_with fail
        go_meet
        exact ⟨by rw [HSP.out], below_drewN (Below.refl _ _) _⟩
      have c3 : bt d 3 = 0 := Classical.byContradiction c3
      have t3 : (((bt d 3).toNat : Int) != 0) = false := byte_eq c3
      have HSP4 := Lib.hid (fun (h : n4 d 12 ≠ crc (d.take 12) ∨ ¬ recOk ((bt d 2).toNat : Int) (n4 d 4 : Int) ∨ 16384 < n4 d 8) => show spoilt d from .inr (.inr (.inr h)))
      have HSP5 := Lib.hid (fun (h4 : n4 d 12 = crc (d.take 12)) (h5 : recOk ((bt d 2).toNat : Int) (n4 d 4 : Int)) (h6 : n4 d 8 ≤ 16384) => show ¬ spoilt d from fun h => by
        rcases h with h | h | h | h | h | h
        · exact h c0
        · exact h c1
        · exact h c3
        · exact h h4
        · exact h h5
        · omega)
      have HL := Lib.hid (show (n4 d 12 ≠ crc (d.take 12)) ∨ (n4 d 12 = crc (d.take 12) ∧ ¬ recOk ((bt d 2).toNat : Int) (n4 d 4 : Int)) ∨ (n4 d 12 = crc (d.take 12) ∧ recOk ((bt d 2).toNat : Int) (n4 d 4 : Int) ∧ 16384 < n4 d 8) ∨ (n4 d 12 = crc (d.take 12) ∧ recOk ((bt d 2).toNat : Int) (n4 d 4 : Int) ∧ n4 d 8 ≤ 16384) by
        by_cases e : n4 d 12 = crc (d.take 12)
        · by_cases f : recOk ((bt d 2).toNat : Int) (n4 d 4 : Int)
          · by_cases h : 16384 < n4 d 8
            · exact .inr (.inr (.inl ⟨e, f, h⟩))
            · exact .inr (.inr (.inr ⟨e, f, by omega⟩))
          · exact .inr (.inl ⟨e, f⟩)
        · exact .inl e)
      have HRS := Lib.hid (fun (w' : World) (h : Below V.heap.size V w') => rdKeep q0 q1 q3 hR h)
      clear c0 c1 c3
      refine wp_region_noPanic ?_
      refine wp_region_held_drew (S := fun w' => Below V.heap.size V w' ∧ w'.cell? ⟨g, o, none⟩ = some (.int .u8 ((bt d 0).toNat : Int)) ∧ w'.cell? ⟨g, o + 1, none⟩ = some (.int .u8 ((bt d 1).toNat : Int)) ∧ w'.cell? ⟨g, o + 3, none⟩ = some (.int .u8 ((bt d 3).toNat : Int)) ∧ ∀ i, w'.cell? ⟨g8, i, none⟩ = (#[.int .i64 (n4 d 4 : Int), .int .i64 ((bt d 2).toNat : Int), .string ⟨#[]⟩] : Array Value)[i]?) (by kernel_rfl) (HRS.out _ (Below.refl _ _).drew) (fun hHeld => ?_)
      refine wpAnyH_take (i := 0) (oi := { dst := some 37, op := Op.move (Operand.tmp 7), type := 22, pos := "ledger.go:86", after := #[], guard := none }) (v := ?_) rfl (by kernel_rfl) (by kernel_rfl) (by kernel_rfl) (fun _ _ _ h => h) (Or.inl ⟨by rfl, ?_⟩) (by assumption) ?_
      rotate_left
      · intro w hSw
        try dsimp only at hSw
        go_simp
        try with_reducible rfl
      try simp only [Act.put, List.setIfInBounds_toArray, List.set_cons_zero, List.set_cons_succ]
      refine wpAnyH_take (i := 1) (oi := { dst := some 38, op := Op.indexAddr 22 (Operand.tmp 37) (Operand.const (Value.int IntKind.i64 0)), type := 0, pos := "ledger.go:86", after := #[{ on := 0, ground := Ground.data }], guard := none }) (v := ?_) rfl (by kernel_rfl) (by kernel_rfl) (by kernel_rfl) (fun _ _ _ h => h) (Or.inl ⟨by rfl, ?_⟩) (by assumption) ?_
      rotate_left
      · intro w hSw
        try dsimp only at hSw
        go_simp
        try with_reducible rfl
      try simp only [Act.put, List.setIfInBounds_toArray, List.set_cons_zero, List.set_cons_succ]
      refine wpAnyH_take (i := 2) (oi := { dst := some 39, op := Op.load 5 (Operand.tmp 38), type := 5, pos := "ledger.go:86", after := #[{ on := 1, ground := Ground.data }], guard := none }) (v := ?_) rfl (by kernel_rfl) (by kernel_rfl) (by kernel_rfl) (fun _ _ _ h => h) (Or.inl ⟨by rfl, ?_⟩) (by assumption) ?_
      rotate_left
      · intro w hSw
        try dsimp only at hSw
        go_simp
        try with_reducible rfl
      try simp only [Act.put, List.setIfInBounds_toArray, List.set_cons_zero, List.set_cons_succ]
      refine wpAnyH_take (i := 3) (oi := { dst := some 40, op := Op.binOp BinOp.neq 5 (Operand.tmp 39) (Operand.const (Value.int IntKind.u8 82)) 5, type := 4, pos := "ledger.go:86", after := #[{ on := 2, ground := Ground.data }], guard := none }) (v := ?_) rfl (by kernel_rfl) (by kernel_rfl) (by kernel_rfl) (fun _ _ _ h => h) (Or.inl ⟨by rfl, ?_⟩) (by assumption) ?_
      rotate_left
      · intro w hSw
        try dsimp only at hSw
        go_simp
        try with_reducible rfl
      try simp only [Act.put, List.setIfInBounds_toArray, List.set_cons_zero, List.set_cons_succ]
      refine wpAnyH_take (i := 4) (oi := { dst := some 41, op := Op.move (Operand.tmp 40), type := 4, pos := "ledger.go:86", after := #[{ on := 3, ground := Ground.data }], guard := none }) (v := ?_) rfl (by kernel_rfl) (by kernel_rfl) (by kernel_rfl) (fun _ _ _ h => h) (Or.inl ⟨by rfl, ?_⟩) (by assumption) ?_
      rotate_left
      · intro w hSw
        try dsimp only at hSw
        go_simp
        try with_reducible rfl
      try simp only [Act.put, List.setIfInBounds_toArray, List.set_cons_zero, List.set_cons_succ]
      refine wpAnyH_take (i := 5) (oi := { dst := some 42, op := Op.move (Operand.tmp 7), type := 22, pos := "ledger.go:86", after := #[{ on := 4, ground := Ground.guard }], guard := some (4, false) }) (v := ?_) rfl (by kernel_rfl) (by kernel_rfl) (by kernel_rfl) (fun _ _ _ h => h) (Or.inl ⟨by rfl, ?_⟩) (by assumption) ?_
      rotate_left
      · intro w hSw
        try dsimp only at hSw
        go_simp
        try with_reducible rfl
      try simp only [Act.put, List.setIfInBounds_toArray, List.set_cons_zero, List.set_cons_succ]
      refine wpAnyH_take (i := 6) (oi := { dst := some 43, op := Op.indexAddr 22 (Operand.tmp 42) (Operand.const (Value.int IntKind.i64 1)), type := 0, pos := "ledger.go:86", after := #[{ on := 5, ground := Ground.data }, { on := 4, ground := Ground.guard }], guard := some (4, false) }) (v := ?_) rfl (by kernel_rfl) (by kernel_rfl) (by kernel_rfl) (fun _ _ _ h => h) (Or.inl ⟨by rfl, ?_⟩) (by assumption) ?_
      rotate_left
      · intro w hSw
        try dsimp only at hSw
        go_simp
        try with_reducible rfl
      try simp only [Act.put, List.setIfInBounds_toArray, List.set_cons_zero, List.set_cons_succ]
      refine wpAnyH_take (i := 7) (oi := { dst := some 44, op := Op.load 5 (Operand.tmp 43), type := 5, pos := "ledger.go:86", after := #[{ on := 6, ground := Ground.data }, { on := 4, ground := Ground.guard }], guard := some (4, false) }) (v := ?_) rfl (by kernel_rfl) (by kernel_rfl) (by kernel_rfl) (fun _ _ _ h => h) (Or.inl ⟨by rfl, ?_⟩) (by assumption) ?_
      rotate_left
      · intro w hSw
        try dsimp only at hSw
        go_simp
        try with_reducible rfl
      try simp only [Act.put, List.setIfInBounds_toArray, List.set_cons_zero, List.set_cons_succ]
      refine wpAnyH_take (i := 8) (oi := { dst := some 45, op := Op.binOp BinOp.neq 5 (Operand.tmp 44) (Operand.const (Value.int IntKind.u8 76)) 5, type := 4, pos := "ledger.go:86", after := #[{ on := 7, ground := Ground.data }, { on := 4, ground := Ground.guard }], guard := some (4, false) }) (v := ?_) rfl (by kernel_rfl) (by kernel_rfl) (by kernel_rfl) (fun _ _ _ h => h) (Or.inl ⟨by rfl, ?_⟩) (by assumption) ?_
      rotate_left
      · intro w hSw
        try dsimp only at hSw
        go_simp
        try with_reducible rfl
      try simp only [Act.put, List.setIfInBounds_toArray, List.set_cons_zero, List.set_cons_succ]
      refine wpAnyH_take (i := 9) (oi := { dst := some 46, op := Op.pick (Operand.tmp 41) (Operand.const (Value.bool true)) (Operand.tmp 45), type := 4, pos := "ledger.go:86", after := #[{ on := 4, ground := Ground.data }, { on := 8, ground := Ground.data }], guard := none }) (v := ?_) rfl (by kernel_rfl) (by kernel_rfl) (by kernel_rfl) (fun _ _ _ h => h) (Or.inl ⟨by rfl, ?_⟩) (by assumption) ?_
      rotate_left
      · intro w hSw
        try dsimp only at hSw
        go_simp
        try with_reducible rfl
      try simp only [Act.put, List.setIfInBounds_toArray, List.set_cons_zero, List.set_cons_succ]
      refine wpAnyH_take (i := 10) (oi := { dst := some 47, op := Op.move (Operand.tmp 46), type := 4, pos := "ledger.go:86", after := #[{ on := 9, ground := Ground.data }, { on := 4, ground := Ground.chain }], guard := none }) (v := ?_) rfl (by kernel_rfl) (by kernel_rfl) (by kernel_rfl) (fun _ _ _ h => h) (Or.inl ⟨by rfl, ?_⟩) (by assumption) ?_
      rotate_left
      · intro w hSw
        try dsimp only at hSw
        go_simp
        try with_reducible rfl
      try simp only [Act.put, List.setIfInBounds_toArray, List.set_cons_zero, List.set_cons_succ]
      refine wpAnyH_take (i := 11) (oi := { dst := some 48, op := Op.move (Operand.tmp 7), type := 22, pos := "ledger.go:86", after := #[{ on := 10, ground := Ground.guard }], guard := some (10, false) }) (v := ?_) rfl (by kernel_rfl) (by kernel_rfl) (by kernel_rfl) (fun _ _ _ h => h) (Or.inl ⟨by rfl, ?_⟩) (by assumption) ?_
      rotate_left
      · intro w hSw
        try dsimp only at hSw
        go_simp
        try with_reducible rfl
      try simp only [Act.put, List.setIfInBounds_toArray, List.set_cons_zero, List.set_cons_succ]
      refine wpAnyH_take (i := 12) (oi := { dst := some 49, op := Op.indexAddr 22 (Operand.tmp 48) (Operand.const (Value.int IntKind.i64 3)), type := 0, pos := "ledger.go:86", after := #[{ on := 11, ground := Ground.data }, { on := 10, ground := Ground.guard }], guard := some (10, false) }) (v := ?_) rfl (by kernel_rfl) (by kernel_rfl) (by kernel_rfl) (fun _ _ _ h => h) (Or.inl ⟨by rfl, ?_⟩) (by assumption) ?_
      rotate_left
      · intro w hSw
        try dsimp only at hSw
        go_simp
        try with_reducible rfl
      try simp only [Act.put, List.setIfInBounds_toArray, List.set_cons_zero, List.set_cons_succ]
      refine wpAnyH_take (i := 13) (oi := { dst := some 50, op := Op.load 5 (Operand.tmp 49), type := 5, pos := "ledger.go:86", after := #[{ on := 12, ground := Ground.data }, { on := 10, ground := Ground.guard }], guard := some (10, false) }) (v := ?_) rfl (by kernel_rfl) (by kernel_rfl) (by kernel_rfl) (fun _ _ _ h => h) (Or.inl ⟨by rfl, ?_⟩) (by assumption) ?_
      rotate_left
      · intro w hSw
        try dsimp only at hSw
        go_simp
        try with_reducible rfl
      try simp only [Act.put, List.setIfInBounds_toArray, List.set_cons_zero, List.set_cons_succ]
      refine wpAnyH_take (i := 14) (oi := { dst := some 51, op := Op.binOp BinOp.neq 5 (Operand.tmp 50) (Operand.const (Value.int IntKind.u8 0)) 5, type := 4, pos := "ledger.go:86", after := #[{ on := 13, ground := Ground.data }, { on := 10, ground := Ground.guard }], guard := some (10, false) }) (v := ?_) rfl (by kernel_rfl) (by kernel_rfl) (by kernel_rfl) (fun _ _ _ h => h) (Or.inl ⟨by rfl, ?_⟩) (by assumption) ?_
      rotate_left
      · intro w hSw
        try dsimp only at hSw
        go_simp
        try with_reducible rfl
      try simp only [Act.put, List.setIfInBounds_toArray, List.set_cons_zero, List.set_cons_succ]
      refine wpAnyH_take (i := 15) (oi := { dst := some 52, op := Op.pick (Operand.tmp 47) (Operand.const (Value.bool true)) (Operand.tmp 51), type := 4, pos := "ledger.go:86", after := #[{ on := 10, ground := Ground.data }, { on := 14, ground := Ground.data }], guard := none }) (v := ?_) rfl (by kernel_rfl) (by kernel_rfl) (by kernel_rfl) (fun _ _ _ h => h) (Or.inl ⟨by rfl, ?_⟩) (by assumption) ?_
      rotate_left
      · intro w hSw
        try dsimp only at hSw
        go_simp
        try with_reducible rfl
      try simp only [Act.put, List.setIfInBounds_toArray, List.set_cons_zero, List.set_cons_succ]
      refine wpAnyH_take (i := 16) (oi := { dst := some 53, op := Op.move (Operand.tmp 52), type := 4, pos := "ledger.go:86", after := #[{ on := 15, ground := Ground.data }, { on := 10, ground := Ground.chain }], guard := none }) (v := ?_) rfl (by kernel_rfl) (by kernel_rfl) (by kernel_rfl) (fun _ _ _ h => h) (Or.inl ⟨by rfl, ?_⟩) (by assumption) ?_
      rotate_left
      · intro w hSw
        try dsimp only at hSw
        go_simp
        try with_reducible rfl
      try simp only [Act.put, List.setIfInBounds_toArray, List.set_cons_zero, List.set_cons_succ]
      refine wpAnyH_take (i := 17) (oi := { dst := some 54, op := Op.move (Operand.tmp 7), type := 22, pos := "ledger.go:86", after := #[{ on := 16, ground := Ground.guard }], guard := some (16, false) }) (v := ?_) rfl (by kernel_rfl) (by kernel_rfl) (by kernel_rfl) (fun _ _ _ h => h) (Or.inl ⟨by rfl, ?_⟩) (by assumption) ?_
      rotate_left
      · intro w hSw
        try dsimp only at hSw
        go_simp
        try with_reducible rfl
      try simp only [Act.put, List.setIfInBounds_toArray, List.set_cons_zero, List.set_cons_succ]
      refine wpAnyH_take (i := 18) (oi := { dst := some 55, op := Op.slice 22 (Operand.tmp 54) (some (Operand.const (Value.int IntKind.i64 12))) none none, type := 22, pos := "ledger.go:86", after := #[{ on := 17, ground := Ground.data }, { on := 16, ground := Ground.guard }], guard := some (16, false) }) (v := ?_) rfl (by kernel_rfl) (by kernel_rfl) (by kernel_rfl) (fun _ _ _ h => h) (Or.inl ⟨by rfl, ?_⟩) (by assumption) ?_
      rotate_left
      · intro w hSw
        try dsimp only at hSw
        go_simp
        try with_reducible rfl
      try simp only [Act.put, List.setIfInBounds_toArray, List.set_cons_zero, List.set_cons_succ]
      refine wpAnyH_take (i := 20) (oi := { dst := some 57, op := Op.move (Operand.tmp 7), type := 22, pos := "ledger.go:86", after := #[{ on := 16, ground := Ground.guard }], guard := some (16, false) }) (v := ?_) rfl (by kernel_rfl) (by kernel_rfl) (by kernel_rfl) (fun _ _ _ h => h) (Or.inl ⟨by rfl, ?_⟩) (by assumption) ?_
      rotate_left
      · intro w hSw
        try dsimp only at hSw
        go_simp
        try with_reducible rfl
      try simp only [Act.put, List.setIfInBounds_toArray, List.set_cons_zero, List.set_cons_succ]
      refine wpAnyH_take (i := 21) (oi := { dst := some 58, op := Op.slice 22 (Operand.tmp 57) none (some (Operand.const (Value.int IntKind.i64 12))) none, type := 22, pos := "ledger.go:86", after := #[{ on := 20, ground := Ground.data }, { on := 16, ground := Ground.guard }], guard := some (16, false) }) (v := ?_) rfl (by kernel_rfl) (by kernel_rfl) (by kernel_rfl) (fun _ _ _ h => h) (Or.inl ⟨by rfl, ?_⟩) (by assumption) ?_
      rotate_left
      · intro w hSw
        try dsimp only at hSw
        go_simp
        try with_reducible rfl
      try simp only [Act.put, List.setIfInBounds_toArray, List.set_cons_zero, List.set_cons_succ]
      refine wpAnyH_ready (rs := [19]) (by kernel_rfl) (by simp) ?_
      refine AllReadyH.cons (o := { dst := some 56, op := Op.call { callee := Callee.value (Operand.func 21), args := #[Operand.tmp 55], argTypes := #[22] }, type := 3, pos := "ledger.go:86", after := #[{ on := 18, ground := Ground.data }, { on := 16, ground := Ground.chain }, { on := 16, ground := Ground.guard }], guard := some (16, false) }) rfl (fun K hK => ?_) AllReadyH.nil
      go_simp
      go_at_call 21
      refine (HN12.out _ hHeld.1).mono ?_
      rintro e w' ⟨rfl, rfl⟩
      refine hK.out _ _ hHeld (fun hHeld2 => ?_)
      clear hK hHeld
      have hHeld := hHeld2
      clear hHeld2
      try simp only [Act.put, List.setIfInBounds_toArray, List.set_cons_zero, List.set_cons_succ]
      refine wpAnyH_ready (rs := [22]) (by kernel_rfl) (by simp) ?_
      refine AllReadyH.cons (o := { dst := some 59, op := Op.call { callee := Callee.value (Operand.func 20), args := #[Operand.tmp 58], argTypes := #[22] }, type := 3, pos := "ledger.go:86", after := #[{ on := 21, ground := Ground.data }, { on := 19, ground := Ground.chain }, { on := 16, ground := Ground.guard }], guard := some (16, false) }) rfl (fun K hK => ?_) AllReadyH.nil
      go_simp
      go_at_call 20
      refine (HS12.out _ hHeld.1).mono ?_
      rintro e w9 ⟨rfl, hb9⟩
      have hK2 := HRS.out _ (bnx hHeld.1 hb9)
      refine hK.out _ _ hK2 (fun hHeld2 => ?_)
      clear hK hHeld hK2
      have hHeld := hHeld2
      clear hHeld2
      try simp only [Act.put, List.setIfInBounds_toArray, List.set_cons_zero, List.set_cons_succ]
      have hlast := HL.out
      rcases hlast with ⟨c4⟩ | ⟨c4, c5⟩ | ⟨c4, c5, c6⟩ | ⟨c4, c5, c6⟩
      · have HSP := Lib.hid (decide_eq_true (HSP4.out (.inl c4)))
        have t4 : ((n4 d 12 : Int) != (crc (d.take 12) : Int)) = true := by rw [bne_iff_ne]; omega
        clear c4
        refine wpAnyH_take (i := 23) (oi := { dst := some 60, op := Op.binOp BinOp.neq 3 (Operand.tmp 56) (Operand.tmp 59) 3, type := 4, pos := "ledger.go:86", after := #[{ on := 19, ground := Ground.data }, { on := 22, ground := Ground.data }, { on := 16, ground := Ground.guard }], guard := some (16, false) }) (v := ?_) rfl (by kernel_rfl) (by kernel_rfl) (by kernel_rfl) (fun _ _ _ h => h) (Or.inl ⟨by rfl, ?_⟩) (by assumption) ?_
        rotate_left
        · intro w hSw
          try dsimp only at hSw
          go_simp
          try with_reducible rfl
        try simp only [Act.put, List.setIfInBounds_toArray, List.set_cons_zero, List.set_cons_succ]
        refine wpAnyH_take (i := 24) (oi := { dst := some 61, op := Op.pick (Operand.tmp 53) (Operand.const (Value.bool true)) (Operand.tmp 60), type := 4, pos := "ledger.go:86", after := #[{ on := 16, ground := Ground.data }, { on := 23, ground := Ground.data }], guard := none }) (v := ?_) rfl (by kernel_rfl) (by kernel_rfl) (by kernel_rfl) (fun _ _ _ h => h) (Or.inl ⟨by rfl, ?_⟩) (by assumption) ?_
        rotate_left
        · intro w hSw
          try dsimp only at hSw
          go_simp
          try with_reducible rfl
        try simp only [Act.put, List.setIfInBounds_toArray, List.set_cons_zero, List.set_cons_succ]
        refine wpAnyH_take (i := 25) (oi := { dst := some 62, op := Op.move (Operand.tmp 61), type := 4, pos := "ledger.go:86", after := #[{ on := 24, ground := Ground.data }, { on := 22, ground := Ground.chain }], guard := none }) (v := ?_) rfl (by kernel_rfl) (by kernel_rfl) (by kernel_rfl) (fun _ _ _ h => h) (Or.inl ⟨by rfl, ?_⟩) (by assumption) ?_
        rotate_left
        · intro w hSw
          try dsimp only at hSw
          go_simp
          try with_reducible rfl
        try simp only [Act.put, List.setIfInBounds_toArray, List.set_cons_zero, List.set_cons_succ]
        refine wpAnyH_take (i := 26) (oi := { dst := some 63, op := Op.fieldAddr 40 (Operand.tmp 8) 1, type := 0, pos := "ledger.go:86", after := #[{ on := 25, ground := Ground.guard }], guard := some (25, false) }) (v := undef) rfl (by kernel_rfl) (by kernel_rfl) (by kernel_rfl) (fun _ _ _ h => h) (Or.inr ⟨by rfl, rfl⟩) (by assumption) ?_
        try simp only [Act.put, List.setIfInBounds_toArray, List.set_cons_zero, List.set_cons_succ]
        refine wpAnyH_take (i := 27) (oi := { dst := some 64, op := Op.load 3 (Operand.tmp 63), type := 3, pos := "ledger.go:86", after := #[{ on := 26, ground := Ground.data }, { on := 25, ground := Ground.guard }], guard := some (25, false) }) (v := undef) rfl (by kernel_rfl) (by kernel_rfl) (by kernel_rfl) (fun _ _ _ h => h) (Or.inr ⟨by rfl, rfl⟩) (by assumption) ?_
        try simp only [Act.put, List.setIfInBounds_toArray, List.set_cons_zero, List.set_cons_succ]
        refine wpAnyH_take (i := 28) (oi := { dst := some 65, op := Op.fieldAddr 40 (Operand.tmp 8) 0, type := 0, pos := "ledger.go:86", after := #[{ on := 25, ground := Ground.guard }], guard := some (25, false) }) (v := undef) rfl (by kernel_rfl) (by kernel_rfl) (by kernel_rfl) (fun _ _ _ h => h) (Or.inr ⟨by rfl, rfl⟩) (by assumption) ?_
        try simp only [Act.put, List.setIfInBounds_toArray, List.set_cons_zero, List.set_cons_succ]
        refine wpAnyH_take (i := 29) (oi := { dst := some 66, op := Op.load 3 (Operand.tmp 65), type := 3, pos := "ledger.go:86", after := #[{ on := 28, ground := Ground.data }, { on := 25, ground := Ground.guard }], guard := some (25, false) }) (v := undef) rfl (by kernel_rfl) (by kernel_rfl) (by kernel_rfl) (fun _ _ _ h => h) (Or.inr ⟨by rfl, rfl⟩) (by assumption) ?_
        try simp only [Act.put, List.setIfInBounds_toArray, List.set_cons_zero, List.set_cons_succ]
        refine wpAnyH_take (i := 30) (oi := { dst := some 67, op := Op.call { callee := Callee.value (Operand.func 18), args := #[Operand.tmp 64, Operand.tmp 66], argTypes := #[3, 3] }, type := 4, pos := "ledger.go:86", after := #[{ on := 27, ground := Ground.data }, { on := 29, ground := Ground.data }, { on := 25, ground := Ground.chain }, { on := 25, ground := Ground.guard }], guard := some (25, false) }) (v := undef) rfl (by kernel_rfl) (by kernel_rfl) (by kernel_rfl) (fun _ _ _ h => h) (Or.inr ⟨by rfl, rfl⟩) (by assumption) ?_
        try simp only [Act.put, List.setIfInBounds_toArray, List.set_cons_zero, List.set_cons_succ]
        refine wpAnyH_take (i := 31) (oi := { dst := some 68, op := Op.unOp UnOp.not 4 (Operand.tmp 67), type := 4, pos := "ledger.go:86", after := #[{ on := 30, ground := Ground.data }, { on := 25, ground := Ground.guard }], guard := some (25, false) }) (v := undef) rfl (by kernel_rfl) (by kernel_rfl) (by kernel_rfl) (fun _ _ _ h => h) (Or.inr ⟨by rfl, rfl⟩) (by assumption) ?_
        try simp only [Act.put, List.setIfInBounds_toArray, List.set_cons_zero, List.set_cons_succ]
        refine wpAnyH_take (i := 32) (oi := { dst := some 69, op := Op.pick (Operand.tmp 62) (Operand.const (Value.bool true)) (Operand.tmp 68), type := 4, pos := "ledger.go:86", after := #[{ on := 25, ground := Ground.data }, { on := 31, ground := Ground.data }], guard := none }) (v := ?_) rfl (by kernel_rfl) (by kernel_rfl) (by kernel_rfl) (fun _ _ _ h => h) (Or.inl ⟨by rfl, ?_⟩) (by assumption) ?_
        rotate_left
        · intro w hSw
          try dsimp only at hSw
          go_simp
          try with_reducible rfl
        try simp only [Act.put, List.setIfInBounds_toArray, List.set_cons_zero, List.set_cons_succ]
        refine wpAnyH_take (i := 33) (oi := { dst := some 70, op := Op.move (Operand.tmp 69), type := 4, pos := "ledger.go:86", after := #[{ on := 32, ground := Ground.data }, { on := 30, ground := Ground.chain }], guard := none }) (v := ?_) rfl (by kernel_rfl) (by kernel_rfl) (by kernel_rfl) (fun _ _ _ h => h) (Or.inl ⟨by rfl, ?_⟩) (by assumption) ?_
        rotate_left
        · intro w hSw
          try dsimp only at hSw
          go_simp
          try with_reducible rfl
        try simp only [Act.put, List.setIfInBounds_toArray, List.set_cons_zero, List.set_cons_succ]
        refine wpAnyH_take (i := 34) (oi := { dst := some 71, op := Op.move (Operand.tmp 9), type := 3, pos := "ledger.go:86", after := #[{ on := 33, ground := Ground.guard }], guard := some (33, false) }) (v := undef) rfl (by kernel_rfl) (by kernel_rfl) (by kernel_rfl) (fun _ _ _ h => h) (Or.inr ⟨by rfl, rfl⟩) (by assumption) ?_
        try simp only [Act.put, List.setIfInBounds_toArray, List.set_cons_zero, List.set_cons_succ]
        refine wpAnyH_take (i := 35) (oi := { dst := some 72, op := Op.binOp BinOp.gtr 3 (Operand.tmp 71) (Operand.const (Value.int IntKind.i64 16384)) 3, type := 4, pos := "ledger.go:86", after := #[{ on := 34, ground := Ground.data }, { on := 33, ground := Ground.guard }], guard := some (33, false) }) (v := undef) rfl (by kernel_rfl) (by kernel_rfl) (by kernel_rfl) (fun _ _ _ h => h) (Or.inr ⟨by rfl, rfl⟩) (by assumption) ?_
        try simp only [Act.put, List.setIfInBounds_toArray, List.set_cons_zero, List.set_cons_succ]
        refine wpAnyH_take (i := 36) (oi := { dst := some 73, op := Op.pick (Operand.tmp 70) (Operand.const (Value.bool true)) (Operand.tmp 72), type := 4, pos := "ledger.go:86", after := #[{ on := 33, ground := Ground.data }, { on := 35, ground := Ground.data }], guard := none }) (v := ?_) rfl (by kernel_rfl) (by kernel_rfl) (by kernel_rfl) (fun _ _ _ h => h) (Or.inl ⟨by rfl, ?_⟩) (by assumption) ?_
        rotate_left
        · intro w hSw
          try dsimp only at hSw
          go_simp
          try with_reducible rfl
        try simp only [Act.put, List.setIfInBounds_toArray, List.set_cons_zero, List.set_cons_succ]
        refine wpAnyH_done (by kernel_rfl) ?_ _
        refine NoPanic.normal ?_
        go_wp2_with fail
        go_meet
        exact ⟨by rw [HSP.out], hHeld.1⟩
      · have HSP := Lib.hid (decide_eq_true (HSP4.out (.inr (.inl c5))))
        have t4 : ((n4 d 12 : Int) != (crc (d.take 12) : Int)) = false := by rw [c4]; simp
        have HF := Lib.hid c5
        clear c4 c5
        refine wpAnyH_take (i := 23) (oi := { dst := some 60, op := Op.binOp BinOp.neq 3 (Operand.tmp 56) (Operand.tmp 59) 3, type := 4, pos := "ledger.go:86", after := #[{ on := 19, ground := Ground.data }, { on := 22, ground := Ground.data }, { on := 16, ground := Ground.guard }], guard := some (16, false) }) (v := ?_) rfl (by kernel_rfl) (by kernel_rfl) (by kernel_rfl) (fun _ _ _ h => h) (Or.inl ⟨by rfl, ?_⟩) (by assumption) ?_
        rotate_left
        · intro w hSw
          try dsimp only at hSw
          go_simp
          try with_reducible rfl
        try simp only [Act.put, List.setIfInBounds_toArray, List.set_cons_zero, List.set_cons_succ]
        refine wpAnyH_take (i := 24) (oi := { dst := some 61, op := Op.pick (Operand.tmp 53) (Operand.const (Value.bool true)) (Operand.tmp 60), type := 4, pos := "ledger.go:86", after := #[{ on := 16, ground := Ground.data }, { on := 23, ground := Ground.data }], guard := none }) (v := ?_) rfl (by kernel_rfl) (by kernel_rfl) (by kernel_rfl) (fun _ _ _ h => h) (Or.inl ⟨by rfl, ?_⟩) (by assumption) ?_
        rotate_left
        · intro w hSw
          try dsimp only at hSw
          go_simp
          try with_reducible rfl
        try simp only [Act.put, List.setIfInBounds_toArray, List.set_cons_zero, List.set_cons_succ]
        refine wpAnyH_take (i := 25) (oi := { dst := some 62, op := Op.move (Operand.tmp 61), type := 4, pos := "ledger.go:86", after := #[{ on := 24, ground := Ground.data }, { on := 22, ground := Ground.chain }], guard := none }) (v := ?_) rfl (by kernel_rfl) (by kernel_rfl) (by kernel_rfl) (fun _ _ _ h => h) (Or.inl ⟨by rfl, ?_⟩) (by assumption) ?_
        rotate_left
        · intro w hSw
          try dsimp only at hSw
          go_simp
          try with_reducible rfl
        try simp only [Act.put, List.setIfInBounds_toArray, List.set_cons_zero, List.set_cons_succ]
        refine wpAnyH_take (i := 26) (oi := { dst := some 63, op := Op.fieldAddr 40 (Operand.tmp 8) 1, type := 0, pos := "ledger.go:86", after := #[{ on := 25, ground := Ground.guard }], guard := some (25, false) }) (v := ?_) rfl (by kernel_rfl) (by kernel_rfl) (by kernel_rfl) (fun _ _ _ h => h) (Or.inl ⟨by rfl, ?_⟩) (by assumption) ?_
        rotate_left
        · intro w hSw
          try dsimp only at hSw
          go_simp
          try with_reducible rfl
        try simp only [Act.put, List.setIfInBounds_toArray, List.set_cons_zero, List.set_cons_succ]
        refine wpAnyH_take (i := 27) (oi := { dst := some 64, op := Op.load 3 (Operand.tmp 63), type := 3, pos := "ledger.go:86", after := #[{ on := 26, ground := Ground.data }, { on := 25, ground := Ground.guard }], guard := some (25, false) }) (v := ?_) rfl (by kernel_rfl) (by kernel_rfl) (by kernel_rfl) (fun _ _ _ h => h) (Or.inl ⟨by rfl, ?_⟩) (by assumption) ?_
        rotate_left
        · intro w hSw
          try dsimp only at hSw
          go_simp
          try with_reducible rfl
        try simp only [Act.put, List.setIfInBounds_toArray, List.set_cons_zero, List.set_cons_succ]
        refine wpAnyH_take (i := 28) (oi := { dst := some 65, op := Op.fieldAddr 40 (Operand.tmp 8) 0, type := 0, pos := "ledger.go:86", after := #[{ on := 25, ground := Ground.guard }], guard := some (25, false) }) (v := ?_) rfl (by kernel_rfl) (by kernel_rfl) (by kernel_rfl) (fun _ _ _ h => h) (Or.inl ⟨by rfl, ?_⟩) (by assumption) ?_
        rotate_left
        · intro w hSw
          try dsimp only at hSw
          go_simp
          try with_reducible rfl
        try simp only [Act.put, List.setIfInBounds_toArray, List.set_cons_zero, List.set_cons_succ]
        refine wpAnyH_take (i := 29) (oi := { dst := some 66, op := Op.load 3 (Operand.tmp 65), type := 3, pos := "ledger.go:86", after := #[{ on := 28, ground := Ground.data }, { on := 25, ground := Ground.guard }], guard := some (25, false) }) (v := ?_) rfl (by kernel_rfl) (by kernel_rfl) (by kernel_rfl) (fun _ _ _ h => h) (Or.inl ⟨by rfl, ?_⟩) (by assumption) ?_
        rotate_left
        · intro w hSw
          try dsimp only at hSw
          go_simp
          try with_reducible rfl
        try simp only [Act.put, List.setIfInBounds_toArray, List.set_cons_zero, List.set_cons_succ]
        refine wpAnyH_ready (rs := [30]) (by kernel_rfl) (by simp) ?_
        refine AllReadyH.cons (o := { dst := some 67, op := Op.call { callee := Callee.value (Operand.func 18), args := #[Operand.tmp 64, Operand.tmp 66], argTypes := #[3, 3] }, type := 4, pos := "ledger.go:86", after := #[{ on := 27, ground := Ground.data }, { on := 29, ground := Ground.data }, { on := 25, ground := Ground.chain }, { on := 25, ground := Ground.guard }], guard := some (25, false) }) rfl (fun K hK => ?_) ?_
        · go_simp
          go_at_call 18
          refine (fits_no _ _ HF.out _).mono ?_
          rintro e w' ⟨rfl, rfl⟩
          refine hK.out _ _ hHeld (fun hHeld2 => ?_)
          clear hK hHeld
          have hHeld := hHeld2
          clear hHeld2
          try simp only [Act.put, List.setIfInBounds_toArray, List.set_cons_zero, List.set_cons_succ]
          refine wpAnyH_take (i := 31) (oi := { dst := some 68, op := Op.unOp UnOp.not 4 (Operand.tmp 67), type := 4, pos := "ledger.go:86", after := #[{ on := 30, ground := Ground.data }, { on := 25, ground := Ground.guard }], guard := some (25, false) }) (v := ?_) rfl (by kernel_rfl) (by kernel_rfl) (by kernel_rfl) (fun _ _ _ h => h) (Or.inl ⟨by rfl, ?_⟩) (by assumption) ?_
          rotate_left
          · intro w hSw
            try dsimp only at hSw
            go_simp
            try with_reducible rfl
          try simp only [Act.put, List.setIfInBounds_toArray, List.set_cons_zero, List.set_cons_succ]
          refine wpAnyH_take (i := 32) (oi := { dst := some 69, op := Op.pick (Operand.tmp 62) (Operand.const (Value.bool true)) (Operand.tmp 68), type := 4, pos := "ledger.go:86", after := #[{ on := 25, ground := Ground.data }, { on := 31, ground := Ground.data }], guard := none }) (v := ?_) rfl (by kernel_rfl) (by kernel_rfl) (by kernel_rfl) (fun _ _ _ h => h) (Or.inl ⟨by rfl, ?_⟩) (by assumption) ?_
          rotate_left
          · intro w hSw
            try dsimp only at hSw
            go_simp
            try with_reducible rfl
          try simp only [Act.put, List.setIfInBounds_toArray, List.set_cons_zero, List.set_cons_succ]
          refine wpAnyH_take (i := 33) (oi := { dst := some 70, op := Op.move (Operand.tmp 69), type := 4, pos := "ledger.go:86", after := #[{ on := 32, ground := Ground.data }, { on := 30, ground := Ground.chain }], guard := none }) (v := ?_) rfl (by kernel_rfl) (by kernel_rfl) (by kernel_rfl) (fun _ _ _ h => h) (Or.inl ⟨by rfl, ?_⟩) (by assumption) ?_
          rotate_left
          · intro w hSw
            try dsimp only at hSw
            go_simp
            try with_reducible rfl
          try simp only [Act.put, List.setIfInBounds_toArray, List.set_cons_zero, List.set_cons_succ]
          refine wpAnyH_take (i := 34) (oi := { dst := some 71, op := Op.move (Operand.tmp 9), type := 3, pos := "ledger.go:86", after := #[{ on := 33, ground := Ground.guard }], guard := some (33, false) }) (v := undef) rfl (by kernel_rfl) (by kernel_rfl) (by kernel_rfl) (fun _ _ _ h => h) (Or.inr ⟨by rfl, rfl⟩) (by assumption) ?_
          try simp only [Act.put, List.setIfInBounds_toArray, List.set_cons_zero, List.set_cons_succ]
          refine wpAnyH_take (i := 35) (oi := { dst := some 72, op := Op.binOp BinOp.gtr 3 (Operand.tmp 71) (Operand.const (Value.int IntKind.i64 16384)) 3, type := 4, pos := "ledger.go:86", after := #[{ on := 34, ground := Ground.data }, { on := 33, ground := Ground.guard }], guard := some (33, false) }) (v := undef) rfl (by kernel_rfl) (by kernel_rfl) (by kernel_rfl) (fun _ _ _ h => h) (Or.inr ⟨by rfl, rfl⟩) (by assumption) ?_
          try simp only [Act.put, List.setIfInBounds_toArray, List.set_cons_zero, List.set_cons_succ]
          refine wpAnyH_take (i := 36) (oi := { dst := some 73, op := Op.pick (Operand.tmp 70) (Operand.const (Value.bool true)) (Operand.tmp 72), type := 4, pos := "ledger.go:86", after := #[{ on := 33, ground := Ground.data }, { on := 35, ground := Ground.data }], guard := none }) (v := ?_) rfl (by kernel_rfl) (by kernel_rfl) (by kernel_rfl) (fun _ _ _ h => h) (Or.inl ⟨by rfl, ?_⟩) (by assumption) ?_
          rotate_left
          · intro w hSw
            try dsimp only at hSw
            go_simp
            try with_reducible rfl
          try simp only [Act.put, List.setIfInBounds_toArray, List.set_cons_zero, List.set_cons_succ]
          refine wpAnyH_done (by kernel_rfl) ?_ _
          refine NoPanic.normal ?_
          go_wp2_with fail
          go_meet
          exact ⟨by rw [HSP.out], hHeld.1⟩
        exact AllReadyH.nil
      · have HSP := Lib.hid (decide_eq_true (HSP4.out (.inr (.inr c6))))
        have t4 : ((n4 d 12 : Int) != (crc (d.take 12) : Int)) = false := by rw [c4]; simp
        have t6 : decide ((16384 : Int) < (n4 d 8 : Int)) = true := decide_eq_true (by omega)
        have HF := Lib.hid c5
        clear c4 c5 c6
        refine wpAnyH_take (i := 23) (oi := { dst := some 60, op := Op.binOp BinOp.neq 3 (Operand.tmp 56) (Operand.tmp 59) 3, type := 4, pos := "ledger.go:86", after := #[{ on := 19, ground := Ground.data }, { on := 22, ground := Ground.data }, { on := 16, ground := Ground.guard }], guard := some (16, false) }) (v := ?_) rfl (by kernel_rfl) (by kernel_rfl) (by kernel_rfl) (fun _ _ _ h => h) (Or.inl ⟨by rfl, ?_⟩) (by assumption) ?_
        rotate_left
        · intro w hSw
          try dsimp only at hSw
          go_simp
          try with_reducible rfl
        try simp only [Act.put, List.setIfInBounds_toArray, List.set_cons_zero, List.set_cons_succ]
        refine wpAnyH_take (i := 24) (oi := { dst := some 61, op := Op.pick (Operand.tmp 53) (Operand.const (Value.bool true)) (Operand.tmp 60), type := 4, pos := "ledger.go:86", after := #[{ on := 16, ground := Ground.data }, { on := 23, ground := Ground.data }], guard := none }) (v := ?_) rfl (by kernel_rfl) (by kernel_rfl) (by kernel_rfl) (fun _ _ _ h => h) (Or.inl ⟨by rfl, ?_⟩) (by assumption) ?_
        rotate_left
        · intro w hSw
          try dsimp only at hSw
          go_simp
          try with_reducible rfl
        try simp only [Act.put, List.setIfInBounds_toArray, List.set_cons_zero, List.set_cons_succ]
        refine wpAnyH_take (i := 25) (oi := { dst := some 62, op := Op.move (Operand.tmp 61), type := 4, pos := "ledger.go:86", after := #[{ on := 24, ground := Ground.data }, { on := 22, ground := Ground.chain }], guard := none }) (v := ?_) rfl (by kernel_rfl) (by kernel_rfl) (by kernel_rfl) (fun _ _ _ h => h) (Or.inl ⟨by rfl, ?_⟩) (by assumption) ?_
        rotate_left
        · intro w hSw
          try dsimp only at hSw
          go_simp
          try with_reducible rfl
        try simp only [Act.put, List.setIfInBounds_toArray, List.set_cons_zero, List.set_cons_succ]
        refine wpAnyH_take (i := 26) (oi := { dst := some 63, op := Op.fieldAddr 40 (Operand.tmp 8) 1, type := 0, pos := "ledger.go:86", after := #[{ on := 25, ground := Ground.guard }], guard := some (25, false) }) (v := ?_) rfl (by kernel_rfl) (by kernel_rfl) (by kernel_rfl) (fun _ _ _ h => h) (Or.inl ⟨by rfl, ?_⟩) (by assumption) ?_
        rotate_left
        · intro w hSw
          try dsimp only at hSw
          go_simp
          try with_reducible rfl
        try simp only [Act.put, List.setIfInBounds_toArray, List.set_cons_zero, List.set_cons_succ]
        refine wpAnyH_take (i := 27) (oi := { dst := some 64, op := Op.load 3 (Operand.tmp 63), type := 3, pos := "ledger.go:86", after := #[{ on := 26, ground := Ground.data }, { on := 25, ground := Ground.guard }], guard := some (25, false) }) (v := ?_) rfl (by kernel_rfl) (by kernel_rfl) (by kernel_rfl) (fun _ _ _ h => h) (Or.inl ⟨by rfl, ?_⟩) (by assumption) ?_
        rotate_left
        · intro w hSw
          try dsimp only at hSw
          go_simp
          try with_reducible rfl
        try simp only [Act.put, List.setIfInBounds_toArray, List.set_cons_zero, List.set_cons_succ]
        refine wpAnyH_take (i := 28) (oi := { dst := some 65, op := Op.fieldAddr 40 (Operand.tmp 8) 0, type := 0, pos := "ledger.go:86", after := #[{ on := 25, ground := Ground.guard }], guard := some (25, false) }) (v := ?_) rfl (by kernel_rfl) (by kernel_rfl) (by kernel_rfl) (fun _ _ _ h => h) (Or.inl ⟨by rfl, ?_⟩) (by assumption) ?_
        rotate_left
        · intro w hSw
          try dsimp only at hSw
          go_simp
          try with_reducible rfl
        try simp only [Act.put, List.setIfInBounds_toArray, List.set_cons_zero, List.set_cons_succ]
        refine wpAnyH_take (i := 29) (oi := { dst := some 66, op := Op.load 3 (Operand.tmp 65), type := 3, pos := "ledger.go:86", after := #[{ on := 28, ground := Ground.data }, { on := 25, ground := Ground.guard }], guard := some (25, false) }) (v := ?_) rfl (by kernel_rfl) (by kernel_rfl) (by kernel_rfl) (fun _ _ _ h => h) (Or.inl ⟨by rfl, ?_⟩) (by assumption) ?_
        rotate_left
        · intro w hSw
          try dsimp only at hSw
          go_simp
          try with_reducible rfl
        try simp only [Act.put, List.setIfInBounds_toArray, List.set_cons_zero, List.set_cons_succ]
        refine wpAnyH_ready (rs := [30]) (by kernel_rfl) (by simp) ?_
        refine AllReadyH.cons (o := { dst := some 67, op := Op.call { callee := Callee.value (Operand.func 18), args := #[Operand.tmp 64, Operand.tmp 66], argTypes := #[3, 3] }, type := 4, pos := "ledger.go:86", after := #[{ on := 27, ground := Ground.data }, { on := 29, ground := Ground.data }, { on := 25, ground := Ground.chain }, { on := 25, ground := Ground.guard }], guard := some (25, false) }) rfl (fun K hK => ?_) ?_
        · go_simp
          go_at_call 18
          refine (fits_yes _ _ HF.out _).mono ?_
          rintro e w' ⟨rfl, rfl⟩
          refine hK.out _ _ hHeld (fun hHeld2 => ?_)
          clear hK hHeld
          have hHeld := hHeld2
          clear hHeld2
          try simp only [Act.put, List.setIfInBounds_toArray, List.set_cons_zero, List.set_cons_succ]
          refine wpAnyH_take (i := 31) (oi := { dst := some 68, op := Op.unOp UnOp.not 4 (Operand.tmp 67), type := 4, pos := "ledger.go:86", after := #[{ on := 30, ground := Ground.data }, { on := 25, ground := Ground.guard }], guard := some (25, false) }) (v := ?_) rfl (by kernel_rfl) (by kernel_rfl) (by kernel_rfl) (fun _ _ _ h => h) (Or.inl ⟨by rfl, ?_⟩) (by assumption) ?_
          rotate_left
          · intro w hSw
            try dsimp only at hSw
            go_simp
            try with_reducible rfl
          try simp only [Act.put, List.setIfInBounds_toArray, List.set_cons_zero, List.set_cons_succ]
          refine wpAnyH_take (i := 32) (oi := { dst := some 69, op := Op.pick (Operand.tmp 62) (Operand.const (Value.bool true)) (Operand.tmp 68), type := 4, pos := "ledger.go:86", after := #[{ on := 25, ground := Ground.data }, { on := 31, ground := Ground.data }], guard := none }) (v := ?_) rfl (by kernel_rfl) (by kernel_rfl) (by kernel_rfl) (fun _ _ _ h => h) (Or.inl ⟨by rfl, ?_⟩) (by assumption) ?_
          rotate_left
          · intro w hSw
            try dsimp only at hSw
            go_simp
            try with_reducible rfl
          try simp only [Act.put, List.setIfInBounds_toArray, List.set_cons_zero, List.set_cons_succ]
          refine wpAnyH_take (i := 33) (oi := { dst := some 70, op := Op.move (Operand.tmp 69), type := 4, pos := "ledger.go:86", after := #[{ on := 32, ground := Ground.data }, { on := 30, ground := Ground.chain }], guard := none }) (v := ?_) rfl (by kernel_rfl) (by kernel_rfl) (by kernel_rfl) (fun _ _ _ h => h) (Or.inl ⟨by rfl, ?_⟩) (by assumption) ?_
          rotate_left
          · intro w hSw
            try dsimp only at hSw
            go_simp
            try with_reducible rfl
          try simp only [Act.put, List.setIfInBounds_toArray, List.set_cons_zero, List.set_cons_succ]
          refine wpAnyH_take (i := 34) (oi := { dst := some 71, op := Op.move (Operand.tmp 9), type := 3, pos := "ledger.go:86", after := #[{ on := 33, ground := Ground.guard }], guard := some (33, false) }) (v := ?_) rfl (by kernel_rfl) (by kernel_rfl) (by kernel_rfl) (fun _ _ _ h => h) (Or.inl ⟨by rfl, ?_⟩) (by assumption) ?_
          rotate_left
          · intro w hSw
            try dsimp only at hSw
            go_simp
            try with_reducible rfl
          try simp only [Act.put, List.setIfInBounds_toArray, List.set_cons_zero, List.set_cons_succ]
          refine wpAnyH_take (i := 35) (oi := { dst := some 72, op := Op.binOp BinOp.gtr 3 (Operand.tmp 71) (Operand.const (Value.int IntKind.i64 16384)) 3, type := 4, pos := "ledger.go:86", after := #[{ on := 34, ground := Ground.data }, { on := 33, ground := Ground.guard }], guard := some (33, false) }) (v := ?_) rfl (by kernel_rfl) (by kernel_rfl) (by kernel_rfl) (fun _ _ _ h => h) (Or.inl ⟨by rfl, ?_⟩) (by assumption) ?_
          rotate_left
          · intro w hSw
            try dsimp only at hSw
            go_simp
            try with_reducible rfl
          try simp only [Act.put, List.setIfInBounds_toArray, List.set_cons_zero, List.set_cons_succ]
          refine wpAnyH_take (i := 36) (oi := { dst := some 73, op := Op.pick (Operand.tmp 70) (Operand.const (Value.bool true)) (Operand.tmp 72), type := 4, pos := "ledger.go:86", after := #[{ on := 33, ground := Ground.data }, { on := 35, ground := Ground.data }], guard := none }) (v := ?_) rfl (by kernel_rfl) (by kernel_rfl) (by kernel_rfl) (fun _ _ _ h => h) (Or.inl ⟨by rfl, ?_⟩) (by assumption) ?_
          rotate_left
          · intro w hSw
            try dsimp only at hSw
            go_simp
            try with_reducible rfl
          try simp only [Act.put, List.setIfInBounds_toArray, List.set_cons_zero, List.set_cons_succ]
          refine wpAnyH_done (by kernel_rfl) ?_ _
          refine NoPanic.normal ?_
          go_wp2_with fail
          go_meet
          exact ⟨by rw [HSP.out], hHeld.1⟩
        exact AllReadyH.nil
      · have HSP := Lib.hid (decide_eq_false (HSP5.out c4 c5 c6))
        have t4 : ((n4 d 12 : Int) != (crc (d.take 12) : Int)) = false := by rw [c4]; simp
        have t6 : decide ((16384 : Int) < (n4 d 8 : Int)) = false := decide_eq_false (by omega)
        have HF := Lib.hid c5
        clear c4 c5 c6
        refine wpAnyH_take (i := 23) (oi := { dst := some 60, op := Op.binOp BinOp.neq 3 (Operand.tmp 56) (Operand.tmp 59) 3, type := 4, pos := "ledger.go:86", after := #[{ on := 19, ground := Ground.data }, { on := 22, ground := Ground.data }, { on := 16, ground := Ground.guard }], guard := some (16, false) }) (v := ?_) rfl (by kernel_rfl) (by kernel_rfl) (by kernel_rfl) (fun _ _ _ h => h) (Or.inl ⟨by rfl, ?_⟩) (by assumption) ?_
        rotate_left
        · intro w hSw
          try dsimp only at hSw
          go_simp
          try with_reducible rfl
        try simp only [Act.put, List.setIfInBounds_toArray, List.set_cons_zero, List.set_cons_succ]
        refine wpAnyH_take (i := 24) (oi := { dst := some 61, op := Op.pick (Operand.tmp 53) (Operand.const (Value.bool true)) (Operand.tmp 60), type := 4, pos := "ledger.go:86", after := #[{ on := 16, ground := Ground.data }, { on := 23, ground := Ground.data }], guard := none }) (v := ?_) rfl (by kernel_rfl) (by kernel_rfl) (by kernel_rfl) (fun _ _ _ h => h) (Or.inl ⟨by rfl, ?_⟩) (by assumption) ?_
        rotate_left
        · intro w hSw
          try dsimp only at hSw
          go_simp
          try with_reducible rfl
        try simp only [Act.put, List.setIfInBounds_toArray, List.set_cons_zero, List.set_cons_succ]
        refine wpAnyH_take (i := 25) (oi := { dst := some 62, op := Op.move (Operand.tmp 61), type := 4, pos := "ledger.go:86", after := #[{ on := 24, ground := Ground.data }, { on := 22, ground := Ground.chain }], guard := none }) (v := ?_) rfl (by kernel_rfl) (by kernel_rfl) (by kernel_rfl) (fun _ _ _ h => h) (Or.inl ⟨by rfl, ?_⟩) (by assumption) ?_
        rotate_left
        · intro w hSw
          try dsimp only at hSw
          go_simp
          try with_reducible rfl
        try simp only [Act.put, List.setIfInBounds_toArray, List.set_cons_zero, List.set_cons_succ]
        refine wpAnyH_take (i := 26) (oi := { dst := some 63, op := Op.fieldAddr 40 (Operand.tmp 8) 1, type := 0, pos := "ledger.go:86", after := #[{ on := 25, ground := Ground.guard }], guard := some (25, false) }) (v := ?_) rfl (by kernel_rfl) (by kernel_rfl) (by kernel_rfl) (fun _ _ _ h => h) (Or.inl ⟨by rfl, ?_⟩) (by assumption) ?_
        rotate_left
        · intro w hSw
          try dsimp only at hSw
          go_simp
          try with_reducible rfl
        try simp only [Act.put, List.setIfInBounds_toArray, List.set_cons_zero, List.set_cons_succ]
        refine wpAnyH_take (i := 27) (oi := { dst := some 64, op := Op.load 3 (Operand.tmp 63), type := 3, pos := "ledger.go:86", after := #[{ on := 26, ground := Ground.data }, { on := 25, ground := Ground.guard }], guard := some (25, false) }) (v := ?_) rfl (by kernel_rfl) (by kernel_rfl) (by kernel_rfl) (fun _ _ _ h => h) (Or.inl ⟨by rfl, ?_⟩) (by assumption) ?_
        rotate_left
        · intro w hSw
          try dsimp only at hSw
          go_simp
          try with_reducible rfl
        try simp only [Act.put, List.setIfInBounds_toArray, List.set_cons_zero, List.set_cons_succ]
        refine wpAnyH_take (i := 28) (oi := { dst := some 65, op := Op.fieldAddr 40 (Operand.tmp 8) 0, type := 0, pos := "ledger.go:86", after := #[{ on := 25, ground := Ground.guard }], guard := some (25, false) }) (v := ?_) rfl (by kernel_rfl) (by kernel_rfl) (by kernel_rfl) (fun _ _ _ h => h) (Or.inl ⟨by rfl, ?_⟩) (by assumption) ?_
        rotate_left
        · intro w hSw
          try dsimp only at hSw
          go_simp
          try with_reducible rfl
        try simp only [Act.put, List.setIfInBounds_toArray, List.set_cons_zero, List.set_cons_succ]
        refine wpAnyH_take (i := 29) (oi := { dst := some 66, op := Op.load 3 (Operand.tmp 65), type := 3, pos := "ledger.go:86", after := #[{ on := 28, ground := Ground.data }, { on := 25, ground := Ground.guard }], guard := some (25, false) }) (v := ?_) rfl (by kernel_rfl) (by kernel_rfl) (by kernel_rfl) (fun _ _ _ h => h) (Or.inl ⟨by rfl, ?_⟩) (by assumption) ?_
        rotate_left
        · intro w hSw
          try dsimp only at hSw
          go_simp
          try with_reducible rfl
        try simp only [Act.put, List.setIfInBounds_toArray, List.set_cons_zero, List.set_cons_succ]
        refine wpAnyH_ready (rs := [30]) (by kernel_rfl) (by simp) ?_
        refine AllReadyH.cons (o := { dst := some 67, op := Op.call { callee := Callee.value (Operand.func 18), args := #[Operand.tmp 64, Operand.tmp 66], argTypes := #[3, 3] }, type := 4, pos := "ledger.go:86", after := #[{ on := 27, ground := Ground.data }, { on := 29, ground := Ground.data }, { on := 25, ground := Ground.chain }, { on := 25, ground := Ground.guard }], guard := some (25, false) }) rfl (fun K hK => ?_) ?_
        · go_simp
          go_at_call 18
          refine (fits_yes _ _ HF.out _).mono ?_
          rintro e w' ⟨rfl, rfl⟩
          refine hK.out _ _ hHeld (fun hHeld2 => ?_)
          clear hK hHeld
          have hHeld := hHeld2
          clear hHeld2
          try simp only [Act.put, List.setIfInBounds_toArray, List.set_cons_zero, List.set_cons_succ]
          refine wpAnyH_take (i := 31) (oi := { dst := some 68, op := Op.unOp UnOp.not 4 (Operand.tmp 67), type := 4, pos := "ledger.go:86", after := #[{ on := 30, ground := Ground.data }, { on := 25, ground := Ground.guard }], guard := some (25, false) }) (v := ?_) rfl (by kernel_rfl) (by kernel_rfl) (by kernel_rfl) (fun _ _ _ h => h) (Or.inl ⟨by rfl, ?_⟩) (by assumption) ?_
          rotate_left
          · intro w hSw
            try dsimp only at hSw
            go_simp
            try with_reducible rfl
          try simp only [Act.put, List.setIfInBounds_toArray, List.set_cons_zero, List.set_cons_succ]
          refine wpAnyH_take (i := 32) (oi := { dst := some 69, op := Op.pick (Operand.tmp 62) (Operand.const (Value.bool true)) (Operand.tmp 68), type := 4, pos := "ledger.go:86", after := #[{ on := 25, ground := Ground.data }, { on := 31, ground := Ground.data }], guard := none }) (v := ?_) rfl (by kernel_rfl) (by kernel_rfl) (by kernel_rfl) (fun _ _ _ h => h) (Or.inl ⟨by rfl, ?_⟩) (by assumption) ?_
          rotate_left
          · intro w hSw
            try dsimp only at hSw
            go_simp
            try with_reducible rfl
          try simp only [Act.put, List.setIfInBounds_toArray, List.set_cons_zero, List.set_cons_succ]
          refine wpAnyH_take (i := 33) (oi := { dst := some 70, op := Op.move (Operand.tmp 69), type := 4, pos := "ledger.go:86", after := #[{ on := 32, ground := Ground.data }, { on := 30, ground := Ground.chain }], guard := none }) (v := ?_) rfl (by kernel_rfl) (by kernel_rfl) (by kernel_rfl) (fun _ _ _ h => h) (Or.inl ⟨by rfl, ?_⟩) (by assumption) ?_
          rotate_left
          · intro w hSw
            try dsimp only at hSw
            go_simp
            try with_reducible rfl
          try simp only [Act.put, List.setIfInBounds_toArray, List.set_cons_zero, List.set_cons_succ]
          refine wpAnyH_take (i := 34) (oi := { dst := some 71, op := Op.move (Operand.tmp 9), type := 3, pos := "ledger.go:86", after := #[{ on := 33, ground := Ground.guard }], guard := some (33, false) }) (v := ?_) rfl (by kernel_rfl) (by kernel_rfl) (by kernel_rfl) (fun _ _ _ h => h) (Or.inl ⟨by rfl, ?_⟩) (by assumption) ?_
          rotate_left
          · intro w hSw
            try dsimp only at hSw
            go_simp
            try with_reducible rfl
          try simp only [Act.put, List.setIfInBounds_toArray, List.set_cons_zero, List.set_cons_succ]
          refine wpAnyH_take (i := 35) (oi := { dst := some 72, op := Op.binOp BinOp.gtr 3 (Operand.tmp 71) (Operand.const (Value.int IntKind.i64 16384)) 3, type := 4, pos := "ledger.go:86", after := #[{ on := 34, ground := Ground.data }, { on := 33, ground := Ground.guard }], guard := some (33, false) }) (v := ?_) rfl (by kernel_rfl) (by kernel_rfl) (by kernel_rfl) (fun _ _ _ h => h) (Or.inl ⟨by rfl, ?_⟩) (by assumption) ?_
          rotate_left
          · intro w hSw
            try dsimp only at hSw
            go_simp
            try with_reducible rfl
          try simp only [Act.put, List.setIfInBounds_toArray, List.set_cons_zero, List.set_cons_succ]
          refine wpAnyH_take (i := 36) (oi := { dst := some 73, op := Op.pick (Operand.tmp 70) (Operand.const (Value.bool true)) (Operand.tmp 72), type := 4, pos := "ledger.go:86", after := #[{ on := 33, ground := Ground.data }, { on := 35, ground := Ground.data }], guard := none }) (v := ?_) rfl (by kernel_rfl) (by kernel_rfl) (by kernel_rfl) (fun _ _ _ h => h) (Or.inl ⟨by rfl, ?_⟩) (by assumption) ?_
          rotate_left
          · intro w hSw
            try dsimp only at hSw
            go_simp
            try with_reducible rfl
          try simp only [Act.put, List.setIfInBounds_toArray, List.set_cons_zero, List.set_cons_succ]
          refine wpAnyH_done (by kernel_rfl) ?_ _
          refine NoPanic.normal ?_
          go_wp2_with fail
          go_meet
          exact ⟨by rw [HSP.out], hHeld.1⟩
        exact AllReadyH.nil
    case rest =>
      obtain ⟨rfl, hbx⟩ := hcut
      clear q0 q1 q3 r8 z0 z1 z3 z12 z12' z12c z12n z0n z1n z3n z12d HN12 HS12 HN8
      have hSx := hSV.below hbx
      have hRx := hR.below hbx hR.lt
      have hZx := hZV.below hbx hZV.lt
      have hbwx := bnx hbwV hbx
      clear hSV hR hZV hbwV hbx
      have hcZ := hZx.cell
      have hfZ := hZx.frozen
      unfold rz at hcZ
      have hkl : k ≤ l.length := by omega
      by_cases hsp : spoilt d
      · have HV := Lib.hid (readV_err (E := 192) hkl (by rw [HDD.out]; exact rdE_spoilt hlen hsp) (by decide))
        rw [decide_eq_true hsp]
        clear hsp
        go_wp2
        refine bodyPost_ret (v := .tuple #[.agg #[.int .i64 0, .int .i64 0, .string ⟨#[]⟩], .int .i64 0, .int .i64 192]) (by simp [results, Tryd.results12, go_sem, hcZ]) rfl ⟨by rw [HV.out]; rfl, ?_⟩
        refine Below.trans hbwx ?_
        go_grown
      · have hn16 := (not_spoilt d hsp).2.2.2.2.2
        rw [decide_eq_false hsp]
        by_cases ht : d.length < n4 d 8 + 20
        · have HV := Lib.hid (readV_err (E := 191) hkl (by rw [HDD.out]; exact rdE_torn hlen hsp ht) (by decide))
          clear hsp
          go_wp2
          refine bodyPost_ret (v := .tuple #[.agg #[.int .i64 0, .int .i64 0, .string ⟨#[]⟩], .int .i64 0, .int .i64 191]) (by simp [results, Tryd.results12, go_sem, hcZ]) rfl ⟨by rw [HV.out]; rfl, ?_⟩
          refine Below.trans hbwx ?_
          go_grown
        · have HNS := Lib.hid hsp
          have hle : n4 d 8 + 20 ≤ d.length := by omega
          clear hsp ht
          go_upto_region 12 with fail
          have x1 : IntKind.i64.wrap (16 + (n4 d 8 : Int)) = 16 + (n4 d 8 : Int) := IntWalk.i64_in _ (by omega)
          have x2 : 0 ≤ 16 + (n4 d 8 : Int) := by omega
          have x3 : (16 + (n4 d 8 : Int)).toNat = 16 + n4 d 8 := by omega
          have x4 : 16 + (n4 d 8 : Int) ≤ (d.length : Int) := by omega
          have x4n : 16 + n4 d 8 ≤ d.length := by omega
          have x5 : ¬ c = 16 + n4 d 8 := by omega
          have x6 : 16 + (n4 d 8 : Int) ≤ (c : Int) := by omega
          have x6n : 16 + n4 d 8 ≤ c := by omega
          have HN := Lib.hid (fun (w' : World) (h : Below wc.heap.size wc w') => show Calls Tryd.prog 21 #[_] w' (fun e w'_1 => e = .returned (.int .i64 (n4 d (16 + n4 d 8) : Int)) ∧ w' = w'_1) from number_any (d.drop (16 + n4 d 8)) _ w' (sees_drop (hSx.below h) (k := 16 + n4 d 8) (by omega)) (by simp; omega))
          have HS := Lib.hid (fun (w' : World) (h : Below wc.heap.size wc w') => sum_any (d.take (16 + n4 d 8)) _ w' (sees_take (hSx.below h) (k := 16 + n4 d 8) (by omega)))
          go_region_held3 (fun w' => Below wc.heap.size wc w')
            (with_reducible (first | assumption | exact (Below.refl _ _).drew | exact hK2))
            (first | (go_at_call 21; refine (HN.out _ (by assumption)).mono ?_; rintro e w' ⟨rfl, rfl⟩) | (go_at_call 20; refine (HS.out _ (by assumption)).mono ?_; rintro e w9 ⟨rfl, hb9⟩; have hK2 := bnx (by assumption) hb9))
          have hSy := hSx.below hK2
          have hRy := hRx.below hK2 hRx.lt
          have hZy := hZx.below hK2 hZx.lt
          have hbwy := bnx hbwx hK2
          clear x1 x2 x3 x5 x6 HN HS hSx hRx hZx hbwx hcZ hfZ
          have hcZ := hZy.cell
          have hfZ := hZy.frozen
          unfold rz at hcZ
          by_cases hcc : n4 d (16 + n4 d 8) = crc (d.take (16 + n4 d 8))
          · have HV := Lib.hid (readV_ok hkl (by rw [HDD.out]; exact rdE_ok hlen HNS.out hle hcc))
            have t9 : ((n4 d (16 + n4 d 8) : Int) != (crc (d.take (16 + n4 d 8)) : Int)) = false := by rw [hcc]; simp
            clear hcc
            go_upto_region 14 with fail
            have hS16 := sees_drop hSy (k := 16) (by omega)
            have hdl : (d.drop 16).length = d.length - 16 := by simp
            rw [← hdl] at hS16
            have hSt := sees_take hS16 (k := n4 d 8) (by rw [hdl]; omega)
            have htl : (rdT d).length = n4 d 8 := by unfold rdT; simp; omega
            have hst := run_string_sees (m := rdT d) (g := g) (o := o + 16) (c := c - 16) (w := w9) (by rw [htl]; exact hSt)
            rw [htl] at hst
            have x7 : ¬ c = 16 := by omega
            have x8 : (16 : Int) ≤ 16 + (n4 d 8 : Int) := by omega
            have x9 : 16 ≤ 16 + n4 d 8 := by omega
            have x6 : 16 + (n4 d 8 : Int) ≤ (c : Int) := by omega
            have hkb : (k : Int) + (n4 d 8 : Int) + 20 ≤ 9223372036854775807 := by have := HLD.out; omega
            have hkb2 : (k : Int) + (n4 d 8 : Int) ≤ 9223372036854775807 := by omega
            have hcR := hRy.cell
            have hfR := hRy.frozen
            have hlR := hRy.lt
            have hlZ := hZy.lt
            have hgz' : g8 ≠ w.heap.size := Ne.symm hgz
            clear hS16 hdl hSt htl hSy
            go_wp2
            refine bodyPost_ret (v := .tuple #[.agg #[.int .i64 (n4 d 4 : Int), .int .i64 ((bt d 2).toNat : Int), .string (str (rdT d))], .int .i64 ((k : Int) + (n4 d 8 : Int) + 20), .int .i64 0]) (by simp [results, Tryd.results12, go_sem, hcZ]) rfl ⟨by rw [HV.out, HDD.out], ?_⟩
            refine Below.trans hbwy ?_
            go_grown
          · have HV := Lib.hid (readV_err (E := 192) hkl (by rw [HDD.out]; exact rdE_sum hlen HNS.out hle hcc) (by decide))
            have t9 : ((n4 d (16 + n4 d 8) : Int) != (crc (d.take (16 + n4 d 8)) : Int)) = true := by rw [bne_iff_ne]; omega
            clear hcc
            go_wp2
            refine bodyPost_ret (v := .tuple #[.agg #[.int .i64 0, .int .i64 0, .string ⟨#[]⟩], .int .i64 0, .int .i64 192]) (by simp [results, Tryd.results12, go_sem, hcZ]) rfl ⟨by rw [HV.out]; rfl, ?_⟩
            refine Below.trans hbwy ?_
            go_grown
/-- Read at any bytes and place. -/
theorem read_any (l : List UInt8) (v : Value) (x : Int) (w : World) (hS : Sees w v (bytesV l)) :
    Calls Tryd.prog 12 #[v, .int .i64 x] w fun e w' => e = .returned (readV l x) ∧ Below w.heap.size w w' := by
  by_cases hx : x < 0 ∨ (l.length : Int) < x
  · have e : readV l x = .tuple #[.agg #[.int .i64 0, .int .i64 0, .string (str [])], .int .i64 0, .int .i64 1] := by unfold readV; rw [if_pos hx]
    rw [e]
    exact read_bad l v x w hS hx
  · obtain ⟨k, rfl⟩ := Int.eq_ofNat_of_zero_le (show 0 ≤ x by omega)
    have hk : k ≤ l.length := by omega
    by_cases h16 : k + 16 ≤ l.length
    · exact read_main l v k w hS h16
    · have hE : rdE (l.drop k) = 191 := by unfold rdE; rw [if_pos (by simp; omega)]
      have := readV_err hk hE (by decide)
      show Calls Tryd.prog 12 #[v, .int .i64 (k : Int)] w fun e w' => e = .returned (readV l (k : Int)) ∧ Below w.heap.size w w'
      rw [this]
      exact read_short l v k w hS hk (by omega)
end Go.Proofs.YtndclkphglpknaaDoor.Lg
