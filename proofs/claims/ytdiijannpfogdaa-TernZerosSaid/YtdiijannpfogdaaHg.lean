/- Helpers: appends that tell what they have written; rows of two kinds side by side; literal cubes. -/
import Derived.Test.YtdiijannpfogdaaHu
import Derived.Test.YtdiijannpfogdaaArg
namespace Go.Proofs.Ytdiijannpfogdaa.Tn
open Go.RowKit
theorem own_apart {w : World} {B B' : Nat} {e e' : TypeId} {s s' : Nat} {v v' : Value} {n n' : Nat} {xs xs' : List Value} (h : w.ownsRow B e s v n xs) (h' : w.ownsRow B' e' s' v' n' xs') (hne : e ≠ e') : v.ownBlock = none ∨ v.ownBlock ≠ v'.ownBlock := by
  rcases h.2 with ⟨rfl, _⟩ | ⟨g, cap, cur, rfl, _, hg, _⟩
  · exact .inl rfl
  · rcases h'.2 with ⟨rfl, _⟩ | ⟨g', cap', cur', rfl, _, hg', _⟩
    · exact .inr (by simp [Value.ownBlock])
    · refine .inr fun e0 => hne ?_
      simp only [Value.ownBlock, Option.some.injEq] at e0
      subst e0
      rw [hg] at hg'
      simp only [Option.some.injEq, Obj.cells.injEq] at hg'
      exact hg'.2.1
theorem blk_apart {w : World} {B : Nat} {e : TypeId} {s : Nat} {v : Value} {n : Nat} {xs : List Value} {g : Nat} {t : TypeId} {cs : Array Value} (hb : Blk w g t cs) (h : w.ownsRow B e s v n xs) (hne : t ≠ e) : some g ≠ v.ownBlock := fun e0 => by
  rcases h.2 with ⟨rfl, _⟩ | ⟨g', cap, cur, rfl, _, hg, _⟩
  · simp [Value.ownBlock] at e0
  · simp only [Value.ownBlock, Option.some.injEq] at e0
    subst e0
    unfold Blk at hb
    rw [hg] at hb
    simp only [Option.some.injEq, Obj.cells.injEq] at hb
    exact hne hb.2.1.symm
theorem blk_ne {w : World} {B : Nat} {e : TypeId} {s : Nat} {v : Value} {n : Nat} {xs : List Value} (h : w.ownsRow B e s v n xs) {g : Nat} (hg : g < B) : some g ≠ v.ownBlock := fun e0 => by
  have := (h.lt g e0.symm).1; omega
theorem below_grown {w w' : World} {B : Nat} {e : TypeId} {s : Nat} {v : Value} {n : Nat} {xs : List Value} (h : w.ownsRow B e s v n xs) (hg : w.grownBy w' v.ownBlock) (hB : B ≤ w.heap.size) : Below B w w' :=
  (Below.refl B w).grown hg hB (fun k hk => (h.lt k hk).1)
/-- append(l, o), the world's growth told. -/
theorem app_cubeG {B : Nat} {v : Value} {m : Nat} {L : List (List UInt8)} {w : World} {t : List UInt8} {n : Nat} {c o : Nat → Bool} (hC : Cub t n c o) {ops : Array Oper} {rest : List Oper} {op : Oper} {a : Act} {Q : Exit → Act → World → Prop} {s x : Operand}
    (hown : w.ownsRow B 30 9 v m (crow L)) (hgd : op.guard = none) (ho : op.op = .call { callee := .builtin .append, args := #[s, x], argTypes := #[49, 49] })
    (hs : a.eval s = v) (hx : a.eval x = .slice (some ⟨w.heap.size, 0, none⟩) 1 1) (hn : m ≤ 1900000000000) (hB : B ≤ w.heap.size)
    (h : ∀ v' w', w'.ownsRow B 30 9 v' (m + 1) (crow (L ++ [t])) → w.grownBy w' v.ownBlock → wpList Try.prog ops Q rest (a.put op.dst v') w') : wpList Try.prog ops Q (op :: rest) a (w.alloc (.cells (cs n c o) 30)) := by
  obtain ⟨i0, hi, hz0, hz1, hz2⟩ := info_parts info_cube
  refine wpList_append_own _ hgd s x 49 ho B 30 i0 _ 9 72 Try.underlying49 hi hz0 hz1 hz2 rfl (by decide) v m _ hs (hown.alloc _) ⟨w.heap.size, 0, none⟩ 1 1 (cs n c o).toList hx rfl (cells_new _ _ _)
    (cs_one n c o) (by simp only [maxLen]; omega) (by omega) (by simp; omega) ?_
  intro v' w1 hown' hg _
  exact h v' w1 (by rw [crow_snoc, ← hC.cells]; exact hown') (gtrans (World.grownBy_alloc w _ _) hg)
/-- append(l, o, p). -/
theorem app_cube2 {B : Nat} {v : Value} {m : Nat} {L : List (List UInt8)} {w : World} {t t2 : List UInt8} {n n2 : Nat} {c o c2 o2 : Nat → Bool} (hC : Cub t n c o) (hC2 : Cub t2 n2 c2 o2) {ops : Array Oper} {rest : List Oper} {op : Oper} {a : Act} {Q : Exit → Act → World → Prop} {s x : Operand}
    (hown : w.ownsRow B 30 9 v m (crow L)) (hgd : op.guard = none) (ho : op.op = .call { callee := .builtin .append, args := #[s, x], argTypes := #[49, 49] })
    (hs : a.eval s = v) (hx : a.eval x = .slice (some ⟨w.heap.size, 0, none⟩) 2 2) (hn : m ≤ 1900000000000) (hB : B ≤ w.heap.size)
    (h : ∀ v' w', w'.ownsRow B 30 9 v' (m + 2) (crow (L ++ [t, t2])) → w.grownBy w' v.ownBlock → wpList Try.prog ops Q rest (a.put op.dst v') w') : wpList Try.prog ops Q (op :: rest) a (w.alloc (.cells (cs n c o ++ cs n2 c2 o2) 30)) := by
  obtain ⟨i0, hi, hz0, hz1, hz2⟩ := info_parts info_cube
  refine wpList_append_own _ hgd s x 49 ho B 30 i0 _ 9 72 Try.underlying49 hi hz0 hz1 hz2 rfl (by decide) v m _ hs (hown.alloc _) ⟨w.heap.size, 0, none⟩ 2 2 (cs n c o ++ cs n2 c2 o2).toList hx rfl (cells_new _ _ _)
    ?_ (by simp only [maxLen]; omega) (by omega) (by simp; omega) ?_
  · intro u hu
    rw [Array.toList_append, List.mem_append] at hu
    exact hu.elim (cs_one n c o u) (cs_one n2 c2 o2 u)
  · intro v' w1 hown' hg _
    refine h v' w1 ?_ (gtrans (World.grownBy_alloc w _ _) hg)
    have e : crow (L ++ [t, t2]) = crow L ++ (cs n c o ++ cs n2 c2 o2).toList := by
      rw [Array.toList_append, hC.cells, hC2.cells]; simp [crow]
    rw [e]; exact hown'
/-- append(l, s), the world's growth told. -/
theorem app_strG {B : Nat} {v : Value} {m : Nat} {L : List (List UInt8)} {w : World} (t : List UInt8) {ops : Array Oper} {rest : List Oper} {op : Oper} {a : Act} {Q : Exit → Act → World → Prop} {s x : Operand}
    (hown : w.ownsRow B 9 1 v m (srow L)) (hgd : op.guard = none) (ho : op.op = .call { callee := .builtin .append, args := #[s, x], argTypes := #[48, 48] })
    (hs : a.eval s = v) (hx : a.eval x = .slice (some ⟨w.heap.size, 0, none⟩) 1 1) (hn : m ≤ 8700000000000) (hB : B ≤ w.heap.size)
    (h : ∀ v' w', w'.ownsRow B 9 1 v' (m + 1) (srow (L ++ [t])) → w.grownBy w' v.ownBlock → wpList Try.prog ops Q rest (a.put op.dst v') w') : wpList Try.prog ops Q (op :: rest) a (w.alloc (.cells #[.string (str t)] 9)) := by
  obtain ⟨i0, hi, hz0, hz1, hz2⟩ := info_parts info_str
  refine wpList_append_own _ hgd s x 48 ho B 9 i0 _ 1 16 Try.underlying48 hi hz0 hz1 hz2 rfl (by decide) v m _ hs (hown.alloc _) ⟨w.heap.size, 0, none⟩ 1 1 [.string (str t)] hx rfl (cell_one_new _ _ _)
    (by simp [Value.oneCell']) (by simp only [maxLen]; omega) (by omega) (by simp; omega) ?_
  intro v' w1 hown' hg _
  exact h v' w1 (by rw [srow, List.map_append]; exact hown') (gtrans (World.grownBy_alloc w _ _) hg)
theorem all_lit (b : Nat) (x : Int) (hx : x = (b : Int)) (h1 : 1 ≤ b) (h2 : b ≤ 256) (w : World) : Calls Try.prog 29 #[.int .i64 x] w fun e w' => e = .returned (cv b no no) ∧ Below w.heap.size w w' := by
  subst hx
  exact (all_any b w).mono fun e w' ⟨n, c, o, hC, he, hb⟩ => by
    obtain ⟨rfl, rfl, rfl⟩ := (all_cub b h1 h2).same hC
    exact ⟨he, hb⟩
/-- a longer row's slice, seen as its beginning -/
theorem Sees.begin {w : World} {B g cap : Nat} {L M : List (List UInt8)} (h : w.ownsRow B 30 9 (.slice (some ⟨g, 0, none⟩) (L ++ M).length cap) (L ++ M).length (crow (L ++ M))) : Sees w (.slice (some ⟨g, 0, none⟩) L.length cap) L := by
  rcases h.2 with ⟨hv, _⟩ | ⟨g', cap', cur, hv, _, hg, hc, _⟩
  · cases hv
  · cases hv
    refine .inr ⟨_, _, rfl, by simp at hc; omega, (Array.getElem?_eq_some_iff.1 hg).1, fun j u hj => ?_⟩
    have hj' : (crow (L ++ M))[j]? = some u := by
      have : crow (L ++ M) = crow L ++ crow M := by simp [crow]
      rw [this, List.getElem?_append_left (List.getElem?_eq_some_iff.1 hj).1, hj]
    have := h.cells (g := g) rfl j u hj'
    have hadd : (⟨g, 0, none⟩ : Addr).add j = ⟨g, j, none⟩ := by unfold Addr.add; split <;> simp_all
    rw [hadd] at this
    exact this
/-- the nine cells of a row's place -/
theorem own_cells {w : World} {B : Nat} {g cap k : Nat} {L : List (List UInt8)} (h : w.ownsRow B 30 9 (.slice (some ⟨g, 0, none⟩) L.length cap) L.length (crow L)) (hk : k < L.length) {n : Nat} {c o : Nat → Bool} (hC : Cub L[k] n c o) :
    ∀ j u, j < 9 → (cs n c o)[j]? = some u → w.cell? ⟨g, k * 9 + j, none⟩ = some u := fun j u hj hu => by
  obtain ⟨g', cap', hv, _, _, hx⟩ := own_at h (by omega)
  cases hv
  exact hx _ _ (by rw [crow_at L k hk j hj, ← hC.cells, Array.getElem?_toList]; exact hu)
theorem ne_self (n : Nat) (c o : Nat → Bool) (w : World) : (binOp .neq 30 (cv n c o) (cv n c o)).run Try.prog w = .ok (.bool false) w := by
  unfold cv cs wv
  rw [run_neq_struct, eq_cube]
  simp
end Go.Proofs.Ytdiijannpfogdaa.Tn
