/- Plain lemmas on memory, no program in sight: blocks known whole, rows of the call's own, what stays below a mark. -/
import Derived.WalkKit
import Derived.Lib.Hide
import Derived.Deep.Draws
import Derived.Maps.AppendAt
import Derived.Laws.BytesArg
import Derived.StillTailTactics
import Derived.Laws.AppendOwnNone
namespace Go.Proofs.YtlakglphjhoodaaDoor.Mm
open Go.RowKit
set_option linter.unusedVariables false
set_option linter.unusedSimpArgs false
set_option linter.unusedSectionVars false
def Blk (w : World) (g : Nat) (t : TypeId) (cs : Array Value) : Prop := w.heap[g]? = some (.cells cs t (0, 0))
section
variable {w w' : World} {g : Nat} {t : TypeId} {cs : Array Value}
theorem Blk.lt (h : Blk w g t cs) : g < w.heap.size := by
  rcases Nat.lt_or_ge g w.heap.size with hlt | hge
  · exact hlt
  · unfold Blk at h; rw [Array.getElem?_eq_none hge] at h; cases h
theorem Blk.cell (h : Blk w g t cs) (i : Nat) : w.cell? ⟨g, i, none⟩ = cs[i]? := cell_of_row w g i cs t (0, 0) h
theorem Blk.frozen (h : Blk w g t cs) (i : Nat) : w.frozen? ⟨g, i, none⟩ = false := by
  unfold Blk at h
  simp [World.frozen?, h]
theorem Blk.new (w : World) (t : TypeId) (cs : Array Value) : Blk (w.alloc (.cells cs t)) w.heap.size t cs := heap_alloc_new w _
theorem Blk.drew (h : Blk w g t cs) : Blk w.drew g t cs := h
theorem Blk.drewN (h : Blk w g t cs) (n : Nat) : Blk (w.drewN n) g t cs := h
theorem Blk.alloc (h : Blk w g t cs) (o : Obj) : Blk (w.alloc o) g t cs := (Below.heap_alloc w o g h.lt).trans h
theorem Blk.set_ (h : Blk w g t cs) (i : Nat) (u : Value) : Blk (w.setCell ⟨g, i, none⟩ u) g t (cs.setIfInBounds i u) := by
  unfold Blk at h ⊢
  simp [World.setCell, Array.getElem?_modify, h]
theorem Blk.far (h : Blk w g t cs) {p : Addr} (hp : g ≠ p.block) (u : Value) : Blk (w.setCell p u) g t cs := (Below.heap_setCell w p u g hp).trans h
theorem Blk.below {B : Nat} (h : Blk w g t cs) (hb : Below B w w') (hg : g < B) : Blk w' g t cs := (hb.block g hg).trans h
theorem Blk.grown {row : Option Nat} (h : Blk w g t cs) (hb : w.grownBy w' row) (hg : some g ≠ row) : Blk w' g t cs := (hb.block g h.lt hg).trans h
end
theorem only_set (w : World) (g i : Nat) (u : Value) : w.grownBy (w.setCell ⟨g, i, none⟩ u) (some g) :=
  ⟨rfl, rfl, rfl, by simp [World.setCell], fun k hk hne => Below.heap_setCell w _ u k (fun e => hne (by rw [e]))⟩
theorem gtrans {a b c : World} {row : Option Nat} (h : a.grownBy b row) (k : b.grownBy c row) : a.grownBy c row :=
  ⟨k.os.trans h.os, k.tape.trans h.tape, k.output.trans h.output, Nat.le_trans h.size k.size, fun i hi hn => (k.block i (Nat.lt_of_lt_of_le hi h.size) hn).trans (h.block i hi hn)⟩
theorem grefl (a : World) (row : Option Nat) : a.grownBy a row := ⟨rfl, rfl, rfl, Nat.le_refl _, fun _ _ _ => rfl⟩
theorem bnx {w a b : World} (h : Below w.heap.size w a) (k : Below a.heap.size a b) : Below w.heap.size w b := h.trans (k.mono h.size)
theorem bal {w a : World} (h : Below w.heap.size w a) (o : Obj) : Below w.heap.size w (a.alloc o) := h.alloc h.size o
theorem below_drewN {B : Nat} {a w : World} (h : Below B a w) (n : Nat) : Below B a (w.drewN n) := ⟨h.os, h.tape, h.output, h.size, h.block⟩
theorem ne_off {b i j : Nat} (h : i ≠ j) : (⟨b, i, none⟩ : Addr) ≠ ⟨b, j, none⟩ := fun e => h (by have := congrArg Addr.off e; simpa using this)
theorem add_off (g j : Nat) : (⟨g, 0, none⟩ : Addr).add j = ⟨g, j, none⟩ := by unfold Addr.add; split <;> simp_all
theorem add_offs (g o j : Nat) : (⟨g, o, none⟩ : Addr).add j = ⟨g, o + j, none⟩ := by unfold Addr.add; split <;> simp_all
/-! Rows of the call's own. -/
section
variable {w w' : World} {B B' : Nat} {e e' : TypeId} {s s' : Nat} {v v' : Value} {n n' : Nat} {xs xs' : List Value}
theorem own_form (h : w.ownsRow B e s v n xs) (hn : 0 < n) : ∃ g cap, v = .slice (some ⟨g, 0, none⟩) n cap ∧ B ≤ g ∧ g < w.heap.size := by
  rcases h.2 with ⟨_, h0⟩ | ⟨g, cap, cur, rfl, hb, hg, _⟩
  · omega
  · exact ⟨g, cap, rfl, hb, (Array.getElem?_eq_some_iff.1 hg).1⟩
theorem own_len (h : w.ownsRow B e s v n xs) : ∃ a cap, v = .slice a n cap := by
  rcases h.2 with ⟨rfl, rfl⟩ | ⟨g, cap, cur, rfl, hb, hg, _⟩
  · exact ⟨_, _, rfl⟩
  · exact ⟨_, _, rfl⟩
theorem own_drewN (h : w.ownsRow B e s v n xs) (k : Nat) : (w.drewN k).ownsRow B e s v n xs := h
theorem own_below {M : Nat} (h : w.ownsRow B e s v n xs) (hb : Below M w w') (hB : w.heap.size ≤ M) : w'.ownsRow B e s v n xs := by
  refine ⟨h.1, ?_⟩
  rcases h.2 with hn | ⟨g, cap, cur, hv, hbb, hg, rest⟩
  · exact .inl hn
  · have hlt := (Array.getElem?_eq_some_iff.1 hg).1
    exact .inr ⟨g, cap, cur, hv, hbb, (hb.block g (by omega)).trans hg, rest⟩
theorem own_put {g : Nat} (h : w.ownsRow B e s v n xs) (hg : w.grownBy w' (some g)) (hlt : g < B) : w'.ownsRow B e s v n xs := by
  refine h.kept hg ?_
  cases hv : v.ownBlock with
  | none => exact .inl rfl
  | some k => exact .inr fun e => by have := (h.lt k hv).1; cases e; omega
theorem own_ne {g : Nat} (h : w.ownsRow B e s v n xs) (hlt : g < B) : some g ≠ v.ownBlock := fun e => by
  have := (h.lt g e.symm).1; omega
theorem own_one (w : World) (t : TypeId) (cs : Array Value) {B : Nat} (hB : B ≤ w.heap.size) : (w.alloc (.cells cs t)).ownsRow B t cs.size (.slice (some ⟨w.heap.size, 0, none⟩) 1 1) 1 cs.toList := by
  refine ⟨by simp, .inr ⟨_, 1, cs, rfl, hB, heap_alloc_new w _, Nat.le_refl _, by decide, by simp, ?_⟩⟩
  simp [← Array.length_toList]
theorem row_ne (h : w.ownsRow B e s v n xs) : v.ownBlock ≠ some w.heap.size := fun e => by
  have := (h.lt _ e).2; omega
theorem own_at (h : w.ownsRow B e s v n xs) (hn : 0 < n) :
    ∃ g cap, v = .slice (some ⟨g, 0, none⟩) n cap ∧ n ≤ cap ∧ B ≤ g ∧ g < w.heap.size ∧ ∀ j u, xs[j]? = some u → w.cell? ⟨g, j, none⟩ = some u := by
  obtain ⟨g, cap, hv, hb, hlt⟩ := own_form h hn
  subst hv
  refine ⟨g, cap, rfl, ?_, hb, hlt, fun j u hj => ?_⟩
  · rcases h.2 with ⟨hh, _⟩ | ⟨g', cap', cur, hv, _, _, hc, _⟩
    · cases hh
    · cases hv; exact hc
  · have := h.cells (g := g) rfl j u hj
    rw [add_off] at this
    exact this
theorem own_apart (h : w.ownsRow B e s v n xs) (h' : w.ownsRow B' e' s' v' n' xs') (hne : e ≠ e') : v.ownBlock = none ∨ v.ownBlock ≠ v'.ownBlock := by
  rcases h.2 with ⟨rfl, _⟩ | ⟨g, cap, cur, rfl, _, hg, _⟩
  · exact .inl rfl
  · rcases h'.2 with ⟨rfl, _⟩ | ⟨g', cap', cur', rfl, _, hg', _⟩
    · exact .inr (by simp [Value.ownBlock])
    · refine .inr fun e0 => hne ?_
      simp only [Value.ownBlock, Option.some.injEq] at e0
      subst e0
      rw [hg] at hg'
      simp only [Option.some.injEq, Obj.cells.injEq] at hg'
      exact hg'.2.1
theorem blk_apart {g : Nat} {t : TypeId} {cs : Array Value} (hb : Blk w g t cs) (h : w.ownsRow B e s v n xs) (hne : t ≠ e) : some g ≠ v.ownBlock := fun e0 => by
  rcases h.2 with ⟨rfl, _⟩ | ⟨g', cap, cur, rfl, _, hg, _⟩
  · simp [Value.ownBlock] at e0
  · simp only [Value.ownBlock, Option.some.injEq] at e0
    subst e0
    unfold Blk at hb
    rw [hg] at hb
    simp only [Option.some.injEq, Obj.cells.injEq] at hb
    exact hne hb.2.1.symm
theorem blk_ne (h : w.ownsRow B e s v n xs) {g : Nat} (hg : g < B) : some g ≠ v.ownBlock := fun e0 => by
  have := (h.lt g e0.symm).1; omega
theorem below_grown (h : w.ownsRow B e s v n xs) (hg : w.grownBy w' v.ownBlock) (hB : B ≤ w.heap.size) : Below B w w' :=
  (Below.refl B w).grown hg hB (fun k hk => (h.lt k hk).1)
end
theorem cells_new (w : World) (xs : Array Value) (t : TypeId) : ∀ j u, xs.toList[j]? = some u → (w.alloc (.cells xs t)).cell? ((⟨w.heap.size, 0, none⟩ : Addr).add j) = some u := by
  intro j u h
  rw [add_off, World.cell?_alloc_new, ← Array.getElem?_toList, h]
/-! Draws. -/
theorem still_tail {P : Program} {id : Nat} {Q : Exit → Act → World → Prop} {a : Act} {w : World} {l : List Oper} (n : Nat) (hm : P.follows .mixedOrders = true) (hB : Region.lexTailB .any l.toArray n = true)
    (h : ∀ W : World, Hid (W = w.drew) → wpStill P l.toArray W (fun a' => wpList P l.toArray Q (l.drop n) a' W) (l.take n) a) : (Code.region id l.toArray true).wp P Q a w :=
  wp_region_still_tail n hm hB (h _ (Lib.hid rfl))
theorem swp {P : Program} {f : FuncId} {args : Array Value} {w : World} {v : Value} (h : Calls P f args w fun e w' => e = .returned v ∧ w = w') : Calls P f args w fun e w' => e = .returned v ∧ w' = w :=
  h.mono fun _ _ ⟨a, b⟩ => ⟨a, b.symm⟩
theorem Blk.at_drew {w W : World} {g : Nat} {t : TypeId} {cs : Array Value} (h : Blk w g t cs) (e : Hid (W = w.drew)) : Blk W g t cs := by rw [e.out]; exact h
theorem size_at_drew {w W : World} (e : Hid (W = w.drew)) : W.heap.size = w.heap.size := by rw [e.out]; rfl
theorem below_at_drew {w W : World} (e : Hid (W = w.drew)) (B : Nat) : Below B w W := by rw [e.out]; exact (Below.refl _ _).drew
theorem quiet_left {P : Program} {f : FuncId} {args : Array Value} {w : World} {n : Nat} {v : Value} (h : Calls P f args (w.drewN n) fun e w' => e = .returned v ∧ w.drewN n = w') : Calls P f args (w.drewN n) fun e w'' => e = .returned v ∧ ∃ m, w'' = w.drewN m :=
  h.mono fun _ _ ⟨he, hm⟩ => ⟨he, n, hm.symm⟩
/-! Bytes and strings. -/
def bv (b : UInt8) : Value := .int .u8 (b.toNat : Int)
def str (l : List UInt8) : ByteArray := ⟨l.toArray⟩
theorem str_list (l : List UInt8) : (str l).data.toList = l := rfl
theorem str_size (l : List UInt8) : (str l).size = l.length := by simp [str, ByteArray.size]
theorem str_of (s : ByteArray) : str s.data.toList = s := rfl
theorem len_s (s : ByteArray) : s.data.toList.length = s.size := by rw [Array.length_toList]; rfl
theorem bv_getD (l : List UInt8) (i : Nat) (h : i < l.length) : (l.map bv)[i]? = some (.int .u8 ((l.map fun b => (b.toNat : Int)).getD i 0)) := by
  simp [bv, List.getElem?_eq_getElem h]
theorem strOf_map (l : List UInt8) : strOfNums (l.map fun b => (b.toNat : Int)) = str l := by
  unfold strOfNums str
  congr 1
  congr 1
  rw [List.map_map]
  conv => rhs; rw [← List.map_id l]
  apply List.map_congr_left
  intro b _
  simp
/-- a slice that reads as a list of cells of one place each -/
def Sees (w : World) (v : Value) (xs : List Value) : Prop :=
  ∃ a cap, v = .slice a xs.length cap ∧ (a = none → cap = 0) ∧ xs.length ≤ cap ∧ cap ≤ maxLen ∧ (xs = [] ∨ ∃ g off, a = some ⟨g, off, none⟩ ∧ g < w.heap.size ∧ ∀ j u, xs[j]? = some u → w.cell? ⟨g, off + j, none⟩ = some u)
theorem Sees.below {w w' : World} {v : Value} {xs : List Value} (h : Sees w v xs) (hb : Below w.heap.size w w') : Sees w' v xs := by
  obtain ⟨a, cap, hv, hN, hc, hm, hx⟩ := h
  refine ⟨a, cap, hv, hN, hc, hm, hx.imp id ?_⟩
  rintro ⟨g, off, ha, hg, hx⟩
  exact ⟨g, off, ha, Nat.lt_of_lt_of_le hg hb.size, fun j u hj => by rw [hb.cell (p := ⟨g, off + j, none⟩) hg]; exact hx j u hj⟩
theorem Sees.drew {w : World} {v : Value} {xs : List Value} (h : Sees w v xs) : Sees w.drew v xs := h.below (Below.refl _ _).drew
theorem Sees.drewN {w : World} {v : Value} {xs : List Value} (h : Sees w v xs) (n : Nat) : Sees (w.drewN n) v xs := h.below (below_drewN (Below.refl _ _) n)
theorem Sees.alloc {w : World} {v : Value} {xs : List Value} (h : Sees w v xs) (o : Obj) : Sees (w.alloc o) v xs := h.below ((Below.refl _ _).alloc (Nat.le_refl _) o)
theorem Sees.at_drew {w W : World} {v : Value} {xs : List Value} (h : Sees w v xs) (e : Hid (W = w.drew)) : Sees W v xs := by rw [e.out]; exact h.drew
theorem Sees.of_own {w : World} {B : Nat} {e : TypeId} {v : Value} {n : Nat} {xs : List Value} (h : w.ownsRow B e 1 v n xs) : Sees w v xs := by
  have hl : xs.length = n := by have := h.1; omega
  rcases h.2 with ⟨hv, h0⟩ | ⟨g, cap, cur, hv, _, hg, hc, hm, _, _⟩
  · have : xs = [] := List.eq_nil_of_length_eq_zero (by omega)
    subst this
    exact ⟨none, 0, hv, fun _ => rfl, Nat.le_refl _, Nat.zero_le _, .inl rfl⟩
  · refine ⟨some ⟨g, 0, none⟩, cap, by rw [hl]; exact hv, (fun h => by cases h), by omega, hm, .inr ⟨g, 0, rfl, (Array.getElem?_eq_some_iff.1 hg).1, fun j u hj => ?_⟩⟩
    subst hv
    have := h.cells (g := g) rfl j u hj
    rw [add_off] at this
    rw [Nat.zero_add]; exact this
/-- its first k -/
theorem Sees.take {w : World} {a : Option Addr} {n cap : Nat} {xs : List Value} (h : Sees w (.slice a n cap) xs) (k : Nat) (hk : k ≤ xs.length) : Sees w (.slice a k cap) (xs.take k) := by
  obtain ⟨a', cap', hv, hN, hc, hm, hx⟩ := h
  cases hv
  refine ⟨a, cap, by simp; omega, hN, by simp; omega, hm, ?_⟩
  rcases hx with hx | ⟨g, off, ha, hg, hx⟩
  · left; rw [hx]; simp
  · exact .inr ⟨g, off, ha, hg, fun j u hj => hx j u (by rw [List.getElem?_take] at hj; split at hj <;> simp_all)⟩
/-- append(s, x...): a row of the call's own, and a slice that reads as a list, nil included. -/
theorem app_sees {P : Program} {B : Nat} {e : TypeId} {v : Value} {n : Nat} {xs ys : List Value} {w : World} {sv : Value} {bytes : Nat} {z : Value} (t : TypeId) {ops : Array Oper} {rest : List Oper} {op : Oper} {a : Act} {Q : Exit → Act → World → Prop} {s x : Operand}
    (ht : P.underlying t = some (.slice e)) (hinfo : (P.info? e).map (fun i => (i.zero, i.size, i.bytes)) = some (some z, 1, bytes)) (hz : z.cells.size = 1)
    (hown : w.ownsRow B e 1 v n xs) (hS : Sees w sv ys) (hgd : op.guard = none) (ho : op.op = .call { callee := .builtin .append, args := #[s, x], argTypes := #[t, t] })
    (hs : a.eval s = v) (hx : a.eval x = sv) (h1 : ∀ u ∈ ys, u.oneCell' = true) (hn : n + ys.length ≤ maxLen) (hb : (n + ys.length) * bytes ≤ 140737488355328) (hB : B ≤ w.heap.size)
    (h : ∀ v' w', w'.ownsRow B e 1 v' (n + ys.length) (xs ++ ys) → w.grownBy w' v.ownBlock → wpList P ops Q rest (a.put op.dst v') w') : wpList P ops Q (op :: rest) a w := by
  obtain ⟨i0, hi, hz0, hz1, hz2⟩ := info_parts hinfo
  obtain ⟨ad, cap, rfl, hN, hc, hm, hq⟩ := hS
  cases ad with
  | none =>
    have hc0 := hN rfl
    have hy : ys = [] := List.eq_nil_of_length_eq_zero (by omega)
    subst hy
    subst hc0
    refine wpList_append_own_none hgd s x t ho B e i0 1 ht hi v n xs hs hown hx ?_
    exact h v w (by simpa using hown) (grefl w _)
  | some ad =>
    refine wpList_append_own _ hgd s x t ho B e i0 z 1 bytes ht hi hz0 hz1 hz2 hz (by decide) v n xs hs hown ad ys.length cap ys hx (by simp) ?_ h1 hn hb hB (fun v' w' h2 h3 _ => h v' w' h2 h3)
    intro j u hj
    rcases hq with hq | ⟨g, off, ha, hg, hq⟩
    · rw [hq] at hj; simp at hj
    · cases ha
      rw [add_offs]
      exact hq j u hj
end Go.Proofs.YtlakglphjhoodaaDoor.Mm
