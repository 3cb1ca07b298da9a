/- FieldFewest: the walk. -/
import Derived.Test.YtaleaicfllcpiaaDoorFh
import Derived.Deep.RegionHeld3
import Derived.Deep.DeepCutAuto
import Derived.WalkLawsBesides
namespace Go.Proofs.YtaleaicfllcpiaaDoor.Fl
open Go.RowKit Mm Law
set_option linter.unusedVariables false
set_option linter.unusedSimpArgs false
set_option linter.unusedSectionVars false
theorem str_takeF (s : ByteArray) (n : Nat) : s.extract 0 n = str (s.data.toList.take n) := by
  apply ByteArray.ext
  rw [← Array.toList_inj]
  simp [str, ByteArray.data_extract]
theorem pow_32 {B : Nat} (h : B ≤ 32) : 1 ≤ (2 : Int) ^ B ∧ (2 : Int) ^ B ≤ 4294967296 := by
  have h1 := topN_pos B
  have h2 := pow_33 h
  rw [pow_int]
  have h3 : (2 : Nat) ^ 32 = 4294967296 := by decide
  omega
abbrev CS1 (W : World) (g o : Nat) (z : Value) (w' : World) : Prop := w'.cell? ⟨g, o, none⟩ = some z ∧ Below W.heap.size W w'
theorem CS1.go {W w1 w2 : World} {g o : Nat} {z : Value} (hg : g < W.heap.size) (h : CS1 W g o z w1) (hb : Below w1.heap.size w1 w2) : CS1 W g o z w2 :=
  ⟨by rw [hb.cell (p := ⟨g, o, none⟩) (Nat.lt_of_lt_of_le hg h.2.size)]; exact h.1, bnx h.2 hb⟩
abbrev CS2 (W : World) (g o p : Nat) (z y : Value) (w' : World) : Prop := w'.cell? ⟨g, o, none⟩ = some z ∧ w'.cell? ⟨g, p, none⟩ = some y ∧ Below W.heap.size W w'
theorem CS2.go {W w1 w2 : World} {g o p : Nat} {z y : Value} (hg : g < W.heap.size) (h : CS2 W g o p z y w1) (hb : Below w1.heap.size w1 w2) : CS2 W g o p z y w2 :=
  ⟨by rw [hb.cell (p := ⟨g, o, none⟩) (Nat.lt_of_lt_of_le hg h.2.2.size)]; exact h.1, by rw [hb.cell (p := ⟨g, p, none⟩) (Nat.lt_of_lt_of_le hg h.2.2.size)]; exact h.2.1, bnx h.2.2 hb⟩
/-- what is known of a block's text -/
structure BlkT (b f x v : Nat) (c : ByteArray) : Prop where
  sz : c.size = b
  fb : f ≤ b
  pf : Pfx c.data.toList
  has : hasB c.data.toList (hiB v b b) = decide (x ≤ v ∧ v < x + 2 ^ f)
  dig : ∀ i, i < b - f → c.data.toList[i]? ≠ some 120
  dig2 : 0 < f → c.data.toList[b - f]? = some 120
  low : lowT c.data.toList = hiB x b b
  top : c.data.toList.take (b - f - 1) = hiB x b (b - f - 1)
theorem blkT {b v : Nat} {p : Nat × Nat} (hp : p.1 < 2 ^ b) (hf : p.2 ≤ b) (hv : v < 2 ^ b) (hm : p.1 % 2 ^ p.2 = 0) : BlkT b p.2 p.1 v (str (preT b p)) where
  sz := by rw [str_size, preT_len hf]
  fb := hf
  pf := by rw [str_list]; exact pre_pfx hf
  has := by rw [str_list]; exact has_pre hp hf hv hm
  dig := fun i hi h => by
    rw [str_list, pre_get, if_pos hi] at h
    exact bit_ne_x _ _ (Option.some.inj h)
  dig2 := fun h => by rw [str_list, pre_get, if_neg (by omega), if_pos (by omega)]
  low := by rw [str_list]; exact low_pre hf hm
  top := by
    rw [str_list]
    unfold preT
    rw [List.take_append_of_le_length (by rw [hiB_len]; omega)]
    unfold hiB
    rw [← List.map_take, List.take_range, show min (b - p.2 - 1) (b - p.2) = b - p.2 - 1 by omega]
theorem ne_lists {a b : List UInt8} (h : a ≠ b) : ((str a).toList == (str b).toList) = false := by
  rw [ByteArray.toList_eq, ByteArray.toList_eq, str_list, str_list]
  simpa using h
theorem geq_no {x y : List UInt8} (h : Op.bytesLess x y = true) : (!(Op.bytesLess (str x).toList (str y).toList)) = false := by
  rw [ByteArray.toList_eq, ByteArray.toList_eq, str_list, str_list, h]; rfl
theorem fewest_sees {w1 wr : World} {g off : Nat} {G : List (Nat × Nat)} {b k : Nat} {p : Nat × Nat} (hq : ∀ j u, (sC (G.map (preT b)))[j]? = some u → w1.cell? ⟨g, off + j, none⟩ = some u) (hg : g < w1.heap.size) (hb : Below w1.heap.size w1 wr) (hk : G[k]? = some p) : wr.cell? ⟨g, off + k, none⟩ = some (.string (str (preT b p))) := by
  rw [hb.cell (p := ⟨g, off + k, none⟩) hg]
  exact hq _ _ (sC_at _ k _ (by rw [List.getElem?_map, hk]; rfl))
theorem nat_wf {n : Nat} (h : n ≤ 4294967296) : (Lit.int .i64 (n : Int)).wf = true := by
  simp [Lit.wf, IntKind.min, IntKind.max, IntKind.bits, IntKind.signed]
  omega
theorem cov_ok (B L I : Nat) (b1 : 1 ≤ B) (b2 : B ≤ 32) (hLI : L ≤ I) (hI : I < 2 ^ B) (w : World) :
    Calls Tryd.prog 50 #[.int .i64 (B : Int), .int .i64 (L : Int), .int .i64 (I : Int)] w fun e w' => ∃ u, e = .returned (.tuple #[u, .int .i64 0]) ∧ w'.ownsRow w.heap.size 9 1 u (gre B L (I + 1)).length (sC ((gre B L (I + 1)).map (preT B))) ∧ Below w.heap.size w w' := by
  obtain ⟨t1, t2⟩ := top_lt B b2
  have h := cov_walk (B : Int) (L : Int) (I : Int) (nat_wf (by omega)) (nat_wf (by omega)) (nat_wf (by omega)) w
  unfold CovAns at h
  obtain ⟨e1, e2⟩ := rcov_ok B L I b1 b2 hLI (by omega)
  rw [e1, e2, List.length_map] at h
  exact h
theorem few_at (B L I V : Nat) (hLI : L ≤ I) (hI : I < 2 ^ B) (hV : V < 2 ^ B) : ∀ (k : Nat) (p : Nat × Nat), (gre B L (I + 1))[k]? = some p →
    BlkT B p.2 p.1 V (str (preT B p)) ∧ stt B L (I + 1) k = p.1 ∧ stt B L (I + 1) (k + 1) = p.1 + 2 ^ p.2 ∧ L ≤ p.1 := by
  intro k p hp
  obtain ⟨a1, a2, a3, a4, a5, a6⟩ := gre_at B (I + 1) _ L (Nat.le_refl _) (by omega) k p hp
  have hpos : 0 < 2 ^ p.2 := Nat.pow_pos (by omega)
  have := a1.2
  exact ⟨blkT (by omega) a2 hV a1.1, a4, a5, a6⟩
theorem few_next (B L I : Nat) (hLI : L ≤ I) (hI : I < 2 ^ B) : ∀ (k : Nat) (p q : Nat × Nat), (gre B L (I + 1))[k]? = some p → (gre B L (I + 1))[k + 1]? = some q →
    Op.bytesLess (hiB p.1 B B) (hiB q.1 B B) = true ∧ (p.2 = q.2 → p.2 < B ∧ hiB q.1 B (B - p.2 - 1) ≠ hiB p.1 B (B - p.2 - 1)) := by
  intro k p q hp hq
  obtain ⟨a1, a2, a3, a4, a5, a6⟩ := gre_at B (I + 1) _ L (Nat.le_refl _) (by omega) k p hp
  obtain ⟨c1, c2, c3, c4, c5, c6⟩ := gre_at B (I + 1) _ L (Nat.le_refl _) (by omega) (k + 1) q hq
  have hpos : 0 < 2 ^ p.2 := Nat.pow_pos (by omega)
  have hpos2 : 0 < 2 ^ q.2 := Nat.pow_pos (by omega)
  have e : q.1 = p.1 + 2 ^ p.2 := by omega
  have := c1.2
  refine ⟨hi_less B _ _ (by rw [Nat.mod_eq_of_lt (by omega), Nat.mod_eq_of_lt (by omega)]; omega), fun h => ?_⟩
  rw [e]
  exact no_halves (by omega) a1.1 a2 a3 (by rw [← e]; rw [h]; omega)
theorem swq {P : Program} {f : FuncId} {args : Array Value} {w : World} {v : Value} (h : Calls P f args w fun e w' => e = .returned v ∧ w' = w) : Calls P f args w fun e w' => e = .returned v ∧ w = w' :=
  h.mono fun _ _ ⟨a, b⟩ => ⟨a, b.symm⟩
def cntF (L V s : Nat) : Nat := if L ≤ V ∧ V < s then 1 else 0
theorem cntF_le (L V s : Nat) : cntF L V s ≤ 1 := by unfold cntF; split <;> omega
theorem cntF_next {L V x f : Nat} (h : L ≤ x) : cntF L V (x + 2 ^ f) = cntF L V x + (if x ≤ V ∧ V < x + 2 ^ f then 1 else 0) := (count_next h).symm
theorem gre_some {B L I : Nat} (h : L ≤ I) : 0 < (gre B L (I + 1)).length := by
  rw [gre_yes (by omega)]; simp
end Go.Proofs.YtaleaicfllcpiaaDoor.Fl
