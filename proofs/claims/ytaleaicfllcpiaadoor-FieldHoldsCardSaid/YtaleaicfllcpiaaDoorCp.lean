/- Cubes: the plain law, and the program's. -/
import Derived.Test.YtaleaicfllcpiaaDoorVr
namespace Go.Proofs.YtaleaicfllcpiaaDoor.Fl
open Go.RowKit Mm Law
set_option linter.unusedSimpArgs false
set_option linter.unusedSectionVars false
set_option linter.unusedVariables false
noncomputable def cuE (T : Tst) (l : List Fld) : Int := if (chk l).1 ≠ 0 then (chk l).1 else tstE T l
def wrapC (p q : Nat) (c : List UInt8) : List UInt8 := List.replicate p 120 ++ c ++ List.replicate q 120
noncomputable def cuT (T : Tst) (l : List Fld) : List (List UInt8) :=
  if cuE T l = 0 then (valT T (bitsAt l (idxF l T.nm))).map (wrapC (posN l (idxF l T.nm)) (posN l l.length - posN l (idxF l T.nm + 1))) else []
def CuAns (w : World) (T : Tst) (l : List Fld) (e : Ending) (w' : World) : Prop := ∃ u, e = .returned (.tuple #[u, .int .i64 (cuE T l)]) ∧ w'.ownsRow w.heap.size 9 1 u (cuT T l).length (sC (cuT T l)) ∧ Below w.heap.size w w'
theorem cu_err {w : World} {T : Tst} {l : List Fld} {c : Int} (h : cuE T l = c) (h0 : c ≠ 0) {w' : World} (hb : Below w.heap.size w w') : CuAns w T l (.returned (.tuple #[.slice none 0 0, .int .i64 c])) w' := by
  have hT : cuT T l = [] := by unfold cuT; rw [h, if_neg h0]
  refine ⟨_, by rw [h], ?_, hb⟩
  rw [hT]
  exact World.ownsRow_nil _ _ _ _
theorem cu_ok {w : World} {T : Tst} {l : List Fld} {k b p q : Nat} {v : Value} (h : cuE T l = 0) (hk : idxF l T.nm = k) (hb : bitsAt l k = b) (hp : posN l k = p) (hq : posN l l.length - posN l (k + 1) = q) {w' : World} (ho : w'.ownsRow w.heap.size 9 1 v ((valT T b).map (wrapC p q)).length (sC ((valT T b).map (wrapC p q)))) (hbl : Below w.heap.size w w') :
    CuAns w T l (.returned (.tuple #[v, .int .i64 0])) w' := by
  have hT : cuT T l = (valT T b).map (wrapC p q) := by unfold cuT; rw [if_pos h, hk, hb, hp, hq]
  refine ⟨v, by rw [h], ?_, hbl⟩
  rw [hT]
  exact ho
theorem cu_chk {T : Tst} {l : List Fld} {c : Int} (h1 : (chk l).1 = c) (h0 : c ≠ 0) : cuE T l = c := by unfold cuE; rw [if_pos (by rw [h1]; exact h0), h1]
theorem cu_tst {T : Tst} {l : List Fld} {c : Int} (h1 : (chk l).1 = 0) (h : tstE T l = c) : cuE T l = c := by unfold cuE; rw [if_neg (by rw [h1]; simp), h]
theorem cu_bd (T : Tst) (l : List Fld) : -9223372036854775808 ≤ cuE T l ∧ cuE T l ≤ 9223372036854775807 := by
  unfold cuE
  split
  · have := chk_form l; omega
  · unfold tstE
    split
    · have := fit_bd T (l[idxF l T.nm].2).toNat; omega
    · decide
theorem pos_drop {l : List Fld} (hw : Wide l) {k : Nat} (hk : k ≤ l.length) : sumTo (l.drop k) (l.drop k).length = ((posN l l.length - posN l k : Nat) : Int) := by
  have h1 := pos_int hw (k := l.length) (Nat.le_refl _)
  have h2 := pos_int hw hk
  have h3 := pos_mono hw hk (Nat.le_refl _)
  have h4 : sumTo l l.length = sumTo l k + sumTo (l.drop k) (l.drop k).length := by
    unfold sumTo
    rw [List.take_length, List.take_length, ← List.sum_append, ← List.map_append, List.take_append_drop]
  omega
theorem drop_slice (l : List Fld) (a : Option Addr) (cap k : Nat) (w : World) (hv : SeesF w (.slice a l.length cap) l) (hk : k ≤ l.length) :
    ∃ a1, (∀ W, (Instr.slice 23 (.slice a l.length cap) (some (.int .i64 (k : Int))) none none).run Tryd.prog W = .ok (.slice a1 (l.length - k) (cap - k)) W) ∧ SeesF w (.slice a1 (l.length - k) (cap - k)) (l.drop k) := by
  obtain ⟨a', cap', hv', hc, hm, hx, hw⟩ := hv
  cases hv'
  obtain ⟨i0, hi, hz0, hz1, hz2⟩ := info_parts info_fld
  have he : Tryd.prog.elem 23 = 27 := by kernel_rfl
  have hs : ∀ W, (sizeOf (Tryd.prog.elem 23)).run Tryd.prog W = .ok 2 W := fun W => by rw [he]; simp [sizeOf, typeInfo, hi, hz1]
  refine ⟨if cap = k then a else a.map (·.add (k * 2)), fun W => ?_, ?_⟩
  · rw [run_slice_l (P := Tryd.prog) W 23 a l.length cap (by rw [he]; exact Tryd.underlying23) .i64 (k : Int) (by omega) (by omega), hs]
    rfl
  · refine ⟨_, _, by rw [List.length_drop], by rw [List.length_drop]; omega, by omega, ?_, fun f hf => hw f (List.mem_of_mem_drop hf)⟩
    rcases hx with hx | ⟨b, off, ha, hlt, hx⟩
    · left; rw [hx]; simp
    · by_cases hlen : k = l.length
      · left; rw [hlen]; simp
      · right
        subst ha
        have hadd : (⟨b, off, none⟩ : Addr).add (k * 2) = ⟨b, off + k * 2, none⟩ := by unfold Addr.add; split <;> simp_all
        refine ⟨b, off + k * 2, by rw [if_neg (by omega)]; exact congrArg some hadd, hlt, fun j f hj => ?_⟩
        rw [List.getElem?_drop] at hj
        have h := hx (k + j) f hj
        rw [show off + k * 2 + j * 2 = off + (k + j) * 2 from by omega, show off + k * 2 + (j * 2 + 1) = off + ((k + j) * 2 + 1) from by omega]
        exact h
theorem width_cut (l : List Fld) (a : Option Addr) (cap k : Nat) (w : World) (hv : SeesF w (.slice a l.length cap) l) (h12 : l.length ≤ 12) (hbd : ∀ j, (hj : j < l.length) → 1 ≤ l[j].2 ∧ l[j].2 ≤ 32) (hk : k ≤ l.length) :
    Calls Tryd.prog 43 #[.slice a k cap] w fun e w' => e = .returned (.int .i64 (sumTo l k)) ∧ Below w.heap.size w w' := by
  have h := width_any (l.take k) _ w (hv.take k hk) (by simp; omega) (fun j hj => by
    rw [List.length_take] at hj
    rw [List.getElem_take]
    exact hbd j (by omega))
  have e : sumTo (l.take k) (l.take k).length = sumTo l k := by
    unfold sumTo
    rw [List.take_length]
  rw [e] at h
  exact h
theorem width_drop (l : List Fld) (a1 : Option Addr) (n c k : Nat) (w : World) (hv : SeesF w (.slice a1 n c) (l.drop k)) (h12 : l.length ≤ 12) (hw : Wide l) (hk : k ≤ l.length) :
    Calls Tryd.prog 43 #[.slice a1 n c] w fun e w' => e = .returned (.int .i64 ((posN l l.length - posN l k : Nat) : Int)) ∧ Below w.heap.size w w' := by
  have h := width_any (l.drop k) _ w hv (by rw [List.length_drop]; omega) (fun j hj => by
    rw [List.length_drop] at hj
    rw [List.getElem_drop]
    exact hw (k + j) (by omega))
  rw [pos_drop hw hk] at h
  exact h
end Go.Proofs.YtaleaicfllcpiaaDoor.Fl
