/- The program's text of a character. -/
import Derived.Test.YtcikhbbljhkheaaDoorQy
namespace Go.Proofs.YtcikhbbljhkheaaDoor.Sn
open Go.RowKit Mm
set_option linter.unusedVariables false
theorem others_below {w w' : World} (e : TypeId) (h : Below w.heap.size w w') : Lib.OthersKept e none w w' := fun k o hk _ _ => (h.block k (Array.getElem?_eq_some_iff.1 hk).1).trans hk
theorem AppR.after {w w1 w' : World} {B n : Nat} {l bs : List UInt8} {e : Ending} (hb : Below w.heap.size w w1) (hB : B ≤ w.heap.size) (h : AppR w1 B n l bs e w') : AppR w B n l bs e w' := by
  obtain ⟨v', he, ho, h1, h2⟩ := h
  exact ⟨v', he, ho, (hb.mono hB).trans h1, (others_below _ hb).trans h2⟩
theorem AppR.then {w w1 w' : World} {B n : Nat} {l bs cs : List UInt8} {v1 : Value} {e : Ending} (h1 : AppR w B n l bs (.returned v1) w1) (h2 : AppR w1 B (n + bs.length) (l ++ bs) cs e w') : AppR w B n l (bs ++ cs) e w' := by
  obtain ⟨v', he, ho, hb, hk⟩ := h1
  obtain ⟨v2, he2, ho2, hb2, hk2⟩ := h2
  exact ⟨v2, he2, by rw [List.length_append, ← Nat.add_assoc, ← List.append_assoc]; exact ho2, hb.trans hb2, hk.trans hk2⟩
theorem app_lit {B : Nat} {v : Value} {n : Nat} {l : List UInt8} {w : World} (bs : List UInt8) {ops : Array Oper} {rest : List Oper} {o : Oper} {a : Act} {Q : Exit → Act → World → Prop} {s x : Operand}
    (hown : w.ownsRow B 5 1 v n (l.map bv)) (hgd : o.guard = none) (ho : o.op = .call { callee := .builtin .append, args := #[s, x], argTypes := #[31, 9] })
    (hs : a.eval s = v) (hx : a.eval x = .string (str bs)) (hn : n + bs.length ≤ 1000000) (hB : B ≤ w.heap.size)
    (h : ∀ v' w', AppR w B n l bs (.returned v') w' → wpList Tryd.prog ops Q rest (a.put o.dst v') w') : wpList Tryd.prog ops Q (o :: rest) a w := by
  obtain ⟨i0, hi, hz0, hz1, hz2⟩ := info_parts info_u8
  have hz : (str bs).size = bs.length := str_size bs
  refine Lib.wpList_append_own_string _ hgd s x 31 9 ho B 5 i0 Tryd.underlying31 Tryd.underlying9 hi hz0 hz1 hz2 v n _ hs hown (str bs) hx (by rw [hz]; simp only [maxLen]; omega) (by rw [hz]; omega) hB ?_
  intro v' w1 hown' hg _
  refine h v' w1 ⟨v', rfl, ?_, ?_, ?_⟩
  · rw [hz] at hown'
    rw [List.map_append]
    exact hown'
  · exact below_grown hown hg hB
  · exact (Lib.OthersKept.refl _ none w).grown hg (Lib.ownsRow_kind hown)
theorem rune_any (B n : Nat) (l : List UInt8) (v : Value) (c : Nat) (hc : c ≤ 1114111) (hn : n ≤ 100000) (w : World) (ho : w.ownsRow B 5 1 v n (l.map bv)) (hB : B ≤ w.heap.size) :
    Calls Tryd.prog 21 #[v, .int .i32 (c : Int)] w (AppR w B n l (Lib.encodeRune (c : Int))) := by
  refine (Tryd.utf8_AppendRune_plain B v n _ (c : Int) (by omega) (by omega) w ho (by omega) hB).mono ?_
  rintro e w' ⟨v', he, ho', ob, hg⟩
  have hl : (Lib.runeCells (c : Int)).length = (Lib.encodeRune (c : Int)).length := by unfold Lib.runeCells Lib.encodeRune; rw [List.length_map, List.length_map]
  refine ⟨v', he, ?_, ?_, ?_⟩
  · rw [hl, ← Lib.byteCells_encodeRune] at ho'
    rw [List.map_append]
    exact ho'
  · exact ((Below.refl _ _).alloc hB ob).grown hg (by simp; omega) (fun k hk => (ho.lt k hk).1)
  · exact ((Lib.OthersKept.refl _ none w).alloc ob).grown hg (Lib.ownsRow_kind (ho.alloc _))
set_option maxRecDepth 100000 in
set_option maxHeartbeats 4000000 in
theorem write_34 (B n : Nat) (l : List UInt8) (v : Value) (hn : n ≤ 100000) (w : World) (ho : w.ownsRow B 5 1 v n (l.map bv)) (hB : B ≤ w.heap.size) :
    Calls Tryd.prog 11 #[v, .int .i32 34] w (AppR w B n l (runeP 34)) := by
  have HI := Lib.hid (idx_any 34 (by unfold okR; omega))
  rw [show escI 34 = 0 from rfl, show (((34 : Nat) : Int)) = 34 from rfl] at HI
  have HO := Lib.hid (fun w' (h : Below w.heap.size w w') => own_below ho h (Nat.le_refl _))
  have HP := Lib.hid (show runeP 34 = [92, 34] from rfl)
  clear ho
  go_enter Tryd.func11, Tryd.ntmps11
  go_wp2_with fail
  refine (HI.out _).mono ?_
  rintro e w1 ⟨rfl, hb1⟩
  have HB1 := Lib.hid hb1
  have HN := Lib.hid hn
  clear hn hb1
  go_wp2_with (at_builtin; refine app_bs [92, 34] 2 (HO.out _ HB1.out) rfl rfl rfl rfl rfl rfl (by have := HN.out; omega) (by have := HB1.out.size; omega) ?_; intro v2 w2 hr2)
  go_ret
  rw [HP.out]
  exact hr2.after HB1.out hB

set_option maxRecDepth 100000 in
set_option maxHeartbeats 4000000 in
theorem write_92 (B n : Nat) (l : List UInt8) (v : Value) (hn : n ≤ 100000) (w : World) (ho : w.ownsRow B 5 1 v n (l.map bv)) (hB : B ≤ w.heap.size) :
    Calls Tryd.prog 11 #[v, .int .i32 92] w (AppR w B n l (runeP 92)) := by
  have HI := Lib.hid (idx_any 92 (by unfold okR; omega))
  rw [show escI 92 = 1 from rfl, show (((92 : Nat) : Int)) = 92 from rfl] at HI
  have HO := Lib.hid (fun w' (h : Below w.heap.size w w') => own_below ho h (Nat.le_refl _))
  have HP := Lib.hid (show runeP 92 = [92, 92] from rfl)
  clear ho
  go_enter Tryd.func11, Tryd.ntmps11
  go_wp2_with fail
  refine (HI.out _).mono ?_
  rintro e w1 ⟨rfl, hb1⟩
  have HB1 := Lib.hid hb1
  have HN := Lib.hid hn
  clear hn hb1
  go_wp2_with (at_builtin; refine app_bs [92, 92] 2 (HO.out _ HB1.out) rfl rfl rfl rfl rfl rfl (by have := HN.out; omega) (by have := HB1.out.size; omega) ?_; intro v2 w2 hr2)
  go_ret
  rw [HP.out]
  exact hr2.after HB1.out hB

set_option maxRecDepth 100000 in
set_option maxHeartbeats 4000000 in
theorem write_10 (B n : Nat) (l : List UInt8) (v : Value) (hn : n ≤ 100000) (w : World) (ho : w.ownsRow B 5 1 v n (l.map bv)) (hB : B ≤ w.heap.size) :
    Calls Tryd.prog 11 #[v, .int .i32 10] w (AppR w B n l (runeP 10)) := by
  have HI := Lib.hid (idx_any 10 (by unfold okR; omega))
  rw [show escI 10 = 2 from rfl, show (((10 : Nat) : Int)) = 10 from rfl] at HI
  have HO := Lib.hid (fun w' (h : Below w.heap.size w w') => own_below ho h (Nat.le_refl _))
  have HP := Lib.hid (show runeP 10 = [92, 110] from rfl)
  clear ho
  go_enter Tryd.func11, Tryd.ntmps11
  go_wp2_with fail
  refine (HI.out _).mono ?_
  rintro e w1 ⟨rfl, hb1⟩
  have HB1 := Lib.hid hb1
  have HN := Lib.hid hn
  clear hn hb1
  go_wp2_with (at_builtin; refine app_bs [92, 110] 2 (HO.out _ HB1.out) rfl rfl rfl rfl rfl rfl (by have := HN.out; omega) (by have := HB1.out.size; omega) ?_; intro v2 w2 hr2)
  go_ret
  rw [HP.out]
  exact hr2.after HB1.out hB

set_option maxRecDepth 100000 in
set_option maxHeartbeats 4000000 in
theorem write_13 (B n : Nat) (l : List UInt8) (v : Value) (hn : n ≤ 100000) (w : World) (ho : w.ownsRow B 5 1 v n (l.map bv)) (hB : B ≤ w.heap.size) :
    Calls Tryd.prog 11 #[v, .int .i32 13] w (AppR w B n l (runeP 13)) := by
  have HI := Lib.hid (idx_any 13 (by unfold okR; omega))
  rw [show escI 13 = 3 from rfl, show (((13 : Nat) : Int)) = 13 from rfl] at HI
  have HO := Lib.hid (fun w' (h : Below w.heap.size w w') => own_below ho h (Nat.le_refl _))
  have HP := Lib.hid (show runeP 13 = [92, 114] from rfl)
  clear ho
  go_enter Tryd.func11, Tryd.ntmps11
  go_wp2_with fail
  refine (HI.out _).mono ?_
  rintro e w1 ⟨rfl, hb1⟩
  have HB1 := Lib.hid hb1
  have HN := Lib.hid hn
  clear hn hb1
  go_wp2_with (at_builtin; refine app_bs [92, 114] 2 (HO.out _ HB1.out) rfl rfl rfl rfl rfl rfl (by have := HN.out; omega) (by have := HB1.out.size; omega) ?_; intro v2 w2 hr2)
  go_ret
  rw [HP.out]
  exact hr2.after HB1.out hB

set_option maxRecDepth 100000 in
set_option maxHeartbeats 4000000 in
theorem write_9 (B n : Nat) (l : List UInt8) (v : Value) (hn : n ≤ 100000) (w : World) (ho : w.ownsRow B 5 1 v n (l.map bv)) (hB : B ≤ w.heap.size) :
    Calls Tryd.prog 11 #[v, .int .i32 9] w (AppR w B n l (runeP 9)) := by
  have HI := Lib.hid (idx_any 9 (by unfold okR; omega))
  rw [show escI 9 = 4 from rfl, show (((9 : Nat) : Int)) = 9 from rfl] at HI
  have HO := Lib.hid (fun w' (h : Below w.heap.size w w') => own_below ho h (Nat.le_refl _))
  have HP := Lib.hid (show runeP 9 = [92, 116] from rfl)
  clear ho
  go_enter Tryd.func11, Tryd.ntmps11
  go_wp2_with fail
  refine (HI.out _).mono ?_
  rintro e w1 ⟨rfl, hb1⟩
  have HB1 := Lib.hid hb1
  have HN := Lib.hid hn
  clear hn hb1
  go_wp2_with (at_builtin; refine app_bs [92, 116] 2 (HO.out _ HB1.out) rfl rfl rfl rfl rfl rfl (by have := HN.out; omega) (by have := HB1.out.size; omega) ?_; intro v2 w2 hr2)
  go_ret
  rw [HP.out]
  exact hr2.after HB1.out hB

end Go.Proofs.YtcikhbbljhkheaaDoor.Sn
