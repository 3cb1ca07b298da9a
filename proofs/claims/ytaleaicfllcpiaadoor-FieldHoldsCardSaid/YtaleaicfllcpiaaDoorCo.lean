/- The laws' copy of a list of fields. -/
import Derived.Test.YtaleaicfllcpiaaDoorUn
namespace Go.Proofs.YtaleaicfllcpiaaDoor.Fl
open Go.RowKit Mm Law
set_option linter.unusedVariables false
set_option linter.unusedSimpArgs false
set_option linter.unusedSectionVars false
theorem info_fld : (Tryd.prog.info? 27).map (fun i => (i.zero, i.size, i.bytes)) = some (some (.agg #[.string ⟨#[]⟩, .int .i64 0]), 2, 24) := by kernel_rfl
theorem fcells_snoc (l : List Fld) (f : Fld) : fcells (l ++ [f]) = fcells l ++ [.string f.1, .int .i64 f.2] := by simp [fcells]
theorem app_fld {B : Nat} {v : Value} {m : Nat} {L : List Fld} {w : World} {s0 : ByteArray} {b0 : Int} {ops : Array Oper} {rest : List Oper} {op : Oper} {a : Act} {Q : Exit → Act → World → Prop} {s x : Operand}
    (hown : w.ownsRow B 27 2 v m (fcells L)) (hgd : op.guard = none) (ho : op.op = .call { callee := .builtin .append, args := #[s, x], argTypes := #[23, 23] })
    (hs : a.eval s = v) (hx : a.eval x = .slice (some ⟨w.heap.size, 0, none⟩) 1 1) (hn : (m + 1) * 24 ≤ 140737488355328) (hB : B ≤ w.heap.size)
    (h : ∀ v' w', w'.ownsRow B 27 2 v' (m + 1) (fcells (L ++ [(s0, b0)])) → Below B w w' → wpList Tryd.prog ops Q rest (a.put op.dst v') w') : wpList Tryd.prog ops Q (op :: rest) a (w.alloc (.cells #[.string s0, .int .i64 b0] 27)) := by
  obtain ⟨i0, hi, hz0, hz1, hz2⟩ := info_parts info_fld
  refine wpList_append_own _ hgd s x 23 ho B 27 i0 _ 2 24 Tryd.underlying23 hi hz0 hz1 hz2 rfl (by decide) v m _ hs (hown.alloc _) ⟨w.heap.size, 0, none⟩ 1 1 [.string s0, .int .i64 b0] hx rfl (cells_new _ #[.string s0, .int .i64 b0] _)
    (by simp [Value.oneCell']) (by simp only [maxLen]; omega) (by omega) (by simp; omega) ?_
  intro v' w1 hown' hg _
  refine h v' w1 (by rw [fcells_snoc]; exact hown') ?_
  have h1 : Below B w (w.alloc (.cells #[.string s0, .int .i64 b0] 27)) := (Below.refl _ _).alloc hB _
  exact h1.grown hg (by simp; omega) (fun k hk => (hown.lt k hk).1)
set_option maxRecDepth 100000 in
set_option maxHeartbeats 2000000 in
theorem copy_any (l : List Fld) (v : Value) (w : World) (hv : SeesF w v l) (hsz : l.length * 24 ≤ 140737488355328) :
    Calls Tryd.prog 18 #[v] w fun e w' => ∃ v', e = .returned v' ∧ w'.ownsRow w.heap.size 27 2 v' l.length (fcells l) ∧ Below w.heap.size w w' := by
  obtain ⟨a0, cap0, rfl, hcap, hcm, hx, _⟩ := hv
  have HX := Lib.hid hx
  have HSZ := Lib.hid hsz
  unfold maxLen at hcm
  clear hx hsz
  go_enter Tryd.func18, Tryd.ntmps18
  go_wp2
  go_loopw [3, 4] (fun m i wr => ∃ k : Nat, k ≤ l.length ∧ i = .int .i64 k ∧ Below w.heap.size w wr ∧ wr.ownsRow w.heap.size 27 2 m k (fcells (l.take k))) (fun _ i _ => l.length - (intOf i).toNat)
  case atStart => exact ⟨0, Nat.zero_le _, rfl, Below.refl _ _, World.ownsRow_nil _ _ _ _⟩
  case round =>
    obtain ⟨k, hk, rfl, hbel, hown⟩ := hrel
    have HO := Lib.hid hown
    clear hown
    by_cases hlt : k < l.length
    · obtain ⟨g, off, rfl, hg, hq⟩ : ∃ g off, a0 = some ⟨g, off, none⟩ ∧ g < w.heap.size ∧ ∀ j f, l[j]? = some f → w.cell? ⟨g, off + j * 2, none⟩ = some (.string f.1) ∧ w.cell? ⟨g, off + (j * 2 + 1), none⟩ = some (.int .i64 f.2) := by
        rcases HX.out with h0 | h0
        · rw [h0] at hlt; simp at hlt
        · exact h0
      have q0 := (hq k l[k] (by simp [hlt])).1
      have q1 := (hq k l[k] (by simp [hlt])).2
      rw [← hbel.cell (p := ⟨g, off + k * 2, none⟩) hg] at q0
      rw [← hbel.cell (p := ⟨g, off + (k * 2 + 1), none⟩) hg] at q1
      rw [← Nat.add_assoc] at q1
      have HT := Lib.hid (show l.take (k + 1) = l.take k ++ [l[k]] from List.take_succ_eq_append_getElem hlt)
      generalize l[k] = f at *
      obtain ⟨s, b⟩ := f
      simp only at q0 q1
      clear hq
      go_wp2_with (at_builtin; refine app_fld HO.out rfl rfl rfl rfl (by have := HSZ.out; omega) hbel.size ?_; intro v1 w1 hown1 hb1)
      go_roundw
      case rel => exact ⟨k + 1, by omega, by go_num, hbel.trans hb1, by rw [HT.out]; exact hown1⟩
      case measure => simp [intOf]; omega
    · have hkk : k = l.length := by omega
      have HO2 := Lib.hid (show wr.ownsRow w.heap.size 27 2 u3 l.length (fcells l) from by have := HO.out; rw [hkk, List.take_length] at this; exact this)
      go_wp2
      go_ret
      exact ⟨_, rfl, HO2.out, hbel⟩
end Go.Proofs.YtaleaicfllcpiaaDoor.Fl
