/- Merged for FieldOwn -/
import Derived.Test.YtlakglphjhoodaaDoorMm
import Derived.Test.YtlakglphjhoodaaDoorLaw
import Derived.Deep.SlicePairs
import Derived.SizedLaws
import Derived.Test.YtlakglphjhoodaaDoorFO
import Derived.ChangeKeysEq
namespace Go.Proofs.YtlakglphjhoodaaDoor.Law
open Go.RowKit Go.WideShapes Go.ChangeShapes Go.ChangeAt Mm
set_option linter.unusedVariables false
set_option linter.unusedSimpArgs false
set_option linter.unusedSectionVars false
abbrev Fld := ByteArray × Int
def SeesF (w : World) (v : Value) (l : List Fld) : Prop :=
  ∃ a cap, v = .slice a l.length cap ∧ l.length ≤ cap ∧ cap ≤ maxLen ∧ (l = [] ∨ ∃ b off, a = some ⟨b, off, none⟩ ∧ b < w.heap.size ∧
    ∀ j f, l[j]? = some f → w.cell? ⟨b, off + j * 2, none⟩ = some (.string f.1) ∧ w.cell? ⟨b, off + (j * 2 + 1), none⟩ = some (.int .i64 f.2)) ∧
    (∀ f ∈ l, f.1.size ≤ maxLen ∧ (Lit.int .i64 f.2).wf = true)
theorem SeesF.below {w w' : World} {v : Value} {l : List Fld} (h : SeesF w v l) (hb : Below w.heap.size w w') : SeesF w' v l := by
  obtain ⟨a, cap, hv, hc, hm, hx, hw⟩ := h
  refine ⟨a, cap, hv, hc, hm, ?_, hw⟩
  rcases hx with hx | ⟨b, off, ha, hlt, hx⟩
  · exact .inl hx
  · refine .inr ⟨b, off, ha, Nat.lt_of_lt_of_le hlt hb.size, fun j f hj => ?_⟩
    obtain ⟨h0, h1⟩ := hx j f hj
    exact ⟨(hb.cell (p := ⟨b, off + j * 2, none⟩) hlt).trans h0, (hb.cell (p := ⟨b, off + (j * 2 + 1), none⟩) hlt).trans h1⟩
theorem SeesF.take {w : World} {a : Option Addr} {cap : Nat} {l : List Fld} (h : SeesF w (.slice a l.length cap) l) (k : Nat) (hk : k ≤ l.length) : SeesF w (.slice a k cap) (l.take k) := by
  obtain ⟨a', cap', hv, hc, hm, hx, hw⟩ := h
  cases hv
  have hl : (l.take k).length = k := by simp; omega
  refine ⟨a, cap, by rw [hl], by omega, hm, ?_, fun f hf => hw f (List.mem_of_mem_take hf)⟩
  rcases hx with hx | ⟨b, off, ha, hlt, hx⟩
  · left; rw [hx]; simp
  · right
    refine ⟨b, off, ha, hlt, fun j f hj => hx j f ?_⟩
    have hjk : j < k := by have := (List.getElem?_eq_some_iff.1 hj).1; omega
    rwa [List.getElem?_take_of_lt hjk] at hj
section
variable {H : Type} {enc : TypeId × Value → H} {P : Program} {W : World}
theorem open_argF {base : Nat} {t e : TypeId} {f0 f1 : Field} {v : Value} {d : DataW H} {p : List MemPlace} (ht : P.underlying t = some (.slice e)) (he : P.underlying e = some (.struct #[f0, f1]))
    (ce : P.cellsOf e = 2) (o0 : f0.offset = 0) (o1 : f1.offset = 1) (c0 : P.cellsOf f0.type = 1) (c1 : P.cellsOf f1.type = 1) (u0 : P.underlying f0.type = some .string) (u1 : P.underlying f1.type = some (.int .i64))
    (hval : Value.okWide P W .any base t v) (h : DataW.Trod enc P W 0 (fun _ => true) true t v d p) :
    ∃ l : List Fld, SeesF W v l ∧ ((d = .nil ∧ l = []) ∨ ∃ es spare, d = .slice es spare ∧ es.length = l.length) := by
  obtain ⟨a1, len, cap, rfl⟩ := okWide_slice ht hval
  obtain ⟨fuel, hf⟩ := h
  rcases Go.Deep.open_slice_pairs ht he ce o0 o1 c0 c1 hf with ⟨hcs, hx⟩ | ⟨a, len', cap', m, n, V0, V1, D0, D1, P0, P1, hcs, _, hl, hm, hmm, hx, hq⟩
  · simp [Value.cells] at hcs
    obtain ⟨rfl, rfl, rfl⟩ := hcs
    simp at hx
    exact ⟨[], ⟨none, 0, rfl, Nat.le_refl _, Nat.zero_le _, .inl rfl, by simp⟩, .inl ⟨hx.1, rfl⟩⟩
  · simp [Value.cells] at hcs
    obtain ⟨rfl, rfl, rfl⟩ := hcs
    simp only [Prod.mk.injEq] at hx
    simp only [if_true] at hmm
    subst hmm
    have each : ∀ i, i < len → ∃ q : Fld, W.cell? (a.add (i * 2)) = some (.string q.1) ∧ W.cell? (a.add (i * 2 + 1)) = some (.int .i64 q.2) ∧ q.1.size ≤ maxLen ∧ (Lit.int .i64 q.2).wf = true := by
      intro i hi
      obtain ⟨g0, g1, t0, t1⟩ := hq i (by omega)
      obtain ⟨s, e0, _, hs⟩ := DataW.trod_string u0 t0
      obtain ⟨z, e1, _, hz⟩ := DataW.trod_int u1 t1
      simp only [List.cons.injEq, and_true] at e0 e1
      exact ⟨(s, z), e0 ▸ g0, e1 ▸ g1, hs, hz⟩
    have hI : Inhabited Fld := ⟨(ByteArray.empty, 0)⟩
    obtain ⟨F, hF⟩ := Go.Deep.choose_lt each
    obtain ⟨b, off, spot⟩ := a
    have hlen : ((List.range len).map F).length = len := by simp
    refine ⟨(List.range len).map F, ⟨some ⟨b, off, spot⟩, _, by rw [hlen], by rw [hlen]; exact hl, hm, ?_, fun f hf => ?_⟩, .inr ⟨_, _, hx.1, by simp⟩⟩
    · by_cases h0 : len = 0
      · left; subst h0; simp
      · right
        have hspot : spot = none := by simpa [Addr.add] using World.cell?_spot (hF 0 (by omega)).1
        subst hspot
        refine ⟨b, off, rfl, World.block_lt_of_cell? W _ (hF 0 (by omega)).1, fun j f hj => ?_⟩
        have hjl : j < len := by
          have := (List.getElem?_eq_some_iff.1 hj).1
          simpa using this
        obtain ⟨g0, g1, _, _⟩ := hF j hjl
        have hf : F j = f := by simpa [List.getElem?_eq_getElem, hjl] using hj
        rw [add_plain] at g0 g1
        rw [← hf]
        exact ⟨g0, g1⟩
    · obtain ⟨i, hi, rfl⟩ := List.mem_map.1 hf
      exact (hF i (by simpa using hi)).2.2
end
end Go.Proofs.YtlakglphjhoodaaDoor.Law

namespace Go.Proofs.YtlakglphjhoodaaDoor.Fl
open Go.RowKit Mm Law
def fcells (l : List Fld) : List Value := l.flatMap fun f => [.string f.1, .int .i64 f.2]
theorem fcells_at (l : List Fld) : ∀ j f, l[j]? = some f → (fcells l)[j * 2]? = some (.string f.1) ∧ (fcells l)[j * 2 + 1]? = some (.int .i64 f.2) := by
  induction l with
  | nil => intro j f h; cases h
  | cons x r ih =>
    intro j f h
    cases j with
    | zero => cases h; exact ⟨rfl, rfl⟩
    | succ j =>
      obtain ⟨h0, h1⟩ := ih j f (by simpa using h)
      refine ⟨?_, ?_⟩
      · rw [show (j + 1) * 2 = j * 2 + 2 by omega]
        exact h0
      · rw [show (j + 1) * 2 + 1 = j * 2 + 1 + 2 by omega]
        exact h1
theorem SeesF.of_own {w : World} {B : Nat} {v : Value} {e : TypeId} {l : List Fld} (h : w.ownsRow B e 2 v l.length (fcells l)) (hm : ∀ f ∈ l, f.1.size ≤ maxLen ∧ (Lit.int .i64 f.2).wf = true) (hc : ∀ a m cap, v = .slice a m cap → cap ≤ maxLen) : SeesF w v l := by
  by_cases h0 : l.length = 0
  · have hl : l = [] := List.eq_nil_of_length_eq_zero h0
    subst hl
    rcases h.2 with ⟨rfl, _⟩ | ⟨g, cap, cur, rfl, _, _, hle, _⟩
    · exact ⟨none, 0, rfl, Nat.le_refl _, Nat.zero_le _, .inl rfl, hm⟩
    · exact ⟨_, cap, rfl, hle, hc _ _ _ rfl, .inl rfl, hm⟩
  · obtain ⟨g, cap, rfl, hle, _, hlt, hx⟩ := own_at h (by omega)
    exact ⟨_, cap, rfl, hle, hc _ _ _ rfl, .inr ⟨g, 0, rfl, hlt, fun j f hj => by
      obtain ⟨h0, h1⟩ := fcells_at l j f hj
      rw [Nat.zero_add, Nat.zero_add]
      exact ⟨hx _ _ h0, hx _ _ h1⟩⟩, hm⟩
end Go.Proofs.YtlakglphjhoodaaDoor.Fl

namespace Go.Proofs.YtlakglphjhoodaaDoor.Fl
open Go.RowKit Mm Law
theorem fld_neq (s : ByteArray) (b : Int) (w : World) : (binOp .neq 27 (.agg #[.string s, .int .i64 b]) (.agg #[.string s, .int .i64 b])).run Tryd.prog w = .ok (.bool false) w := by
  rw [run_neq_struct]
  simp [go_sem]
end Go.Proofs.YtlakglphjhoodaaDoor.Fl

namespace Go.Proofs.YtlakglphjhoodaaDoor.Fl
open Go.RowKit Mm Law
theorem info_fld : (Tryd.prog.info? 27).map (fun i => (i.zero, i.size, i.bytes)) = some (some (.agg #[.string ⟨#[]⟩, .int .i64 0]), 2, 24) := by kernel_rfl
theorem fcells_snoc (l : List Fld) (f : Fld) : fcells (l ++ [f]) = fcells l ++ [.string f.1, .int .i64 f.2] := by simp [fcells]
theorem app_fld {B : Nat} {v : Value} {m : Nat} {L : List Fld} {w : World} {s0 : ByteArray} {b0 : Int} {ops : Array Oper} {rest : List Oper} {op : Oper} {a : Act} {Q : Exit → Act → World → Prop} {s x : Operand}
    (hown : w.ownsRow B 27 2 v m (fcells L)) (hgd : op.guard = none) (ho : op.op = .call { callee := .builtin .append, args := #[s, x], argTypes := #[24, 24] })
    (hs : a.eval s = v) (hx : a.eval x = .slice (some ⟨w.heap.size, 0, none⟩) 1 1) (hn : (m + 1) * 24 ≤ 140737488355328) (hB : B ≤ w.heap.size)
    (h : ∀ v' w', w'.ownsRow B 27 2 v' (m + 1) (fcells (L ++ [(s0, b0)])) → Below B w w' → wpList Tryd.prog ops Q rest (a.put op.dst v') w') : wpList Tryd.prog ops Q (op :: rest) a (w.alloc (.cells #[.string s0, .int .i64 b0] 27)) := by
  obtain ⟨i0, hi, hz0, hz1, hz2⟩ := info_parts info_fld
  refine wpList_append_own _ hgd s x 24 ho B 27 i0 _ 2 24 Tryd.underlying24 hi hz0 hz1 hz2 rfl (by decide) v m _ hs (hown.alloc _) ⟨w.heap.size, 0, none⟩ 1 1 [.string s0, .int .i64 b0] hx rfl (cells_new _ #[.string s0, .int .i64 b0] _)
    (by simp [Value.oneCell']) (by simp only [maxLen]; omega) (by omega) (by simp; omega) ?_
  intro v' w1 hown' hg _
  refine h v' w1 (by rw [fcells_snoc]; exact hown') ?_
  have h1 : Below B w (w.alloc (.cells #[.string s0, .int .i64 b0] 27)) := (Below.refl _ _).alloc hB _
  exact h1.grown hg (by simp; omega) (fun k hk => (hown.lt k hk).1)
end Go.Proofs.YtlakglphjhoodaaDoor.Fl

namespace Go.Proofs.YtlakglphjhoodaaDoor.Fl
open Go.RowKit Mm Law
theorem str_ne {s t : ByteArray} (h : ¬ s = t) : (s.toList == t.toList) = false := by
  rw [ByteArray.toList_eq, ByteArray.toList_eq, beq_eq_false_iff_ne]
  intro e
  apply h
  cases s with
  | mk a => cases t with
    | mk b => simp only [ByteArray.mk.injEq]; exact Array.toList_inj.1 e
theorem str_eq (s : ByteArray) : (s.toList == s.toList) = true := by simp
set_option maxRecDepth 100000 in
set_option maxHeartbeats 2000000 in
theorem find_any (l : List Fld) (v : Value) (t : ByteArray) (w : World) (hv : SeesF w v l) :
    Calls Tryd.prog 28 #[v, .string t] w fun e w' => ∃ r : Int, e = .returned (.int .i64 r) ∧ (0 ≤ r ↔ ∃ f ∈ l, f.1 = t) ∧ Below w.heap.size w w' := by
  obtain ⟨a0, cap0, rfl, hcap, hcm, hx, _⟩ := hv
  have HX := Lib.hid hx
  unfold maxLen at hcm
  clear hx
  go_enter Tryd.func28, Tryd.ntmps28
  go_wp2
  go_loopw [9] (fun i wr => ∃ k : Nat, k ≤ l.length ∧ i = .int .i64 k ∧ Below w.heap.size w wr ∧ ∀ (j : Nat) (h : j < l.length), j < k → ¬ l[j].1 = t) (fun i _ => l.length - (intOf i).toNat)
  case atStart => exact ⟨0, Nat.zero_le _, rfl, Below.refl _ _, fun j _ hj => absurd hj (by omega)⟩
  case round =>
    obtain ⟨k, hk, rfl, hbel, hno⟩ := hrel
    have HN := Lib.hid hno
    clear hno
    by_cases hlt : k < l.length
    · obtain ⟨g, off, rfl, hg, hq⟩ : ∃ g off, a0 = some ⟨g, off, none⟩ ∧ g < w.heap.size ∧ ∀ j f, l[j]? = some f → w.cell? ⟨g, off + j * 2, none⟩ = some (.string f.1) ∧ w.cell? ⟨g, off + (j * 2 + 1), none⟩ = some (.int .i64 f.2) := by
        rcases HX.out with h0 | h0
        · rw [h0] at hlt; simp at hlt
        · exact h0
      have q0 := (hq k l[k] (by simp [hlt])).1
      have q1 := (hq k l[k] (by simp [hlt])).2
      rw [← hbel.cell (p := ⟨g, off + k * 2, none⟩) hg] at q0
      rw [← hbel.cell (p := ⟨g, off + (k * 2 + 1), none⟩) hg] at q1
      rw [← Nat.add_assoc] at q1
      have HM := Lib.hid (show l[k] ∈ l from List.getElem_mem hlt)
      have HK := Lib.hid (show ∀ (h : k < l.length), l[k].1 = l[k].1 from fun _ => rfl)
      generalize hf : l[k] = f at *
      have HF := Lib.hid hf
      obtain ⟨s, b⟩ := f
      simp only at q0 q1
      clear hq hf
      by_cases hst : s = t
      · subst hst
        have he := str_eq s
        go_wp2
        go_ret
        exact ⟨_, rfl, ⟨fun _ => (by first | exact ⟨_, HM.out⟩ | exact ⟨_, HM.out, rfl⟩), fun _ => by omega⟩, bnx hbel (by go_grown)⟩
      · have he := str_ne hst
        have HS := Lib.hid hst
        clear hst
        go_wp2
        go_roundw
        case rel => exact ⟨k + 1, by omega, by go_num, bnx hbel (by go_grown), fun j h hj => by rcases Nat.lt_succ_iff_lt_or_eq.1 hj with h1 | rfl; exact HN.out j h h1; rw [HF.out]; exact HS.out⟩
        case measure => simp [intOf]; omega
    · have HN2 := Lib.hid (show ¬ ∃ f ∈ l, f.1 = t from fun ⟨f, hf, he⟩ => by obtain ⟨j, hj, rfl⟩ := List.getElem_of_mem hf; exact HN.out j hj (by omega) he)
      go_wp2
      go_ret
      exact ⟨_, rfl, ⟨fun h => absurd h (by omega), fun h => absurd h HN2.out⟩, hbel⟩
end Go.Proofs.YtlakglphjhoodaaDoor.Fl

namespace Go.Proofs.YtlakglphjhoodaaDoor.Fl
open Go.RowKit Mm Law
def sumTo (l : List Fld) (k : Nat) : Int := ((l.take k).map (·.2)).sum
def anyS : ByteArray := ⟨#[97, 110, 121]⟩
def noneS : ByteArray := ⟨#[110, 111, 110, 101]⟩
def badAt (l : List Fld) (k : Nat) (f : Fld) : Prop :=
  ¬ nameOk f.1 ∨ f.1 = anyS ∨ f.1 = noneS ∨ (∃ g ∈ l.take k, g.1 = f.1) ∨ f.2 < 1 ∨ 32 < f.2 ∨ 256 < sumTo l k + f.2
open Classical in
noncomputable def chkFrom (l : List Fld) (k : Nat) : Int × Int := if h : k < l.length then (if badAt l k l[k] then (40, (k : Int)) else chkFrom l (k + 1)) else (0, 0)
termination_by l.length - k
noncomputable def chk (l : List Fld) : Int × Int := if 12 < l.length then (2, 0) else if l = [] then (40, 0) else chkFrom l 0
theorem chkFrom_bad {l : List Fld} {k : Nat} (h : k < l.length) (hb : badAt l k l[k]) : chkFrom l k = (40, (k : Int)) := by
  rw [chkFrom, dif_pos h, if_pos hb]
theorem chkFrom_ok {l : List Fld} {k : Nat} (h : k < l.length) (hb : ¬ badAt l k l[k]) : chkFrom l k = chkFrom l (k + 1) := by
  rw [chkFrom, dif_pos h, if_neg hb]
theorem chkFrom_end {l : List Fld} {k : Nat} (h : ¬ k < l.length) : chkFrom l k = (0, 0) := by
  rw [chkFrom, dif_neg h]
theorem sumTo_succ {l : List Fld} {k : Nat} (h : k < l.length) : sumTo l (k + 1) = sumTo l k + l[k].2 := by
  unfold sumTo
  rw [List.take_succ_eq_append_getElem h, List.map_append, List.sum_append]
  simp only [List.map_cons, List.map_nil, List.sum_cons, List.sum_nil, Int.add_zero]
theorem sumTo_zero (l : List Fld) : sumTo l 0 = 0 := by simp [sumTo]
theorem check_long (l : List Fld) (v : Value) (w : World) (hv : SeesF w v l) (h : 12 < l.length) :
    Calls Tryd.prog 27 #[v] w fun e w' => e = .returned (.tuple #[.int .i64 2, .int .i64 0]) ∧ Below w.heap.size w w' := by
  obtain ⟨a0, cap0, rfl, hcap, hcm, _, _⟩ := hv
  unfold maxLen at hcm
  go_enter Tryd.func27, Tryd.ntmps27
  go_wp2
  all_goals refine bodyPost_ret (v := .tuple #[.int .i64 2, .int .i64 0]) (by simp [results, Tryd.results27, go_sem]) rfl ⟨rfl, Below.refl _ _⟩
theorem check_nil (v : Value) (w : World) (hv : SeesF w v []) :
    Calls Tryd.prog 27 #[v] w fun e w' => e = .returned (.tuple #[.int .i64 40, .int .i64 0]) ∧ Below w.heap.size w w' := by
  obtain ⟨a0, cap0, rfl, hcap, hcm, _, _⟩ := hv
  unfold maxLen at hcm
  simp only [List.length_nil]
  go_enter Tryd.func27, Tryd.ntmps27
  go_wp2
  all_goals refine bodyPost_ret (v := .tuple #[.int .i64 40, .int .i64 0]) (by simp [results, Tryd.results27, go_sem]) rfl ⟨rfl, Below.refl _ _⟩
end Go.Proofs.YtlakglphjhoodaaDoor.Fl
