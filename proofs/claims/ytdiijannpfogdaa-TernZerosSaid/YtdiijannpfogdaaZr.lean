/- TernZeros. -/
import Derived.Test.YtdiijannpfogdaaMt
import Derived.Test.YtdiijannpfogdaaIm
import Derived.Test.YtdiijannpfogdaaHg
import Derived.Test.YtdiijannpfogdaaHu
import Derived.Test.YtdiijannpfogdaaLo
import Derived.Deep.RegionHeld3
namespace Go.Proofs.Ytdiijannpfogdaa.Tn
open Go.RowKit
abbrev zl : Value := .agg #[.int .i64 0, .int .u64 0, .int .u64 0, .int .u64 0, .int .u64 0, .int .u64 0, .int .u64 0, .int .u64 0, .int .u64 0]
abbrev zc : Array Value := #[.int .i64 0, .int .u64 0, .int .u64 0, .int .u64 0, .int .u64 0, .int .u64 0, .int .u64 0, .int .u64 0, .int .u64 0]
theorem nfit_l (u : List UInt8) : ¬ fitT [] u := fun h => h.1 rfl
theorem nfit_r (t : List UInt8) : ¬ fitT t [] := fun h => h.1 (List.eq_nil_of_length_eq_zero h.2)
theorem nmeet_l (u : List UInt8) : ¬ meetOk [] u := fun h => nfit_l u h.1
theorem nmeet_r (t : List UInt8) : ¬ meetOk t [] := fun h => nfit_r t h.1
theorem nil_cv {n : Nat} {c o : Nat → Bool} (h : Cub [] n c o) : cv n c o = zl := by
  obtain ⟨rfl, rfl, rfl⟩ := h.nil
  exact cv_zero
section
variable {t : List UInt8} {n : Nat} {c o : Nat → Bool}
theorem zmeet1 (h : Cub t n c o) (w : World) : Calls Try.prog 36 #[zl, cv n c o] w fun e w' => e = .returned (.tuple #[zl, .bool false]) ∧ Below w.heap.size w w' := by
  have k := meet_lit nilCub h false (decide_eq_false (nmeet_l _)) w
  rw [cv_zero] at k
  refine k.mono fun e w' ⟨n', c', o', hC, he, hb⟩ => ⟨?_, hb⟩
  unfold meetT at hC
  rw [if_neg (nmeet_l _)] at hC
  rw [he, nil_cv hC]
theorem zmeet2 (h : Cub t n c o) (w : World) : Calls Try.prog 36 #[cv n c o, zl] w fun e w' => e = .returned (.tuple #[zl, .bool false]) ∧ Below w.heap.size w w' := by
  have k := meet_lit h nilCub false (decide_eq_false (nmeet_r _)) w
  rw [cv_zero] at k
  refine k.mono fun e w' ⟨n', c', o', hC, he, hb⟩ => ⟨?_, hb⟩
  unfold meetT at hC
  rw [if_neg (nmeet_r _)] at hC
  rw [he, nil_cv hC]
theorem zbef1 (h : Cub t n c o) (w : World) : Calls Try.prog 45 #[zl, cv n c o] w fun e w' => e = .returned (.tuple #[zl, .bool false]) ∧ Below w.heap.size w w' := by
  have k := before_lit nilCub h false (decide_eq_false (nmeet_l _)) w
  rw [cv_zero] at k
  refine k.mono fun e w' ⟨n', c', o', hC, he, hb⟩ => ⟨?_, hb⟩
  unfold beforeT at hC
  rw [if_neg (nmeet_l _)] at hC
  rw [he, nil_cv hC]
theorem zbef2 (h : Cub t n c o) (w : World) : Calls Try.prog 45 #[cv n c o, zl] w fun e w' => e = .returned (.tuple #[zl, .bool false]) ∧ Below w.heap.size w w' := by
  have k := before_lit h nilCub false (decide_eq_false (nmeet_r _)) w
  rw [cv_zero] at k
  refine k.mono fun e w' ⟨n', c', o', hC, he, hb⟩ => ⟨?_, hb⟩
  unfold beforeT at hC
  rw [if_neg (nmeet_r _)] at hC
  rw [he, nil_cv hC]
theorem zwr1 (h : Cub t n c o) (w : World) : Calls Try.prog 31 #[zl, cv n c o] w fun e w' => e = .returned zl ∧ Below w.heap.size w w' := by
  have k := write_any nilCub h w
  rw [cv_zero] at k
  refine k.mono fun e w' ⟨n', c', o', hC, he, hb⟩ => ⟨?_, hb⟩
  unfold writeT at hC
  rw [if_neg (nfit_l _)] at hC
  rw [he, nil_cv hC]
theorem zwr2 (h : Cub t n c o) (w : World) : Calls Try.prog 31 #[cv n c o, zl] w fun e w' => e = .returned zl ∧ Below w.heap.size w w' := by
  have k := write_any h nilCub w
  rw [cv_zero] at k
  refine k.mono fun e w' ⟨n', c', o', hC, he, hb⟩ => ⟨?_, hb⟩
  unfold writeT at hC
  rw [if_neg (nfit_r _)] at hC
  rw [he, nil_cv hC]
theorem zwi1 (h : Cub t n c o) (w : World) : Calls Try.prog 41 #[zl, cv n c o] w fun e w' => e = .returned (.bool false) ∧ Below w.heap.size w w' := by
  have k := within_lit nilCub h false (decide_eq_false fun e => nfit_l _ e.1) w
  rw [cv_zero] at k
  exact k
theorem zwi2 (h : Cub t n c o) (w : World) : Calls Try.prog 41 #[cv n c o, zl] w fun e w' => e = .returned (.bool false) ∧ Below w.heap.size w w' := by
  have k := within_lit h nilCub false (decide_eq_false fun e => nfit_r _ e.1) w
  rw [cv_zero] at k
  exact k
theorem zhas (s : ByteArray) (w : World) : Calls Try.prog 34 #[zl, .string s] w fun e w' => e = .returned (.bool false) ∧ Below w.heap.size w w' := by
  have k := has_lit nilCub s false (decide_eq_false fun e => e.1.1 rfl) w
  rw [cv_zero] at k
  exact k
theorem ztext (w : World) : Calls Try.prog 44 #[zl] w fun e w' => e = .returned (.string ⟨#[]⟩) ∧ Below w.heap.size w w' := by
  have k := text_any [] 0 no no w nilCub
  rw [cv_zero] at k
  exact k
theorem zhull1 (h : Cub t n c o) (w : World) (v : Value) (hS : Sees w v [t]) : Calls Try.prog 38 #[zl, v] w fun e w' => e = .returned (.tuple #[zl, .int .i64 11]) ∧ Below w.heap.size w w' := by
  have k := hull_any nilCub (L := [t]) (fun x hx => ⟨n, c, o, by rw [List.mem_singleton.1 hx]; exact h⟩) w v hS (by simp)
  rw [cv_zero] at k
  refine k.mono fun e w' ⟨n', c', o', hC, he, hb⟩ => ⟨?_, hb⟩
  have hno : ¬ hullOk [] [t] := fun e => e.1 rfl
  unfold hullT at hC
  unfold hullE at he
  rw [if_neg hno] at hC he
  rw [he, nil_cv hC]
theorem zhull2 (h : Cub t n c o) (w : World) (v : Value) (hS : Sees w v [[]]) : Calls Try.prog 38 #[cv n c o, v] w fun e w' => e = .returned (.tuple #[zl, .int .i64 11]) ∧ Below w.heap.size w w' := by
  have k := hull_any h (L := [[]]) (fun x hx => ⟨0, no, no, by rw [List.mem_singleton.1 hx]; exact nilCub⟩) w v hS (by simp)
  refine k.mono fun e w' ⟨n', c', o', hC, he, hb⟩ => ⟨?_, hb⟩
  have hno : ¬ hullOk t [[]] := fun e => e.1 (List.eq_nil_of_length_eq_zero (by have := e.2 [] (by simp); simpa using this.symm))
  unfold hullT at hC
  unfold hullE at he
  rw [if_neg hno] at hC he
  rw [he, nil_cv hC]
theorem zsplit1 (h : Cub t n c o) (w : World) : Calls Try.prog 48 #[zl, cv n c o] w fun e w' => ∃ v, e = .returned v ∧ w'.ownsRow w.heap.size 30 9 v 1 (crow [[]]) ∧ Below w.heap.size w w' := by
  have k := split_any nilCub h w
  rw [cv_zero] at k
  have e1 : splitT [] t = [[]] := by unfold splitT; rw [if_neg (nmeet_l _)]
  rw [e1] at k
  exact k
theorem zsplit2 (h : Cub t n c o) (w : World) : Calls Try.prog 48 #[cv n c o, zl] w fun e w' => ∃ v, e = .returned v ∧ w'.ownsRow w.heap.size 30 9 v 1 (crow [t]) ∧ Below w.heap.size w w' := by
  have k := split_any h nilCub w
  rw [cv_zero] at k
  have e1 : splitT t [] = [t] := by unfold splitT; rw [if_neg (nmeet_r _)]
  rw [e1] at k
  exact k
theorem zne (w : World) : (binOp .neq 30 zl zl).run Try.prog w = .ok (.bool false) w := by
  have := ne_self 0 no no w
  rwa [cv_zero] at this
theorem zsome (w : World) : Calls Try.prog 57 #[zl, .int .i64 3] w fun e w' => ∃ a cp, e = .returned (.slice a 0 cp) ∧ Below w.heap.size w w' := by
  have k := some_any (n := 0) (c := no) (o := no) (by omega) 3 (by omega) w
  rw [cv_zero] at k
  refine k.mono fun e w' ⟨v, he, ho, hb⟩ => ?_
  have e1 : (memAll 0 no no).take 3 = [] := rfl
  rw [e1] at ho
  obtain ⟨a, cp, rfl⟩ := own_len ho
  exact ⟨a, cp, he, hb⟩
theorem one_sees (h : Cub t n c o) (w : World) : Sees (w.alloc (.cells (cs n c o) 30)) (.slice (some ⟨w.heap.size, 0, none⟩) 1 1) [t] := by
  have k := own_one w 30 (cs n c o) (Nat.le_refl _)
  rw [h.cells] at k
  exact Sees.of_own (L := [t]) (B := w.heap.size) (by rw [show crow [t] = ccells t by simp [crow]]; exact k)
theorem zone_sees (w : World) : Sees (w.alloc (.cells zc 30)) (.slice (some ⟨w.heap.size, 0, none⟩) 1 1) [[]] := by
  have k := one_sees nilCub w
  rwa [cs_zero] at k
end
end Go.Proofs.Ytdiijannpfogdaa.Tn
