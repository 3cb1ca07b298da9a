/- roomy, unturned. -/
import Derived.Test.YtcofndegcleicaaDoorPd
import Derived.StillTailTactics
import Derived.Deep.DeepCutAuto
namespace Go.Proofs.YtcofndegcleicaaDoor.Lg
open Go.RowKit Mm Law
def behind : ByteArray := ⟨#[98, 101, 104, 105, 110, 100]⟩
def farB : ByteArray := ⟨#[102, 97, 114, 32, 98, 101, 104, 105, 110, 100]⟩
theorem info_str : (Tryd.prog.info? 9).map (fun i => (i.zero, i.size, i.bytes)) = some (some (.string .empty), 1, 16) := by kernel_rfl
theorem sC_one (l : List ByteArray) : ∀ u ∈ sC l, u.oneCell' = true := by
  intro u hu
  simp only [sC, List.mem_map] at hu
  obtain ⟨s, _, rfl⟩ := hu
  rfl
theorem app_strs {B : Nat} {v : Value} {n : Nat} {xs : List Value} {l : List ByteArray} {w : World} {sv : Value} {ops : Array Oper} {rest : List Oper} {op : Oper} {a : Act} {Q : Exit → Act → World → Prop} {s x : Operand}
    (hown : w.ownsRow B 9 1 v n xs) (hS : Sees w sv (sC l)) (hgd : op.guard = none) (ho : op.op = .call { callee := .builtin .append, args := #[s, x], argTypes := #[27, 27] })
    (hs : a.eval s = v) (hx : a.eval x = sv) (hn : (n + l.length) * 16 ≤ 140737488355328) (hB : B ≤ w.heap.size)
    (h : ∀ v' w', w'.ownsRow B 9 1 v' (n + l.length) (xs ++ sC l) → w.grownBy w' v.ownBlock → wpList Tryd.prog ops Q rest (a.put op.dst v') w') : wpList Tryd.prog ops Q (op :: rest) a w := by
  refine app_sees 27 Tryd.underlying27 info_str rfl hown hS hgd ho hs hx (sC_one l) (by rw [sC_len]; simp only [maxLen]; omega) (by rw [sC_len]; omega) hB ?_
  intro v' w' h1 h2
  rw [sC_len] at h1
  exact h v' w' h1 h2
theorem own_empty (w : World) (t : TypeId) {B : Nat} (hB : B ≤ w.heap.size) : (w.alloc (.cells #[] t)).ownsRow B t 1 (.slice (some ⟨w.heap.size, 0, none⟩) 0 0) 0 [] := by
  refine ⟨rfl, .inr ⟨_, 0, #[], rfl, hB, heap_alloc_new w _, Nat.le_refl _, by decide, by simp, ?_⟩⟩
  simp
theorem own_cap {w : World} {B : Nat} {e : TypeId} {s n : Nat} {v : Value} {xs : List Value} (h : w.ownsRow B e s v n xs) (hn : 0 < n) : ∃ g cap, v = .slice (some ⟨g, 0, none⟩) n cap ∧ n ≤ cap ∧ cap ≤ maxLen := by
  rcases h.2 with ⟨_, h0⟩ | ⟨g, cap, cur, hv, _, hg, hc, hm, _, _⟩
  · omega
  · exact ⟨g, cap, hv, hc, hm⟩
theorem sees_new (w : World) (t : TypeId) (cs : Array Value) (h : cs.size ≤ maxLen) : Sees (w.alloc (.cells cs t)) (.slice (some ⟨w.heap.size, 0, none⟩) cs.size cs.size) cs.toList := by
  refine ⟨some ⟨w.heap.size, 0, none⟩, cs.size, by simp, (fun h => by cases h), by simp, h, .inr ⟨w.heap.size, 0, rfl, by simp, fun j u hj => ?_⟩⟩
  have := cells_new w cs t j u hj
  rw [add_off] at this
  rw [Nat.zero_add]
  exact this
set_option maxRecDepth 100000 in
set_option maxHeartbeats 4000000 in
theorem roomy_any (l : List ByteArray) (v : Value) (w : World) (hv : Sees w v (sC l)) (hl : l.length ≤ 200000) :
    Calls Tryd.prog 15 #[v] w fun e w' => ∃ g cap, e = .returned (.slice (some ⟨g, 0, none⟩) l.length cap) ∧ l.length + 2 ≤ cap ∧ w'.ownsRow w.heap.size 9 1 (.slice (some ⟨g, 0, none⟩) (l.length + 2) cap) (l.length + 2) (sC l ++ sC [behind, farB]) ∧ Below w.heap.size w w' := by
  have HV := Lib.hid hv
  obtain ⟨a0, cap0, rfl, hN, hcap, hcm, hx⟩ := hv
  rw [sC_len] at hcap HV ⊢
  unfold maxLen at hcm
  clear hx hN
  go_enter Tryd.func15, Tryd.ntmps15
  have hS2 : ∀ w : World, Sees (w.alloc (.cells #[.string behind, .string farB] 9)) (.slice (some ⟨w.heap.size, 0, none⟩) 2 2) (sC [behind, farB]) := fun w => sees_new w 9 #[.string behind, .string farB] (by decide)
  have HS2 := Lib.hid hS2
  clear hS2
  go_wp2_with (at_builtin; first | (refine app_strs (l := l) (own_empty w 9 (Nat.le_refl _)) (HV.out.alloc _) rfl rfl rfl rfl (by omega) (by simp) ?_; intro v1 w1 hown1 hgr1) | (refine app_strs (l := [behind, farB]) (own_below hown1 (bal (Below.refl _ _) _) (Nat.le_refl _)) (HS2.out _) rfl rfl rfl rfl (by simp only [List.length_cons, List.length_nil]; omega) (by have := hgr1.size; simp only [World.size_alloc] at *; omega) ?_; intro v2 w2 hown2 hgr2; have hs1 := hgr1.size; simp only [World.size_alloc] at hs1; have hb1 := (bal (Below.refl _ w) (.cells #[] 9)).trans (below_grown (own_empty w 9 (Nat.le_refl _)) hgr1 (by simp)); have hb2 := hb1.trans ((bal (Below.refl _ w1) (.cells #[.string behind, .string farB] 9)).mono (by omega)); have hb3 := hb2.trans (below_grown (own_below hown1 (bal (Below.refl _ _) _) (Nat.le_refl _)) hgr2 (by simp only [World.size_alloc]; omega)); have hown3 : w2.ownsRow w.heap.size 9 1 v2 (l.length + 2) (sC l ++ sC [behind, farB]) := (by have h := hown2; rw [Nat.zero_add] at h; exact h); obtain ⟨g, cap, rfl, hc2, hm2⟩ := own_cap hown3 (by omega); unfold maxLen at hm2; clear hown1 hown2 hgr1 hgr2 hb1 hb2))
  go_ret
  exact ⟨g, cap, rfl, hc2, hown3, hb3⟩
theorem behind_eq : (behind.toList == [98, 101, 104, 105, 110, 100]) = true := by rw [ByteArray.toList_eq]; decide
theorem farB_eq : (farB.toList == [102, 97, 114, 32, 98, 101, 104, 105, 110, 100]) = true := by rw [ByteArray.toList_eq]; decide
set_option maxRecDepth 100000 in
set_option maxHeartbeats 4000000 in
theorem unturned_yes (l : List ByteArray) (g cap : Nat) (u : Value) (w : World) (hcap : l.length + 2 ≤ cap) (hcm : cap ≤ maxLen) (hg : g < w.heap.size) (hc : ∀ j x, (sC l ++ sC [behind, farB])[j]? = some x → w.cell? ⟨g, j, none⟩ = some x) (hu : Sees w u (sC l)) :
    Calls Tryd.prog 17 #[.slice (some ⟨g, 0, none⟩) l.length cap, u] w fun e w' => e = .returned (.bool true) ∧ Below w.heap.size w w' := by
  obtain ⟨a1, cap1, rfl, hN1, hcap1, hcm1, hx1⟩ := hu
  rw [sC_len] at hcap1 ⊢
  unfold maxLen at hcm hcm1
  have HC := Lib.hid hc
  have HX1 := Lib.hid hx1
  clear hc hx1 hN1
  go_enter Tryd.func17, Tryd.ntmps17
  go_wp2_with fail
  go_loopw [7] (fun i wr => ∃ k : Nat, k ≤ l.length ∧ i = .int .i64 (k : Int) ∧ Below w.heap.size w wr) (fun i _ => l.length - (intOf i).toNat)
  case atStart => exact ⟨0, Nat.zero_le _, rfl, Below.refl _ _⟩
  case round =>
    obtain ⟨k, hk, rfl, hbel⟩ := hrel
    by_cases hlt : k < l.length
    · obtain ⟨g1, off, rfl, hg1, hq⟩ : ∃ g off, a1 = some ⟨g, off, none⟩ ∧ g < w.heap.size ∧ ∀ j u, (sC l)[j]? = some u → w.cell? ⟨g, off + j, none⟩ = some u := by
        rcases HX1.out with h0 | h0
        · have := congrArg List.length h0; rw [sC_len] at this; simp only [List.length_nil] at this; omega
        · exact h0
      have q0 := hq k _ (sC_at (s := l[k]) (by simp [hlt]))
      have p0 := HC.out k (.string l[k]) (by rw [List.getElem?_append_left (by rw [sC_len]; omega)]; exact sC_at (by simp [hlt]))
      rw [← hbel.cell (p := ⟨g1, off + k, none⟩) hg1] at q0
      rw [← hbel.cell (p := ⟨g, k, none⟩) hg] at p0
      have hne : (l[k].toList == l[k].toList) = true := by simp
      generalize l[k] = s at *
      clear hq
      have x0 : (0 : Int) ≤ (k : Int) := by omega
      have x1 : (k : Int) < (l.length : Int) := by omega
      have x2 : (k : Int) < (l.length : Int) + 2 := by omega
      go_upto_region 8 with fail
      go_quiet (fail)
      go_wp2_with fail
      go_roundw
      case rel => exact ⟨k + 1, by omega, by go_num, below_drewN hbel _⟩
      case measure => simp [intOf]; omega
    · have hkl : k = l.length := by omega
      have p0 := HC.out l.length (.string behind) (by rw [List.getElem?_append_right (by rw [sC_len]; omega), sC_len, Nat.sub_self]; rfl)
      have p1 := HC.out (l.length + 1) (.string farB) (by rw [List.getElem?_append_right (by rw [sC_len]; omega), sC_len, Nat.add_sub_cancel_left]; rfl)
      rw [← hbel.cell (p := ⟨g, l.length, none⟩) hg] at p0
      rw [← hbel.cell (p := ⟨g, l.length + 1, none⟩) hg] at p1
      have x1 : (l.length : Int) < (l.length : Int) + 2 := by omega
      have x2 : (l.length : Int) + 1 < (l.length : Int) + 2 := by omega
      have e1 := behind_eq
      have e2 := farB_eq
      go_wp2_with fail
      go_ret
      exact ⟨rfl, hbel⟩
end Go.Proofs.YtcofndegcleicaaDoor.Lg
