/- TernSplits. -/
import Derived.Test.YtdiijannpfogdaaRs
import Derived.Test.YtdiijannpfogdaaLw
import Derived.Test.YtdiijannpfogdaaTz
import Derived.Test.YtdiijannpfogdaaM
import Derived.Test.YtdiijannpfogdaaTi
namespace Go.Proofs.Ytdiijannpfogdaa.Tn
open Go.RowKit
attribute [local go_sem] cv cs wv
theorem own_at {w : World} {B : Nat} {e : TypeId} {size : Nat} {v : Value} {n : Nat} {xs : List Value} (h : w.ownsRow B e size v n xs) (hn : 0 < n) :
    ∃ g cap, v = .slice (some ⟨g, 0, none⟩) n cap ∧ n ≤ cap ∧ B ≤ g ∧ ∀ j u, xs[j]? = some u → w.cell? ⟨g, j, none⟩ = some u := by
  obtain ⟨g, cap, hv, hb, hlt⟩ := own_form h hn
  subst hv
  refine ⟨g, cap, rfl, ?_, hb, fun j u hj => ?_⟩
  · rcases h.2 with ⟨hh, _⟩ | ⟨g', cap', cur, hv, _, _, hc, _⟩
    · cases hh
    · cases hv; exact hc
  · have := h.cells (g := g) rfl j u hj
    have hadd : (⟨g, 0, none⟩ : Addr).add j = ⟨g, j, none⟩ := by unfold Addr.add; split <;> simp_all
    rw [hadd] at this
    exact this
set_option maxHeartbeats 1000000 in
theorem texts_yes {L : List (List UInt8)} (hC : ∀ t ∈ L, ∃ n c o, Cub t n c o) (w : World) (v1 v2 : Value) (B1 B2 : Nat) (hL : L.length ≤ 1000000)
    (h1 : w.ownsRow B1 30 9 v1 L.length (crow L)) (h2 : w.ownsRow B2 9 1 v2 L.length (srow L)) :
    Calls Try.prog 47 #[v1, v2] w fun e w' => e = .returned (.bool true) ∧ Below w.heap.size w w' := by
  have HC := Lib.hid hC
  obtain ⟨a1, cap1, hv1⟩ := own_len h1
  obtain ⟨a2, cap2, hv2⟩ := own_len h2
  subst hv1
  subst hv2
  have hne : ((L.length : Int) != (L.length : Int)) = false := by simp
  go_enter Try.func47, Try.ntmps47
  go_wp2_with fail
  go_loopw [5] (fun i wr => ∃ k : Nat, k ≤ L.length ∧ i = .int .i64 k ∧ wr.ownsRow B1 30 9 (.slice a1 L.length cap1) L.length (crow L) ∧ wr.ownsRow B2 9 1 (.slice a2 L.length cap2) L.length (srow L) ∧ Below w.heap.size w wr) (fun i _ => L.length - (intOf i).toNat)
  case atStart => exact ⟨0, Nat.zero_le _, rfl, h1, h2, Below.refl _ _⟩
  case round =>
    clear h1 h2
    obtain ⟨k, hk, rfl, h1, h2, hbel⟩ := hrel
    by_cases hlt : k < L.length
    · obtain ⟨g1, c1, e1, hcap1, _, hx1⟩ := own_at h1 (by omega)
      obtain ⟨g2, c2, e2, hcap2, _, hx2⟩ := own_at h2 (by omega)
      cases e1
      cases e2
      go_wp2_with fail
      refine still_tail 8 (by kernel_rfl) (by kernel_rfl) fun W hW => ?_
      simp only [List.take_succ_cons, List.take_zero, List.drop_succ_cons, List.drop_zero]
      obtain ⟨n, c, o, hCk⟩ := HC.out L[k] (List.getElem_mem hlt)
      have hg : ∀ j u, j < 9 → (cs n c o)[j]? = some u → W.cell? ⟨g1, k * 9 + j, none⟩ = some u := fun j u hj hu => by
        rw [hW.out]
        exact hx1 _ _ (by rw [crow_at L k hlt j hj, ← hCk.cells, Array.getElem?_toList]; exact hu)
      have q0 := hg 0 _ (by omega) rfl
      have q1 := hg 1 _ (by omega) rfl
      have q2 := hg 2 _ (by omega) rfl
      have q3 := hg 3 _ (by omega) rfl
      have q4 := hg 4 _ (by omega) rfl
      have q5 := hg 5 _ (by omega) rfl
      have q6 := hg 6 _ (by omega) rfl
      have q7 := hg 7 _ (by omega) rfl
      have q8 := hg 8 _ (by omega) rfl
      rw [Nat.add_zero] at q0
      have qs : W.cell? ⟨g2, k, none⟩ = some (.string (str L[k])) := by
        rw [hW.out]
        exact hx2 _ _ (by simp [srow, hlt])
      have h1W : W.ownsRow B1 30 9 (.slice (some ⟨g1, 0, none⟩) L.length cap1) L.length (crow L) := by rw [hW.out]; exact h1
      have h2W : W.ownsRow B2 9 1 (.slice (some ⟨g2, 0, none⟩) L.length cap2) L.length (srow L) := by rw [hW.out]; exact h2
      have hbW := hbel.trans (below_at_drew hW _)
      have HK := Lib.hid hCk
      clear hg hx1 hx2 h1 h2 hbel hCk
      repeat still_step
      refine wpStill_nil ?_
      go_wp2_with fail
      refine (is_any HK.out (str L[k]) (str_list _) _).mono ?_
      rintro e w2 ⟨rfl, hb2⟩
      have h1 := own_below h1W hb2 (Nat.le_refl _)
      have h2 := own_below h2W hb2 (Nat.le_refl _)
      have hbel := hbW.trans (hb2.mono hbW.size)
      clear q0 q1 q2 q3 q4 q5 q6 q7 q8 qs h1W h2W
      go_wp2_with fail
      go_roundw
      case rel => exact ⟨k + 1, by omega, by go_num, h1, h2, hbel⟩
      case measure => simp [intOf]; omega
    · obtain rfl : k = L.length := by omega
      go_wp2
      go_ret
      exact ⟨rfl, hbel⟩
theorem split_cubs {t u : List UInt8} {n m : Nat} {c o d p : Nat → Bool} (h : Cub t n c o) (h' : Cub u m d p) : ∀ x ∈ splitT t u, ∃ n c o, Cub x n c o := by
  intro x hx
  unfold splitT at hx
  by_cases hok : meetOk t u
  · rw [if_pos hok] at hx
    obtain ⟨rfl, h0⟩ := (fit_iff h h').1 hok.1
    unfold partsT at hx
    obtain ⟨i, hi, rfl⟩ := List.mem_map.1 hx
    rw [List.mem_filter, List.mem_range] at hi
    obtain ⟨hi, hs⟩ := hi
    rw [← h.hn] at hi
    rw [splits_iff h h' i hi] at hs
    have hc : c i = false := by cases hc : c i with | false => rfl | true => rw [hc] at hs; simp at hs
    have hd : d i = true := by rw [hc] at hs; simpa using hs
    exact ⟨_, _, _, part_cub h h' ((noconf_iff h h').1 hok.2) hi hc hd (o'' := fun k => if k = i then !p i else pre i o (bor o p) k) (fun k => rfl)⟩
  · rw [if_neg hok] at hx
    simp only [List.mem_singleton] at hx
    subst hx
    exact ⟨_, _, _, h⟩
theorem split_len {t u : List UInt8} {n : Nat} {c o : Nat → Bool} (h : Cub t n c o) : (splitT t u).length ≤ 1000000 := by
  have := h.le
  unfold splitT
  split
  · have := partsT_le t u t.length; omega
  · simp
set_option maxHeartbeats 2000000 in
theorem splits_walk (s1 : ByteArray) (h1 : s1.size ≤ maxLen) (s2 : ByteArray) (h2 : s2.size ≤ maxLen) (w : World) : Calls Try.prog 13 #[.string s1, .string s2] w fun e w' => e = .returned (.bool true) ∧ Below w.heap.size w w' := by
  obtain ⟨n, c, o, hC⟩ : ∃ n c o, Cub (cubeT s1.data.toList) n c o := ⟨_, _, _, Cub.of _⟩
  obtain ⟨m, d, p, hD⟩ : ∃ n c o, Cub (cubeT s2.data.toList) n c o := ⟨_, _, _, Cub.of _⟩
  have HC := Lib.hid hC
  have HD := Lib.hid hD
  clear hC hD
  go_enter Try.func13, Try.ntmps13
  go_wp2_with fail
  refine (made_any s1 h1 HC.out _).mono ?_
  rintro e w1 ⟨rfl, hb1⟩
  go_wp2_with fail
  refine (made_any s2 h2 HD.out _).mono ?_
  rintro e w2 ⟨rfl, hb2⟩
  have hB1 : Blk w2 w1.heap.size 30 (cs n c o) := (Blk.new w1 30 (cs n c o)).below hb2 (by simp)
  have g2 : Below w.heap.size w w2 := bnx (bal hb1 _) hb2
  have hl1 := hB1.lt
  have hc1 := hB1.cell
  go_wp2_with fail
  refine (split_any HC.out HD.out _).mono ?_
  rintro e w3 ⟨v3, rfl, ho3, hb3⟩
  have g3 := bnx (bal g2 _) hb3
  clear hc1
  go_wp2_with fail
  refine (rcube_any s1 _ h1).mono ?_
  rintro e w' ⟨rfl, rfl⟩
  go_wp2_with fail
  refine (rcube_any s2 _ h2).mono ?_
  rintro e w' ⟨rfl, rfl⟩
  go_wp2_with fail
  refine (rsplit (str (cubeT s1.data.toList)) (str (cubeT s2.data.toList)) (cubeT_size _) _).mono ?_
  rintro e w4 ⟨v4, rfl, ho4, hb4⟩
  have g4 := bnx g3 hb4
  have ho3' := own_below ho3 hb4 (Nat.le_refl _)
  go_wp2_with fail
  refine (texts_yes (split_cubs HC.out HD.out) _ v3 v4 _ _ (split_len HC.out) ho3' ho4).mono ?_
  rintro e w5 ⟨rfl, hb5⟩
  have g5 := bnx g4 hb5
  go_wp2_with fail
  go_ret
  exact ⟨rfl, g5⟩
end Go.Proofs.Ytdiijannpfogdaa.Tn
