/- Patterns: the reference joins a list of nodes. -/
import Derived.Test.YtlbkacabcfeaiaaKe
namespace Go.Proofs.Ytlbkacabcfeaiaa.Tl
open Go.RowKit Mm
set_option linter.unusedVariables false
theorem mkK_one {kd : Nat} {ts : List T} {t : T} (hkd : kd = 4 ∨ kd = 5) (h : ts.flatMap (inK kd) = [t]) : mkK kd ts = t := by
  rcases hkd with rfl | rfl
  · show oneOr .seq (ts.flatMap (inK 4)) = t
    rw [h]
    rfl
  · show oneOr .alt (ts.flatMap (inK 5)) = t
    rw [h]
    rfl
theorem oneOr_many {f : List T → T} {l : List T} (h : l.length ≠ 1) : oneOr f l = f l := by
  unfold oneOr
  split
  · exact absurd rfl h
  · rfl
/-- the kids' rows are younger -/
def NewK (X : World) (M : List Nd) : Prop := ∀ d ∈ M, ∀ g, d.kv.ownBlock = some g → X.heap.size ≤ g
theorem NewK.nil (X : World) : NewK X [] := fun d h => by cases h
theorem NewK.app {X Y : World} {M K : List Nd} (h : NewK X M) (k : NewK Y K) (hs : X.heap.size ≤ Y.heap.size) : NewK X (M ++ K) := fun d hd g hg => by
  rcases List.mem_append.1 hd with hd | hd
  · exact h d hd g hg
  · exact Nat.le_trans hs (k d hd g hg)
theorem NewK.one {X : World} {d : Nd} (h : ∀ g, d.kv.ownBlock = some g → X.heap.size ≤ g) : NewK X [d] := fun e he => by
  rw [List.mem_singleton] at he
  subst he
  exact h
set_option maxRecDepth 100000 in
set_option maxHeartbeats 8000000 in
theorem rjoin_any {W X : World} {g : Nat} {s : ByteArray} {pos it deep : Nat} {bad : Int} {N : List Nd} {nv : Value} (h : Rf W g s pos it deep bad N nv X) (kd : Nat) (hkd : kd = 4 ∨ kd = 5) (lv : Value) (ks : List Nat) (ts : List T) (hl : Fz X 3 1 lv ks.length (iv ks)) (hd : DenL N ks ts) (hb : bdL ts ≤ 50000) (hN : N.length ≤ 90000) :
    Calls Try.prog 33 #[.pointer (some ⟨g, 0, none⟩), .int .i64 (kd : Int), lv] X fun e w' => ∃ (k : Nat) (M : List Nd) (nv' : Value), e = .returned (.int .i64 (k : Int)) ∧ Rf W g s pos it deep bad (N ++ M) nv' w' ∧ Fr X w' ∧ NewK X M ∧ M.length ≤ 1 ∧ Den (N ++ M) k (mkK kd ts) := by
  have HL := Lib.hid (laid_any h kd hkd lv ks ts hl hd hb (by omega))
  have hlen := laid_len hkd hd
  have hdl := den_laid hkd hd
  obtain ⟨a0, cap, rfl, _⟩ := Fz.form hl
  have HH := Lib.hid h
  have HD := Lib.hid hdl
  clear h hl hd hdl
  generalize hLL : laidL N kd ks = L at *
  clear hLL
  go_enter Try.func33, Try.ntmps33
  go_wp2_with fail
  refine HL.out.mono ?_
  rintro e w1 ⟨v', rfl, hrow, hb1⟩
  have HR := Lib.hid (HH.out.below hb1)
  have HW := Lib.hid hrow
  have HB := Lib.hid hb1
  obtain ⟨a1, c1, rfl⟩ := own_len hrow
  by_cases h1 : L.length = 1
  · obtain ⟨k, rfl⟩ := List.length_eq_one_iff.1 h1
    obtain ⟨t, ht⟩ := List.length_eq_one_iff.1 (show (ts.flatMap (inK kd)).length = 1 from by rw [← HD.out.1]; rfl)
    have hden : Den N k (mkK kd ts) := by rw [mkK_one hkd ht]; exact HD.out.2 0 k t rfl (by rw [ht]; rfl)
    obtain ⟨gl, cl, hv, _, _, hgl, hc⟩ := own_at hrow (by simp)
    cases hv
    have p0 := hc 0 _ rfl
    have HDN := Lib.hid hden
    clear hrow hb1 hc hden h1
    go_wp2_with fail
    go_ret
    exact ⟨k, [], _, rfl, by rw [List.append_nil]; exact HR.out, Fr.below HB.out, NewK.nil _, by simp, by rw [List.append_nil]; exact HDN.out⟩
  · have h1I : ¬ (L.length : Int) = 1 := by omega
    have HN := Lib.hid (node_any HR.out ⟨kd, ⟨#[]⟩, false, .slice a1 L.length c1, L⟩ (Fz.of_own hrow) (by omega))
    have HNEW := Lib.hid (show ∀ g, (Value.slice a1 L.length c1).ownBlock = some g → X.heap.size ≤ g from fun g hg => (hrow.lt g hg).1)
    have HDN := Lib.hid (show Den (N ++ [⟨kd, ⟨#[]⟩, false, .slice a1 L.length c1, L⟩]) N.length (mkK kd ts) from by
      have hm := HD.out.more (M := [⟨kd, ⟨#[]⟩, false, .slice a1 L.length c1, L⟩])
      have hne : (ts.flatMap (inK kd)).length ≠ 1 := by rw [← HD.out.1]; exact h1
      rcases hkd with rfl | rfl
      · show Den _ _ (oneOr .seq (ts.flatMap (inK 4)))
        rw [oneOr_many hne]
        exact .seq _ _ _ (snoc_get N _) rfl hm.1 hm.2
      · show Den _ _ (oneOr .alt (ts.flatMap (inK 5)))
        rw [oneOr_many hne]
        exact .alt _ _ _ (snoc_get N _) rfl hm.1 hm.2)
    clear hrow hb1 h1 hlen
    go_wp2_with fail
    refine HN.out.mono ?_
    rintro e w2 ⟨rfl, ⟨nv', hR2⟩, hF2⟩
    go_wp2_with fail
    go_ret
    exact ⟨N.length, [_], nv', rfl, hR2, (Fr.below HB.out).trans hF2, NewK.one HNEW.out, by simp, HDN.out⟩
end Go.Proofs.Ytlbkacabcfeaiaa.Tl
