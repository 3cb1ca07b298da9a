/- Hull: of a cube and a row of cubes. -/
import Derived.Test.YtdiijannpfogdaaSp
namespace Go.Proofs.Ytdiijannpfogdaa.Tn
open Go.RowKit
attribute [local go_sem] cv cs wv or_wd and_wd xor_wd andNot_wd
/-! On texts. -/
def hullF (t u : List UInt8) (i : Nat) : UInt8 := if byt u i = byt t i then byt t i else 120
def hull2 (t u : List UInt8) : List UInt8 := up (hullF t u) t.length
def hullL (t : List UInt8) (L : List (List UInt8)) : List UInt8 := L.foldl hull2 t
def hullOk (t : List UInt8) (L : List (List UInt8)) : Prop := t ≠ [] ∧ ∀ x ∈ L, x.length = t.length
instance (t : List UInt8) (L : List (List UInt8)) : Decidable (hullOk t L) := by unfold hullOk; infer_instance
def hullT (t : List UInt8) (L : List (List UInt8)) : List UInt8 := if hullOk t L then hullL t L else []
def hullE (t : List UInt8) (L : List (List UInt8)) : Int := if hullOk t L then 0 else 11
def hc (c o d p : Nat → Bool) : Nat → Bool := band c (bnot d (bxor o p))
def ho (c o d p : Nat → Bool) : Nat → Bool := band o (hc c o d p)
theorem hull_cub {t u : List UInt8} {n : Nat} {c o d p : Nat → Bool} (h : Cub t n c o) (h' : Cub u n d p) : Cub (hull2 t u) n (hc c o d p) (ho c o d p) := by
  unfold hull2
  rw [← h.hn]
  have hN : Nrm n (hc c o d p) (ho c o d p) := by
    refine ⟨h.nrm.le, fun i hi => by simp [hc, band, h.nrm.hi i hi], fun i hi => ?_⟩
    simp only [ho, band, Bool.and_eq_true] at hi ⊢
    exact hi.2
  refine hN.of_places fun i hi => ?_
  have s1 := h.nrm.sub i
  have s2 := h'.nrm.sub i
  unfold hullF
  rw [h.at_ i hi, h'.at_ i hi]
  simp only [ho, hc, band, bnot, bxor]
  generalize c i = a at *; generalize o i = b at *; generalize d i = e at *; generalize p i = f at *
  cases a <;> cases b <;> cases e <;> cases f <;> simp_all [dig]
theorem hullL_snoc (t : List UInt8) (L : List (List UInt8)) (k : Nat) (hk : k < L.length) : hullL t (L.take (k + 1)) = hull2 (hullL t (L.take k)) L[k] := by
  unfold hullL
  rw [List.take_succ_eq_append_getElem hk, List.foldl_append]; rfl
/-- a slice that reads as a row of cubes -/
def Sees (w : World) (v : Value) (L : List (List UInt8)) : Prop :=
  (L = [] ∧ v = .slice none 0 0) ∨ ∃ g cap, v = .slice (some ⟨g, 0, none⟩) L.length cap ∧ L.length ≤ cap ∧ g < w.heap.size ∧ ∀ j u, (crow L)[j]? = some u → w.cell? ⟨g, j, none⟩ = some u
theorem Sees.of_own {w : World} {B : Nat} {v : Value} {L : List (List UInt8)} (h : w.ownsRow B 30 9 v L.length (crow L)) : Sees w v L := by
  by_cases h0 : L.length = 0
  · have : L = [] := List.eq_nil_of_length_eq_zero h0
    subst this
    rcases h.2 with ⟨hv, _⟩ | ⟨g, cap, cur, hv, _, hg, hc, _, _, htake⟩
    · exact .inl ⟨rfl, hv⟩
    · exact .inr ⟨g, cap, hv, by simp, (Array.getElem?_eq_some_iff.1 hg).1, fun j u hj => by simp [crow] at hj⟩
  · obtain ⟨g, cap, hv, hcap, _, hx⟩ := own_at h (by omega)
    obtain ⟨g', cap', hv', _, hlt⟩ := own_form h (by omega)
    rw [hv] at hv'
    cases hv'
    exact .inr ⟨g, cap, hv, hcap, hlt, hx⟩
theorem Sees.below {w w' : World} {v : Value} {L : List (List UInt8)} (h : Sees w v L) (hb : Below w.heap.size w w') : Sees w' v L := by
  rcases h with h | ⟨g, cap, hv, hcap, hlt, hx⟩
  · exact .inl h
  · exact .inr ⟨g, cap, hv, hcap, Nat.lt_of_lt_of_le hlt hb.size, fun j u hj => by rw [hb.cell (p := ⟨g, j, none⟩) hlt]; exact hx j u hj⟩
theorem Sees.len {w : World} {v : Value} {L : List (List UInt8)} (h : Sees w v L) : ∃ a cap, v = .slice a L.length cap := by
  rcases h with ⟨rfl, rfl⟩ | ⟨g, cap, hv, _⟩
  · exact ⟨_, _, rfl⟩
  · exact ⟨_, _, hv⟩
set_option maxHeartbeats 2000000 in
theorem hull_walk {t : List UInt8} {L : List (List UInt8)} {n : Nat} {c o : Nat → Bool} (h : Cub t n c o) (h0 : 0 < n) (hL : ∀ x ∈ L, ∃ n c o, Cub x n c o) (w : World) (v : Value) (hS : Sees w v L) (hlen : L.length ≤ 1000000000000) :
    Calls Try.prog 38 #[cv n c o, v] w fun e w' => ∃ n' c' o', Cub (hullT t L) n' c' o' ∧ e = .returned (.tuple #[cv n' c' o', .int .i64 (hullE t L)]) ∧ Below w.heap.size w w' := by
  have H0 := Lib.hid h
  have HL := Lib.hid hL
  obtain ⟨a0, cap0, rfl⟩ := hS.len
  have HS := Lib.hid hS
  have hn0 : ((n : Int) == 0) = false := by simp; omega
  clear h hL hS
  unfold cv cs wv
  go_enter Try.func38, Try.ntmps38
  go_wp2
  go_loopw [15] (fun i wr => ∃ (k : Nat) (c' o' : Nat → Bool), k ≤ L.length ∧ i = .int .i64 k ∧ Cub (hullL t (L.take k)) n c' o' ∧ (∀ j (hj : j < L.length), j < k → L[j].length = n) ∧ Blk wr w.heap.size 30 (cs n c' o') ∧ Blk wr (w.heap.size + 1) 30 zs ∧ Below w.heap.size w wr) (fun i _ => L.length - (intOf i).toNat)
  case atStart =>
    refine ⟨0, c, o, Nat.zero_le _, rfl, H0.out, fun j _ hj => by omega, ?_, ?_, by go_grown⟩
    · exact (Blk.new _ _ _).alloc _
    · have := Blk.new (w.alloc (.cells (cs n c o) 30)) 30 zs
      rw [World.size_alloc] at this
      exact this
  case round =>
    obtain ⟨k, c1, o1, hk, rfl, hC, hall, hA, hZ, hbel⟩ := hrel
    by_cases hlt : k < L.length
    · obtain ⟨m, d, p, hD⟩ := HL.out L[k] (List.getElem_mem hlt)
      have hS := HS.out.below hbel
      obtain ⟨g, cap, hv, hcap, hglt, hx⟩ : ∃ g cap, Value.slice a0 L.length cap0 = .slice (some ⟨g, 0, none⟩) L.length cap ∧ L.length ≤ cap ∧ g < wr.heap.size ∧ ∀ j u, (crow L)[j]? = some u → wr.cell? ⟨g, j, none⟩ = some u := by
        rcases hS with ⟨h, _⟩ | h
        · rw [h] at hlt; simp at hlt
        · exact h
      cases hv
      have hg : ∀ j u, j < 9 → (cs m d p)[j]? = some u → wr.cell? ⟨g, k * 9 + j, none⟩ = some u := fun j u hj hu =>
        hx _ _ (by rw [crow_at L k hlt j hj, ← hD.cells, Array.getElem?_toList]; exact hu)
      have q0 := hg 0 _ (by omega) rfl
      have q1 := hg 1 _ (by omega) rfl
      have q2 := hg 2 _ (by omega) rfl
      have q3 := hg 3 _ (by omega) rfl
      have q4 := hg 4 _ (by omega) rfl
      have q5 := hg 5 _ (by omega) rfl
      have q6 := hg 6 _ (by omega) rfl
      have q7 := hg 7 _ (by omega) rfl
      have q8 := hg 8 _ (by omega) rfl
      rw [Nat.add_zero] at q0
      have HK := Lib.hid hC
      have HD := Lib.hid hD
      have HALL := Lib.hid hall
      have hcA := hA.cell
      have hlA := hA.lt
      have hlZ := hZ.lt
      clear hg hx hS hC hD hall
      by_cases hmn : m = n
      · obtain rfl : m = n := hmn
        have hne : ((m : Int) != (m : Int)) = false := by simp
        go_wp2
        generalize hW : World.alloc wr _ = W
        have hA' : Blk W w.heap.size 30 (cs m c1 o1) := by rw [← hW]; exact hA.alloc _
        have hZ' : Blk W (w.heap.size + 1) 30 zs := by rw [← hW]; exact hZ.alloc _
        have hD' : Blk W wr.heap.size 30 (cs m d p) := by rw [← hW]; exact Blk.new wr 30 _
        have hbW : Below w.heap.size w W := by rw [← hW]; exact bal hbel _
        have hgt : w.heap.size + 1 < wr.heap.size := hlZ
        generalize hG : wr.heap.size = G at *
        clear hW hA hZ hbel q0 q1 q2 q3 q4 q5 q6 q7 q8 hglt hG hcA hlA hlZ
        go_loopw [25] (fun i wr => ∃ k : Nat, k ≤ 4 ∧ i = .int .i64 k ∧ Blk wr w.heap.size 30 (cs m (upd k c1 (hc c1 o1 d p)) (upd k o1 (ho c1 o1 d p))) ∧ Blk wr (w.heap.size + 1) 30 zs ∧ Blk wr G 30 (cs m d p) ∧ Below w.heap.size w wr) (fun i _ => 4 - (intOf i).toNat)
        case atStart => exact ⟨0, by omega, rfl, by rw [upd_zero, upd_zero]; exact hA', hZ', hD', hbW⟩
        case round =>
          clear hA' hZ' hD' hbW
          obtain ⟨wo, rfl⟩ : ∃ wo : World, wo = wr := ⟨_, rfl⟩
          obtain ⟨q, hq, rfl, gA, gZ, gD, gb⟩ := hrel
          by_cases hq4 : q < 4
          · have e1 : wo.cell? ⟨w.heap.size, 1 + q, none⟩ = some (.int .u64 ((wd c1 q : Nat) : Int)) := by rw [gA.cell, cs_care _ _ _ _ hq4, wv, wd_upd_at]
            have e2 : wo.cell? ⟨w.heap.size, 5 + q, none⟩ = some (.int .u64 ((wd o1 q : Nat) : Int)) := by rw [gA.cell, cs_ones _ _ _ _ hq4, wv, wd_upd_at]
            have e3 : wo.cell? ⟨G, 1 + q, none⟩ = some (.int .u64 ((wd d q : Nat) : Int)) := by rw [gD.cell, cs_care _ _ _ _ hq4, wv]
            have e4 : wo.cell? ⟨G, 5 + q, none⟩ = some (.int .u64 ((wd p q : Nat) : Int)) := by rw [gD.cell, cs_ones _ _ _ _ hq4, wv]
            have f1 := gA.frozen
            have ha : (⟨w.heap.size, 1 + q, none⟩ : Addr) ≠ ⟨w.heap.size, 5 + q, none⟩ := ne_off (by omega)
            have e2' : (wo.setCell ⟨w.heap.size, 1 + q, none⟩ (.int .u64 ((wd (band c1 (bnot d (bxor o1 p))) q : Nat) : Int))).cell? ⟨w.heap.size, 5 + q, none⟩ = some (.int .u64 ((wd o1 q : Nat) : Int)) := by
              rw [World.cell?_setCell_other _ _ _ _ ha, e2]
            have HA := Lib.hid ha
            clear ha
            go_wp2
            go_region
            go_wp2
            go_region
            go_wp2
            go_roundw
            case rel =>
              have g1 := gA.set_ (1 + q) (wv (hc c1 o1 d p) q)
              rw [cs_next_care m q hq4] at g1
              have g2 := g1.set_ (5 + q) (wv (ho c1 o1 d p) q)
              rw [cs_next_ones m q hq4] at g2
              refine ⟨q + 1, by omega, by go_num, g2, ?_, ?_, ?_⟩
              · exact (gZ.far (p := ⟨w.heap.size, 1 + q, none⟩) (by simp) _).far (p := ⟨w.heap.size, 5 + q, none⟩) (by simp) _
              · exact (gD.far (p := ⟨w.heap.size, 1 + q, none⟩) (by simp; omega) _).far (p := ⟨w.heap.size, 5 + q, none⟩) (by simp; omega) _
              · exact ((gb.setCell (p := ⟨w.heap.size, 1 + q, none⟩) (by simp) _).setCell (p := ⟨w.heap.size, 5 + q, none⟩) (by simp) _).drew.drew
            case measure => simp [intOf]; omega
          · obtain rfl : q = 4 := by omega
            rw [cs_upd4] at gA
            go_wp2
            go_roundw
            case rel =>
              refine ⟨k + 1, hc c1 o1 d p, ho c1 o1 d p, by omega, by go_num, ?_, ?_, gA, gZ, gb⟩
              · rw [hullL_snoc t L k hlt]
                exact hull_cub HK.out HD.out
              · intro j hj hjk
                rcases Nat.lt_or_ge j k with h1 | h1
                · exact HALL.out j hj h1
                · obtain rfl : j = k := by omega
                  exact HD.out.hn.symm
            case measure => simp [intOf]; omega
      · have hne : ((m : Int) != (n : Int)) = true := by rw [bne_iff_ne]; omega
        have hno : ¬ hullOk t L := fun H => hmn (by have h1 := H.2 _ (List.getElem_mem hlt); have h2 := H0.out.hn; have h3 := HD.out.hn; omega)
        have HNO := Lib.hid hno
        have hcZ := hZ.cell
        have hfZ := hZ.frozen
        unfold zs at hcZ
        clear hno hmn hcZ hfZ
        go_upto_region 7 with fail
        generalize hW : World.alloc wr _ = W
        have hZ' : Blk W (w.heap.size + 1) 30 zs := by rw [← hW]; exact hZ.alloc _
        have hbW : Below w.heap.size w W := by rw [← hW]; exact bal hbel _
        clear hW
        have hcZ := hZ'.cell
        have hfZ := hZ'.frozen
        unfold zs at hcZ
        go_wp2
        refine bodyPost_ret (v := .tuple #[.agg #[.int .i64 0, .int .u64 0, .int .u64 0, .int .u64 0, .int .u64 0, .int .u64 0, .int .u64 0, .int .u64 0, .int .u64 0], .int .i64 11]) (by simp [results, Try.results38, go_sem, hcZ]) rfl ⟨0, no, no, ?_, ?_, ?_⟩
        · unfold hullT; rw [if_neg HNO.out]; exact nilCub
        · unfold hullE; rw [if_neg HNO.out]; have e := cv_zero; unfold cv cs wv at e; rw [e]
        · refine Below.trans hbW ?_
          go_grown
    · obtain rfl : k = L.length := by omega
      have hcZ := hZ.cell
      have hfZ := hZ.frozen
      have hcA := hA.cell
      have hlA := hA.lt
      unfold zs at hcZ
      have hok : hullOk t L := ⟨fun e => by have := H0.out.hn; rw [e] at this; simp at this; omega, fun x hx => by
        obtain ⟨j, hj, rfl⟩ := List.getElem_of_mem hx
        rw [hall j hj hj, H0.out.hn]⟩
      rw [List.take_length] at hC
      have HC := Lib.hid hC
      have HOK := Lib.hid hok
      clear hC hok hall
      go_wp2
      refine bodyPost_ret (v := .tuple #[.agg (cs n c1 o1), .int .i64 0]) (by simp [results, Try.results38, go_sem, hcZ]) rfl ⟨n, c1, o1, ?_, ?_, ?_⟩
      · unfold hullT; rw [if_pos HOK.out]; exact HC.out
      · unfold hullE; rw [if_pos HOK.out]; rfl
      · refine Below.trans hbel ?_
        go_grown
set_option maxHeartbeats 400000 in
theorem hull_zero (v : Value) (L : List (List UInt8)) (w : World) :
    Calls Try.prog 38 #[cv 0 no no, v] w fun e w' => ∃ n' c' o', Cub (hullT [] L) n' c' o' ∧ e = .returned (.tuple #[cv n' c' o', .int .i64 (hullE [] L)]) ∧ Below w.heap.size w w' := by
  have hno : ¬ hullOk [] L := fun H => H.1 rfl
  have e1 : hullT [] L = [] := by unfold hullT; rw [if_neg hno]
  have e2 : hullE [] L = 11 := by unfold hullE; rw [if_neg hno]
  rw [e1, e2]
  rw [cv_zero]
  clear e1 e2 hno
  go_enter Try.func38, Try.ntmps38
  go_wp2
  refine bodyPost_ret (v := .tuple #[.agg #[.int .i64 0, .int .u64 0, .int .u64 0, .int .u64 0, .int .u64 0, .int .u64 0, .int .u64 0, .int .u64 0, .int .u64 0], .int .i64 11]) (by simp [results, Try.results38, go_sem]) rfl ⟨0, no, no, nilCub, ?_, ?_⟩
  · have e := cv_zero; rw [e]
  · go_grown
theorem hull_any {t : List UInt8} {L : List (List UInt8)} {n : Nat} {c o : Nat → Bool} (h : Cub t n c o) (hL : ∀ x ∈ L, ∃ n c o, Cub x n c o) (w : World) (v : Value) (hS : Sees w v L) (hlen : L.length ≤ 1000000000000) :
    Calls Try.prog 38 #[cv n c o, v] w fun e w' => ∃ n' c' o', Cub (hullT t L) n' c' o' ∧ e = .returned (.tuple #[cv n' c' o', .int .i64 (hullE t L)]) ∧ Below w.heap.size w w' := by
  by_cases h0 : 0 < n
  · exact hull_walk h h0 hL w v hS hlen
  · have e : t = [] := List.eq_nil_of_length_eq_zero (by have := h.hn; omega)
    subst e
    obtain ⟨rfl, rfl, rfl⟩ := h.nil
    exact hull_zero v L w
end Go.Proofs.Ytdiijannpfogdaa.Tn
