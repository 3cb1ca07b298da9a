/- TernOwn: full, seen. -/
import Derived.Test.YtoglcocplpdlhaaKe
import Derived.Deep.RegionHeld3
namespace Go.Proofs.Ytoglcocplpdlhaa.Tn
open Go.RowKit
attribute [local go_sem] cv cs wv
theorem Fz.form {X : World} {v : Value} {n : Nat} {xs : List Value} (h : Fz X v n xs) : ∃ a cap, v = .slice a n cap := by
  obtain ⟨a, cap, hv, _⟩ := h
  exact ⟨a, cap, hv⟩
theorem Fz.below {X Y : World} {v : Value} {n : Nat} {xs : List Value} (h : Fz X v n xs) (hb : Below X.heap.size X Y) : Fz Y v n xs := h.bf (Bf.of_below hb) (Decidable.em _)
theorem cube_fz {w : World} {a : Option Addr} {N cap : Nat} {t : List UInt8} (h : Fz w (.slice a N cap) N (crow (List.replicate N t))) {k : Nat} (hk : k < N) {n : Nat} {c o : Nat → Bool} (hC : Cub t n c o) :
    ∃ g, a = some ⟨g, 0, none⟩ ∧ g < w.heap.size ∧ N ≤ cap ∧ ∀ j u, j < 9 → (cs n c o)[j]? = some u → w.cell? ⟨g, k * 9 + j, none⟩ = some u := by
  obtain ⟨a', cp, e, hcap, hx⟩ := h
  cases e
  rcases hx with ⟨_, hx⟩ | ⟨g, cur, rfl, hg, hx⟩
  · omega
  · refine ⟨g, rfl, (Array.getElem?_eq_some_iff.1 hg).1, hcap, fun j u hj hu => ?_⟩
    have hB : Blk w g 27 cur := hg
    rw [hB.cell]
    refine hx _ _ ?_
    have hl : (List.replicate N t).length = N := List.length_replicate
    rw [crow_at (List.replicate N t) k (by omega) j hj, List.getElem_replicate, ← hC.cells, Array.getElem?_toList]
    exact hu
set_option maxHeartbeats 2000000 in
theorem full_any {t : List UInt8} {n : Nat} {c o : Nat → Bool} (hC : Cub t n c o) (N : Nat) (w : World) (v : Value) (hL : N ≤ 1000000)
    (h : Fz w v N (crow (List.replicate N t))) :
    Calls Try.prog 18 #[v, cv n c o] w fun e w' => e = .returned (.bool true) ∧ Below w.heap.size w w' := by
  have HC := Lib.hid hC
  clear hC
  obtain ⟨a1, cap1, rfl⟩ := h.form
  have H := Lib.hid h
  clear h
  have hnn := neq_self n c o
  unfold cv cs wv at *
  go_enter Try.func18, Try.ntmps18
  go_wp2_with fail
  go_loopw [5] (fun i wr => ∃ k : Nat, k ≤ N ∧ i = .int .i64 k ∧ Blk wr w.heap.size 27 (cs n c o) ∧ Below w.heap.size w wr) (fun i _ => N - (intOf i).toNat)
  case atStart => exact ⟨0, Nat.zero_le _, rfl, Blk.new _ _ _, bal (Below.refl _ _) _⟩
  case round =>
    obtain ⟨k, hk, rfl, hbl, hbel⟩ := hrel
    have HB := Lib.hid hbel
    by_cases hlt : k < N
    · obtain ⟨g1, rfl, hg1, hcap, hg⟩ := cube_fz (H.out.below hbel) hlt HC.out
      have q0 := hg 0 _ (by omega) rfl
      have q1 := hg 1 _ (by omega) rfl
      have q2 := hg 2 _ (by omega) rfl
      have q3 := hg 3 _ (by omega) rfl
      have q4 := hg 4 _ (by omega) rfl
      have q5 := hg 5 _ (by omega) rfl
      have q6 := hg 6 _ (by omega) rfl
      have q7 := hg 7 _ (by omega) rfl
      have q8 := hg 8 _ (by omega) rfl
      rw [Nat.add_zero] at q0
      have p0 := hbl.cell 0
      have p1 := hbl.cell 1
      have p2 := hbl.cell 2
      have p3 := hbl.cell 3
      have p4 := hbl.cell 4
      have p5 := hbl.cell 5
      have p6 := hbl.cell 6
      have p7 := hbl.cell 7
      have p8 := hbl.cell 8
      have HL := Lib.hid hbl
      clear hg hbel hbl
      go_upto_region 4 with fail
      go_quiet (fail)
      go_wp2
      go_roundw
      case rel => exact ⟨k + 1, by omega, by go_num, HL.out.drewN _, below_drewN HB.out _⟩
      case measure => simp [intOf]; omega
    · obtain rfl : k = N := by omega
      go_wp2
      go_ret
      exact ⟨rfl, HB.out⟩
/-- an entry of the book -/
structure Bk where
  l : Value
  g : Value
  n : Nat
  k : Nat
def bcells (bk : List Bk) : List Value := bk.flatMap fun e => [e.l, e.g] ++ ccells (markT e.k)
theorem bcells_snoc (bk : List Bk) (e : Bk) : bcells (bk ++ [e]) = bcells bk ++ ([e.l, e.g] ++ ccells (markT e.k)) := by simp [bcells]
theorem bcells_at : ∀ (bk : List Bk) (i : Nat) (e : Bk), bk[i]? = some e → ∀ j, j < 11 → (bcells bk)[i * 11 + j]? = ([e.l, e.g] ++ ccells (markT e.k))[j]?
  | [], i, e, h => by simp at h
  | q :: bk, 0, e, h => by
    cases h
    intro j hj
    have hl : ([q.l, q.g] ++ ccells (markT q.k)).length = 11 := by simp [ccells_len]
    show (([q.l, q.g] ++ ccells (markT q.k)) ++ bcells bk)[0 * 11 + j]? = _
    rw [Nat.zero_mul, Nat.zero_add, List.getElem?_append_left (by omega)]
  | q :: bk, i + 1, e, h => by
    intro j hj
    have hl : ([q.l, q.g] ++ ccells (markT q.k)).length = 11 := by simp [ccells_len]
    show (([q.l, q.g] ++ ccells (markT q.k)) ++ bcells bk)[(i + 1) * 11 + j]? = _
    rw [List.getElem?_append_right (by omega), hl, show (i + 1) * 11 + j - 11 = i * 11 + j by omega]
    exact bcells_at bk i e (by simpa using h) j hj
structure Bk.ok (e : Bk) (X : World) : Prop where
  fl : Fz X e.l e.n (crow (List.replicate e.n (markT e.k)))
  fg : Fz X e.g (e.n + 64) (crow (List.replicate (e.n + 64) (markT e.k)))
  hn : e.n ≤ 1000
theorem Bk.ok.below {e : Bk} {X Y : World} (h : e.ok X) (hb : Below X.heap.size X Y) : e.ok Y := ⟨h.fl.below hb, h.fg.below hb, h.hn⟩
end Go.Proofs.Ytoglcocplpdlhaa.Tn
