/- TernHulls: the walk. -/
import Derived.Test.YtdiijannpfogdaaHg
import Derived.Test.YtdiijannpfogdaaRh
import Derived.Deep.RegionHeld3
import Derived.Deep.DeepCutAuto
namespace Go.Proofs.Ytdiijannpfogdaa.Tn
open Go.RowKit
open Law (ArgS)
attribute [local go_sem] cv cs wv eq_arr
def cubesOf (Xs : List ByteArray) : List (List UInt8) := Xs.map fun X => cubeT X.data.toList
theorem cubesOf_len (Xs : List ByteArray) : (cubesOf Xs).length = Xs.length := by simp [cubesOf]
theorem cubesOf_snoc (Xs : List ByteArray) (k : Nat) (h : k < Xs.length) : cubesOf (Xs.take (k + 1)) = cubesOf (Xs.take k) ++ [cubeT Xs[k].data.toList] := by
  unfold cubesOf
  rw [List.take_succ_eq_append_getElem h, List.map_append]; rfl
theorem cubesOf_cubs (Xs : List ByteArray) : ∀ x ∈ cubesOf Xs, ∃ n c o, Cub x n c o := by
  intro x hx
  obtain ⟨X, _, rfl⟩ := List.mem_map.1 hx
  exact ⟨_, _, _, Cub.of _⟩
/-- What the region that looks behind the list's end keeps. -/
def HullK (g4 cap4 : Nat) (u : Value) (L : List (List UInt8)) (t : List UInt8) (B B2 g6 : Nat) (C : Array Value) (w0 w : World) : Prop :=
  w.ownsRow B 9 1 u (L.length + 1) (srow (t :: L)) ∧ w.ownsRow B2 30 9 (.slice (some ⟨g4, 0, none⟩) (L.length + 2) cap4) (L.length + 2) (crow (L ++ [allT 7, allT 9])) ∧ Blk w g6 30 C ∧ Below w0.heap.size w0 w
theorem hullK_below {g4 cap4 : Nat} {u : Value} {L : List (List UInt8)} {t : List UInt8} {B B2 g6 : Nat} {C : Array Value} {w0 w w2 : World} (h : HullK g4 cap4 u L t B B2 g6 C w0 w) (hb : Below w.heap.size w w2) : HullK g4 cap4 u L t B B2 g6 C w0 w2 :=
  ⟨own_below h.1 hb (Nat.le_refl _), own_below h.2.1 hb (Nat.le_refl _), h.2.2.1.below hb h.2.2.1.lt, bnx h.2.2.2 hb⟩
theorem hullK_drew {g4 cap4 : Nat} {u : Value} {L : List (List UInt8)} {t : List UInt8} {B B2 g6 : Nat} {C : Array Value} {w0 w : World} (h : HullK g4 cap4 u L t B B2 g6 C w0 w) : HullK g4 cap4 u L t B B2 g6 C w0 w.drew :=
  ⟨h.1, h.2.1, h.2.2.1, h.2.2.2.drew⟩
theorem hullS {g4 cap4 : Nat} {u : Value} {L : List (List UInt8)} {t : List UInt8} {B B2 g6 : Nat} {C : Array Value} {w0 w : World} (h : HullK g4 cap4 u L t B B2 g6 C w0 w) : (w.cell? ⟨g4, L.length * 9, none⟩ = some (.int .i64 7) ∧ w.cell? ⟨g4, L.length * 9 + 1, none⟩ = some (.int .u64 ((wd no 0 : Nat) : Int)) ∧ w.cell? ⟨g4, L.length * 9 + 2, none⟩ = some (.int .u64 ((wd no 1 : Nat) : Int)) ∧ w.cell? ⟨g4, L.length * 9 + 3, none⟩ = some (.int .u64 ((wd no 2 : Nat) : Int)) ∧ w.cell? ⟨g4, L.length * 9 + 4, none⟩ = some (.int .u64 ((wd no 3 : Nat) : Int)) ∧ w.cell? ⟨g4, L.length * 9 + 5, none⟩ = some (.int .u64 ((wd no 0 : Nat) : Int)) ∧ w.cell? ⟨g4, L.length * 9 + 6, none⟩ = some (.int .u64 ((wd no 1 : Nat) : Int)) ∧ w.cell? ⟨g4, L.length * 9 + 7, none⟩ = some (.int .u64 ((wd no 2 : Nat) : Int)) ∧ w.cell? ⟨g4, L.length * 9 + 8, none⟩ = some (.int .u64 ((wd no 3 : Nat) : Int))) ∧ (w.cell? ⟨g4, (L.length + 1) * 9, none⟩ = some (.int .i64 9) ∧ w.cell? ⟨g4, (L.length + 1) * 9 + 1, none⟩ = some (.int .u64 ((wd no 0 : Nat) : Int)) ∧ w.cell? ⟨g4, (L.length + 1) * 9 + 2, none⟩ = some (.int .u64 ((wd no 1 : Nat) : Int)) ∧ w.cell? ⟨g4, (L.length + 1) * 9 + 3, none⟩ = some (.int .u64 ((wd no 2 : Nat) : Int)) ∧ w.cell? ⟨g4, (L.length + 1) * 9 + 4, none⟩ = some (.int .u64 ((wd no 3 : Nat) : Int)) ∧ w.cell? ⟨g4, (L.length + 1) * 9 + 5, none⟩ = some (.int .u64 ((wd no 0 : Nat) : Int)) ∧ w.cell? ⟨g4, (L.length + 1) * 9 + 6, none⟩ = some (.int .u64 ((wd no 1 : Nat) : Int)) ∧ w.cell? ⟨g4, (L.length + 1) * 9 + 7, none⟩ = some (.int .u64 ((wd no 2 : Nat) : Int)) ∧ w.cell? ⟨g4, (L.length + 1) * 9 + 8, none⟩ = some (.int .u64 ((wd no 3 : Nat) : Int))) ∧ HullK g4 cap4 u L t B B2 g6 C w0 w := by
  have hll : (L ++ [allT 7, allT 9]).length = L.length + 2 := by simp
  have hv : w.ownsRow B2 30 9 (.slice (some ⟨g4, 0, none⟩) (L ++ [allT 7, allT 9]).length cap4) (L ++ [allT 7, allT 9]).length (crow (L ++ [allT 7, allT 9])) := by rw [hll]; exact h.2.1
  have e7 : (L ++ [allT 7, allT 9])[L.length]'(by simp) = allT 7 := by simp
  have e9 : (L ++ [allT 7, allT 9])[L.length + 1]'(by simp) = allT 9 := by simp
  have q := own_cells hv (k := L.length) (by simp) (n := 7) (c := no) (o := no) (by rw [e7]; exact all_cub 7 (by omega) (by omega))
  have r := own_cells hv (k := L.length + 1) (by simp) (n := 9) (c := no) (o := no) (by rw [e9]; exact all_cub 9 (by omega) (by omega))
  exact ⟨⟨q 0 _ (by omega) rfl, q 1 _ (by omega) rfl, q 2 _ (by omega) rfl, q 3 _ (by omega) rfl, q 4 _ (by omega) rfl, q 5 _ (by omega) rfl, q 6 _ (by omega) rfl, q 7 _ (by omega) rfl, q 8 _ (by omega) rfl⟩, ⟨r 0 _ (by omega) rfl, r 1 _ (by omega) rfl, r 2 _ (by omega) rfl, r 3 _ (by omega) rfl, r 4 _ (by omega) rfl, r 5 _ (by omega) rfl, r 6 _ (by omega) rfl, r 7 _ (by omega) rfl, r 8 _ (by omega) rfl⟩, h⟩
/-- What Hull's region keeps. -/
theorem belowS {w0 w : World} {g6 : Nat} {ty : TypeId} {C : Array Value} (hB : Blk w0 g6 ty C) (h : Below w0.heap.size w0 w) : (∀ i, w.cell? ⟨g6, i, none⟩ = C[i]?) ∧ Below w0.heap.size w0 w := ⟨(hB.below h hB.lt).cell, h⟩
theorem belowS0 {w0 : World} {g6 : Nat} {ty : TypeId} {C : Array Value} (hB : Blk w0 g6 ty C) : (∀ i, w0.drew.cell? ⟨g6, i, none⟩ = C[i]?) ∧ Below w0.heap.size w0 w0.drew := belowS hB (Below.refl _ _).drew
theorem belowSa {w0 w : World} {g6 : Nat} {ty : TypeId} {C : Array Value} (hB : Blk w0 g6 ty C) (h : (∀ i, w.cell? ⟨g6, i, none⟩ = C[i]?) ∧ Below w0.heap.size w0 w) (o : Obj) : (∀ i, (w.alloc o).cell? ⟨g6, i, none⟩ = C[i]?) ∧ Below w0.heap.size w0 (w.alloc o) := belowS hB (bal h.2 o)
theorem belowSad {w0 w : World} {g6 : Nat} {ty : TypeId} {C : Array Value} (hB : Blk w0 g6 ty C) (h : (∀ i, w.drew.cell? ⟨g6, i, none⟩ = C[i]?) ∧ Below w0.heap.size w0 w.drew) (o : Obj) : (∀ i, (w.alloc o).drew.cell? ⟨g6, i, none⟩ = C[i]?) ∧ Below w0.heap.size w0 (w.alloc o).drew := belowS hB (bal h.2 o)
theorem belowSc {w0 w w2 : World} {g6 : Nat} {ty : TypeId} {C : Array Value} (hB : Blk w0 g6 ty C) (h : (∀ i, w.cell? ⟨g6, i, none⟩ = C[i]?) ∧ Below w0.heap.size w0 w) (hb : Below w.heap.size w w2) : (∀ i, w2.cell? ⟨g6, i, none⟩ = C[i]?) ∧ Below w0.heap.size w0 w2 := belowS hB (bnx h.2 hb)
theorem hullK_of {g4 cap4 : Nat} {u : Value} {L : List (List UInt8)} {t : List UInt8} {B B2 g6 : Nat} {C : Array Value} {w0 w4 w : World} (hu : w4.ownsRow B 9 1 u (L.length + 1) (srow (t :: L)))
    (hv : w4.ownsRow B2 30 9 (.slice (some ⟨g4, 0, none⟩) (L.length + 2) cap4) (L.length + 2) (crow (L ++ [allT 7, allT 9]))) (hb : Below w0.heap.size w0 w4) (h : Below w4.heap.size w4 w) (hB : Blk w g6 30 C) : HullK g4 cap4 u L t B B2 g6 C w0 w :=
  ⟨own_below hu h (Nat.le_refl _), own_below hv h (Nat.le_refl _), hB, bnx hb h⟩
theorem blk9 {g : Nat} {w : World} {ty : TypeId} {z0 z1 z2 z3 z4 z5 z6 z7 z8 : Value} (h : Blk w g ty #[z0, z1, z2, z3, z4, z5, z6, z7, z8]) (v0 v1 v2 v3 v4 v5 v6 v7 v8 : Value) : Blk (((((((((w.setCell ⟨g, 0, none⟩ v0).setCell ⟨g, 1, none⟩ v1).setCell ⟨g, 2, none⟩ v2).setCell ⟨g, 3, none⟩ v3).setCell ⟨g, 4, none⟩ v4).setCell ⟨g, 5, none⟩ v5).setCell ⟨g, 6, none⟩ v6).setCell ⟨g, 7, none⟩ v7).setCell ⟨g, 8, none⟩ v8) g ty #[v0, v1, v2, v3, v4, v5, v6, v7, v8] := by
  have e := ((((((((h.set_ 0 v0).set_ 1 v1).set_ 2 v2).set_ 3 v3).set_ 4 v4).set_ 5 v5).set_ 6 v6).set_ 7 v7).set_ 8 v8
  simp only [List.setIfInBounds_toArray, List.set_cons_zero, List.set_cons_succ] at e
  exact e
theorem set9 {B g : Nat} {w0 w : World} (h : Below B w0 w) (hg : B ≤ g) (v0 v1 v2 v3 v4 v5 v6 v7 v8 : Value) : Below B w0 (((((((((w.setCell ⟨g, 0, none⟩ v0).setCell ⟨g, 1, none⟩ v1).setCell ⟨g, 2, none⟩ v2).setCell ⟨g, 3, none⟩ v3).setCell ⟨g, 4, none⟩ v4).setCell ⟨g, 5, none⟩ v5).setCell ⟨g, 6, none⟩ v6).setCell ⟨g, 7, none⟩ v7).setCell ⟨g, 8, none⟩ v8) :=
  ((((((((h.setCell (p := ⟨g, 0, none⟩) hg v0).setCell (p := ⟨g, 1, none⟩) hg v1).setCell (p := ⟨g, 2, none⟩) hg v2).setCell (p := ⟨g, 3, none⟩) hg v3).setCell (p := ⟨g, 4, none⟩) hg v4).setCell (p := ⟨g, 5, none⟩) hg v5).setCell (p := ⟨g, 6, none⟩) hg v6).setCell (p := ⟨g, 7, none⟩) hg v7).setCell (p := ⟨g, 8, none⟩) hg v8
/-- What stands behind Hull's call. -/
def HullX (g4 cap4 : Nat) (u : Value) (L : List (List UInt8)) (t : List UInt8) (B B2 : Nat) (w0 : World) (v14 v15 : Value) (w : World) : Prop :=
  ∃ g6 n6 c6 o6, Cub (hullT t L) n6 c6 o6 ∧ v14 = .pointer (some ⟨g6, 0, none⟩) ∧ v15 = .int .i64 (hullE t L) ∧ HullK g4 cap4 u L t B B2 g6 (cs n6 c6 o6) w0 w
theorem Sees.alloc {w : World} {v : Value} {L : List (List UInt8)} (h : Sees w v L) (o : Obj) : Sees (w.alloc o) v L := h.below ((Below.refl _ _).alloc (Nat.le_refl _) o)
theorem Sees.drew {w : World} {v : Value} {L : List (List UInt8)} (h : Sees w v L) : Sees w.drew v L := h.below (Below.refl _ _).drew
theorem hull_boxed {t : List UInt8} {L : List (List UInt8)} {n : Nat} {c o : Nat → Bool} (h : Cub t n c o) (hL : ∀ x ∈ L, ∃ n c o, Cub x n c o) (w : World) (v : Value) (hS : Sees ((w.alloc (.cells #[.int .i64 0, .int .u64 0, .int .u64 0, .int .u64 0, .int .u64 0, .int .u64 0, .int .u64 0, .int .u64 0, .int .u64 0] 30)).drew) v L) (hlen : L.length ≤ 1000000000000) :
    Calls Try.prog 38 #[cv n c o, v] ((w.alloc (.cells #[.int .i64 0, .int .u64 0, .int .u64 0, .int .u64 0, .int .u64 0, .int .u64 0, .int .u64 0, .int .u64 0, .int .u64 0] 30)).drew) fun e w' => ∃ n' c' o', Cub (hullT t L) n' c' o' ∧ e = .returned (.tuple #[cv n' c' o', .int .i64 (hullE t L)]) ∧
      Below (((w.alloc (.cells #[.int .i64 0, .int .u64 0, .int .u64 0, .int .u64 0, .int .u64 0, .int .u64 0, .int .u64 0, .int .u64 0, .int .u64 0] 30)).drew)).heap.size (((w.alloc (.cells #[.int .i64 0, .int .u64 0, .int .u64 0, .int .u64 0, .int .u64 0, .int .u64 0, .int .u64 0, .int .u64 0, .int .u64 0] 30)).drew)) w' ∧
      Blk w' w.heap.size 30 #[.int .i64 0, .int .u64 0, .int .u64 0, .int .u64 0, .int .u64 0, .int .u64 0, .int .u64 0, .int .u64 0, .int .u64 0] :=
  (hull_any h hL _ v hS hlen).mono fun e w' ⟨n', c', o', hC, he, hb⟩ => ⟨n', c', o', hC, he, hb, (Blk.new w 30 _).drew.below hb (by show w.heap.size < (World.alloc w _).heap.size; simp)⟩
set_option maxRecDepth 100000 in
set_option maxHeartbeats 4000000 in
theorem hulls_walk (s1 : ByteArray) (h1 : s1.size ≤ maxLen) (v : Value) (Xs : List ByteArray) (w : World) (hA : ArgS w v Xs) (hk : Xs.length ≤ 1048576) :
    Calls Try.prog 9 #[.string s1, v] w fun e w' => e = .returned (.bool true) ∧ Below w.heap.size w w' := by
  obtain ⟨n, c, o, hC⟩ : ∃ n c o, Cub (cubeT s1.data.toList) n c o := ⟨_, _, _, Cub.of _⟩
  obtain ⟨a0, cap0, rfl, hcap, hcm, hcell, hsz⟩ := hA
  have HC := Lib.hid hC
  have HX := Lib.hid hcell
  have HZ := Lib.hid hsz
  clear hC hcell hsz
  unfold maxLen at hcm
  go_enter Try.func9, Try.ntmps9
  go_wp2_with fail
  refine (made_any s1 h1 HC.out _).mono ?_
  rintro e w1 ⟨rfl, hb1⟩
  have g1 := bal hb1 (.cells (cs n c o) 30)
  have hB1 := Blk.new w1 30 (cs n c o)
  have hl1 : w1.heap.size < (w1.alloc (.cells (cs n c o) 30)).heap.size := hB1.lt
  go_wp2_with fail
  refine (rcube_any s1 _ h1).mono ?_
  rintro e w' ⟨rfl, rfl⟩
  go_wp2_with fail
  generalize hT : cubeT s1.data.toList = t at *
  generalize hW : World.alloc (World.alloc w1 _) _ = W
  have hrow : W.ownsRow w.heap.size 9 1 (.slice (some ⟨w1.heap.size + 1, 0, none⟩) 1 1) 1 (srow [t]) := by
    have := own_one (w1.alloc (.cells (cs n c o) 30)) 9 #[.string (str t)] (B := w.heap.size) g1.size
    rw [World.size_alloc] at this
    rw [← hW]; exact this
  have hBW : Blk W w1.heap.size 30 (cs n c o) := by rw [← hW]; exact hB1.alloc _
  have hbW : Below w.heap.size w W := by rw [← hW]; exact bal g1 _
  have hz1 : w.heap.size ≤ w1.heap.size := hb1.size
  clear hW hB1 g1 hb1 hl1
  go_loopw [7, 8, 9] (fun u v i wr => ∃ k : Nat, k ≤ Xs.length ∧ i = .int .i64 k ∧ wr.ownsRow w.heap.size 9 1 u (k + 1) (srow (t :: cubesOf (Xs.take k))) ∧ wr.ownsRow W.heap.size 30 9 v k (crow (cubesOf (Xs.take k))) ∧ Blk wr w1.heap.size 30 (cs n c o) ∧ W.heap.size ≤ wr.heap.size ∧ Below w.heap.size w wr) (fun _ _ i _ => Xs.length - (intOf i).toNat)
  case atStart => exact ⟨0, Nat.zero_le _, rfl, hrow, crow_nil _ _, hBW, Nat.le_refl _, hbW⟩
  case round =>
    have hWz : w1.heap.size < W.heap.size := hBW.lt
    clear hrow hBW hbW
    obtain ⟨k, hk', rfl, hu, hv, hB, hWw, hbel⟩ := hrel
    by_cases hlt : k < Xs.length
    · obtain ⟨b, off, rfl, hbl, hq⟩ : ∃ b off, a0 = some ⟨b, off, none⟩ ∧ b < w.heap.size ∧ ∀ j X, Xs[j]? = some X → w.cell? ⟨b, off + j, none⟩ = some (.string X) := by
        rcases HX.out with h0 | h0
        · rw [h0] at hlt; simp at hlt
        · exact h0
      have q0 : wr.cell? ⟨b, off + k, none⟩ = some (.string Xs[k]) := by rw [hbel.cell (p := ⟨b, off + k, none⟩) hbl]; exact hq k _ (List.getElem?_eq_getElem hlt)
      have hXs : Xs[k].size ≤ maxLen := HZ.out _ (List.getElem_mem hlt)
      have HS := Lib.hid (cubesOf_snoc Xs k hlt)
      have HQ := Lib.hid (fun (wr : World) (hb : Below w.heap.size w wr) => show wr.cell? ⟨b, off + k, none⟩ = some (.string Xs[k]) by rw [hb.cell (p := ⟨b, off + k, none⟩) hbl]; exact hq k _ (List.getElem?_eq_getElem hlt))
      generalize Xs[k] = X at *
      obtain ⟨m, d, p, hD⟩ : ∃ n c o, Cub (cubeT X.data.toList) n c o := ⟨_, _, _, Cub.of _⟩
      have HD := Lib.hid hD
      clear hq hD
      go_wp2_with fail
      refine (made_any X hXs HD.out _).mono ?_
      rintro e w2 ⟨rfl, hb2⟩
      have hu2 := own_below hu hb2 (Nat.le_refl _)
      have hv2 := own_below hv hb2 (Nat.le_refl _)
      have hB2 := hB.below hb2 hB.lt
      have hbel2 := bnx hbel hb2
      have hWw2 := Nat.le_trans hWw hb2.size
      clear q0
      go_upto_region 12 with fail
      generalize hW : World.alloc w2 _ = w3
      have hW' : World.alloc w2 (.cells (cs m d p) 30) = w3 := hW
      have hu3 := hu2.alloc (.cells (cs m d p) 30)
      have hv3 := hv2.alloc (.cells (cs m d p) 30)
      rw [hW'] at hu3 hv3
      clear hW'
      have hB3 : Blk w3 w1.heap.size 30 (cs n c o) := by rw [← hW]; exact hB2.alloc _
      have hD3 : Blk w3 w2.heap.size 30 (cs m d p) := by rw [← hW]; exact Blk.new w2 30 _
      have hbel3 : Below w.heap.size w w3 := by rw [← hW]; exact bal hbel2 _
      have hWw3 : W.heap.size ≤ w3.heap.size := by rw [← hW]; simp; omega
      have hcD := hD3.cell
      clear hW hu2 hv2 hB2 hbel2 hu hv hB hbel hb2
      go_upto_region 13 with (at_builtin; refine app_cubeG HD.out hv3 rfl rfl rfl rfl (by omega) hWw3 ?_; intro v4 w4 hv4 hg4)
      have hu4 := hu3.kept hg4 (own_apart hu3 hv3 (by decide))
      have hB4 := hB3.grown hg4 (blk_ne hv3 hWz)
      have hbel4 : Below w.heap.size w w4 := hbel3.trans ((below_grown hv3 hg4 hWw3).mono (by omega))
      have hWw4 : W.heap.size ≤ w4.heap.size := Nat.le_trans hWw3 hg4.size
      have q0 := HQ.out w4 hbel4
      clear hg4 hcD hD3 hu3 hv3 hB3 hbel3
      go_wp2_with (first | (go_at_call 33; refine (rcube_any X _ hXs).mono ?_; rintro e w' ⟨rfl, rfl⟩) | (at_builtin; refine app_strG (cubeT X.data.toList) hu4 rfl rfl rfl rfl (by omega) hbel4.size ?_; intro u5 w5 hu5 hg5))
      have hv5 := hv4.kept hg5 (own_apart hv4 hu4 (by decide))
      go_roundw
      case rel =>
        refine ⟨k + 1, by omega, by go_num, ?_, ?_, hB4.grown hg5 ?_, Nat.le_trans hWw4 hg5.size, hbel4.trans (below_grown hu4 hg5 hbel4.size)⟩
        · rw [HS.out]; exact hu5
        · rw [HS.out]; exact hv5
        · exact blk_apart hB4 hu4 (by decide)
      case measure => simp [intOf]; omega
    · obtain rfl : k = Xs.length := by omega
      rw [List.take_length] at hu hv
      have hn := cubesOf_len Xs
      have HCB := Lib.hid (cubesOf_cubs Xs)
      generalize cubesOf Xs = L at *
      rw [← hn] at hu hv
      have HN := Lib.hid hn
      have hk2 : L.length ≤ 1048576 := by omega
      obtain ⟨av, capv, e⟩ := own_len hv
      subst e
      clear hn hlt hk'
      go_wp2_with fail
      refine (all_lit 7 7 rfl (by omega) (by omega) _).mono ?_
      rintro e w2 ⟨rfl, hb2⟩
      have hu := own_below hu hb2 (Nat.le_refl _)
      have hv := own_below hv hb2 (Nat.le_refl _)
      have hB := hB.below hb2 hB.lt
      have hbel := bnx hbel hb2
      have hWw := Nat.le_trans hWw hb2.size
      go_wp2_with fail
      refine (all_lit 9 9 rfl (by omega) (by omega) _).mono ?_
      rintro e w3 ⟨rfl, hb3⟩
      have hu := own_below hu hb3 (Nat.le_refl _)
      have hv := own_below hv hb3 (Nat.le_refl _)
      have hB := hB.below hb3 hB.lt
      have hbel := bnx hbel hb3
      have hWw := Nat.le_trans hWw hb3.size
      clear hb2 hb3
      go_upto_region 16 with (at_builtin; refine app_cube2 (all_cub 7 (by omega) (by omega)) (all_cub 9 (by omega) (by omega)) hv rfl rfl rfl rfl (by omega) hWw ?_; intro v4 w4 hv4 hg4)
      have hu4 := hu.kept hg4 (own_apart hu hv (by decide))
      have hB4 := hB.grown hg4 (blk_ne hv hWz)
      have hbel4 : Below w.heap.size w w4 := hbel.trans ((below_grown hv hg4 hWw).mono (by omega))
      have hWw4 : W.heap.size ≤ w4.heap.size := Nat.le_trans hWw hg4.size
      clear hu hv hB hbel hWw hg4
      have hll : (L ++ [allT 7, allT 9]).length = L.length + 2 := by simp
      obtain ⟨g4, cap4, e4, hcap4, _, hx4⟩ := own_at hv4 (by omega)
      subst e4
      have hSee : Sees w4 (.slice (some ⟨g4, 0, none⟩) L.length cap4) L := Sees.begin (M := [allT 7, allT 9]) (by rw [hll]; exact hv4)
      have HX4 := Lib.hid hx4
      clear hx4
      have hlB := hB4.lt
      have hcB := hB4.cell
      have hcap5 : L.length ≤ cap4 := by omega
      clear HX4
      have HSW := Lib.hid (fun (w' : World) (h : (∀ i, w'.cell? ⟨w1.heap.size, i, none⟩ = (cs n c o)[i]?) ∧ Below w4.heap.size w4 w') => hSee.below h.2)
      have kha := fun w hS => hull_any HC.out HCB.out w (.slice (some ⟨g4, 0, none⟩) L.length cap4) hS (by omega)
      have khb := fun w hS => hull_boxed HC.out HCB.out w (.slice (some ⟨g4, 0, none⟩) L.length cap4) hS (by omega)
      simp only [cv, cs, wv] at kha khb
      have KHA := Lib.hid kha
      have KHB := Lib.hid khb
      clear kha khb
      go_cut [14, 15] (fun s14 s15 wx => HullX g4 cap4 u7 L t w.heap.size W.heap.size w s14 s15 wx)
      case first =>
        go_region_held3 (fun w' => (∀ i, w'.cell? ⟨w1.heap.size, i, none⟩ = (cs n c o)[i]?) ∧ Below w4.heap.size w4 w')
          (with_reducible (first | assumption | exact belowS0 hB4 | exact hK2 | exact belowSad hB4 (by assumption) _ | exact belowSa hB4 (by assumption) _ | exact belowS hB4 (set9 (And.right hK2) (Nat.le_refl _) _ _ _ _ _ _ _ _ _)))
          (first | (go_at_call 38; have hS9 := HSW.out _ (by assumption); with_reducible refine (KHB.out _ hS9).mono ?_; rintro e w6 ⟨n6, c6, o6, hC6, rfl, hb6, hBz⟩; have hK2 := belowSc hB4 (by assumption) hb6; have hcz := hBz.cell; have hfz := hBz.frozen) | (go_at_call 38; have hS9 := HSW.out _ (by assumption); with_reducible refine (KHA.out _ hS9).mono ?_; rintro e w6 ⟨n6, c6, o6, hC6, rfl, hb6⟩; have hK2 := belowSc hB4 (by assumption) hb6))
        · go_wp2_with fail
          go_meet
          exact ⟨w6.heap.size, n6, c6, o6, hC6, rfl, rfl, hullK_of hu4 hv4 hbel4 (bal hK2.2 _) (Blk.new w6 30 _)⟩
        · go_wp2_with fail
          go_meet
          exact ⟨w4.heap.size, n6, c6, o6, hC6, rfl, rfl, hullK_of hu4 hv4 hbel4 (set9 hK2.2 (Nat.le_refl _) _ _ _ _ _ _ _ _ _) (blk9 hBz _ _ _ _ _ _ _ _ _)⟩
      case rest =>
        obtain ⟨g6, n6, c6, o6, hC6, rfl, rfl, hK7⟩ := hcut
        have ka7 := fun w => all_lit 7 7 rfl (by omega) (by omega) w
        have ka9 := fun w => all_lit 9 9 rfl (by omega) (by omega) w
        simp only [cv, cs, wv] at ka7 ka9
        have KA7 := Lib.hid ka7
        have KA9 := Lib.hid ka9
        clear ka7 ka9
        have H6 := Lib.hid hC6
        clear hC6 hB4 hu4 hv4 hbel4 hSee hcB hlB KHA KHB HSW
        have x1 : IntKind.i64.wrap ((L.length : Int) + 1) = (L.length : Int) + 1 := IntWalk.i64_in _ (by omega)
        have x2 : 0 ≤ (L.length : Int) + 1 := by omega
        have x3 : ((L.length : Int) + 1).toNat = L.length + 1 := by omega
        have x4 : (L.length : Int) < (L.length : Int) + 2 := by omega
        have x5 : (L.length : Int) + 1 < (L.length : Int) + 2 := by omega
        have x6 : (0 : Int) ≤ (L.length : Int) := by omega
        have HE7 : ∀ w : World, (binOp .neq 30 (.agg #[.int .i64 7, .int .u64 ((wd no 0 : Nat) : Int), .int .u64 ((wd no 1 : Nat) : Int), .int .u64 ((wd no 2 : Nat) : Int), .int .u64 ((wd no 3 : Nat) : Int), .int .u64 ((wd no 0 : Nat) : Int), .int .u64 ((wd no 1 : Nat) : Int), .int .u64 ((wd no 2 : Nat) : Int), .int .u64 ((wd no 3 : Nat) : Int)]) (.agg #[.int .i64 7, .int .u64 ((wd no 0 : Nat) : Int), .int .u64 ((wd no 1 : Nat) : Int), .int .u64 ((wd no 2 : Nat) : Int), .int .u64 ((wd no 3 : Nat) : Int), .int .u64 ((wd no 0 : Nat) : Int), .int .u64 ((wd no 1 : Nat) : Int), .int .u64 ((wd no 2 : Nat) : Int), .int .u64 ((wd no 3 : Nat) : Int)])).run Try.prog w = .ok (.bool false) w := fun w => ne_self 7 no no w
        have HE9 : ∀ w : World, (binOp .neq 30 (.agg #[.int .i64 9, .int .u64 ((wd no 0 : Nat) : Int), .int .u64 ((wd no 1 : Nat) : Int), .int .u64 ((wd no 2 : Nat) : Int), .int .u64 ((wd no 3 : Nat) : Int), .int .u64 ((wd no 0 : Nat) : Int), .int .u64 ((wd no 1 : Nat) : Int), .int .u64 ((wd no 2 : Nat) : Int), .int .u64 ((wd no 3 : Nat) : Int)]) (.agg #[.int .i64 9, .int .u64 ((wd no 0 : Nat) : Int), .int .u64 ((wd no 1 : Nat) : Int), .int .u64 ((wd no 2 : Nat) : Int), .int .u64 ((wd no 3 : Nat) : Int), .int .u64 ((wd no 0 : Nat) : Int), .int .u64 ((wd no 1 : Nat) : Int), .int .u64 ((wd no 2 : Nat) : Int), .int .u64 ((wd no 3 : Nat) : Int)])).run Try.prog w = .ok (.bool false) w := fun w => ne_self 9 no no w
        go_wp2_with fail
        go_region_held3 (fun w' => (w'.cell? ⟨g4, L.length * 9, none⟩ = some (.int .i64 7) ∧ w'.cell? ⟨g4, L.length * 9 + 1, none⟩ = some (.int .u64 ((wd no 0 : Nat) : Int)) ∧ w'.cell? ⟨g4, L.length * 9 + 2, none⟩ = some (.int .u64 ((wd no 1 : Nat) : Int)) ∧ w'.cell? ⟨g4, L.length * 9 + 3, none⟩ = some (.int .u64 ((wd no 2 : Nat) : Int)) ∧ w'.cell? ⟨g4, L.length * 9 + 4, none⟩ = some (.int .u64 ((wd no 3 : Nat) : Int)) ∧ w'.cell? ⟨g4, L.length * 9 + 5, none⟩ = some (.int .u64 ((wd no 0 : Nat) : Int)) ∧ w'.cell? ⟨g4, L.length * 9 + 6, none⟩ = some (.int .u64 ((wd no 1 : Nat) : Int)) ∧ w'.cell? ⟨g4, L.length * 9 + 7, none⟩ = some (.int .u64 ((wd no 2 : Nat) : Int)) ∧ w'.cell? ⟨g4, L.length * 9 + 8, none⟩ = some (.int .u64 ((wd no 3 : Nat) : Int))) ∧ (w'.cell? ⟨g4, (L.length + 1) * 9, none⟩ = some (.int .i64 9) ∧ w'.cell? ⟨g4, (L.length + 1) * 9 + 1, none⟩ = some (.int .u64 ((wd no 0 : Nat) : Int)) ∧ w'.cell? ⟨g4, (L.length + 1) * 9 + 2, none⟩ = some (.int .u64 ((wd no 1 : Nat) : Int)) ∧ w'.cell? ⟨g4, (L.length + 1) * 9 + 3, none⟩ = some (.int .u64 ((wd no 2 : Nat) : Int)) ∧ w'.cell? ⟨g4, (L.length + 1) * 9 + 4, none⟩ = some (.int .u64 ((wd no 3 : Nat) : Int)) ∧ w'.cell? ⟨g4, (L.length + 1) * 9 + 5, none⟩ = some (.int .u64 ((wd no 0 : Nat) : Int)) ∧ w'.cell? ⟨g4, (L.length + 1) * 9 + 6, none⟩ = some (.int .u64 ((wd no 1 : Nat) : Int)) ∧ w'.cell? ⟨g4, (L.length + 1) * 9 + 7, none⟩ = some (.int .u64 ((wd no 2 : Nat) : Int)) ∧ w'.cell? ⟨g4, (L.length + 1) * 9 + 8, none⟩ = some (.int .u64 ((wd no 3 : Nat) : Int))) ∧ HullK g4 cap4 u7 L t w.heap.size W.heap.size g6 (cs n6 c6 o6) w w')
          (with_reducible (first | assumption | exact hullS (hullK_drew hK7) | exact hK8))
          (first | (go_at_call 29; with_reducible refine (KA7.out _).mono ?_; rintro e w' ⟨rfl, hb'⟩; have hK8 := hullS (hullK_below (And.right (And.right (by assumption))) hb')) | (go_at_call 29; with_reducible refine (KA9.out _).mono ?_; rintro e w' ⟨rfl, hb'⟩; have hK8 := hullS (hullK_below (And.right (And.right (by assumption))) hb')))
        have hK9 : HullK g4 cap4 u7 L t w.heap.size W.heap.size g6 (cs n6 c6 o6) w _ := And.right (And.right (by assumption))
        clear hK7 KA7 KA9 HE7 HE9 x1 x2 x3 x4 x5 x6
        go_wp2_with fail
        go_loopw [16] (fun i wr => ∃ k : Nat, k ≤ L.length ∧ i = .int .i64 k ∧ HullK g4 cap4 u7 L t w.heap.size W.heap.size g6 (cs n6 c6 o6) w wr) (fun i _ => L.length - (intOf i).toNat)
        case atStart => exact ⟨0, Nat.zero_le _, rfl, hK9⟩
        case round =>
          clear hK9
          obtain ⟨wo, rfl⟩ : ∃ wo : World, wo = wr := ⟨_, rfl⟩
          obtain ⟨k, hk, rfl, hK⟩ := hrel
          obtain ⟨hu, hv, hB, hbel⟩ := hK
          by_cases hlt : k < L.length
          · have hll : (L ++ [allT 7, allT 9]).length = L.length + 2 := by simp
            obtain ⟨gu, capu, eu, hcapu, _, hxu⟩ := own_at hu (by omega)
            subst eu
            obtain ⟨m, d, p, hD⟩ := HCB.out L[k] (List.getElem_mem hlt)
            have hq := own_cells (L := L ++ [allT 7, allT 9]) (by rw [hll]; exact hv) (k := k) (by omega) (n := m) (c := d) (o := p) (by rw [List.getElem_append_left hlt]; exact hD)
            have hs := hxu (k + 1) (.string (str L[k])) (by simp [srow, hlt])
            have x1 : IntKind.i64.wrap ((k : Int) + 1) = (k : Int) + 1 := IntWalk.i64_in _ (by omega)
            have x2 : 0 ≤ (k : Int) + 1 := by omega
            have x3 : ((k : Int) + 1).toNat = k + 1 := by omega
            have x4 : (k : Int) < (L.length : Int) + 2 := by omega
            have x5 : k < L.length + 2 := by omega
            have x6 : (k : Int) + 1 < (L.length : Int) + 1 := by omega
            have x7 : k + 1 < L.length + 1 := by omega
            have HD := Lib.hid hD
            clear hD
            go_wp2_with fail
            refine still_tail 9 (by kernel_rfl) (by kernel_rfl) fun W5 hW5 => ?_
            simp only [List.take_succ_cons, List.take_zero, List.drop_succ_cons, List.drop_zero]
            have hq5 : ∀ j u, j < 9 → (cs m d p)[j]? = some u → W5.cell? ⟨g4, k * 9 + j, none⟩ = some u := by rw [hW5.out]; exact hq
            have hs5 : W5.cell? ⟨gu, k + 1, none⟩ = some (.string (str L[k])) := by rw [hW5.out]; exact hs
            have hK5 : HullK g4 cap4 (.slice (some ⟨gu, 0, none⟩) (L.length + 1) capu) L t w.heap.size W.heap.size g6 (cs n6 c6 o6) w W5 := by rw [hW5.out]; exact hullK_drew ⟨hu, hv, hB, hbel⟩
            have q0 := hq5 0 _ (by omega) rfl
            have q1 := hq5 1 _ (by omega) rfl
            have q2 := hq5 2 _ (by omega) rfl
            have q3 := hq5 3 _ (by omega) rfl
            have q4 := hq5 4 _ (by omega) rfl
            have q5 := hq5 5 _ (by omega) rfl
            have q6 := hq5 6 _ (by omega) rfl
            have q7 := hq5 7 _ (by omega) rfl
            have q8 := hq5 8 _ (by omega) rfl
            rw [Nat.add_zero] at q0
            clear hq hq5 hs hxu hu hv hB hbel hW5
            repeat still_step
            refine wpStill_nil ?_
            go_wp2_with fail
            refine (is_any HD.out (str L[k]) (str_list _) _).mono ?_
            rintro e w7 ⟨rfl, hb7⟩
            have hK7 := hullK_below hK5 hb7
            clear q0 q1 q2 q3 q4 q5 q6 q7 q8 hs5 hK5 x1 x2 x3 x4 x5 x6 x7
            go_wp2_with fail
            go_roundw
            case rel => exact ⟨k + 1, by omega, by go_num, hK7⟩
            case measure => simp [intOf]; omega
          · obtain rfl : k = L.length := by omega
            have ht : t.length ≤ 256 := HC.out.le
            clear hlt
            go_wp2_with fail
            refine (rhull_walk t L ht (by omega) _ _ _ hu hbel.size).mono ?_
            rintro e w7 ⟨rfl, hb7⟩
            have hB7 := hB.below hb7 hB.lt
            have hbel7 := bnx hbel hb7
            have hc7 := hB7.cell
            have he : (hullE t L == hullE t L) = true := by simp
            go_wp2_with fail
            refine (num_any _ _).mono ?_
            rintro e w' ⟨rfl, rfl⟩
            go_wp2_with fail
            refine (is_any H6.out _ (str_list _) _).mono ?_
            rintro e w8 ⟨rfl, hb8⟩
            go_wp2_with fail
            go_ret
            exact ⟨rfl, bnx hbel7 hb8⟩
end Go.Proofs.Ytdiijannpfogdaa.Tn
