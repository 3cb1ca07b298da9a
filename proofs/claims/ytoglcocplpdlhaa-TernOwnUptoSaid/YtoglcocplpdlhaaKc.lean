/- TernOwn: pair. -/
import Derived.Test.YtoglcocplpdlhaaKb
import Derived.Deep.RegionHeld3
import Derived.Deep.DeepCutAuto
namespace Go.Proofs.Ytoglcocplpdlhaa.Tn
open Go.RowKit
attribute [local go_sem] cv cs wv
def prT (s1 s2 : ByteArray) : List (List UInt8) := splitT (cubeT s1.data.toList) (cubeT s2.data.toList)
def PS (w : World) (g off k : Nat) (s1 s2 : ByteArray) (X : World) : Prop :=
  X.cell? ⟨g, off + k, none⟩ = some (.string s1) ∧ X.cell? ⟨g, off + (k + 1), none⟩ = some (.string s2) ∧ Below w.heap.size w X
theorem PS.below {w X Y : World} {g off k : Nat} {s1 s2 : ByteArray} (h : PS w g off k s1 s2 X) (hg : g < w.heap.size) (hb : Below X.heap.size X Y) : PS w g off k s1 s2 Y :=
  ⟨(hb.cell (p := ⟨g, off + k, none⟩) (Nat.lt_of_lt_of_le hg h.2.2.size)).trans h.1, (hb.cell (p := ⟨g, off + (k + 1), none⟩) (Nat.lt_of_lt_of_le hg h.2.2.size)).trans h.2.1, bnx h.2.2 hb⟩
theorem own_weak {w : World} {B B' s n : Nat} {e : TypeId} {v : Value} {xs : List Value} (h : w.ownsRow B e s v n xs) (hB : B' ≤ B) : w.ownsRow B' e s v n xs := by
  refine ⟨h.1, ?_⟩
  rcases h.2 with h0 | ⟨g, cap, cur, hv, hb, rest⟩
  · exact .inl h0
  · exact .inr ⟨g, cap, cur, hv, Nat.le_trans hB hb, rest⟩
theorem prT_cubs (s1 s2 : ByteArray) : ∀ t ∈ prT s1 s2, ∃ n c o, Cub t n c o := split_cubs (Cub.of _) (Cub.of _)
theorem prT_len (s1 s2 : ByteArray) : (prT s1 s2).length ≤ 256 := by
  have := (Cub.of s1.data.toList).le
  unfold prT splitT
  split
  · have := partsT_le (cubeT s1.data.toList) (cubeT s2.data.toList) (cubeT s1.data.toList).length; omega
  · simp
set_option maxHeartbeats 2000000 in
theorem pair_any (s1 s2 : ByteArray) (h1 : s1.size ≤ maxLen) (h2 : s2.size ≤ maxLen) (g off k N cap : Nat) (hk : k + 1 < N) (hN : N ≤ cap) (hc : cap ≤ maxLen) (w : World) (hg : g < w.heap.size)
    (q1 : w.cell? ⟨g, off + k, none⟩ = some (.string s1)) (q2 : w.cell? ⟨g, off + (k + 1), none⟩ = some (.string s2)) :
    Calls Try.prog 6 #[.slice (some ⟨g, off, none⟩) N cap, .int .i64 (k : Int)] w fun e w' => ∃ v, e = .returned (.tuple #[v, .bool true]) ∧ w'.ownsRow w.heap.size 27 9 v (prT s1 s2).length (crow (prT s1 s2)) ∧ Below w.heap.size w w' := by
  obtain ⟨n, c, o, hC⟩ : ∃ n c o, Cub (cubeT s1.data.toList) n c o := ⟨_, _, _, Cub.of _⟩
  obtain ⟨m, d, p, hD⟩ : ∃ n c o, Cub (cubeT s2.data.toList) n c o := ⟨_, _, _, Cub.of _⟩
  have HC := Lib.hid hC
  have HD := Lib.hid hD
  clear hC hD
  have hw1 : wrap64 ((k : Int) + 1) = ((k + 1 : Nat) : Int) := by unfold maxLen at hc; unfold wrap64; omega
  have hw2 : IntKind.i64.wrap ((k : Int) + 1) = ((k + 1 : Nat) : Int) := IntWalk.i64_in _ (by unfold maxLen at hc; omega)
  have HP := Lib.hid (show PS w g off k s1 s2 w from ⟨q1, q2, Below.refl _ _⟩)
  have H1 := Lib.hid h1
  have H2 := Lib.hid h2
  clear h1 h2
  go_enter Try.func6, Try.ntmps6
  go_wp2_with fail
  refine (made_any s1 H1.out HC.out _).mono ?_
  rintro e w1 ⟨rfl, hb1⟩
  have HP1 := Lib.hid (HP.out.below hg hb1)
  have HP2 := Lib.hid (HP1.out.below hg (bal (Below.refl _ _) (.cells (cs n c o) 27)))
  clear q1 q2 hb1
  obtain ⟨q1, q2, _⟩ := HP1.out
  go_upto_region 2 with fail
  obtain ⟨q3, q4, _⟩ := HP2.out
  unfold cs wv at q3 q4
  go_wp2_with fail
  refine (made_any s2 H2.out HD.out _).mono ?_
  rintro e w2 ⟨rfl, hb2⟩
  have HP3 := Lib.hid (HP2.out.below hg hb2)
  have HB1 := Lib.hid ((Blk.new w1 27 (cs n c o)).below hb2 (by simp))
  clear q1 q2 q3 q4 hb2
  go_upto_region 5 with fail
  have HP4 := Lib.hid (HP3.out.below hg (bal (Below.refl _ _) (.cells (cs m d p) 27)))
  have hB1 := HB1.out.alloc (.cells (cs m d p) 27)
  have hB2 := Blk.new w2 27 (cs m d p)
  have hc1 := hB1.cell
  have hc2 := hB2.cell
  unfold cs wv at hc1 hc2
  have hl1 := hB1.lt
  have hl2 := hB2.lt
  clear hB1 hB2
  go_wp2_with fail
  refine (split_any HC.out HD.out _).mono ?_
  rintro e w3 ⟨v3, rfl, ho3, hb3⟩
  obtain ⟨a3, cap3, rfl⟩ := own_len ho3
  have HP5 := Lib.hid (HP4.out.below hg hb3)
  have HO3 := Lib.hid ho3
  clear hc1 hc2 hl1 hl2 hb3 ho3
  have i1 : (0 : Int) ≤ (k : Int) := by omega
  have i2 : (k : Int) < (N : Int) := by omega
  have i3 : (0 : Int) ≤ (k : Int) + 1 := by omega
  have i4 : (k : Int) + 1 < (N : Int) := by omega
  have i5 : (k : Int) ≤ (N : Int) := by omega
  have i6 : (k : Int) + 1 ≤ (N : Int) := by omega
  have hw3 : IntKind.i64.wrap ((k : Int) + 1) = (k : Int) + 1 := IntWalk.i64_in _ (by unfold maxLen at hc; omega)
  have HR1 := Lib.hid (fun w' => rcube_any s1 w' H1.out)
  have HR2 := Lib.hid (fun w' => rcube_any s2 w' H2.out)
  have HRS := Lib.hid (fun w' => rsplit (str (cubeT s1.data.toList)) (str (cubeT s2.data.toList)) (cubeT_size _) w')
  have hK0 : w3.drew.cell? ⟨g, off + k, none⟩ = some (.string s1) ∧ w3.drew.cell? ⟨g, off + (k + 1), none⟩ = some (.string s2) ∧ Below w.heap.size w w3.drew := ⟨HP5.out.1, HP5.out.2.1, HP5.out.2.2.drew⟩
  go_upto_region 6 with fail
  go_region_held3 (fun w' => w'.cell? ⟨g, off + k, none⟩ = some (.string s1) ∧ w'.cell? ⟨g, off + (k + 1), none⟩ = some (.string s2) ∧ Below w.heap.size w w')
    (with_reducible (first | assumption | exact hK0 | exact hK4 | exact hK5 | fail))
    (first | (go_at_call 17; (with_reducible refine (HR1.out _).mono ?_); rintro e w9 ⟨rfl, rfl⟩) | (go_at_call 17; (with_reducible refine (HR2.out _).mono ?_); rintro e w8 ⟨rfl, rfl⟩) | (go_at_call 16; refine (HRS.out _).mono ?_; rintro e w4 ⟨v4, rfl, ho4, hb4⟩; have hb4' : Below w3.heap.size w3 w4 := ((Below.refl w3.heap.size w3).drew).trans (show Below w3.heap.size w3.drew w4 from hb4); have hP4 := HP5.out.below hg hb4'; have hK4 : w4.cell? ⟨g, off + k, none⟩ = some (.string s1) ∧ w4.cell? ⟨g, off + (k + 1), none⟩ = some (.string s2) ∧ Below w.heap.size w w4 := hP4; have ho34 := own_below HO3.out hb4' (Nat.le_refl _)) | (go_at_call 15; refine (texts_yes (prT_cubs s1 s2) _ _ v4 _ _ (Nat.le_trans (prT_len s1 s2) (by decide)) ho34 ho4).mono ?_; rintro e w5 ⟨rfl, hb5⟩; have hP5 := hP4.below hg hb5; have hK5 : w5.cell? ⟨g, off + k, none⟩ = some (.string s1) ∧ w5.cell? ⟨g, off + (k + 1), none⟩ = some (.string s2) ∧ Below w.heap.size w w5 := hP5; have ho35 := own_below ho34 hb5 (Nat.le_refl _)) | fail)
  go_wp2_with fail
  refine bodyPost_ret (v := .tuple #[.slice a3 (splitT (cubeT s1.data.toList) (cubeT s2.data.toList)).length cap3, .bool true]) (by simp [results, Try.results6, go_sem]) rfl ?_
  exact ⟨_, rfl, own_weak ho35 (by have := HP3.out.2.2.size; simp; omega), hP5.2.2⟩
end Go.Proofs.Ytoglcocplpdlhaa.Tn
