/- TernOwn: copied, full, alike. -/
import Derived.Test.YtoglcocplpdlhaaKa
import Derived.BigQuiet
namespace Go.Proofs.Ytoglcocplpdlhaa.Tn
open Go.RowKit
attribute [local go_sem] cv cs wv
theorem neq_self (n : Nat) (c o : Nat → Bool) (w : World) : (binOp .neq 27 (cv n c o) (cv n c o)).run Try.prog w = .ok (.bool false) w := by
  unfold cv cs wv
  rw [run_neq_struct, eq_cube]
  simp
theorem cube_at {w : World} {B : Nat} {a : Option Addr} {cap : Nat} {L : List (List UInt8)} (h : w.ownsRow B 27 9 (.slice a L.length cap) L.length (crow L)) {k : Nat} (hk : k < L.length) {n : Nat} {c o : Nat → Bool} (hC : Cub L[k] n c o) :
    ∃ g, a = some ⟨g, 0, none⟩ ∧ g < w.heap.size ∧ L.length ≤ cap ∧ ∀ j u, j < 9 → (cs n c o)[j]? = some u → w.cell? ⟨g, k * 9 + j, none⟩ = some u := by
  obtain ⟨g, cp, e, hcap, hb, hx⟩ := own_at h (by omega)
  cases e
  refine ⟨g, rfl, ?_, hcap, fun j u hj hu => hx _ _ (by rw [crow_at L k hk j hj, ← hC.cells, Array.getElem?_toList]; exact hu)⟩
  rcases h.2 with ⟨hh, _⟩ | ⟨g', cap', cur, hv, _, hg, _⟩
  · cases hh
  · cases hv; exact (Array.getElem?_eq_some_iff.1 hg).1
set_option maxHeartbeats 2000000 in
theorem copied_any {L : List (List UInt8)} (hC : ∀ t ∈ L, ∃ n c o, Cub t n c o) (w : World) (v : Value) (B : Nat) (hL : L.length ≤ 1000000)
    (h : w.ownsRow B 27 9 v L.length (crow L)) :
    Calls Try.prog 7 #[v] w fun e w' => ∃ v', e = .returned v' ∧ w'.ownsRow w.heap.size 27 9 v' L.length (crow L) ∧ Below w.heap.size w w' := by
  have HC := Lib.hid hC
  obtain ⟨a1, cap1, rfl⟩ := own_len h
  clear hC
  have H := Lib.hid h
  clear h
  go_enter Try.func7, Try.ntmps7
  go_wp2_with fail
  go_loopw [3, 4] (fun u i wr => ∃ k : Nat, k ≤ L.length ∧ i = .int .i64 k ∧ wr.ownsRow w.heap.size 27 9 u k (crow (L.take k)) ∧ Below w.heap.size w wr) (fun _ i _ => L.length - (intOf i).toNat)
  case atStart => exact ⟨0, Nat.zero_le _, rfl, crow_nil _ _, Below.refl _ _⟩
  case round =>
    obtain ⟨k, hk, rfl, hown, hbel⟩ := hrel
    have HO := Lib.hid hown
    have HB := Lib.hid hbel
    clear hown
    by_cases hlt : k < L.length
    · obtain ⟨n, c, o, hCk⟩ := HC.out L[k] (List.getElem_mem hlt)
      obtain ⟨g1, rfl, hg1, hcap, hg⟩ := cube_at (own_below H.out hbel (Nat.le_refl _)) hlt hCk
      have q0 := hg 0 _ (by omega) rfl
      have q1 := hg 1 _ (by omega) rfl
      have q2 := hg 2 _ (by omega) rfl
      have q3 := hg 3 _ (by omega) rfl
      have q4 := hg 4 _ (by omega) rfl
      have q5 := hg 5 _ (by omega) rfl
      have q6 := hg 6 _ (by omega) rfl
      have q7 := hg 7 _ (by omega) rfl
      have q8 := hg 8 _ (by omega) rfl
      rw [Nat.add_zero] at q0
      have HK := Lib.hid hCk
      have hsz := hbel.size
      have HS := Lib.hid (show L.take (k + 1) = L.take k ++ [L[k]] from by rw [List.take_add_one, List.getElem?_eq_getElem hlt]; rfl)
      clear hg hbel hCk
      go_wp2_with (at_builtin; refine app_cube HK.out HO.out rfl rfl rfl rfl (by omega) hsz ?_; intro v' w2 hown2 hb2 _)
      go_roundw
      case rel => exact ⟨k + 1, by omega, by go_num, by rw [HS.out]; exact hown2, HB.out.trans hb2⟩
      case measure => simp [intOf]; omega
    · obtain rfl : k = L.length := by omega
      rw [List.take_length] at HO
      go_wp2
      go_ret
      exact ⟨_, rfl, HO.out, HB.out⟩
set_option maxHeartbeats 2000000 in
theorem alike_any {L : List (List UInt8)} (hC : ∀ t ∈ L, ∃ n c o, Cub t n c o) (w : World) (v1 v2 : Value) (B1 B2 : Nat) (hL : L.length ≤ 1000000)
    (h1 : w.ownsRow B1 27 9 v1 L.length (crow L)) (h2 : w.ownsRow B2 27 9 v2 L.length (crow L)) :
    Calls Try.prog 10 #[v1, v2] w fun e w' => e = .returned (.bool true) ∧ Below w.heap.size w w' := by
  have HC := Lib.hid hC
  clear hC
  obtain ⟨a1, cap1, rfl⟩ := own_len h1
  obtain ⟨a2, cap2, rfl⟩ := own_len h2
  have H1 := Lib.hid h1
  have H2 := Lib.hid h2
  clear h1 h2
  have hne : ((L.length : Int) != (L.length : Int)) = false := by simp
  go_enter Try.func10, Try.ntmps10
  go_wp2_with fail
  go_loopw [5] (fun i wr => ∃ k : Nat, k ≤ L.length ∧ i = .int .i64 k ∧ Below w.heap.size w wr) (fun i _ => L.length - (intOf i).toNat)
  case atStart => exact ⟨0, Nat.zero_le _, rfl, Below.refl _ _⟩
  case round =>
    obtain ⟨k, hk, rfl, hbel⟩ := hrel
    have HB := Lib.hid hbel
    by_cases hlt : k < L.length
    · obtain ⟨n, c, o, hCk⟩ := HC.out L[k] (List.getElem_mem hlt)
      obtain ⟨g1, rfl, hg1, hcap1, hx⟩ := cube_at (own_below H1.out hbel (Nat.le_refl _)) hlt hCk
      obtain ⟨g2, rfl, hg2, hcap2, hy⟩ := cube_at (own_below H2.out hbel (Nat.le_refl _)) hlt hCk
      have hnn := neq_self n c o
      have q0 := hx 0 _ (by omega) rfl
      have q1 := hx 1 _ (by omega) rfl
      have q2 := hx 2 _ (by omega) rfl
      have q3 := hx 3 _ (by omega) rfl
      have q4 := hx 4 _ (by omega) rfl
      have q5 := hx 5 _ (by omega) rfl
      have q6 := hx 6 _ (by omega) rfl
      have q7 := hx 7 _ (by omega) rfl
      have q8 := hx 8 _ (by omega) rfl
      have p0 := hy 0 _ (by omega) rfl
      have p1 := hy 1 _ (by omega) rfl
      have p2 := hy 2 _ (by omega) rfl
      have p3 := hy 3 _ (by omega) rfl
      have p4 := hy 4 _ (by omega) rfl
      have p5 := hy 5 _ (by omega) rfl
      have p6 := hy 6 _ (by omega) rfl
      have p7 := hy 7 _ (by omega) rfl
      have p8 := hy 8 _ (by omega) rfl
      rw [Nat.add_zero] at q0 p0
      unfold cv cs wv at hnn
      clear hx hy hbel hCk
      go_upto_region 6 with fail
      go_quiet (fail)
      go_wp2
      go_roundw
      case rel => exact ⟨k + 1, by omega, by go_num, below_drewN HB.out _⟩
      case measure => simp [intOf]; omega
    · obtain rfl : k = L.length := by omega
      go_wp2
      go_ret
      exact ⟨rfl, HB.out⟩
end Go.Proofs.Ytoglcocplpdlhaa.Tn
