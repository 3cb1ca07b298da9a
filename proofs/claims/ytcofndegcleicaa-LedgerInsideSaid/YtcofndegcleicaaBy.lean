/- Lists of bytes: the laws' own comparison; LedgerSums. -/
import Derived.Test.YtcofndegcleicaaSu
import Derived.Test.YtcofndegcleicaaLaw
import Derived.Lib.SlBytesConst
namespace Go.Proofs.Ytcofndegcleicaa.Lg
open Go.RowKit Mm
theorem info_byte : (Try.prog.info? 5).map (fun i => (i.zero, i.size, i.bytes)) = some (some (.int .u8 0), 1, 1) := by kernel_rfl
theorem bytes_one (l : List UInt8) : ∀ u ∈ bytesV l, u.oneCell' = true := by
  intro u hu
  obtain ⟨b, _, rfl⟩ := List.mem_map.1 hu
  rfl
theorem app_bytes {B : Nat} {v : Value} {n : Nat} {l m : List UInt8} {w : World} {sv : Value} {ops : Array Oper} {rest : List Oper} {op : Oper} {a : Act} {Q : Exit → Act → World → Prop} {s x : Operand}
    (hown : w.ownsRow B 5 1 v n (bytesV l)) (hS : Sees w sv (bytesV m)) (hgd : op.guard = none) (ho : op.op = .call { callee := .builtin .append, args := #[s, x], argTypes := #[22, 22] })
    (hs : a.eval s = v) (hx : a.eval x = sv) (hn : n + m.length ≤ 140737488355328) (hB : B ≤ w.heap.size)
    (h : ∀ v' w', w'.ownsRow B 5 1 v' (n + m.length) (bytesV (l ++ m)) → w.grownBy w' v.ownBlock → wpList Try.prog ops Q rest (a.put op.dst v') w') : wpList Try.prog ops Q (op :: rest) a w := by
  refine app_sees 22 Try.underlying22 info_byte rfl hown hS hgd ho hs hx (bytes_one m) (by rw [bytesV_len]; simp only [maxLen]; omega) (by rw [bytesV_len]; omega) hB ?_
  intro v' w' h1 h2
  rw [bytesV_len] at h1
  exact h v' w' (by unfold bytesV at h1 ⊢; rw [List.map_append]; exact h1) h2
set_option maxHeartbeats 1000000 in
theorem bytes_yes (l : List UInt8) (v u : Value) (w : World) (hv : Sees w v (bytesV l)) (hu : Sees w u (bytesV l)) :
    Calls Try.prog 18 #[v, u] w fun e w' => e = .returned (.bool true) ∧ Below w.heap.size w w' := by
  obtain ⟨a0, cap0, rfl, _, hcap, hcm, hx⟩ := hv
  obtain ⟨a1, cap1, rfl, _, hcap1, hcm1, hx1⟩ := hu
  rw [bytesV_len] at hcap hcap1
  have hn := bytesV_len l
  rw [hn]
  have HX := Lib.hid hx
  have HX1 := Lib.hid hx1
  unfold maxLen at hcm hcm1
  have hne : ((l.length : Int) != (l.length : Int)) = false := by simp
  clear hx hx1 hn
  go_enter Try.func18, Try.ntmps18
  go_wp2
  go_loopw [5] (fun i wr => ∃ k : Nat, k ≤ l.length ∧ i = .int .i64 k ∧ Below w.heap.size w wr) (fun i _ => l.length - (intOf i).toNat)
  case atStart => exact ⟨0, Nat.zero_le _, rfl, Below.refl _ _⟩
  case round =>
    obtain ⟨k, hk, rfl, hbel⟩ := hrel
    by_cases hlt : k < l.length
    · obtain ⟨g, off, rfl, hg, hq⟩ : ∃ g off, a0 = some ⟨g, off, none⟩ ∧ g < w.heap.size ∧ ∀ j u, (bytesV l)[j]? = some u → w.cell? ⟨g, off + j, none⟩ = some u := by
        rcases HX.out with h0 | h0
        · have := bytesV_len l; rw [h0] at this; simp at this; omega
        · exact h0
      obtain ⟨g1, off1, rfl, hg1, hq1⟩ : ∃ g off, a1 = some ⟨g, off, none⟩ ∧ g < w.heap.size ∧ ∀ j u, (bytesV l)[j]? = some u → w.cell? ⟨g, off + j, none⟩ = some u := by
        rcases HX1.out with h0 | h0
        · have := bytesV_len l; rw [h0] at this; simp at this; omega
        · exact h0
      have q0 : wr.cell? ⟨g, off + k, none⟩ = some (.int .u8 (l[k].toNat : Int)) := by rw [hbel.cell (p := ⟨g, off + k, none⟩) hg]; exact hq k _ (bytesV_at l k hlt)
      have q1 : wr.cell? ⟨g1, off1 + k, none⟩ = some (.int .u8 (l[k].toNat : Int)) := by rw [hbel.cell (p := ⟨g1, off1 + k, none⟩) hg1]; exact hq1 k _ (bytesV_at l k hlt)
      generalize l[k].toNat = b at *
      have hbb : ((b : Int) != (b : Int)) = false := by simp
      clear hq hq1
      go_wp2
      go_quiet (fail)
      go_wp2
      go_roundw
      case rel => exact ⟨k + 1, by omega, by go_num, below_drewN hbel _⟩
      case measure => simp [intOf]; omega
    · go_wp2
      go_ret
      exact ⟨rfl, hbel⟩
theorem kept_yes (l : List UInt8) (v u : Value) (w : World) (hv : Sees w v (bytesV l)) (hu : Sees w u (bytesV l)) :
    Calls Try.prog 15 #[v, u] w fun e w' => e = .returned (.bool true) ∧ Below w.heap.size w w' := by
  have HB := Lib.hid (bytes_yes l v u w hv hu)
  clear hv hu
  go_enter Try.func15, Try.ntmps15
  go_wp2_with fail
  refine HB.out.mono ?_
  rintro e w1 ⟨rfl, hb⟩
  go_wp2_with fail
  go_ret
  exact ⟨rfl, hb⟩
def nine : List UInt8 := [49, 50, 51, 52, 53, 54, 55, 56, 57]
theorem crc_nine : crc nine = 3808858755 := by decide +kernel
theorem nine_row (w : World) : Sees (w.alloc (.cells #[.int .u8 49, .int .u8 50, .int .u8 51, .int .u8 52, .int .u8 53, .int .u8 54, .int .u8 55, .int .u8 56, .int .u8 57] 5 (9, 10))) (.slice (some ⟨w.heap.size, 0, none⟩) 9 9) (bytesV nine) := by
  refine ⟨some ⟨w.heap.size, 0, none⟩, 9, rfl, (fun h => by cases h), by decide, by decide, .inr ⟨w.heap.size, 0, rfl, by simp, fun j u hj => ?_⟩⟩
  rw [Nat.zero_add, cell_of_row _ w.heap.size j _ 5 (9, 10) (heap_alloc_new w _), ← Array.getElem?_toList]; exact hj
set_option maxRecDepth 100000 in
set_option maxHeartbeats 2000000 in
theorem sums_walk (v : Value) (l : List UInt8) (w : World) (hS : Sees w v (bytesV l)) : Calls Try.prog 3 #[v] w fun e w' => e = .returned (.bool true) ∧ Below w.heap.size w w' := by
  obtain ⟨a0, cap0, hv, _, hcap, hcm, _⟩ := id hS
  rw [bytesV_len] at hv hcap
  subst hv
  unfold maxLen at hcm
  by_cases hl : l.length ≤ 200000
  · have kc := fun (w : World) (C : Array Value) (n c : Nat) => Lib.run_convert_bytes_const (P := Try.prog) w 22 5 C n c Try.underlying22 Try.underlying5
    have HCR := Lib.hid crc_nine
    have HS := Lib.hid hS
    have hcc : ((crc l : Int) == (crc l : Int)) = true := by simp
    have hempty : (w.alloc (.cells #[] 5)).ownsRow w.heap.size 5 1 (.slice (some ⟨w.heap.size, 0, none⟩) 0 0) 0 (bytesV []) := World.ownsRow_made w #[] 0 (Nat.le_refl _) (by decide) rfl
    have HE := Lib.hid hempty
    clear hS hempty
    go_enter Try.func3, Try.ntmps3
    go_upto_region 4 with (at_builtin; refine app_bytes HE.out (HS.out.alloc _) rfl rfl rfl rfl (by omega) (by simp) ?_; intro v1 w1 hown1 hg1)
    rw [List.nil_append, Nat.zero_add] at hown1
    have hb1 : Below w.heap.size w w1 := ((Below.refl _ w).alloc (Nat.le_refl _) _).trans (below_grown HE.out hg1 (by simp))
    have hS1 := HS.out.below hb1
    clear hg1
    go_wp2_with fail
    refine (sum_any l _ _ hS1).mono ?_
    rintro e w2 ⟨rfl, hb2⟩
    have hb2' := bnx hb1 hb2
    have hown2 := own_below hown1 hb2 (Nat.le_refl _)
    have hS2 := hS1.below hb2
    go_wp2_with fail
    refine (rsum_any l _ _ (Sees.of_own hown2)).mono ?_
    rintro e w3 ⟨rfl, rfl⟩
    go_wp2_with fail
    refine (kept_yes l _ _ _ hS2 (Sees.of_own hown2)).mono ?_
    rintro e w3 ⟨rfl, hb3⟩
    have hb3' := bnx hb2' hb3
    go_wp2_with fail
    have hn9 := sum_any nine _ _ (nine_row w3)
    rw [HCR.out] at hn9
    refine hn9.mono ?_
    clear hn9
    rintro e w4 ⟨rfl, hb4⟩
    go_wp2_with fail
    go_ret
    exact ⟨rfl, bnx (bal hb3' _) hb4⟩
  · go_enter Try.func3, Try.ntmps3
    go_wp2
    go_ret
    exact ⟨rfl, Below.refl _ _⟩
end Go.Proofs.Ytcofndegcleicaa.Lg
