/- Lists of bytes: the laws' own comparison; LedgerSums. -/
import Derived.Test.YtfilbjooebnbkaaSu
import Derived.Test.YtfilbjooebnbkaaLaw
import Derived.Lib.SlBytesConst
namespace Go.Proofs.Ytfilbjooebnbkaa.Lg
open Go.RowKit Mm
theorem info_byte : (Try.prog.info? 5).map (fun i => (i.zero, i.size, i.bytes)) = some (some (.int .u8 0), 1, 1) := by kernel_rfl
theorem bytes_one (l : List UInt8) : ∀ u ∈ bytesV l, u.oneCell' = true := by
  intro u hu
  obtain ⟨b, _, rfl⟩ := List.mem_map.1 hu
  rfl
theorem app_bytes {B : Nat} {v : Value} {n : Nat} {l m : List UInt8} {w : World} {sv : Value} {ops : Array Oper} {rest : List Oper} {op : Oper} {a : Act} {Q : Exit → Act → World → Prop} {s x : Operand}
    (hown : w.ownsRow B 5 1 v n (bytesV l)) (hS : Sees w sv (bytesV m)) (hgd : op.guard = none) (ho : op.op = .call { callee := .builtin .append, args := #[s, x], argTypes := #[30, 30] })
    (hs : a.eval s = v) (hx : a.eval x = sv) (hn : n + m.length ≤ 140737488355328) (hB : B ≤ w.heap.size)
    (h : ∀ v' w', w'.ownsRow B 5 1 v' (n + m.length) (bytesV (l ++ m)) → w.grownBy w' v.ownBlock → wpList Try.prog ops Q rest (a.put op.dst v') w') : wpList Try.prog ops Q (op :: rest) a w := by
  refine app_sees 30 Try.underlying30 info_byte rfl hown hS hgd ho hs hx (bytes_one m) (by rw [bytesV_len]; simp only [maxLen]; omega) (by rw [bytesV_len]; omega) hB ?_
  intro v' w' h1 h2
  rw [bytesV_len] at h1
  exact h v' w' (by unfold bytesV at h1 ⊢; rw [List.map_append]; exact h1) h2
set_option maxRecDepth 100000 in
set_option maxHeartbeats 1000000 in
theorem bytes_yes (l : List UInt8) (v u : Value) (w : World) (hv : Sees w v (bytesV l)) (hu : Sees w u (bytesV l)) :
    Calls Try.prog 8 #[v, u] w fun e w' => e = .returned (.bool true) ∧ Below w.heap.size w w' := by
  obtain ⟨a0, cap0, rfl, _, hcap, hcm, hx⟩ := hv
  obtain ⟨a1, cap1, rfl, _, hcap1, hcm1, hx1⟩ := hu
  rw [bytesV_len] at hcap hcap1
  have hn := bytesV_len l
  rw [hn]
  have HX := Lib.hid hx
  have HX1 := Lib.hid hx1
  unfold maxLen at hcm hcm1
  have hne : ((l.length : Int) != (l.length : Int)) = false := by simp
  clear hx hx1 hn
  go_enter Try.func8, Try.ntmps8
  go_wp2
  go_loopw [5] (fun i wr => ∃ k : Nat, k ≤ l.length ∧ i = .int .i64 k ∧ Below w.heap.size w wr) (fun i _ => l.length - (intOf i).toNat)
  case atStart => exact ⟨0, Nat.zero_le _, rfl, Below.refl _ _⟩
  case round =>
    obtain ⟨k, hk, rfl, hbel⟩ := hrel
    by_cases hlt : k < l.length
    · obtain ⟨g, off, rfl, hg, hq⟩ : ∃ g off, a0 = some ⟨g, off, none⟩ ∧ g < w.heap.size ∧ ∀ j u, (bytesV l)[j]? = some u → w.cell? ⟨g, off + j, none⟩ = some u := by
        rcases HX.out with h0 | h0
        · have := bytesV_len l; rw [h0] at this; simp at this; omega
        · exact h0
      obtain ⟨g1, off1, rfl, hg1, hq1⟩ : ∃ g off, a1 = some ⟨g, off, none⟩ ∧ g < w.heap.size ∧ ∀ j u, (bytesV l)[j]? = some u → w.cell? ⟨g, off + j, none⟩ = some u := by
        rcases HX1.out with h0 | h0
        · have := bytesV_len l; rw [h0] at this; simp at this; omega
        · exact h0
      have q0 : wr.cell? ⟨g, off + k, none⟩ = some (.int .u8 (l[k].toNat : Int)) := by rw [hbel.cell (p := ⟨g, off + k, none⟩) hg]; exact hq k _ (bytesV_at l k hlt)
      have q1 : wr.cell? ⟨g1, off1 + k, none⟩ = some (.int .u8 (l[k].toNat : Int)) := by rw [hbel.cell (p := ⟨g1, off1 + k, none⟩) hg1]; exact hq1 k _ (bytesV_at l k hlt)
      generalize l[k].toNat = b at *
      have hbb : ((b : Int) != (b : Int)) = false := by simp
      clear hq hq1
      go_wp2
      go_quiet (fail)
      go_wp2
      go_roundw
      case rel => exact ⟨k + 1, by omega, by go_num, below_drewN hbel _⟩
      case measure => simp [intOf]; omega
    · go_wp2
      go_ret
      exact ⟨rfl, hbel⟩
def nine : List UInt8 := [49, 50, 51, 52, 53, 54, 55, 56, 57]
theorem crc_nine : crc nine = 3808858755 := by decide +kernel
theorem nine_row (w : World) : Sees (w.alloc (.cells #[.int .u8 49, .int .u8 50, .int .u8 51, .int .u8 52, .int .u8 53, .int .u8 54, .int .u8 55, .int .u8 56, .int .u8 57] 5 (9, 10))) (.slice (some ⟨w.heap.size, 0, none⟩) 9 9) (bytesV nine) := by
  refine ⟨some ⟨w.heap.size, 0, none⟩, 9, rfl, (fun h => by cases h), by decide, by decide, .inr ⟨w.heap.size, 0, rfl, by simp, fun j u hj => ?_⟩⟩
  rw [Nat.zero_add, cell_of_row _ w.heap.size j _ 5 (9, 10) (heap_alloc_new w _), ← Array.getElem?_toList]; exact hj
end Go.Proofs.Ytfilbjooebnbkaa.Lg
