/- Lists of bytes: the laws' own comparison; LedgerSums. -/
import Derived.Test.YtndclkphglpknaaDoorSu
import Derived.Test.YtndclkphglpknaaDoorLaw
import Derived.Lib.SlBytesConst
namespace Go.Proofs.YtndclkphglpknaaDoor.Lg
open Go.RowKit Mm
theorem info_byte : (Tryd.prog.info? 5).map (fun i => (i.zero, i.size, i.bytes)) = some (some (.int .u8 0), 1, 1) := by kernel_rfl
theorem bytes_one (l : List UInt8) : ∀ u ∈ bytesV l, u.oneCell' = true := by
  intro u hu
  obtain ⟨b, _, rfl⟩ := List.mem_map.1 hu
  rfl
theorem app_bytes {B : Nat} {v : Value} {n : Nat} {l m : List UInt8} {w : World} {sv : Value} {ops : Array Oper} {rest : List Oper} {op : Oper} {a : Act} {Q : Exit → Act → World → Prop} {s x : Operand}
    (hown : w.ownsRow B 5 1 v n (bytesV l)) (hS : Sees w sv (bytesV m)) (hgd : op.guard = none) (ho : op.op = .call { callee := .builtin .append, args := #[s, x], argTypes := #[22, 22] })
    (hs : a.eval s = v) (hx : a.eval x = sv) (hn : n + m.length ≤ 140737488355328) (hB : B ≤ w.heap.size)
    (h : ∀ v' w', w'.ownsRow B 5 1 v' (n + m.length) (bytesV (l ++ m)) → w.grownBy w' v.ownBlock → wpList Tryd.prog ops Q rest (a.put op.dst v') w') : wpList Tryd.prog ops Q (op :: rest) a w := by
  refine app_sees 22 Tryd.underlying22 info_byte rfl hown hS hgd ho hs hx (bytes_one m) (by rw [bytesV_len]; simp only [maxLen]; omega) (by rw [bytesV_len]; omega) hB ?_
  intro v' w' h1 h2
  rw [bytesV_len] at h1
  exact h v' w' (by unfold bytesV at h1 ⊢; rw [List.map_append]; exact h1) h2
def nine : List UInt8 := [49, 50, 51, 52, 53, 54, 55, 56, 57]
theorem crc_nine : crc nine = 3808858755 := by decide +kernel
theorem nine_row (w : World) : Sees (w.alloc (.cells #[.int .u8 49, .int .u8 50, .int .u8 51, .int .u8 52, .int .u8 53, .int .u8 54, .int .u8 55, .int .u8 56, .int .u8 57] 5 (9, 10))) (.slice (some ⟨w.heap.size, 0, none⟩) 9 9) (bytesV nine) := by
  refine ⟨some ⟨w.heap.size, 0, none⟩, 9, rfl, (fun h => by cases h), by decide, by decide, .inr ⟨w.heap.size, 0, rfl, by simp, fun j u hj => ?_⟩⟩
  rw [Nat.zero_add, cell_of_row _ w.heap.size j _ 5 (9, 10) (heap_alloc_new w _), ← Array.getElem?_toList]; exact hj
end Go.Proofs.YtndclkphglpknaaDoor.Lg
