/- TernOrder: the walk, all ways joined. -/
import Derived.Test.YtdiijannpfogdaaLo1
import Derived.Test.YtdiijannpfogdaaLo2
import Derived.Test.YtdiijannpfogdaaLo3
namespace Go.Proofs.Ytdiijannpfogdaa.Tn
open Go.RowKit
theorem order_walk (s1 : ByteArray) (h1 : s1.size ≤ maxLen) (s2 : ByteArray) (h2 : s2.size ≤ maxLen) (s3 : ByteArray) (h3 : s3.size ≤ maxLen) (w : World) : Calls Try.prog 11 #[.string s1, .string s2, .string s3] w fun e w' => e = .returned (.bool true) ∧ Below w.heap.size w w' := by
  by_cases h : isCube s1.data.toList ∧ isCube s2.data.toList ∧ isCube s3.data.toList ∧ s1.size = s2.size ∧ s1.size = s3.size
  · obtain ⟨q1, q2, q3, q4, q5⟩ := h
    by_cases hx : withinOk s1.data.toList s2.data.toList
    · by_cases hy : withinOk s2.data.toList s1.data.toList
      · exact order_yes3 s1 s2 s3 h1 h2 h3 w q1 q2 q3 q4 q5 (within_antisymm hx hy)
      · exact order_yes2 s1 s2 s3 h1 h2 h3 w q1 q2 q3 q4 q5 hx hy
    · exact order_yes1 s1 s2 s3 h1 h2 h3 w q1 q2 q3 q4 q5 hx
  · exact order_not s1 s2 s3 h1 h2 h3 w h
end Go.Proofs.Ytdiijannpfogdaa.Tn
