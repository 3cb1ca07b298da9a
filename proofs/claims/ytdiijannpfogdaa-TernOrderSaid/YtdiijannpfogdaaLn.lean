/- TernOrder: the walk, both ways joined. -/
import Derived.Test.YtdiijannpfogdaaLo
namespace Go.Proofs.Ytdiijannpfogdaa.Tn
open Go.RowKit
theorem order_walk (s1 : ByteArray) (h1 : s1.size ≤ maxLen) (s2 : ByteArray) (h2 : s2.size ≤ maxLen) (s3 : ByteArray) (h3 : s3.size ≤ maxLen) (w : World) : Calls Try.prog 11 #[.string s1, .string s2, .string s3] w fun e w' => e = .returned (.bool true) ∧ Below w.heap.size w w' := by
  by_cases h : isCube s1.data.toList ∧ isCube s2.data.toList ∧ isCube s3.data.toList ∧ s1.size = s2.size ∧ s1.size = s3.size
  · obtain ⟨q1, q2, q3, q4, q5⟩ := h
    exact order_yes s1 s2 s3 h1 h2 h3 w q1 q2 q3 q4 q5
  · exact order_not s1 s2 s3 h1 h2 h3 w h
end Go.Proofs.Ytdiijannpfogdaa.Tn
