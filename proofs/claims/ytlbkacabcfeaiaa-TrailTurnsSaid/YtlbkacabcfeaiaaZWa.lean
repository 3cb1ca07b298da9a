/- Patterns: the program writes a tree: leaves. -/
import Derived.Test.YtlbkacabcfeaiaaZRg
import Derived.Test.YtlbkacabcfeaiaaZPA
namespace Go.Proofs.Ytlbkacabcfeaiaa.Tl
open Go.RowKit Mm
set_option linter.unusedVariables false
theorem str_eq {a : ByteArray} {l : List UInt8} (h : a.data.toList = l) : a = str l := by
  subst h
  exact (str_of a).symm
set_option maxRecDepth 100000 in
set_option maxHeartbeats 4000000 in
theorem leaf_write (w : World) (tx : List UInt8) (n p d : Bool) (hl : tx.length ≤ 100000) :
    Calls Try.prog 71 #[.agg #[.string (str tx), .bool n, .bool p, .bool d]] w fun e w' => e = .returned (.string (str (txt (.leaf tx n p d)))) ∧ Below w.heap.size w w' := by
  have hb := bal (Below.refl w.heap.size w) (.cells #[.string (str tx), .bool n, .bool p, .bool d] 87)
  have hB := Blk.new w 87 #[.string (str tx), .bool n, .bool p, .bool d]
  have c0 := hB.cell 0
  have c3 := hB.cell 3
  have hs := str_size tx
  have h2 : (⟨#[33]⟩ : ByteArray) ++ str tx = str (33 :: tx) := str_eq rfl
  have hd : txt (.leaf tx n p d) = if d then 33 :: tx else tx := by rw [txt]
  rw [hd]
  clear hd
  generalize hx : str tx = x at *
  have HX := Lib.hid hx
  have H2 := Lib.hid h2
  clear hx h2
  cases d with
  | true =>
    go_enter Try.func71, Try.ntmps71
    go_wp2_with fail
    go_ret
    exact ⟨by rw [← H2.out]; rfl, hb⟩
  | false =>
    go_enter Try.func71, Try.ntmps71
    go_wp2_with fail
    go_ret
    exact ⟨by rw [HX.out]; rfl, hb⟩
end Go.Proofs.Ytlbkacabcfeaiaa.Tl
