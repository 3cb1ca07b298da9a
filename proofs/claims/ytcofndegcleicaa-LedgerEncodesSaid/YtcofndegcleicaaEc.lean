/- LedgerEncodes. -/
import Derived.Test.YtcofndegcleicaaFx
import Derived.Test.YtcofndegcleicaaRe
namespace Go.Proofs.Ytcofndegcleicaa.Lg
open Go.RowKit Mm
set_option maxRecDepth 100000 in
set_option maxHeartbeats 2000000 in
theorem encodes_walk (seq kind : Int) (t : ByteArray) (hs : t.size ≤ maxLen) (w : World) :
    Calls Try.prog 4 #[.agg #[.int .i64 seq, .int .i64 kind, .string t]] w fun e w' => e = .returned (.bool true) ∧ Below w.heap.size w w' := by
  have HE := Lib.hid (fun w' => encode_any seq kind t w' hs)
  have HR := Lib.hid (fun w' => rencode_any seq kind t w' hs)
  generalize encE kind seq t.data.toList = E at *
  generalize encT kind seq t.data.toList = T at *
  have hq4 : (E == E) = true := by simp
  clear hs
  go_enter Try.func4, Try.ntmps4
  go_wp2_with fail
  have g0 := bal (Below.refl _ w) (.cells #[.int .i64 seq, .int .i64 kind, .string t] 27)
  refine (HE.out _).mono ?_
  rintro e w1 ⟨v, rfl, ho1, hb1⟩
  have S1 := Lib.hid (Sees.of_own ho1)
  clear ho1 HE
  have hB := (Blk.new w 27 #[.int .i64 seq, .int .i64 kind, .string t]).below hb1 (by simp)
  have hlt := hB.lt
  have hc := hB.cell
  go_wp2_with fail
  refine (HR.out _).mono ?_
  rintro e w2 ⟨u, rfl, ho2, hb2⟩
  have S2 := Lib.hid (Sees.of_own ho2)
  have S1' := Lib.hid (S1.out.below hb2)
  clear ho2 S1 HR hlt hc hB
  go_wp2_with fail
  refine (bytes_yes T _ _ _ S1'.out S2.out).mono ?_
  rintro e w3 ⟨rfl, hb3⟩
  go_wp2_with fail
  refine (fixed_yes _).mono ?_
  rintro e w4 ⟨rfl, hb4⟩
  go_wp2_with fail
  go_ret
  exact ⟨rfl, bnx (bnx (bnx (bnx g0 hb1) hb2) hb3) hb4⟩
end Go.Proofs.Ytcofndegcleicaa.Lg
