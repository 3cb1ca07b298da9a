/- Show: numbers in words of the document's. -/
import Derived.Test.YtaleaicfllcpiaaDoorUo
import Derived.Test.YtaleaicfllcpiaaDoorPr
import Derived.Lib.ItoaLen
namespace Go.Proofs.YtaleaicfllcpiaaDoor.Fl
open Go.RowKit Mm Law
set_option linter.unusedVariables false
set_option linter.unusedSimpArgs false
set_option linter.unusedSectionVars false
theorem dd_big {n : Nat} (h : ¬ n < 10) : Lib.decDigits n = Lib.decDigits (n / 10) ++ [UInt8.ofNat (48 + n % 10)] := by rw [Lib.decDigits, dif_neg h]
theorem dg_bv (n : Nat) : bv (UInt8.ofNat (48 + n % 10)) = .int .u8 (48 + (n : Int) % 10) := by
  unfold bv
  rw [UInt8.toNat_ofNat', Nat.mod_eq_of_lt (by omega)]
  congr 1
theorem dg_str (n : Nat) (w : World) : (convert 46 9 (.slice (some ⟨w.heap.size, 0, none⟩) 1 1)).run Tryd.prog (w.alloc (.cells #[.int .u8 (48 + (n : Int) % 10)] 5)) = .ok (.string (str [UInt8.ofNat (48 + n % 10)])) (w.alloc (.cells #[.int .u8 (48 + (n : Int) % 10)] 5)) := by
  refine run_string_blk (P := Tryd.prog) (l := [UInt8.ofNat (48 + n % 10)]) Tryd.underlying46 Tryd.underlying5 Tryd.underlying9 rfl ?_
  rw [List.map_cons, List.map_nil, dg_bv]
  exact Blk.new w 5 _
set_option maxRecDepth 100000 in
set_option maxHeartbeats 4000000 in
theorem decimal_any (n : Nat) : ∀ (_ : n < 4294967296) (w : World), Calls Tryd.prog 66 #[.int .i64 (n : Int)] w fun e w' => e = .returned (.string (str (Lib.decDigits n))) ∧ Below w.heap.size w w' := by
  induction n using Nat.strongRecOn with
  | _ n ih =>
    intro hn w
    have HIH := Lib.hid ih
    clear ih
    have hst := dg_str n w
    have HDS := Lib.hid (show n < 10 → Lib.decDigits n = [UInt8.ofNat (48 + n % 10)] from fun h10 => by rw [Lib.decDigits_one h10, Nat.mod_eq_of_lt h10])
    have HDB := Lib.hid (show ¬ n < 10 → Lib.decDigits n = Lib.decDigits (n / 10) ++ [UInt8.ofNat (48 + n % 10)] from dd_big)
    generalize UInt8.ofNat (48 + n % 10) = d at *
    by_cases h10 : n < 10
    · have HD := Lib.hid (HDS.out h10)
      have hx : (n : Int) < 10 := by omega
      go_enter Tryd.func66, Tryd.ntmps66
      go_wp2_with fail
      go_ret
      rw [HD.out]
      exact ⟨rfl, bal (Below.refl _ _) _⟩
    · have HD := Lib.hid (HDB.out h10)
      have hx : ¬ (n : Int) < 10 := by omega
      have HI := Lib.hid (fun w => HIH.out (n / 10) (by omega) (by omega) w)
      rw [show ((n / 10 : Nat) : Int) = (n : Int) / 10 from by omega] at HI
      have HLN := Lib.hid (show (str (Lib.decDigits (n / 10))).size ≤ 20 from by
        rw [str_size, Lib.decDigits_length]
        exact Lib.nDigits_le20 _ (by omega))
      have HAP := Lib.hid (str_app (Lib.decDigits (n / 10)) [d])
      have HL1 := Lib.hid (str_size [d])
      generalize hz1 : str (Lib.decDigits (n / 10)) = z1 at *
      generalize hz2 : str [d] = z2 at *
      have hs2 : z2.size = 1 := HL1.out
      have hs1 : ¬ 9223372036854775807 < z1.size + z2.size := by have := HLN.out; omega
      clear hz1 hz2 hs2
      go_enter Tryd.func66, Tryd.ntmps66
      go_wp2_with fail
      refine (HI.out _).mono ?_
      rintro e w2 ⟨rfl, hb2⟩
      go_wp2_with fail
      go_ret
      rw [HD.out, ← HAP.out]
      exact ⟨rfl, (bal (Below.refl _ _) _).trans (hb2.mono (by simp))⟩
end Go.Proofs.YtaleaicfllcpiaaDoor.Fl
