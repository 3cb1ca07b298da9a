/- Show: dotted quads. -/
import Derived.Test.YtaleaicfllcpiaaDoorDe
import Derived.Test.YtaleaicfllcpiaaDoorRows
import Derived.Deep.RegionHeld3
import Derived.Lib.SmallJoins
import Derived.Lib.AppendIntMem
import Derived.Lib.QuietBelow
import Derived.MakeChecks
import Derived.Lib.LaidTab
namespace Go.Proofs.YtaleaicfllcpiaaDoor.Fl
open Go.RowKit Mm Law
set_option linter.unusedVariables false
set_option linter.unusedSimpArgs false
set_option linter.unusedSectionVars false
def ddT (n : Nat) : ByteArray := str (Lib.decDigits n)
theorem ddT_size {n : Nat} (h : n < 4294967296) : (ddT n).size ≤ 20 := by
  unfold ddT
  rw [str_size, Lib.decDigits_length]
  exact Lib.nDigits_le20 _ (by omega)
def dotB : ByteArray := ⟨#[46]⟩
def quadB (v : Nat) : ByteArray := ddT (v / 16777216 % 256) ++ ⟨#[46]⟩ ++ ddT (v / 65536 % 256) ++ ⟨#[46]⟩ ++ ddT (v / 256 % 256) ++ ⟨#[46]⟩ ++ ddT (v % 256)
theorem and_255 (x : Nat) (h : x < 4294967296) : bits .and .i64 (x : Int) 255 = ((x % 256 : Nat) : Int) := by
  have h1 := and_top x 8 (by omega) (by decide)
  exact h1
abbrev Tab (w : World) : Prop := Lib.TabIs Tryd.prog w "internal/strconv.uint64pow10" .u64 Lib.pow10Tab
theorem tab_named : ∃ g, Tryd.prog.globalNamed "internal/strconv.uint64pow10" = some g := Option.isSome_iff_exists.1 (by kernel_rfl)
theorem tab_below {w w' : World} (h : Tab w) (hb : Below w.heap.size w w') : Tab w' := by
  obtain ⟨g, hg⟩ := tab_named
  exact Joins.tab_stays hg h hb (Nat.le_refl _)
theorem itoa_any (n : Nat) (hn : n ≤ 9223372036854775807) (w : World) (h : Tab w) :
    Calls Tryd.prog 93 #[.int .i64 (n : Int)] w fun e w' => e = .returned (.string (ddT n)) ∧ Below w.heap.size w w' := by
  refine (Tryd.strconv_Itoa (n : Int) (by omega) (by omega) w h).mono ?_
  rintro e w' ⟨he, k, os, rfl⟩
  rw [Lib.itoa_nonneg] at he
  exact ⟨he, Lib.below_grow _ _ (Nat.le_refl _) _ _⟩
set_option maxRecDepth 100000 in
set_option maxHeartbeats 4000000 in
theorem rquad_any (v : Nat) (hv : v < 4294967296) (w : World) :
    Calls Tryd.prog 65 #[.int .i64 (v : Int)] w fun e w' => e = .returned (.string (quadB v)) ∧ Below w.heap.size w w' := by
  have H1 := Lib.hid (fun w => decimal_any (v / 16777216 % 256) (by omega) w)
  have H2 := Lib.hid (fun w => decimal_any (v / 65536 % 256) (by omega) w)
  have H3 := Lib.hid (fun w => decimal_any (v / 256 % 256) (by omega) w)
  have H4 := Lib.hid (fun w => decimal_any (v % 256) (by omega) w)
  rw [show ((v / 16777216 % 256 : Nat) : Int) = (v : Int) / 16777216 % 256 from by omega] at H1
  rw [show ((v / 65536 % 256 : Nat) : Int) = (v : Int) / 65536 % 256 from by omega] at H2
  rw [show ((v / 256 % 256 : Nat) : Int) = (v : Int) / 256 % 256 from by omega] at H3
  rw [show ((v % 256 : Nat) : Int) = (v : Int) % 256 from by omega] at H4
  have a1 := and_255 (v / 16777216) (by omega)
  have a2 := and_255 (v / 65536) (by omega)
  have a3 := and_255 (v / 256) (by omega)
  have a4 := and_255 v hv
  rw [show ((v / 16777216 : Nat) : Int) = (v : Int) / 16777216 from by omega, show ((v / 16777216 % 256 : Nat) : Int) = (v : Int) / 16777216 % 256 from by omega] at a1
  rw [show ((v / 65536 : Nat) : Int) = (v : Int) / 65536 from by omega, show ((v / 65536 % 256 : Nat) : Int) = (v : Int) / 65536 % 256 from by omega] at a2
  rw [show ((v / 256 : Nat) : Int) = (v : Int) / 256 from by omega, show ((v / 256 % 256 : Nat) : Int) = (v : Int) / 256 % 256 from by omega] at a3
  rw [show ((v % 256 : Nat) : Int) = (v : Int) % 256 from by omega] at a4
  have d1 := ddT_size (n := v / 16777216 % 256) (by omega)
  have d2 := ddT_size (n := v / 65536 % 256) (by omega)
  have d3 := ddT_size (n := v / 256 % 256) (by omega)
  have d4 := ddT_size (n := v % 256) (by omega)
  unfold quadB
  unfold ddT at d1 d2 d3 d4 ⊢
  generalize str (Lib.decDigits (v / 16777216 % 256)) = z1 at *
  generalize str (Lib.decDigits (v / 65536 % 256)) = z2 at *
  generalize str (Lib.decDigits (v / 256 % 256)) = z3 at *
  generalize str (Lib.decDigits (v % 256)) = z4 at *
  have HZ := Lib.hid (And.intro d1 (And.intro d2 (And.intro d3 d4)))
  clear d1 d2 d3 d4
  go_enter Tryd.func65, Tryd.ntmps65
  go_wp2_with fail
  refine (H1.out _).mono ?_
  rintro e w1 ⟨rfl, hb1⟩
  have s1 : ¬ 9223372036854775807 < z1.size + 1 := by have := HZ.out; omega
  have s2 : ¬ 9223372036854775807 < z1.size + 1 + z2.size := by have := HZ.out; omega
  have s3 : ¬ 9223372036854775807 < z1.size + 1 + z2.size + 1 := by have := HZ.out; omega
  have s4 : ¬ 9223372036854775807 < z1.size + 1 + z2.size + 1 + z3.size := by have := HZ.out; omega
  have s5 : ¬ 9223372036854775807 < z1.size + 1 + z2.size + 1 + z3.size + 1 := by have := HZ.out; omega
  have s6 : ¬ 9223372036854775807 < z1.size + 1 + z2.size + 1 + z3.size + 1 + z4.size := by have := HZ.out; omega
  go_wp2_with fail
  refine (H2.out _).mono ?_
  rintro e w2 ⟨rfl, hb2⟩
  go_wp2_with fail
  refine (H3.out _).mono ?_
  rintro e w3 ⟨rfl, hb3⟩
  go_wp2_with fail
  refine (H4.out _).mono ?_
  rintro e w4 ⟨rfl, hb4⟩
  go_wp2_with fail
  go_ret
  exact ⟨rfl, bnx (bnx (bnx hb1 hb2) hb3) hb4⟩
set_option maxRecDepth 100000 in
set_option maxHeartbeats 4000000 in
theorem quad_any (v : Nat) (hv : v < 4294967296) (w : World) (ht : Tab w) :
    Calls Tryd.prog 92 #[.int .i64 (v : Int)] w fun e w' => e = .returned (.string (quadB v)) ∧ Below w.heap.size w w' := by
  have HT := Lib.hid ht
  have H1 := Lib.hid (fun w' (h : Below w.heap.size w w') => itoa_any (v / 16777216 % 256) (by omega) w' (tab_below ht h))
  have H2 := Lib.hid (fun w' (h : Below w.heap.size w w') => itoa_any (v / 65536 % 256) (by omega) w' (tab_below ht h))
  have H3 := Lib.hid (fun w' (h : Below w.heap.size w w') => itoa_any (v / 256 % 256) (by omega) w' (tab_below ht h))
  have H4 := Lib.hid (fun w' (h : Below w.heap.size w w') => itoa_any (v % 256) (by omega) w' (tab_below ht h))
  rw [show ((v / 16777216 % 256 : Nat) : Int) = (v : Int) / 16777216 from by omega] at H1
  rw [show ((v / 65536 % 256 : Nat) : Int) = (v : Int) / 65536 % 256 from by omega] at H2
  rw [show ((v / 256 % 256 : Nat) : Int) = (v : Int) / 256 % 256 from by omega] at H3
  rw [show ((v % 256 : Nat) : Int) = (v : Int) % 256 from by omega] at H4
  have a1 := and_255 (v / 16777216) (by omega)
  have a2 := and_255 (v / 65536) (by omega)
  have a3 := and_255 (v / 256) (by omega)
  have a4 := and_255 v hv
  rw [show ((v / 16777216 : Nat) : Int) = (v : Int) / 16777216 from by omega, show ((v / 16777216 % 256 : Nat) : Int) = (v : Int) / 16777216 % 256 from by omega] at a1
  rw [show ((v / 65536 : Nat) : Int) = (v : Int) / 65536 from by omega, show ((v / 65536 % 256 : Nat) : Int) = (v : Int) / 65536 % 256 from by omega] at a2
  rw [show ((v / 256 : Nat) : Int) = (v : Int) / 256 from by omega, show ((v / 256 % 256 : Nat) : Int) = (v : Int) / 256 % 256 from by omega] at a3
  rw [show ((v % 256 : Nat) : Int) = (v : Int) % 256 from by omega] at a4
  have d1 := ddT_size (n := v / 16777216 % 256) (by omega)
  have d2 := ddT_size (n := v / 65536 % 256) (by omega)
  have d3 := ddT_size (n := v / 256 % 256) (by omega)
  have d4 := ddT_size (n := v % 256) (by omega)
  unfold quadB
  clear ht
  generalize ddT (v / 16777216 % 256) = z1 at *
  generalize ddT (v / 65536 % 256) = z2 at *
  generalize ddT (v / 256 % 256) = z3 at *
  generalize ddT (v % 256) = z4 at *
  have HZ := Lib.hid (And.intro d1 (And.intro d2 (And.intro d3 d4)))
  clear d1 d2 d3 d4
  go_enter Tryd.func92, Tryd.ntmps92
  go_wp2_with fail
  refine (H1.out _ (Below.refl _ _)).mono ?_
  rintro e w1 ⟨rfl, hb1⟩
  have s1 : ¬ 9223372036854775807 < z1.size + 1 := by have := HZ.out; omega
  have s2 : ¬ 9223372036854775807 < z1.size + 1 + z2.size := by have := HZ.out; omega
  have s3 : ¬ 9223372036854775807 < z1.size + 1 + z2.size + 1 := by have := HZ.out; omega
  have s4 : ¬ 9223372036854775807 < z1.size + 1 + z2.size + 1 + z3.size := by have := HZ.out; omega
  have s5 : ¬ 9223372036854775807 < z1.size + 1 + z2.size + 1 + z3.size + 1 := by have := HZ.out; omega
  have s6 : ¬ 9223372036854775807 < z1.size + 1 + z2.size + 1 + z3.size + 1 + z4.size := by have := HZ.out; omega
  go_wp2_with fail
  refine (H2.out _ hb1).mono ?_
  rintro e w2 ⟨rfl, hb2⟩
  go_wp2_with fail
  refine (H3.out _ (bnx hb1 hb2)).mono ?_
  rintro e w3 ⟨rfl, hb3⟩
  go_wp2_with fail
  refine (H4.out _ (bnx (bnx hb1 hb2) hb3)).mono ?_
  rintro e w4 ⟨rfl, hb4⟩
  go_wp2_with fail
  go_ret
  exact ⟨rfl, bnx (bnx (bnx hb1 hb2) hb3) hb4⟩
end Go.Proofs.YtaleaicfllcpiaaDoor.Fl
