/- Merged for FieldTurns -/
import Derived.Test.YtagjpdeolodpkaaGreatDoorJE
import Derived.Test.YtagjpdeolodpkaaGreatDoorJF
import Derived.Lib.ItoaLen
import Derived.Test.YtagjpdeolodpkaaGreatDoorRows
import Derived.Deep.RegionHeld3
import Derived.Lib.SmallJoins
import Derived.Lib.AppendIntMem
import Derived.Lib.QuietBelow
import Derived.MakeChecks
import Derived.Lib.LaidTab
namespace Go.Proofs.YtagjpdeolodpkaaGreatDoor.Fl
open Go.RowKit Mm Law
set_option linter.unusedVariables false
set_option linter.unusedSimpArgs false
set_option linter.unusedSectionVars false
theorem dd_big {n : Nat} (h : ¬ n < 10) : Lib.decDigits n = Lib.decDigits (n / 10) ++ [UInt8.ofNat (48 + n % 10)] := by rw [Lib.decDigits, dif_neg h]
theorem dg_bv (n : Nat) : bv (UInt8.ofNat (48 + n % 10)) = .int .u8 (48 + (n : Int) % 10) := by
  unfold bv
  rw [UInt8.toNat_ofNat', Nat.mod_eq_of_lt (by omega)]
  congr 1
theorem dg_str (n : Nat) (w : World) : (convert 68 9 (.slice (some ⟨w.heap.size, 0, none⟩) 1 1)).run Tryz.prog (w.alloc (.cells #[.int .u8 (48 + (n : Int) % 10)] 5)) = .ok (.string (str [UInt8.ofNat (48 + n % 10)])) (w.alloc (.cells #[.int .u8 (48 + (n : Int) % 10)] 5)) := by
  refine run_string_blk (P := Tryz.prog) (l := [UInt8.ofNat (48 + n % 10)]) Tryz.underlying68 Tryz.underlying5 Tryz.underlying9 rfl ?_
  rw [List.map_cons, List.map_nil, dg_bv]
  exact Blk.new w 5 _
set_option maxRecDepth 100000 in
set_option maxHeartbeats 4000000 in
theorem decimal_any (n : Nat) : ∀ (_ : n < 4294967296) (w : World), Calls Tryz.prog 47 #[.int .i64 (n : Int)] w fun e w' => e = .returned (.string (str (Lib.decDigits n))) ∧ Below w.heap.size w w' := by
  induction n using Nat.strongRecOn with
  | _ n ih =>
    intro hn w
    have HIH := Lib.hid ih
    clear ih
    have hst := dg_str n w
    have HDS := Lib.hid (show n < 10 → Lib.decDigits n = [UInt8.ofNat (48 + n % 10)] from fun h10 => by rw [Lib.decDigits_one h10, Nat.mod_eq_of_lt h10])
    have HDB := Lib.hid (show ¬ n < 10 → Lib.decDigits n = Lib.decDigits (n / 10) ++ [UInt8.ofNat (48 + n % 10)] from dd_big)
    generalize UInt8.ofNat (48 + n % 10) = d at *
    by_cases h10 : n < 10
    · have HD := Lib.hid (HDS.out h10)
      have hx : (n : Int) < 10 := by omega
      go_enter Tryz.func47, Tryz.ntmps47
      go_wp2_with fail
      go_ret
      rw [HD.out]
      exact ⟨rfl, bal (Below.refl _ _) _⟩
    · have HD := Lib.hid (HDB.out h10)
      have hx : ¬ (n : Int) < 10 := by omega
      have HI := Lib.hid (fun w => HIH.out (n / 10) (by omega) (by omega) w)
      rw [show ((n / 10 : Nat) : Int) = (n : Int) / 10 from by omega] at HI
      have HLN := Lib.hid (show (str (Lib.decDigits (n / 10))).size ≤ 20 from by
        rw [str_size, Lib.decDigits_length]
        exact Lib.nDigits_le20 _ (by omega))
      have HAP := Lib.hid (str_app (Lib.decDigits (n / 10)) [d])
      have HL1 := Lib.hid (str_size [d])
      generalize hz1 : str (Lib.decDigits (n / 10)) = z1 at *
      generalize hz2 : str [d] = z2 at *
      have hs2 : z2.size = 1 := HL1.out
      have hs1 : ¬ 9223372036854775807 < z1.size + z2.size := by have := HLN.out; omega
      clear hz1 hz2 hs2
      go_enter Tryz.func47, Tryz.ntmps47
      go_wp2_with fail
      refine (HI.out _).mono ?_
      rintro e w2 ⟨rfl, hb2⟩
      go_wp2_with fail
      go_ret
      rw [HD.out, ← HAP.out]
      exact ⟨rfl, (bal (Below.refl _ _) _).trans (hb2.mono (by simp))⟩
end Go.Proofs.YtagjpdeolodpkaaGreatDoor.Fl

namespace Go.Proofs.YtagjpdeolodpkaaGreatDoor.Fl
open Go.RowKit Mm Law
def ddT (n : Nat) : ByteArray := str (Lib.decDigits n)
theorem ddT_size {n : Nat} (h : n < 4294967296) : (ddT n).size ≤ 20 := by
  unfold ddT
  rw [str_size, Lib.decDigits_length]
  exact Lib.nDigits_le20 _ (by omega)
def dotB : ByteArray := ⟨#[46]⟩
def quadB (v : Nat) : ByteArray := ddT (v / 16777216 % 256) ++ ⟨#[46]⟩ ++ ddT (v / 65536 % 256) ++ ⟨#[46]⟩ ++ ddT (v / 256 % 256) ++ ⟨#[46]⟩ ++ ddT (v % 256)
theorem and_255 (x : Nat) (h : x < 4294967296) : bits .and .i64 (x : Int) 255 = ((x % 256 : Nat) : Int) := by
  have h1 := and_top x 8 (by omega) (by decide)
  exact h1
abbrev Tab (w : World) : Prop := Lib.TabIs Tryz.prog w "internal/strconv.uint64pow10" .u64 Lib.pow10Tab
theorem tab_named : ∃ g, Tryz.prog.globalNamed "internal/strconv.uint64pow10" = some g := Option.isSome_iff_exists.1 (by kernel_rfl)
theorem tab_below {w w' : World} (h : Tab w) (hb : Below w.heap.size w w') : Tab w' := by
  obtain ⟨g, hg⟩ := tab_named
  exact Joins.tab_stays hg h hb (Nat.le_refl _)
theorem itoa_any (n : Nat) (hn : n ≤ 9223372036854775807) (w : World) (h : Tab w) :
    Calls Tryz.prog 70 #[.int .i64 (n : Int)] w fun e w' => e = .returned (.string (ddT n)) ∧ Below w.heap.size w w' := by
  refine (Tryz.strconv_Itoa (n : Int) (by omega) (by omega) w h).mono ?_
  rintro e w' ⟨he, k, os, rfl⟩
  rw [Lib.itoa_nonneg] at he
  exact ⟨he, Lib.below_grow _ _ (Nat.le_refl _) _ _⟩
set_option maxRecDepth 100000 in
set_option maxHeartbeats 4000000 in
theorem rquad_any (v : Nat) (hv : v < 4294967296) (w : World) :
    Calls Tryz.prog 46 #[.int .i64 (v : Int)] w fun e w' => e = .returned (.string (quadB v)) ∧ Below w.heap.size w w' := by
  have H1 := Lib.hid (fun w => decimal_any (v / 16777216 % 256) (by omega) w)
  have H2 := Lib.hid (fun w => decimal_any (v / 65536 % 256) (by omega) w)
  have H3 := Lib.hid (fun w => decimal_any (v / 256 % 256) (by omega) w)
  have H4 := Lib.hid (fun w => decimal_any (v % 256) (by omega) w)
  rw [show ((v / 16777216 % 256 : Nat) : Int) = (v : Int) / 16777216 % 256 from by omega] at H1
  rw [show ((v / 65536 % 256 : Nat) : Int) = (v : Int) / 65536 % 256 from by omega] at H2
  rw [show ((v / 256 % 256 : Nat) : Int) = (v : Int) / 256 % 256 from by omega] at H3
  rw [show ((v % 256 : Nat) : Int) = (v : Int) % 256 from by omega] at H4
  have a1 := and_255 (v / 16777216) (by omega)
  have a2 := and_255 (v / 65536) (by omega)
  have a3 := and_255 (v / 256) (by omega)
  have a4 := and_255 v hv
  rw [show ((v / 16777216 : Nat) : Int) = (v : Int) / 16777216 from by omega, show ((v / 16777216 % 256 : Nat) : Int) = (v : Int) / 16777216 % 256 from by omega] at a1
  rw [show ((v / 65536 : Nat) : Int) = (v : Int) / 65536 from by omega, show ((v / 65536 % 256 : Nat) : Int) = (v : Int) / 65536 % 256 from by omega] at a2
  rw [show ((v / 256 : Nat) : Int) = (v : Int) / 256 from by omega, show ((v / 256 % 256 : Nat) : Int) = (v : Int) / 256 % 256 from by omega] at a3
  rw [show ((v % 256 : Nat) : Int) = (v : Int) % 256 from by omega] at a4
  have d1 := ddT_size (n := v / 16777216 % 256) (by omega)
  have d2 := ddT_size (n := v / 65536 % 256) (by omega)
  have d3 := ddT_size (n := v / 256 % 256) (by omega)
  have d4 := ddT_size (n := v % 256) (by omega)
  unfold quadB
  unfold ddT at d1 d2 d3 d4 ⊢
  generalize str (Lib.decDigits (v / 16777216 % 256)) = z1 at *
  generalize str (Lib.decDigits (v / 65536 % 256)) = z2 at *
  generalize str (Lib.decDigits (v / 256 % 256)) = z3 at *
  generalize str (Lib.decDigits (v % 256)) = z4 at *
  have HZ := Lib.hid (And.intro d1 (And.intro d2 (And.intro d3 d4)))
  clear d1 d2 d3 d4
  go_enter Tryz.func46, Tryz.ntmps46
  go_wp2_with fail
  refine (H1.out _).mono ?_
  rintro e w1 ⟨rfl, hb1⟩
  have s1 : ¬ 9223372036854775807 < z1.size + 1 := by have := HZ.out; omega
  have s2 : ¬ 9223372036854775807 < z1.size + 1 + z2.size := by have := HZ.out; omega
  have s3 : ¬ 9223372036854775807 < z1.size + 1 + z2.size + 1 := by have := HZ.out; omega
  have s4 : ¬ 9223372036854775807 < z1.size + 1 + z2.size + 1 + z3.size := by have := HZ.out; omega
  have s5 : ¬ 9223372036854775807 < z1.size + 1 + z2.size + 1 + z3.size + 1 := by have := HZ.out; omega
  have s6 : ¬ 9223372036854775807 < z1.size + 1 + z2.size + 1 + z3.size + 1 + z4.size := by have := HZ.out; omega
  go_wp2_with fail
  refine (H2.out _).mono ?_
  rintro e w2 ⟨rfl, hb2⟩
  go_wp2_with fail
  refine (H3.out _).mono ?_
  rintro e w3 ⟨rfl, hb3⟩
  go_wp2_with fail
  refine (H4.out _).mono ?_
  rintro e w4 ⟨rfl, hb4⟩
  go_wp2_with fail
  go_ret
  exact ⟨rfl, bnx (bnx (bnx hb1 hb2) hb3) hb4⟩
set_option maxRecDepth 100000 in
set_option maxHeartbeats 4000000 in
theorem quad_any (v : Nat) (hv : v < 4294967296) (w : World) (ht : Tab w) :
    Calls Tryz.prog 69 #[.int .i64 (v : Int)] w fun e w' => e = .returned (.string (quadB v)) ∧ Below w.heap.size w w' := by
  have HT := Lib.hid ht
  have H1 := Lib.hid (fun w' (h : Below w.heap.size w w') => itoa_any (v / 16777216 % 256) (by omega) w' (tab_below ht h))
  have H2 := Lib.hid (fun w' (h : Below w.heap.size w w') => itoa_any (v / 65536 % 256) (by omega) w' (tab_below ht h))
  have H3 := Lib.hid (fun w' (h : Below w.heap.size w w') => itoa_any (v / 256 % 256) (by omega) w' (tab_below ht h))
  have H4 := Lib.hid (fun w' (h : Below w.heap.size w w') => itoa_any (v % 256) (by omega) w' (tab_below ht h))
  rw [show ((v / 16777216 % 256 : Nat) : Int) = (v : Int) / 16777216 from by omega] at H1
  rw [show ((v / 65536 % 256 : Nat) : Int) = (v : Int) / 65536 % 256 from by omega] at H2
  rw [show ((v / 256 % 256 : Nat) : Int) = (v : Int) / 256 % 256 from by omega] at H3
  rw [show ((v % 256 : Nat) : Int) = (v : Int) % 256 from by omega] at H4
  have a1 := and_255 (v / 16777216) (by omega)
  have a2 := and_255 (v / 65536) (by omega)
  have a3 := and_255 (v / 256) (by omega)
  have a4 := and_255 v hv
  rw [show ((v / 16777216 : Nat) : Int) = (v : Int) / 16777216 from by omega, show ((v / 16777216 % 256 : Nat) : Int) = (v : Int) / 16777216 % 256 from by omega] at a1
  rw [show ((v / 65536 : Nat) : Int) = (v : Int) / 65536 from by omega, show ((v / 65536 % 256 : Nat) : Int) = (v : Int) / 65536 % 256 from by omega] at a2
  rw [show ((v / 256 : Nat) : Int) = (v : Int) / 256 from by omega, show ((v / 256 % 256 : Nat) : Int) = (v : Int) / 256 % 256 from by omega] at a3
  rw [show ((v % 256 : Nat) : Int) = (v : Int) % 256 from by omega] at a4
  have d1 := ddT_size (n := v / 16777216 % 256) (by omega)
  have d2 := ddT_size (n := v / 65536 % 256) (by omega)
  have d3 := ddT_size (n := v / 256 % 256) (by omega)
  have d4 := ddT_size (n := v % 256) (by omega)
  unfold quadB
  clear ht
  generalize ddT (v / 16777216 % 256) = z1 at *
  generalize ddT (v / 65536 % 256) = z2 at *
  generalize ddT (v / 256 % 256) = z3 at *
  generalize ddT (v % 256) = z4 at *
  have HZ := Lib.hid (And.intro d1 (And.intro d2 (And.intro d3 d4)))
  clear d1 d2 d3 d4
  go_enter Tryz.func69, Tryz.ntmps69
  go_wp2_with fail
  refine (H1.out _ (Below.refl _ _)).mono ?_
  rintro e w1 ⟨rfl, hb1⟩
  have s1 : ¬ 9223372036854775807 < z1.size + 1 := by have := HZ.out; omega
  have s2 : ¬ 9223372036854775807 < z1.size + 1 + z2.size := by have := HZ.out; omega
  have s3 : ¬ 9223372036854775807 < z1.size + 1 + z2.size + 1 := by have := HZ.out; omega
  have s4 : ¬ 9223372036854775807 < z1.size + 1 + z2.size + 1 + z3.size := by have := HZ.out; omega
  have s5 : ¬ 9223372036854775807 < z1.size + 1 + z2.size + 1 + z3.size + 1 := by have := HZ.out; omega
  have s6 : ¬ 9223372036854775807 < z1.size + 1 + z2.size + 1 + z3.size + 1 + z4.size := by have := HZ.out; omega
  go_wp2_with fail
  refine (H2.out _ hb1).mono ?_
  rintro e w2 ⟨rfl, hb2⟩
  go_wp2_with fail
  refine (H3.out _ (bnx hb1 hb2)).mono ?_
  rintro e w3 ⟨rfl, hb3⟩
  go_wp2_with fail
  refine (H4.out _ (bnx (bnx hb1 hb2) hb3)).mono ?_
  rintro e w4 ⟨rfl, hb4⟩
  go_wp2_with fail
  go_ret
  exact ⟨rfl, bnx (bnx (bnx hb1 hb2) hb3) hb4⟩
end Go.Proofs.YtagjpdeolodpkaaGreatDoor.Fl

namespace Go.Proofs.YtagjpdeolodpkaaGreatDoor.Fl
open Go.RowKit Mm Law
def cntN (S : List UInt8) : Nat := (S.filter fun b => b ≠ 120).length
theorem cnt_snoc (S : List UInt8) (b : UInt8) : cntN (S ++ [b]) = cntN S + if b = 120 then 0 else 1 := by
  unfold cntN
  rw [List.filter_append, List.length_append]
  by_cases h : b = 120 <;> simp [h]
theorem cnt_take {S : List UInt8} {k : Nat} (h : k < S.length) : cntN (S.take (k + 1)) = cntN (S.take k) + if S[k] = 120 then 0 else 1 := by
  rw [List.take_succ_eq_append_getElem h, cnt_snoc]
theorem cnt_le (S : List UInt8) : cntN S ≤ S.length := List.length_filter_le _ _
def fstP (S : List UInt8) : Prop := ∀ i, (hi : i < S.length) → S[i] ≠ 120 → cntN (S.take (i + 1)) = i + 1
def fstK (S : List UInt8) (k : Nat) : Prop := ∀ i, (hi : i < S.length) → i < k → S[i] ≠ 120 → cntN (S.take (i + 1)) = i + 1
theorem fst_all (S : List UInt8) : fstK S S.length ↔ fstP S := ⟨fun h i hi hc => h i hi hi hc, fun h i hi _ hc => h i hi hc⟩
theorem fst_x {S : List UInt8} {k : Nat} (hk : k < S.length) (h : S[k] = 120) : fstK S (k + 1) ↔ fstK S k :=
  ⟨fun hf i hi hlt hc => hf i hi (by omega) hc, fun hf i hi hlt hc => by
    rcases Nat.lt_succ_iff_lt_or_eq.1 hlt with h1 | h1
    · exact hf i hi h1 hc
    · subst h1; exact absurd h hc⟩
theorem fst_d {S : List UInt8} {k : Nat} (hk : k < S.length) (h : S[k] ≠ 120) : fstK S (k + 1) ↔ fstK S k ∧ cntN (S.take (k + 1)) = k + 1 :=
  ⟨fun hf => ⟨fun i hi hlt hc => hf i hi (by omega) hc, hf k hk (by omega) h⟩, fun ⟨hf, h2⟩ i hi hlt hc => by
    rcases Nat.lt_succ_iff_lt_or_eq.1 hlt with h1 | h1
    · exact hf i hi h1 hc
    · subst h1; exact h2⟩
def numB2 (v : Nat) : ByteArray := if v < 65536 then ddT v else quadB v
set_option maxRecDepth 100000 in
set_option maxHeartbeats 4000000 in
theorem rnumber_any (v : Nat) (hv : v < 4294967296) (w : World) :
    Calls Tryz.prog 45 #[.int .i64 (v : Int)] w fun e w' => e = .returned (.string (numB2 v)) ∧ Below w.heap.size w w' := by
  have H1 := Lib.hid (fun w => decimal_any v hv w)
  have H2 := Lib.hid (fun w => rquad_any v hv w)
  by_cases h : v < 65536
  · have HN := Lib.hid (show numB2 v = ddT v from if_pos h)
    have hx : (v : Int) < 65536 := by omega
    go_enter Tryz.func45, Tryz.ntmps45
    go_wp2_with fail
    refine (H1.out _).mono ?_
    rintro e w1 ⟨rfl, hb1⟩
    go_wp2_with fail
    go_ret
    exact ⟨by rw [HN.out]; rfl, hb1⟩
  · have HN := Lib.hid (show numB2 v = quadB v from if_neg h)
    have hx : ¬ (v : Int) < 65536 := by omega
    go_enter Tryz.func45, Tryz.ntmps45
    go_wp2_with fail
    refine (H2.out _).mono ?_
    rintro e w1 ⟨rfl, hb1⟩
    go_wp2_with fail
    go_ret
    exact ⟨by rw [HN.out]; rfl, hb1⟩
set_option maxRecDepth 100000 in
set_option maxHeartbeats 4000000 in
theorem count_any (s : ByteArray) (hs : s.size ≤ 32) (w : World) :
    Calls Tryz.prog 44 #[.string s] w fun e w' => (∃ b, e = .returned (.tuple #[.int .i64 (cntN s.data.toList : Int), .bool b]) ∧ (b = true ↔ fstP s.data.toList)) ∧ Below w.heap.size w w' := by
  have hl : s.data.toList.length = s.size := len_s s
  have HB := Lib.hid (bget s)
  obtain ⟨S, hS⟩ : ∃ S, s.data.toList = S := ⟨_, rfl⟩
  rw [hS] at hl HB ⊢
  clear hS
  have mixed : Tryz.prog.follows Departure.mixedOrders = true := by kernel_rfl
  go_enter Tryz.func44, Tryz.ntmps44
  go_wp2_with fail
  go_loopw [4, 5, 6] (fun c f i wr => ∃ (k : Nat) (b : Bool), k ≤ s.size ∧ i = .int .i64 (k : Int) ∧ c = .int .i64 (cntN (S.take k) : Int) ∧ f = .bool b ∧ (b = true ↔ fstK S k) ∧ Below w.heap.size w wr) (fun _ _ i _ => s.size - (intOf i).toNat)
  case atStart => exact ⟨0, true, Nat.zero_le _, rfl, rfl, rfl, by simp [fstK], Below.refl _ _⟩
  case round =>
    obtain ⟨k, b, hk, rfl, rfl, rfl, hb, hbel⟩ := hrel
    have HBB := Lib.hid hb
    clear hb
    by_cases hlt : k < s.size
    · have hg := HB.out k hlt
      have hkS : k < S.length := by omega
      rw [List.getElem?_eq_getElem hkS] at hg
      have HCT := Lib.hid (cnt_take hkS)
      have HFX := Lib.hid (fst_x hkS)
      have HFD := Lib.hid (fst_d hkS)
      rw [Option.some.inj hg] at HCT HFX HFD
      have hcl := cnt_le (S.take k)
      rw [List.length_take] at hcl
      have x0 : (0 : Int) ≤ (k : Int) := by omega
      have x1 : (k : Int) < (s.size : Int) := by omega
      generalize cntN (S.take k) = c at *
      clear hg
      by_cases h120 : s[k] = 120
      · have h1 : (s[k].toNat : Int) = 120 := by rw [h120]; rfl
        have HC2 := Lib.hid (show cntN (S.take (k + 1)) = c from by rw [HCT.out, if_pos h120]; omega)
        have HF2 := Lib.hid (HBB.out.trans (HFX.out h120).symm)
        clear h120
        go_wp2_with fail
        go_roundw
        case rel => exact ⟨k + 1, b, by omega, by go_num, by rw [HC2.out], rfl, HF2.out, hbel⟩
        case measure => simp [intOf]; omega
      · have h1 : ¬ (s[k].toNat : Int) = 120 := fun h => h120 (UInt8.toNat_inj.1 (by have h58 : (120 : UInt8).toNat = 120 := rfl; omega))
        have HC2 := Lib.hid (show cntN (S.take (k + 1)) = c + 1 from by rw [HCT.out, if_neg h120])
        have HF2 := Lib.hid (HFD.out h120)
        clear h120
        cases b with
        | true =>
          have HFF := Lib.hid (show (((c : Int) + 1 == (k : Int) + 1) = true ↔ fstK S (k + 1)) from by
            rw [HF2.out, HC2.out, beq_iff_eq]
            exact ⟨fun h => ⟨HBB.out.1 rfl, by omega⟩, fun h => by have := h.2; omega⟩)
          go_wp2_with fail
          go_roundw
          case rel => exact ⟨k + 1, _, by omega, by go_num, by rw [HC2.out]; go_num, rfl, HFF.out, hbel⟩
          case measure => simp [intOf]; omega
        | false =>
          have HFF := Lib.hid (show (false = true ↔ fstK S (k + 1)) from by
            rw [HF2.out]
            exact ⟨fun h => absurd h (by simp), fun h => absurd (HBB.out.2 h.1) (by simp)⟩)
          go_wp2_with fail
          go_roundw
          case rel => exact ⟨k + 1, false, by omega, by go_num, by rw [HC2.out]; go_num, rfl, HFF.out, hbel⟩
          case measure => simp [intOf]; omega
    · have hkl : k = S.length := by omega
      have HF := Lib.hid (show b = true ↔ fstP S from by rw [HBB.out, hkl]; exact fst_all S)
      have HK := Lib.hid (show S.take k = S from by rw [hkl, List.take_length])
      clear hkl
      go_wp2_with fail
      refine bodyPost_ret (v := .tuple #[.int .i64 (cntN (S.take k) : Int), .bool b]) (by simp [results, Tryz.results44, go_sem]) rfl ⟨⟨b, by rw [HK.out], HF.out⟩, hbel⟩
end Go.Proofs.YtagjpdeolodpkaaGreatDoor.Fl

namespace Go.Proofs.YtagjpdeolodpkaaGreatDoor.Fl
open Go.RowKit Mm Law
theorem ib_mem (c : UInt8) : ∀ l : List UInt8, (0 ≤ Lib.indexByte l c) ↔ c ∈ l := by
  intro l
  induction l with
  | nil => simp [Lib.indexByte]
  | cons b l ih =>
    by_cases hb : b = c
    · subst hb; simp [Lib.indexByte]
    · have hb' : (b == c) = false := by rw [beq_eq_false_iff_ne]; exact hb
      have hge := Lib.indexByte_ge l c
      simp only [Lib.indexByte, hb', Bool.false_eq_true, if_false, List.mem_cons]
      rw [← ih]
      have hcb : ¬ c = b := fun h => hb h.symm
      by_cases h1 : Lib.indexByte l c = -1
      · have : (Lib.indexByte l c == -1) = true := by simp [h1]
        simp [h1, hcb]
      · have : (Lib.indexByte l c == -1) = false := by rw [beq_eq_false_iff_ne]; exact h1
        simp only [this, Bool.false_eq_true, if_false, hcb, false_or]
        omega
theorem trim_form (S : List UInt8) : ∃ m, S = Lib.trimRightB S 120 ++ List.replicate m 120 ∧ ∀ b, (Lib.trimRightB S 120).getLast? = some b → b ≠ 120 := by
  unfold Lib.trimRightB
  refine ⟨(S.reverse.takeWhile (· == 120)).length, ?_, ?_⟩
  · have h1 : S.reverse.takeWhile (· == 120) = List.replicate (S.reverse.takeWhile (· == 120)).length 120 := by
      rw [List.eq_replicate_iff]
      exact ⟨rfl, fun b hb => by simpa using List.all_eq_true.1 (List.all_takeWhile (p := (· == (120 : UInt8))) (l := S.reverse)) b hb⟩
    have h2 := List.takeWhile_append_dropWhile (p := (· == (120 : UInt8))) (l := S.reverse)
    have h3 := congrArg List.reverse h2
    rw [List.reverse_append, List.reverse_reverse, h1, List.reverse_replicate] at h3
    exact h3.symm
  · intro b hb
    rw [List.getLast?_reverse] at hb
    intro e
    subst e
    obtain ⟨a, r, har⟩ : ∃ a r, S.reverse.dropWhile (· == 120) = a :: r := by
      cases h : S.reverse.dropWhile (· == 120) with
      | nil => rw [h] at hb; simp at hb
      | cons a r => exact ⟨a, r, rfl⟩
    have h2 := List.head_dropWhile_not (p := (· == (120 : UInt8))) (l := S.reverse) (by rw [har]; simp)
    rw [har] at hb
    simp only [har, List.head_cons] at h2
    simp only [List.head?_cons, Option.some.injEq] at hb
    rw [hb] at h2
    exact absurd h2 (by decide)
theorem cnt_app (A B : List UInt8) : cntN (A ++ B) = cntN A + cntN B := by unfold cntN; rw [List.filter_append, List.length_append]
theorem cnt_x (m : Nat) : cntN (List.replicate m 120) = 0 := by unfold cntN; simp
theorem cnt_no {A : List UInt8} (h : (120 : UInt8) ∉ A) : cntN A = A.length := by
  unfold cntN
  rw [List.filter_eq_self.2]
  intro b hb
  simp
  intro e
  exact h (e ▸ hb)
theorem show_a {S A : List UInt8} {m : Nat} (hS : S = A ++ List.replicate m 120) (h : (120 : UInt8) ∉ A) : fstP S ∧ cntN S = A.length := by
  subst hS
  refine ⟨fun i hi hc => ?_, by rw [cnt_app, cnt_x, cnt_no h]; rfl⟩
  have hiA : i < A.length := by
    refine Nat.lt_of_not_le fun hge => hc ?_
    rw [List.getElem_append_right hge]
    simp
  rw [List.take_append_of_le_length (by omega), cnt_no (fun hm => h (List.mem_of_mem_take hm)), List.length_take]
  omega
theorem cnt_lt {A : List UInt8} (h : (120 : UInt8) ∈ A) : cntN A < A.length := by
  unfold cntN
  refine Nat.lt_of_le_of_ne (List.length_filter_le _ _) fun e => ?_
  have := List.length_filter_eq_length_iff.1 e 120 h
  simp at this
theorem show_b {S A : List UInt8} {m : Nat} (hS : S = A ++ List.replicate m 120) (hl : ∀ b, A.getLast? = some b → b ≠ 120) (h : (120 : UInt8) ∈ A) : ¬ fstP S ∧ cntN S ≠ S.length := by
  subst hS
  have hA : 0 < A.length := List.length_pos_of_mem h
  have hlt := cnt_lt h
  refine ⟨fun hf => ?_, by rw [cnt_app, cnt_x, List.length_append]; omega⟩
  have h1 := hf (A.length - 1) (by rw [List.length_append]; omega) (by
    rw [List.getElem_append_left (by omega)]
    refine hl _ ?_
    rw [List.getLast?_eq_getElem?, List.getElem?_eq_getElem (by omega)])
  rw [show A.length - 1 + 1 = A.length from by omega, List.take_left' rfl] at h1
  omega
open Classical in
noncomputable def partB (S : List UInt8) : ByteArray := if cntN S = S.length then numB2 (numB S) else if fstP S then quadB (numB S) ++ ⟨#[47]⟩ ++ ddT (cntN S) else ⟨#[37]⟩ ++ str S
theorem part_n {S : List UInt8} (h : cntN S = S.length) : partB S = numB2 (numB S) := if_pos h
theorem part_q {S : List UInt8} (h : cntN S ≠ S.length) (h2 : fstP S) : partB S = quadB (numB S) ++ ⟨#[47]⟩ ++ ddT (cntN S) := by unfold partB; rw [if_neg h, if_pos h2]
theorem part_p {S : List UInt8} (h : cntN S ≠ S.length) (h2 : ¬ fstP S) : partB S = ⟨#[37]⟩ ++ str S := by unfold partB; rw [if_neg h, if_neg h2]
theorem quad_size {v : Nat} : (quadB v).size ≤ 100 := by
  have d1 := ddT_size (n := v / 16777216 % 256) (by omega)
  have d2 := ddT_size (n := v / 65536 % 256) (by omega)
  have d3 := ddT_size (n := v / 256 % 256) (by omega)
  have d4 := ddT_size (n := v % 256) (by omega)
  have e : (⟨#[46]⟩ : ByteArray).size = 1 := rfl
  unfold quadB
  simp only [ByteArray.size_append, e]
  omega
set_option maxRecDepth 100000 in
set_option maxHeartbeats 4000000 in
theorem show_any (s : ByteArray) (hs : s.size ≤ 32) (w : World) (ht : Tab w) :
    Calls Tryz.prog 42 #[.string s] w fun e w' => e = .returned (.string (partB s.data.toList)) ∧ Below w.heap.size w w' := by
  have hl : s.data.toList.length = s.size := len_s s
  have HN := Lib.hid (fun w => number_any s hs w)
  have HTR := Lib.hid (fun w => Tryz.strings_TrimRight_one s 120 (by decide) w (by omega))
  obtain ⟨m, hS, hlast⟩ := trim_form s.data.toList
  have hv : numB s.data.toList < 4294967296 := by
    have := numB_bd (l := s.data.toList) (by omega) s.data.toList.length
    rwa [List.take_length] at this
  have HST := Lib.hid (show str s.data.toList = s from str_of s)
  obtain ⟨S, hSS⟩ : ∃ S, s.data.toList = S := ⟨_, rfl⟩
  rw [hSS] at hl HN HTR hS hlast hv HST ⊢
  clear hSS
  generalize Lib.trimRightB S 120 = A at *
  have HC := Lib.hid (fun w => Tryz.strings_Contains_one (str A) 120 w)
  rw [str_list] at HC
  have hAs : (str A).size = A.length := str_size A
  have hlen := congrArg List.length hS
  rw [List.length_append, List.length_replicate] at hlen
  have HQ := Lib.hid (fun w' (h : Below w.heap.size w w') => quad_any (numB S) hv w' (tab_below ht h))
  have HI := Lib.hid (fun w' (n : Nat) (hn : n ≤ 9223372036854775807) (h : Below w.heap.size w w') => itoa_any n hn w' (tab_below ht h))
  by_cases hm : (120 : UInt8) ∈ A
  · have hb := show_b hS hlast hm
    have HP := Lib.hid (part_p hb.2 hb.1)
    rw [show decide (0 ≤ Lib.indexByte A 120) = true from decide_eq_true ((ib_mem 120 A).2 hm)] at HC
    rw [HP.out, HST.out]
    have hs1 : ¬ 9223372036854775807 < 1 + s.size := by omega
    clear hb hm hS hlast ht
    go_enter Tryz.func42, Tryz.ntmps42
    go_wp2_with fail
    refine (HN.out _).mono ?_
    rintro e w1 ⟨rfl, rfl⟩
    go_wp2_with fail
    refine (HTR.out _).mono ?_
    rintro e w2 ⟨rfl, rfl⟩
    go_wp2_with fail
    refine (HC.out _).mono ?_
    rintro e w3 ⟨rfl, rfl⟩
    go_wp2_with fail
    go_ret
    exact ⟨rfl, Below.refl _ _⟩
  · have hb := show_a hS hm
    rw [show decide (0 ≤ Lib.indexByte A 120) = false from decide_eq_false (fun h => hm ((ib_mem 120 A).1 h))] at HC
    rw [show (⟨A.toArray⟩ : ByteArray) = str A from rfl] at HTR
    generalize hhd : str A = hd at *
    have HB := Lib.hid hb
    clear hm hS hlast ht hhd
    by_cases hmz : m = 0
    · have HP := Lib.hid (part_n (show cntN S = S.length from by rw [HB.out.2]; omega))
      have hxx : hd.size = s.size := by omega
      have HXX := Lib.hid hxx
      rw [HP.out]
      clear hlen hAs hmz hl hxx
      by_cases hsm : numB S < 65536
      · have HNB := Lib.hid (show numB2 (numB S) = ddT (numB S) from if_pos hsm)
        rw [HNB.out]
        have HI2 := Lib.hid (fun w' (h : Below w.heap.size w w') => HI.out w' (numB S) (by omega) h)
        generalize numB S = v at *
        have hx2 : (v : Int) < 65536 := by omega
        clear hsm
        go_enter Tryz.func42, Tryz.ntmps42
        go_wp2_with fail
        refine (HN.out _).mono ?_
        rintro e w1 ⟨rfl, rfl⟩
        go_wp2_with fail
        refine (HTR.out _).mono ?_
        rintro e w2 ⟨rfl, rfl⟩
        go_wp2_with fail
        refine (HC.out _).mono ?_
        rintro e w3 ⟨rfl, rfl⟩
        have hx : ¬ hd.size < s.size := by have := HXX.out; omega
        go_wp2_with fail
        refine (HI2.out _ (Below.refl _ _)).mono ?_
        rintro e w4 ⟨rfl, hb4⟩
        go_wp2_with fail
        go_ret
        exact ⟨rfl, hb4⟩
      · have HNB := Lib.hid (show numB2 (numB S) = quadB (numB S) from if_neg hsm)
        rw [HNB.out]
        generalize numB S = v at *
        have HX2 := Lib.hid (show ¬ v < 65536 from hsm)
        clear hsm hv
        go_enter Tryz.func42, Tryz.ntmps42
        go_wp2_with fail
        refine (HN.out _).mono ?_
        rintro e w1 ⟨rfl, rfl⟩
        go_wp2_with fail
        refine (HTR.out _).mono ?_
        rintro e w2 ⟨rfl, rfl⟩
        go_wp2_with fail
        refine (HC.out _).mono ?_
        rintro e w3 ⟨rfl, rfl⟩
        have hx : ¬ hd.size < s.size := by have := HXX.out; omega
        have hx2 : decide ((v : Int) < 65536) = false := decide_eq_false (by have := HX2.out; omega)
        clear hx
        have hx : decide ((hd.size : Int) < (s.size : Int)) = false := decide_eq_false (by have := HXX.out; omega)
        clear hs
        clear hx
        have HHX := Lib.hid (show ¬ hd.size < s.size by have := HXX.out; omega)
        have HHV := Lib.hid (show ¬ (v : Int) < 65536 by have := HX2.out; omega)
        clear hb
        have hx := HHX.out
        go_upto_region 7 with fail
        clear hx
        have hx2 := HHV.out
        go_upto_region 9 with fail
        clear hx2
        go_wp2_with fail
        refine (HQ.out _ (Below.refl _ _)).mono ?_
        rintro e w4 ⟨rfl, hb4⟩
        go_wp2_with fail
        go_ret
        exact ⟨rfl, hb4⟩
    · have HP := Lib.hid (part_q (show cntN S ≠ S.length from by rw [HB.out.2]; omega) HB.out.1)
      rw [HP.out, HB.out.2, ← hAs]
      have hx : (hd.size : Int) < (s.size : Int) := by omega
      have HI2 := Lib.hid (fun w' (h : Below w.heap.size w w') => HI.out w' hd.size (by omega) h)
      have hq := quad_size (v := numB S)
      have hd1 := ddT_size (n := hd.size) (by omega)
      have hs1 : ¬ 9223372036854775807 < (quadB (numB S)).size + 1 := by omega
      have hs2 : ¬ 9223372036854775807 < (quadB (numB S)).size + 1 + (ddT hd.size).size := by omega
      generalize quadB (numB S) = qq at *
      generalize ddT hd.size = dd at *
      generalize numB S = v at *
      clear hlen hAs hq hd1
      go_enter Tryz.func42, Tryz.ntmps42
      go_wp2_with fail
      refine (HN.out _).mono ?_
      rintro e w1 ⟨rfl, rfl⟩
      go_wp2_with fail
      refine (HTR.out _).mono ?_
      rintro e w2 ⟨rfl, rfl⟩
      go_wp2_with fail
      refine (HC.out _).mono ?_
      rintro e w3 ⟨rfl, rfl⟩
      go_wp2_with fail
      refine (HQ.out _ (Below.refl _ _)).mono ?_
      rintro e w4 ⟨rfl, hb4⟩
      go_wp2_with fail
      refine (HI2.out _ hb4).mono ?_
      rintro e w5 ⟨rfl, hb5⟩
      go_wp2_with fail
      go_ret
      exact ⟨rfl, bnx hb4 hb5⟩
end Go.Proofs.YtagjpdeolodpkaaGreatDoor.Fl
