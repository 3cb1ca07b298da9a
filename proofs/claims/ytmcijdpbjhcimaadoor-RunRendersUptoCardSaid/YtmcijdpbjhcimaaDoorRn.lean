/- RunRenders: numbers, words, the parts of a reply's text. -/
import Derived.Test.YtmcijdpbjhcimaaDoorRt
import Derived.Test.YtmcijdpbjhcimaaDoorSb
import Derived.Lib.ItoaLen
import Derived.Lib.QuietBelow
import Derived.Lib.LaidTab
import Derived.Lib.SmallJoins
import Derived.Lib.AppendIntMem
namespace Go.Proofs.YtmcijdpbjhcimaaDoor.Rn
open Go.RowKit Mm
abbrev Tab (w : World) : Prop := Lib.TabIs Tryd.prog w "internal/strconv.uint64pow10" .u64 Lib.pow10Tab
theorem tab_named : ∃ g, Tryd.prog.globalNamed "internal/strconv.uint64pow10" = some g := Option.isSome_iff_exists.1 (by kernel_rfl)
theorem tab_below {w w' : World} (h : Tab w) (hb : Below w.heap.size w w') : Tab w' := by
  obtain ⟨g, hg⟩ := tab_named
  exact Joins.tab_stays hg h hb (Nat.le_refl _)
theorem itoa_any (n : Int) (h0 : -9223372036854775808 ≤ n) (h1 : n ≤ 9223372036854775807) (w : World) (h : Tab w) :
    Calls Tryd.prog 8 #[.int .i64 n] w fun e w' => e = .returned (.string (str (Lib.itoa n))) ∧ Below w.heap.size w w' := by
  refine (Tryd.strconv_Itoa n h0 h1 w h).mono ?_
  rintro e w' ⟨he, k, os, rfl⟩
  exact ⟨he, Lib.below_grow _ _ (Nat.le_refl _) _ _⟩
/-! The table of words. -/
def wordA (k : Nat) : List UInt8 := if k = 0 then [] else wordT k
def wordsA : Array Value := #[.string ⟨#[]⟩, .string ⟨#[114, 101, 97, 99, 104]⟩, .string ⟨#[109, 105, 115, 115, 101, 100]⟩, .string ⟨#[108, 111, 111, 112]⟩, .string ⟨#[108, 111, 115, 116]⟩, .string ⟨#[105, 115, 111, 108, 97, 116, 101]⟩, .string ⟨#[112, 97, 116, 104]⟩, .string ⟨#[97, 118, 111, 105, 100]⟩, .string ⟨#[99, 111, 118, 101, 114]⟩, .string ⟨#[116, 114, 97, 99, 101]⟩]
def Words (w : World) : Prop := 0 < w.heap.size ∧ ∀ j u, wordsA[j]? = some u → w.cell? ⟨0, j, none⟩ = some u
theorem Words.below {w w' : World} (h : Words w) (hb : Below w.heap.size w w') : Words w' := ⟨Nat.lt_of_lt_of_le h.1 hb.size, fun j u hj => by rw [hb.cell (p := ⟨0, j, none⟩) h.1]; exact h.2 j u hj⟩
theorem w_index (k : Nat) (hk : k < 10) (w : World) : (Instr.index 50 (.agg #[.string ⟨#[]⟩, .string ⟨#[114, 101, 97, 99, 104]⟩, .string ⟨#[109, 105, 115, 115, 101, 100]⟩, .string ⟨#[108, 111, 111, 112]⟩, .string ⟨#[108, 111, 115, 116]⟩, .string ⟨#[105, 115, 111, 108, 97, 116, 101]⟩, .string ⟨#[112, 97, 116, 104]⟩, .string ⟨#[97, 118, 111, 105, 100]⟩, .string ⟨#[99, 111, 118, 101, 114]⟩, .string ⟨#[116, 114, 97, 99, 101]⟩]) (.int .i64 (k : Int))).run Tryd.prog w = .ok (.string (str (wordA k))) w := by
  have h : k = 0 ∨ k = 1 ∨ k = 2 ∨ k = 3 ∨ k = 4 ∨ k = 5 ∨ k = 6 ∨ k = 7 ∨ k = 8 ∨ k = 9 := by omega
  rcases h with rfl | rfl | rfl | rfl | rfl | rfl | rfl | rfl | rfl | rfl <;> rfl
set_option maxRecDepth 100000 in
set_option maxHeartbeats 2000000 in
theorem word_any (kd : Int) (w : World) (hw : Words w) :
    Calls Tryd.prog 15 #[.int .i64 kd] w fun e w' => e = .returned (.string (str (wordT kd))) ∧ Below w.heap.size w w' := by
  have hc := hw.2
  have c0 := hc 0 (.string ⟨#[]⟩) rfl
  have c1 := hc 1 (.string ⟨#[114, 101, 97, 99, 104]⟩) rfl
  have c2 := hc 2 (.string ⟨#[109, 105, 115, 115, 101, 100]⟩) rfl
  have c3 := hc 3 (.string ⟨#[108, 111, 111, 112]⟩) rfl
  have c4 := hc 4 (.string ⟨#[108, 111, 115, 116]⟩) rfl
  have c5 := hc 5 (.string ⟨#[105, 115, 111, 108, 97, 116, 101]⟩) rfl
  have c6 := hc 6 (.string ⟨#[112, 97, 116, 104]⟩) rfl
  have c7 := hc 7 (.string ⟨#[97, 118, 111, 105, 100]⟩) rfl
  have c8 := hc 8 (.string ⟨#[99, 111, 118, 101, 114]⟩) rfl
  have c9 := hc 9 (.string ⟨#[116, 114, 97, 99, 101]⟩) rfl
  clear hc
  have HI := Lib.hid w_index
  go_enter Tryd.func15, Tryd.ntmps15
  go_wp2_with fail
  clear c0 c1 c2 c3 c4 c5 c6 c7 c8 c9
  go_loop [6] (fun i => ∃ k : Nat, k ≤ 10 ∧ i = .int .i64 (k : Int) ∧ (0 < kd → kd < 10 → (k : Int) ≤ kd)) (fun i => 10 - (intOf i).toNat)
  case atStart => exact ⟨0, by omega, rfl, fun h _ => by omega⟩
  case round =>
    obtain ⟨k, hk, rfl, hkd⟩ := hrel
    have HKD := Lib.hid hkd
    clear hkd
    by_cases hlt : k < 10
    · have hi := HI.out k hlt
      by_cases h : (k : Int) = kd
      · have hb : ((k : Int) == kd) = true := by simp [h]
        by_cases h0 : k = 0
        · have hw0 : str (wordA k) = ⟨#[]⟩ := by rw [h0]; rfl
          rw [hw0] at hi
          clear hw0
          have HH := Lib.hid h
          have H0 := Lib.hid h0
          clear h h0
          go_wp2_with fail
          go_round
          case rel => exact ⟨k + 1, by omega, by go_num, fun h1 h2 => by have := HH.out; have := H0.out; omega⟩
          case measure => simp [intOf]; omega
        · have hw1 : str (wordA k) = str (wordT kd) := by unfold wordA; rw [if_neg h0, h]
          have hn : (str (wordA k)).toList.isEmpty = false := by
            have : k = 1 ∨ k = 2 ∨ k = 3 ∨ k = 4 ∨ k = 5 ∨ k = 6 ∨ k = 7 ∨ k = 8 ∨ k = 9 := by omega
            rw [ByteArray.toList_eq]
            rcases this with rfl | rfl | rfl | rfl | rfl | rfl | rfl | rfl | rfl <;> rfl
          have HW := Lib.hid hw1
          generalize str (wordA k) = s at *
          clear h h0 hw1
          go_wp2_with fail
          go_ret
          exact ⟨by rw [HW.out]; rfl, Below.refl _ _⟩
      · have hb : ((k : Int) == kd) = false := by simpa using h
        have HH := Lib.hid h
        clear h
        go_wp2_with fail
        go_round
        case rel => exact ⟨k + 1, by omega, by go_num, fun h1 h2 => by have := HH.out; have := HKD.out h1 h2; omega⟩
        case measure => simp [intOf]; omega
    · obtain rfl : k = 10 := by omega
      have HE := Lib.hid (show str (wordT kd) = ⟨#[114, 101, 112, 108, 121]⟩ from by
        have h1 : ¬ (0 < kd ∧ kd < 10) := fun ⟨a, b⟩ => by have := HKD.out a b; omega
        unfold wordT
        rw [if_neg (by omega), if_neg (by omega), if_neg (by omega), if_neg (by omega), if_neg (by omega), if_neg (by omega), if_neg (by omega), if_neg (by omega), if_neg (by omega)]
        rfl)
      go_wp2_with fail
      go_ret
      exact ⟨by rw [HE.out]; rfl, Below.refl _ _⟩
end Go.Proofs.YtmcijdpbjhcimaaDoor.Rn
