import Derived.Test.YtdiijannpfogdaaTp
import Derived.Test.YtdiijannpfogdaaMem
namespace Go.Proofs.Ytdiijannpfogdaa.Tn
open Go.RowKit
theorem info_byte : (Try.prog.info? 5).map (fun i => (i.zero, i.size, i.bytes)) = some (some (.int .u8 0), 1, 1) := by kernel_rfl
attribute [local go_sem] cs wv
/-- Text gives the cube's text back. -/
theorem text_any (t : List UInt8) (n : Nat) (c o : Nat → Bool) (w : World) (hC : Cub t n c o) :
    Calls Try.prog 44 #[cv n c o] w fun e w' => e = .returned (.string (str t)) ∧ Below w.heap.size w w' := by
  obtain ⟨i0, hi, hz0, hz1, hz2⟩ := info_parts info_byte
  have hn : n ≤ 256 := by have := hC.hn; have := hC.le; omega
  have hmk : ∀ u : World, (Instr.makeSlice 83 (.int .i64 (n : Int)) (.int .i64 (n : Int))).run Try.prog u =
      .ok (.slice (some ⟨u.heap.size, 0, none⟩) n n) (u.alloc (.cells (madeCells #[.int .u8 0] n) 5)) := fun u => by
    have h := run_make (P := Try.prog) u 83 5 i0 (.int .u8 0) Try.underlying83 hi hz0 .i64 .i64 (n : Int) (n : Int) (by omega) (Int.le_refl _) (by rw [hz2]; omega) (by omega)
    simpa [hz1, Value.cells] using h
  have HC := Lib.hid hC
  clear hC
  unfold cv cs wv
  go_enter Try.func44, Try.ntmps44
  go_wp2
  clear hmk
  go_loopw [10] (fun i wr => ∃ (k : Nat) (l : List UInt8), k ≤ n ∧ i = .int .i64 k ∧ l.length = n ∧ l.take k = t.take k ∧ Blk wr w.heap.size 30 (cs n c o) ∧ Blk wr (w.heap.size + 1) 5 (l.map bv).toArray ∧ Below w.heap.size w wr) (fun i _ => n - (intOf i).toNat)
  case atStart =>
    refine ⟨0, List.replicate n 0, Nat.zero_le _, rfl, by simp, rfl, ?_, ?_, by go_grown⟩
    · exact (Blk.new w 30 (cs n c o)).alloc _
    · rw [← made_bytes]
      have := Blk.new (w.alloc (.cells (cs n c o) 30)) 5 (madeCells #[.int .u8 0] n)
      rw [World.size_alloc] at this
      exact this
  case round =>
    obtain ⟨k, l, hk, rfl, hl, htk, hb0, hb1, hbel⟩ := hrel
    by_cases hlt : k < n
    · have hlt' : k < 256 := by omega
      have hcell : wr.cell? ⟨w.heap.size + 1, k, none⟩ = some (bv (l.getD k 0)) := by
        rw [hb1.cell]; simp [hl, hlt]
      have hfz := hb1.frozen k
      have hby := HC.out.byte k hlt
      have HT := Lib.hid (And.intro htk (And.intro hl hby))
      clear htk hl hby
      by_cases hck : c k = true
      · have HK := Lib.hid hck
        have hck' : (!c k) = false := by simp [hck]
        clear hck
        go_wp2_with fail
        refine (at_care w.heap.size k n c o 30 wr hlt' hb0).mono ?_
        rintro e w1 ⟨rfl, rfl⟩
        go_wp2_with fail
        by_cases hok : o k = true
        · refine (at_ones w.heap.size k n c o 30 wr hlt' hb0).mono ?_
          rintro e w1 ⟨rfl, rfl⟩
          go_wp2_with fail
          go_roundw
          case rel =>
            obtain ⟨h1, h2, h3⟩ := HT.out
            rw [if_pos HK.out, if_pos hok] at h3
            refine ⟨k + 1, l.set k 49, by omega, by go_num, by simpa using h2, set_take (by omega) h1 (by simpa using h3), hb0.far (by simp) _, blk_put k 49 hb1, ?_⟩
            exact hbel.setCell (by simp) _
          case measure => simp [intOf]; omega
        · have hok' : o k = false := by simpa using hok
          clear hok
          refine (at_ones w.heap.size k n c o 30 wr hlt' hb0).mono ?_
          rintro e w1 ⟨rfl, rfl⟩
          go_wp2_with fail
          go_roundw
          case rel =>
            obtain ⟨h1, h2, h3⟩ := HT.out
            rw [if_pos HK.out, if_neg (by simp [hok'])] at h3
            refine ⟨k + 1, l.set k 48, by omega, by go_num, by simpa using h2, set_take (by omega) h1 (by simpa using h3), hb0.far (by simp) _, blk_put k 48 hb1, ?_⟩
            exact hbel.setCell (by simp) _
          case measure => simp [intOf]; omega
      · have HK := Lib.hid hck
        have hck' : (!c k) = true := by simpa using hck
        clear hck
        go_wp2_with fail
        refine (at_care w.heap.size k n c o 30 wr hlt' hb0).mono ?_
        rintro e w1 ⟨rfl, rfl⟩
        go_wp2_with fail
        go_roundw
        case rel =>
          obtain ⟨h1, h2, h3⟩ := HT.out
          rw [if_neg HK.out] at h3
          refine ⟨k + 1, l.set k 120, by omega, by go_num, by simpa using h2, set_take (by omega) h1 (by simpa using h3), hb0.far (by simp) _, blk_put k 120 hb1, ?_⟩
          exact hbel.setCell (by simp) _
        case measure => simp [intOf]; omega
    · have : k = n := by omega
      subst this
      have hst : ∀ dst, Try.prog.underlying dst = some .string → (convert 83 dst (.slice (some ⟨w.heap.size + 1, 0, none⟩) k k)).run Try.prog wr = .ok (.string (str l)) wr := fun dst hd => run_string_blk Try.underlying83 Try.underlying5 hd hl hb1
      have hst2 := hst 9 Try.underlying9
      have HL := Lib.hid (And.intro htk hl)
      clear htk hl hst
      go_wp2
      go_ret
      obtain ⟨h1, h2⟩ := HL.out
      have hl2 : t.length = k := HC.out.hn.symm
      rw [List.take_of_length_le (by omega), List.take_of_length_le (by omega)] at h1
      subst h1
      exact ⟨rfl, hbel⟩
end Go.Proofs.Ytdiijannpfogdaa.Tn
