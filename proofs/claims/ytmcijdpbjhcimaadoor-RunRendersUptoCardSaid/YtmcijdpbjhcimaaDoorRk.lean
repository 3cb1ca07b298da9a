/- RunRenders: a Builder written on beside blocks above it; one part of a reply's text. -/
import Derived.Test.YtmcijdpbjhcimaaDoorRn
import Derived.Lib.OthersKept
namespace Go.Proofs.YtmcijdpbjhcimaaDoor.Rn
open Go.RowKit Go.Shelf Mm
abbrev Ok (b : Nat) (w w' : World) : Prop := Lib.OthersKept 5 (some b) w w'
theorem Ok.blk {b g : Nat} {w w' : World} {t : TypeId} {cs : Array Value} (h : Ok b w w') (hB : Blk w g t cs) (hg : g ≠ b) (ht : t ≠ 5) : Blk w' g t cs :=
  h g _ hB (fun e => hg (Option.some.inj e)) (fun _ _ e => ht (Obj.cells.inj e).2.1)
theorem ok_below {b : Nat} {w w' : World} (h : Below w.heap.size w w') : Ok b w w' := fun k _ hk _ _ => (h.block k (Array.getElem?_eq_some_iff.1 hk).1).trans hk
theorem SB_below {B b : Nat} {l : List UInt8} {w w' : World} (h : SB B b l w) (hb : Below w.heap.size w w') : SB B b l w' := by
  have hh : ∀ p, Lib.BuilderAt 37 5 B b p (Lib.byteCells l) w → Lib.BuilderAt 37 5 B b p (Lib.byteCells l) w' := by
    rintro p ⟨h1, v, h2, h3, h4⟩
    exact ⟨h1, v, (hb.block b (Array.getElem?_eq_some_iff.1 h2).1).trans h2, own_below h3 hb (Nat.le_refl _), h4⟩
  exact h.imp (hh _) (hh _)
theorem SB_lt {B b : Nat} {l : List UInt8} {w : World} (h : SB B b l w) : b < w.heap.size := by
  rcases h with ⟨_, _, h, _⟩ | ⟨_, _, h, _⟩ <;> exact (Array.getElem?_eq_some_iff.1 h).1
theorem SB_new (w : World) (B : Nat) (h : B ≤ w.heap.size) : SB B w.heap.size [] (w.alloc (.cells #[.pointer none, .slice none 0 0] 37)) :=
  .inl ⟨h, .slice none 0 0, Blk.new w _ _, World.ownsRow_nil _ _ _ _, by simp [Value.ownBlock]⟩
set_option maxHeartbeats 1000000 in
theorem sb_checkK (B b : Nat) (bs : List Value) (w : World) (h : Lib.IsBuilder 37 5 B b bs w) :
    Calls Tryd.prog 21 #[.pointer (some ⟨b, 0, none⟩)] w fun e w' => e = .returned (.tuple #[]) ∧ Lib.BuilderAt 37 5 B b (.pointer (some ⟨b, 0, none⟩)) bs w' ∧ Below B w w' ∧ Ok b w w' := by
  rcases h with h | h
  · refine (sb_fresh b w h.cell0 h.shape h.frozen0).mono ?_
    rintro e w' ⟨rfl, rfl⟩
    exact ⟨rfl, h.used _, (Below.refl B w).setCell (p := ⟨b, 0, none⟩) h.1 _, (Lib.OthersKept.refl _ _ w).setCell ⟨b, 0, none⟩ rfl _⟩
  · refine (sb_used b w h.cell0).mono ?_
    rintro e w' ⟨rfl, rfl⟩
    exact ⟨rfl, h, Below.refl B _, Lib.OthersKept.refl _ _ _⟩
set_option maxHeartbeats 2000000 in
set_option maxRecDepth 100000 in
theorem sb_writeK (B b : Nat) (l : List UInt8) (s : ByteArray) (w : World) (h : SB B b l w) (hlen : l.length + s.size ≤ 140737488355328) (hBw : B ≤ w.heap.size) :
    Calls Tryd.prog 14 #[.pointer (some ⟨b, 0, none⟩), .string s] w fun e w' => e = .returned (.tuple #[.int .i64 s.size, .nilIface]) ∧ SB B b (l ++ bs s) w' ∧ Below B w w' ∧ Ok b w w' := by
  obtain ⟨i0, hi, hz0, hz1, hz2⟩ := info_parts info_u8
  have hcl : (Lib.byteCells l).length = l.length := Lib.byteCells_length l
  go_enter Tryd.func14, Tryd.ntmps14
  go_wp2_with (go_at_call 21; refine (sb_checkK B b _ _ h).mono ?_)
  rintro e w1 ⟨rfl, h1, hb1, hk1⟩
  obtain ⟨hB, v, hbk, hown, hne⟩ := h1
  have HK1 := Lib.hid hk1
  clear hk1
  have c0 : w1.cell? ⟨b, 0, none⟩ = some (.pointer (some ⟨b, 0, none⟩)) := by rw [Lib.cell_of_heap hbk]; rfl
  have c1 : w1.cell? ⟨b, 1, none⟩ = some v := by rw [Lib.cell_of_heap hbk]; rfl
  go_wp2_with (at_builtin; refine Lib.wpList_append_own_string _ rfl _ _ 35 9 rfl B 5 i0 Tryd.underlying35 Tryd.underlying9 hi hz0 hz1 hz2 _ _ _ rfl hown s rfl ?c3 ?c4 ?c5 ?_)
  case c3 => unfold maxLen; omega
  case c4 => omega
  case c5 => have := hb1.size; omega
  intro v' w2 hown' hgrow _
  have hlt : b < w1.heap.size := (Array.getElem?_eq_some_iff.1 hbk).1
  have hb2 : w2.heap[b]? = some (.cells #[.pointer (some ⟨b, 0, none⟩), v] 37 (0, 0)) := by
    rw [hgrow.block b hlt (fun e => hne e.symm)]
    exact hbk
  have d0 : w2.cell? ⟨b, 0, none⟩ = some (.pointer (some ⟨b, 0, none⟩)) := by rw [Lib.cell_of_heap hb2]; rfl
  have d1 : w2.cell? ⟨b, 1, none⟩ = some v := by rw [Lib.cell_of_heap hb2]; rfl
  have f1 : w2.frozen? ⟨b, 1, none⟩ = false := Lib.frozen_of_heap hb2 1
  have HK2 := Lib.hid (HK1.out.grown hgrow (fun g hg => by
    rcases hown.2 with ⟨hv, _⟩ | ⟨g', cap, cur, hv, _, hg', _⟩
    · rw [hv] at hg; cases hg
    · rw [hv] at hg
      obtain rfl : g' = g := by simpa [Value.ownBlock] using hg
      exact ⟨_, _, hg'⟩))
  obtain ⟨ao, n', cap, rfl⟩ : ∃ ao n' cap, v' = .slice ao n' cap := by
    rcases hown'.2 with ⟨hv, _⟩ | ⟨g, cap, cur, hv, _⟩
    · exact ⟨_, _, _, hv⟩
    · exact ⟨_, _, _, hv⟩
  go_wp2
  go_ret2
  refine ⟨rfl, ?_, ?_, HK2.out.setCell ⟨b, 1, none⟩ rfl _⟩
  · have e : Lib.byteCells (l ++ bs s) = Lib.byteCells l ++ Lib.strCells s := by
      rw [Lib.byteCells_append]
      rfl
    have hp := Lib.BuilderAt.put (T := 37) (e := 5) hB hb2 (bs' := Lib.byteCells l ++ Lib.strCells s) (by rw [List.length_append, Lib.strCells_length, hcl]; exact hown') (by decide)
    unfold SB
    rw [e]
    exact .inr hp
  · exact (hb1.grown hgrow (by have := hb1.size; omega) (fun k hk => (hown.lt k hk).1)).setCell (p := ⟨b, 1, none⟩) hB _
set_option maxRecDepth 100000 in
set_option maxHeartbeats 2000000 in
theorem part_any (B b gb : Nat) (l : List UInt8) (hd tx : ByteArray) (th : Bool) (w : World) (h : SB B b l w) (hg : Blk w gb 34 #[.pointer (some ⟨b, 0, none⟩)]) (hB : B ≤ w.heap.size) (h1 : hd.size ≤ 10) (h2 : l.length + tx.size ≤ 17592186044416) :
    Calls Tryd.prog 16 #[.string hd, .string tx, .bool th, .pointer (some ⟨gb, 0, none⟩)] w fun e w' => e = .returned (.tuple #[]) ∧ SB B b (l ++ linesT (partL th (bs hd) (bs tx))) w' ∧ Below B w w' ∧ Ok b w w' := by
  have hc := hg.cell
  cases th with
  | false =>
    clear hc
    go_enter Tryd.func16, Tryd.ntmps16
    go_wp2_with fail
    go_end0
    refine ⟨rfl, ?_, Below.refl _ _, Lib.OthersKept.refl _ _ _⟩
    unfold partL
    simpa [linesT] using h
  | true =>
    have e0 : ¬ 9223372036854775807 < 2 + hd.size := by omega
    have e1 : ¬ 9223372036854775807 < 2 + hd.size + tx.size := by omega
    have e2 : ¬ 9223372036854775807 < 2 + hd.size + tx.size + 1 := by omega
    have HE := Lib.hid (show bs ((⟨#[32, 32]⟩ : ByteArray) ++ hd ++ tx ++ ⟨#[10]⟩) = linesT (partL true (bs hd) (bs tx)) from by
      unfold partL
      simp [linesT, bs_app, bs_lit])
    have HW := Lib.hid (sb_writeK B b l ((⟨#[32, 32]⟩ : ByteArray) ++ hd ++ tx ++ ⟨#[10]⟩) w h (by
      simp only [ByteArray.size_append]
      have : (⟨#[32, 32]⟩ : ByteArray).size = 2 := rfl
      have : (⟨#[10]⟩ : ByteArray).size = 1 := rfl
      omega) hB)
    clear h
    go_enter Tryd.func16, Tryd.ntmps16
    go_wp2_with fail
    refine HW.out.mono ?_
    rintro e w1 ⟨rfl, hs, hb, hk⟩
    rw [HE.out] at hs
    have HS := Lib.hid (And.intro hs (And.intro hb hk))
    clear hs hb hk hc
    go_wp2_with fail
    go_end0
    exact ⟨rfl, HS.out⟩
end Go.Proofs.YtmcijdpbjhcimaaDoor.Rn
