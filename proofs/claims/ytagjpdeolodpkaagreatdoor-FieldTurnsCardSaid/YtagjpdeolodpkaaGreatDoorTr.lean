/- FieldTurns. -/
import Derived.Test.YtagjpdeolodpkaaGreatDoorTd
import Derived.Test.YtagjpdeolodpkaaGreatDoorUs
import Derived.Test.YtagjpdeolodpkaaGreatDoorRows
import Derived.MakeChecks
import Derived.Stop.LaidErr
namespace Go.Proofs.YtagjpdeolodpkaaGreatDoor.Fl
open Go.RowKit Mm Law
set_option linter.unusedVariables false
set_option linter.unusedSimpArgs false
set_option linter.unusedSectionVars false
def roomC (n : Nat) : Array Value := madeCells #[.string ⟨#[]⟩, .int .i64 0] (n * 2)
theorem room_size (n : Nat) : (roomC n).size = n * 2 := size_madeCells _ _
theorem make_room (n : Nat) (k : Int) (hk : k = (n : Int)) (h : n * 24 ≤ 281474976710656) (w : World) : (Instr.makeSlice 22 (.int .i64 k) (.int .i64 k)).run Tryz.prog w =
    .ok (.slice (some ⟨w.heap.size, 0, none⟩) n n) (w.alloc (.cells (roomC n) 26)) := by
  obtain ⟨i0, hi, hz0, hz1, hz2⟩ := info_parts info_fld
  subst hk
  have h := run_make (P := Tryz.prog) w 22 26 i0 _ Tryz.underlying22 hi hz0 .i64 .i64 (n : Int) (n : Int) (by omega) (Int.le_refl _) (by rw [hz2]; omega) (by omega)
  unfold roomC
  simpa [hz1, Value.cells] using h
/-- the room's first fields are the list's -/
def Laid (cs : Array Value) (l : List Fld) (k : Nat) : Prop := ∀ j f, j < k → l[j]? = some f → cs[j * 2]? = some (.string f.1) ∧ cs[j * 2 + 1]? = some (.int .i64 f.2)
theorem laid_step {cs : Array Value} {l : List Fld} {k : Nat} (h : Laid cs l k) (hk : k < l.length) (hs : k * 2 + 1 < cs.size) : Laid ((cs.setIfInBounds (k * 2) (.string l[k].1)).setIfInBounds (k * 2 + 1) (.int .i64 l[k].2)) l (k + 1) := by
  intro j f hj hf
  by_cases e : j = k
  · subst e
    have : f = l[j] := by rw [List.getElem?_eq_getElem hk] at hf; exact (Option.some.inj hf).symm
    subst this
    constructor
    · rw [Array.getElem?_setIfInBounds_ne (by omega), Array.getElem?_setIfInBounds_self_of_lt (by omega)]
    · rw [Array.getElem?_setIfInBounds_self_of_lt (by simp; omega)]
  · obtain ⟨a, b⟩ := h j f (by omega) hf
    constructor
    · rw [Array.getElem?_setIfInBounds_ne (by omega), Array.getElem?_setIfInBounds_ne (by omega)]; exact a
    · rw [Array.getElem?_setIfInBounds_ne (by omega), Array.getElem?_setIfInBounds_ne (by omega)]; exact b
theorem laid_sees {W : World} {g : Nat} {ty : TypeId} {cs : Array Value} {l : List Fld} {n : Nat} (hb : Blk W g ty cs) (h : Laid cs l l.length) (hl : l.length ≤ n) (hn : n ≤ maxLen) (hm : ∀ f ∈ l, f.1.size ≤ maxLen ∧ (Lit.int .i64 f.2).wf = true) : SeesF W (.slice (some ⟨g, 0, none⟩) l.length n) l := by
  refine ⟨_, n, rfl, hl, hn, .inr ⟨g, 0, rfl, hb.lt, fun j f hj => ?_⟩, hm⟩
  obtain ⟨a, b⟩ := h j f (List.getElem?_eq_some_iff.1 hj).1 hj
  rw [hb.cell, hb.cell, Nat.zero_add, Nat.zero_add]
  exact ⟨a, b⟩

/-- what the walk knows of the world: the room, the test's box, all that lay below -/
def TnW (w : World) (N : Nat) (bx : Array Value) (cs : Array Value) (wr : World) : Prop := cs.size = N * 2 ∧ Blk wr (w.heap.size + 1) 26 cs ∧ Blk wr w.heap.size 24 bx ∧ Below w.heap.size w wr
theorem TnW.go {w : World} {N : Nat} {bx cs : Array Value} {a b : World} (h : TnW w N bx cs a) (hb : Below a.heap.size a b) : TnW w N bx cs b :=
  ⟨h.1, h.2.1.below hb h.2.1.lt, h.2.2.1.below hb h.2.2.1.lt, bnx h.2.2.2 hb⟩
theorem TnW.put {w : World} {N : Nat} {bx cs : Array Value} {a : World} (h : TnW w N bx cs a) (i : Nat) (u : Value) : TnW w N bx (cs.setIfInBounds i u) (a.setCell ⟨w.heap.size + 1, i, none⟩ u) :=
  ⟨by rw [Array.size_setIfInBounds]; exact h.1, h.2.1.set_ i u, h.2.2.1.far (by simp) u, h.2.2.2.setCell (by simp) u⟩
set_option maxRecDepth 100000 in
set_option maxHeartbeats 16000000 in
theorem turns_walk (v : Value) (l : List Fld) (hsz : l.length * 24 ≤ 140737488355328) (u : Value) (m : List Fld) (hsm : m.length * 24 ≤ 140737488355328) (nm : ByteArray) (hnm : nm.size ≤ maxLen) (op fo lo : Int) (hlo : (Lit.int .i64 lo).wf = true) (hi ln : Int) (pt : ByteArray) (hpm : pt.size ≤ maxLen) (t : ByteArray) (htm : t.size ≤ maxLen) (w : World)
    (hv : SeesF w v l) (hu : SeesF w u m) (hg : Used w ∧ Lib.TabIs Tryz.prog w "internal/strconv.uint64pow10" .u64 Lib.pow10Tab) :
    Calls Tryz.prog 3 #[v, u, .agg #[.string nm, .int .i64 op, .int .i64 fo, .int .i64 lo, .int .i64 hi, .int .i64 ln, .string pt], .string t] w fun e w' => e = .returned (.bool true) ∧ Below w.heap.size w w' := by
  have hfl : ∀ f ∈ l, f.1.size ≤ maxLen ∧ (Lit.int .i64 f.2).wf = true := by obtain ⟨_, _, _, _, _, _, hw⟩ := hv; exact hw
  have hfm : ∀ f ∈ m, f.1.size ≤ maxLen ∧ (Lit.int .i64 f.2).wf = true := by obtain ⟨_, _, _, _, _, _, hw⟩ := hu; exact hw
  obtain ⟨N, hN⟩ : ∃ N : Nat, N = max l.length m.length + 1 := ⟨_, rfl⟩
  have hNl : l.length < N := by omega
  have hNm : m.length < N := by omega
  have hNs : N * 24 ≤ 281474976710656 := by omega
  have HNN := Lib.hid (And.intro hNl (And.intro hNm hNs))
  have hmk := make_room N (N : Int) rfl hNs
  have hwr : wrap64 (max (l.length : Int) (m.length : Int) + 1) = (N : Int) := by
    have h1 : max (l.length : Int) (m.length : Int) + 1 = (N : Int) := by omega
    rw [h1]
    unfold wrap64
    omega
  have HTO := Lib.hid (fun (q : List Fld) (x y : Value) (w' : World) (hb : Below w.heap.size w w') (hx : SeesF w' x q) (hy : SeesF w' y q) => told_any q x y nm hnm op fo lo hi ln hlo pt hpm t htm w' hx hy (hg.1.below hb) (tab_below hg.2 hb))
  have HFL := Lib.hid hfl
  have HFM := Lib.hid hfm
  have HV := Lib.hid hv
  have HU := Lib.hid hu
  obtain ⟨a0, cap0, rfl, hcap, hcm, hx, _⟩ := hv
  obtain ⟨a1, cap1, rfl, hcap1, hcm1, hx1, _⟩ := hu
  have HX := Lib.hid hx
  have HX1 := Lib.hid hx1
  unfold maxLen at hcm hcm1
  clear hfl hfm hNl hNm hNs hN hg hpm htm hnm hlo hx hx1 hsz hsm
  go_enter Tryz.func3, Tryz.ntmps3
  go_wp2
  go_loopw [10] (fun i wr => ∃ k : Nat, k ≤ 4 ∧ i = .int .i64 k ∧ ∃ cs, TnW w N #[.string nm, .int .i64 op, .int .i64 fo, .int .i64 lo, .int .i64 hi, .int .i64 ln, .string pt] cs wr) (fun i _ => 4 - (intOf i).toNat)
  case atStart =>
    refine ⟨0, by omega, rfl, roomC N, room_size N, ?_, (Blk.new w _ _).alloc _, bal (bal (Below.refl _ _) _) _⟩
    have := Blk.new (w.alloc (.cells #[.string nm, .int .i64 op, .int .i64 fo, .int .i64 lo, .int .i64 hi, .int .i64 ln, .string pt] 24)) 26 (roomC N)
    simpa using this
  case round =>
    obtain ⟨k, hk, rfl, cs, hst⟩ := hrel
    have HST := Lib.hid hst
    clear hst hmk hwr
    by_cases hlt : k < 4
    · have hpar : k % 2 = 0 ∨ k % 2 = 1 := by omega
      rcases hpar with hp | hp
      · have hp1 : ((k : Int) % 2 == 1) = false := by simp; omega
        clear hp
        go_wp2
        go_loopw [12] (fun i wx => ∃ j : Nat, j ≤ l.length ∧ i = .int .i64 (j : Int) ∧ ∃ cs', TnW w N #[.string nm, .int .i64 op, .int .i64 fo, .int .i64 lo, .int .i64 hi, .int .i64 ln, .string pt] cs' wx ∧ Laid cs' l j) (fun i _ => l.length - (intOf i).toNat)
        case atStart => exact ⟨0, Nat.zero_le _, rfl, cs, HST.out, fun j f h _ => absurd h (by omega)⟩
        case round =>
          obtain ⟨j, hj, rfl, cs', hst', hld⟩ := hrel
          have HST' := Lib.hid hst'
          have HLD := Lib.hid hld
          clear hst' hld
          by_cases hlj : j < l.length
          · obtain ⟨g, off, rfl, hg, hq⟩ : ∃ g off, a0 = some ⟨g, off, none⟩ ∧ g < w.heap.size ∧ ∀ j f, l[j]? = some f → w.cell? ⟨g, off + j * 2, none⟩ = some (.string f.1) ∧ w.cell? ⟨g, off + (j * 2 + 1), none⟩ = some (.int .i64 f.2) := by
              rcases HX.out with h0 | h0
              · rw [h0] at hlj; simp at hlj
              · exact h0
            have q0 := (hq j l[j] (by simp [hlj])).1
            have q1 := (hq j l[j] (by simp [hlj])).2
            rw [← HST'.out.2.2.2.cell (p := ⟨g, off + j * 2, none⟩) hg] at q0
            rw [← HST'.out.2.2.2.cell (p := ⟨g, off + (j * 2 + 1), none⟩) hg] at q1
            rw [← Nat.add_assoc] at q1
            have HL1 := Lib.hid (laid_step HLD.out hlj (by have h1 := HST'.out.1; have h2 := HNN.out.1; omega))
            generalize l[j] = f at *
            obtain ⟨s, b⟩ := f
            simp only at q0 q1
            have hjN : j < N := by have := HNN.out.1; omega
            have hp := HST'.out.put (j * 2) (.string s)
            have hq2 := hp.put (j * 2 + 1) (.int .i64 b)
            have z0 := HST'.out.2.1.frozen (j * 2)
            have z1 := hp.2.1.frozen (j * 2 + 1)
            obtain ⟨y0, hy0⟩ : ∃ y, wr.cell? ⟨w.heap.size + 1, j * 2, none⟩ = some y := by
              rw [HST'.out.2.1.cell]; exact ⟨_, Array.getElem?_eq_getElem (by have := HST'.out.1; omega)⟩
            obtain ⟨y1, hy1⟩ : ∃ y, (wr.setCell ⟨w.heap.size + 1, j * 2, none⟩ (.string s)).cell? ⟨w.heap.size + 1, j * 2 + 1, none⟩ = some y := by
              rw [hp.2.1.cell]; exact ⟨_, Array.getElem?_eq_getElem (by have := hp.1; omega)⟩
            have HQ2 := Lib.hid hq2
            clear hq hp hq2
            go_wp2
            exact ⟨⟨j + 1, by omega, by go_num, _, HQ2.out, HL1.out⟩, by simp [intOf]; omega⟩
          · have hjl : j = l.length := by omega
            subst hjl
            have hnl : l.length ≤ N := by have := HNN.out.1; omega
            have hnm : N ≤ maxLen := by have := HNN.out.2.2; unfold maxLen; omega
            have HSE := Lib.hid (laid_sees HST'.out.2.1 HLD.out hnl hnm HFL.out)
            have mixed : Tryz.prog.follows Departure.mixedOrders = true := by kernel_rfl
            clear hnm HLD
            go_wp2_with fail
            refine still_tail 7 mixed (by kernel_rfl) fun W hW => ?_
            simp only [List.take_succ_cons, List.take_zero, List.drop_succ_cons, List.drop_zero]
            have hbw : Below wr.heap.size wr W := by rw [hW.out]; exact (Below.refl _ _).drew
            have HTW := Lib.hid (HST'.out.go hbw)
            have HCL := Lib.hid (HTO.out l _ _ W HTW.out.2.2.2 (HSE.out.below hbw) (HV.out.below HTW.out.2.2.2))
            have e0 := HTW.out.2.2.1.cell 0
            have e1 := HTW.out.2.2.1.cell 1
            have e2 := HTW.out.2.2.1.cell 2
            have e3 := HTW.out.2.2.1.cell 3
            have e4 := HTW.out.2.2.1.cell 4
            have e5 := HTW.out.2.2.1.cell 5
            have e6 := HTW.out.2.2.1.cell 6
            clear hbw HST' HSE
            repeat still_step
            refine wpStill_nil ?_
            clear hW
            go_wp2_with fail
            refine HCL.out.mono ?_
            rintro e w5 ⟨rfl, hb5⟩
            have HT5 := Lib.hid (HTW.out.go hb5)
            clear hb5 e0 e1 e2 e3 e4 e5 e6
            go_wp2
            exact ⟨⟨k + 1, by omega, by go_num, _, HT5.out⟩, by simp [intOf]; omega⟩
      · have hp1 : ((k : Int) % 2 == 1) = true := by simp; omega
        clear hp
        go_wp2
        go_loopw [12] (fun i wx => ∃ j : Nat, j ≤ m.length ∧ i = .int .i64 (j : Int) ∧ ∃ cs', TnW w N #[.string nm, .int .i64 op, .int .i64 fo, .int .i64 lo, .int .i64 hi, .int .i64 ln, .string pt] cs' wx ∧ Laid cs' m j) (fun i _ => m.length - (intOf i).toNat)
        case atStart => exact ⟨0, Nat.zero_le _, rfl, cs, HST.out, fun j f h _ => absurd h (by omega)⟩
        case round =>
          obtain ⟨j, hj, rfl, cs', hst', hld⟩ := hrel
          have HST' := Lib.hid hst'
          have HLD := Lib.hid hld
          clear hst' hld
          by_cases hlj : j < m.length
          · obtain ⟨g, off, rfl, hg, hq⟩ : ∃ g off, a1 = some ⟨g, off, none⟩ ∧ g < w.heap.size ∧ ∀ j f, m[j]? = some f → w.cell? ⟨g, off + j * 2, none⟩ = some (.string f.1) ∧ w.cell? ⟨g, off + (j * 2 + 1), none⟩ = some (.int .i64 f.2) := by
              rcases HX1.out with h0 | h0
              · rw [h0] at hlj; simp at hlj
              · exact h0
            have q0 := (hq j m[j] (by simp [hlj])).1
            have q1 := (hq j m[j] (by simp [hlj])).2
            rw [← HST'.out.2.2.2.cell (p := ⟨g, off + j * 2, none⟩) hg] at q0
            rw [← HST'.out.2.2.2.cell (p := ⟨g, off + (j * 2 + 1), none⟩) hg] at q1
            rw [← Nat.add_assoc] at q1
            have HL1 := Lib.hid (laid_step HLD.out hlj (by have h1 := HST'.out.1; have h2 := HNN.out.2.1; omega))
            generalize m[j] = f at *
            obtain ⟨s, b⟩ := f
            simp only at q0 q1
            have hjN : j < N := by have := HNN.out.2.1; omega
            have hp := HST'.out.put (j * 2) (.string s)
            have hq2 := hp.put (j * 2 + 1) (.int .i64 b)
            have z0 := HST'.out.2.1.frozen (j * 2)
            have z1 := hp.2.1.frozen (j * 2 + 1)
            obtain ⟨y0, hy0⟩ : ∃ y, wr.cell? ⟨w.heap.size + 1, j * 2, none⟩ = some y := by
              rw [HST'.out.2.1.cell]; exact ⟨_, Array.getElem?_eq_getElem (by have := HST'.out.1; omega)⟩
            obtain ⟨y1, hy1⟩ : ∃ y, (wr.setCell ⟨w.heap.size + 1, j * 2, none⟩ (.string s)).cell? ⟨w.heap.size + 1, j * 2 + 1, none⟩ = some y := by
              rw [hp.2.1.cell]; exact ⟨_, Array.getElem?_eq_getElem (by have := hp.1; omega)⟩
            have HQ2 := Lib.hid hq2
            clear hq hp hq2
            go_wp2
            exact ⟨⟨j + 1, by omega, by go_num, _, HQ2.out, HL1.out⟩, by simp [intOf]; omega⟩
          · have hjl : j = m.length := by omega
            subst hjl
            have hnl : m.length ≤ N := by have := HNN.out.2.1; omega
            have hnm : N ≤ maxLen := by have := HNN.out.2.2; unfold maxLen; omega
            have HSE := Lib.hid (laid_sees HST'.out.2.1 HLD.out hnl hnm HFM.out)
            have mixed : Tryz.prog.follows Departure.mixedOrders = true := by kernel_rfl
            clear hnm HLD
            go_wp2_with fail
            refine still_tail 7 mixed (by kernel_rfl) fun W hW => ?_
            simp only [List.take_succ_cons, List.take_zero, List.drop_succ_cons, List.drop_zero]
            have hbw : Below wr.heap.size wr W := by rw [hW.out]; exact (Below.refl _ _).drew
            have HTW := Lib.hid (HST'.out.go hbw)
            have HCL := Lib.hid (HTO.out m _ _ W HTW.out.2.2.2 (HSE.out.below hbw) (HU.out.below HTW.out.2.2.2))
            have e0 := HTW.out.2.2.1.cell 0
            have e1 := HTW.out.2.2.1.cell 1
            have e2 := HTW.out.2.2.1.cell 2
            have e3 := HTW.out.2.2.1.cell 3
            have e4 := HTW.out.2.2.1.cell 4
            have e5 := HTW.out.2.2.1.cell 5
            have e6 := HTW.out.2.2.1.cell 6
            clear hbw HST' HSE
            repeat still_step
            refine wpStill_nil ?_
            clear hW
            go_wp2_with fail
            refine HCL.out.mono ?_
            rintro e w5 ⟨rfl, hb5⟩
            have HT5 := Lib.hid (HTW.out.go hb5)
            clear hb5 e0 e1 e2 e3 e4 e5 e6
            go_wp2
            exact ⟨⟨k + 1, by omega, by go_num, _, HT5.out⟩, by simp [intOf]; omega⟩
    · have HB := Lib.hid HST.out.2.2.2
      have hk4 : ¬ ((k : Int) < 4) := by omega
      clear HST
      go_wp2_with fail
      refine (known_yes _).mono ?_
      rintro e w7 ⟨rfl, hb7⟩
      go_wp2_with fail
      go_ret
      exact ⟨rfl, bnx HB.out hb7⟩
set_option maxRecDepth 100000 in
theorem fieldTurns_laid {w : World} (h : laidMetH Tryz.prog Rows.fieldTurnsRow.laid w) : Used w ∧ Lib.TabIs Tryz.prog w "internal/strconv.uint64pow10" .u64 Lib.pow10Tab := by
  rw [MakeChecks.laidMetH_plain _ _ _ (by kernel_rfl)] at h
  have hg : Tryz.prog.globalNamed "internal/strconv.uint64pow10" = some 4 := by kernel_rfl
  exact ⟨used_of h.tail.tail.tail.tail, Lib.tabIs_of_head (n := 20) (t := 152) (e := 111) hg (by kernel_rfl) (by kernel_rfl) (by kernel_rfl) (by kernel_rfl) (by kernel_rfl) h.tail.tail⟩
end Go.Proofs.YtagjpdeolodpkaaGreatDoor.Fl
