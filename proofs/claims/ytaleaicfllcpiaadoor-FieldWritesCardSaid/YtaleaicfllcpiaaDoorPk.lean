/- The program's Pack. -/
import Derived.Test.YtaleaicfllcpiaaDoorPl
import Derived.Test.YtaleaicfllcpiaaDoorCv
import Derived.Deep.DeepCutAuto
import Derived.StillTailTactics
namespace Go.Proofs.YtaleaicfllcpiaaDoor.Fl
open Go.RowKit Mm Law
set_option linter.unusedVariables false
set_option linter.unusedSimpArgs false
set_option linter.unusedSectionVars false
def PkAns (w : World) (l : List Fld) (x : List Int) (e : Ending) (w' : World) : Prop := e = .returned (.tuple #[.string (str (pkS l x)), .int .i64 (pkE l x)]) ∧ Below w.heap.size w w'
theorem pk_ans {w : World} {l : List Fld} {x : List Int} {s : ByteArray} {c : Int} {t : List UInt8} (h : pkE l x = c ∧ pkS l x = t) (hs : s = str t) {w' : World} (hb : Below w.heap.size w w') : PkAns w l x (.returned (.tuple #[.string s, .int .i64 c])) w' := by
  unfold PkAns
  rw [h.1, h.2, hs]
  exact ⟨rfl, hb⟩
set_option maxRecDepth 100000 in
set_option maxHeartbeats 8000000 in
theorem pack_any (l : List Fld) (x : List Int) (v u : Value) (w : World) (hv : SeesF w v l) (hu : SeesS w u 1 x.length (inC x)) (hxw : ∀ z ∈ x, (Lit.int .i64 z).wf = true) :
    Calls Tryd.prog 12 #[v, u] w (PkAns w l x) := by
  have HCK := Lib.hid (check_any l v w hv)
  have HV := Lib.hid hv
  have HU := Lib.hid hu
  have HXW := Lib.hid hxw
  obtain ⟨a0, cap0, rfl, hcap, hcm, hx, hw⟩ := hv
  obtain ⟨a1, cap1, rfl, hcap1, hcm1⟩ := hu.form
  have HX := Lib.hid hx
  have HW := Lib.hid hw
  unfold maxLen at hcm hcm1
  obtain ⟨c1, c2, hcc⟩ : ∃ c1 c2, chk l = (c1, c2) := ⟨_, _, rfl⟩
  rw [hcc] at HCK
  have h1 : (chk l).1 = c1 := by rw [hcc]
  clear hu hxw hx hw hcc
  by_cases hc : c1 = 0
  · subst hc
    have HZ := Lib.hid (chk_zero h1)
    have HC0 := Lib.hid h1
    have hz : 0 < l.length ∧ l.length ≤ 12 := ⟨HZ.out.1, HZ.out.2.1⟩
    obtain ⟨hl0, hl12⟩ := hz
    clear h1
    by_cases hlen : x.length = l.length
    · have HL := Lib.hid hlen
      have hne : ((x.length : Int) != (l.length : Int)) = false := by rw [hlen]; simp
      clear hlen
      go_enter Tryd.func12, Tryd.ntmps12
      go_wp2_with fail
      refine HCK.out.mono ?_
      rintro e w1 ⟨rfl, hb1⟩
      have hSB := SB_new w1 w.heap.size hb1.size
      have hbel0 := bal hb1 (.cells #[.pointer none, .slice none 0 0] 85)
      clear HCK
      have HB1 := Lib.hid hb1
      clear hb1
      go_wp2_with fail
      have HS0 := Lib.hid hSB
      have HE0 := Lib.hid hbel0
      clear hSB hbel0
      go_loopw [26] (fun i wr => ∃ k : Nat, k ≤ l.length ∧ i = .int .i64 (k : Int) ∧ (∀ j, j < k → ¬ tooB l x j) ∧ SB w.heap.size w1.heap.size (pkT l x k) wr ∧ Below w.heap.size w wr) (fun i _ => l.length - (intOf i).toNat)
      case atStart => exact ⟨0, Nat.zero_le _, rfl, fun j hj => absurd hj (by omega), HS0.out, HE0.out⟩
      case round =>
        obtain ⟨k, hk, rfl, hno, hsb, hbel⟩ := hrel
        have HNO := Lib.hid hno
        have HSB := Lib.hid hsb
        clear hno hsb
        by_cases hlt : k < l.length
        · obtain ⟨g, off, rfl, hg, hq⟩ : ∃ g off, a0 = some ⟨g, off, none⟩ ∧ g < w.heap.size ∧ ∀ j f, l[j]? = some f → w.cell? ⟨g, off + j * 2, none⟩ = some (.string f.1) ∧ w.cell? ⟨g, off + (j * 2 + 1), none⟩ = some (.int .i64 f.2) := by
            rcases HX.out with h0 | h0
            · rw [h0] at hlt; simp at hlt
            · exact h0
          have q0 := (hq k l[k] (by simp [hlt])).1
          have q1 := (hq k l[k] (by simp [hlt])).2
          rw [← hbel.cell (p := ⟨g, off + k * 2, none⟩) hg] at q0
          rw [← hbel.cell (p := ⟨g, off + (k * 2 + 1), none⟩) hg] at q1
          rw [← Nat.add_assoc] at q1
          clear hq
          have hxk : k < x.length := by have := HL.out; omega
          obtain ⟨_, gx, ox, rfl, hgx, hqx⟩ := HU.out.at (by omega)
          have p0 := hqx _ _ (inC_at x k x[k] (by simp [hxk]))
          rw [← hbel.cell (p := ⟨gx, ox + k, none⟩) hgx] at p0
          clear hqx
          have hzw := HXW.out x[k] (List.getElem_mem hxk)
          have HVL := Lib.hid (show valAt x k = x[k] from by unfold valAt; simp [hxk])
          have hbk := HZ.out.2.2 k hlt
          have HBA := Lib.hid (bitsAt_of (l := l) (k := k) (f := l[k]) (by simp [hlt]) hbk.1)
          have HPT := Lib.hid (show pkT l x (k + 1) = pkT l x k ++ hiB (valAt x k).toNat (bitsAt l k) (bitsAt l k) from rfl)
          have HPL := Lib.hid (pkT_len (x := x) HZ.out.2.2 k hk)
          have HTB := Lib.hid (show tooB l x k ↔ (valAt x k < 0 ∨ (topN (bitsAt l k) : Int) < valAt x k) from Iff.rfl)
          generalize l[k] = f at *
          generalize x[k] = z at *
          obtain ⟨s, b⟩ := f
          simp only at q0 q1 hbk HBA
          obtain ⟨B, rfl⟩ := Int.eq_ofNat_of_zero_le (show 0 ≤ b by omega)
          have hBB : bitsAt l k = B := by have := HBA.out; omega
          rw [hBB, HVL.out] at HPT HTB
          have hB1 : 1 ≤ B := by omega
          have hB32 : B ≤ 32 := by omega
          clear hbk hBB HBA
          have x0 : (0 : Int) ≤ (k : Int) := by omega
          have x1 : (k : Int) < (x.length : Int) := by omega
          have HT := Lib.hid (fun w => top_any B (by omega) w)
          go_upto_region 10 with fail
          generalize hW : World.alloc wr _ = W
          have hB : Blk W wr.heap.size 27 #[.string s, .int .i64 (B : Int)] := by rw [← hW]; exact Blk.new _ _ _
          have hbW : Below wr.heap.size wr W := by rw [← hW]; go_grown
          have pW : W.cell? ⟨gx, ox + k, none⟩ = some (.int .i64 z) := by rw [hbW.cell (p := ⟨gx, ox + k, none⟩) (Nat.lt_of_lt_of_le hgx hbel.size)]; exact p0
          have hcB := hB.cell 1
          have hgW := bnx hbel hbW
          have HSW := Lib.hid (SB_below HSB.out hbW)
          clear hW p0 q0 q1 hB hbW
          by_cases hz : z < 0
          · have HA := Lib.hid (pk_big HC0.out HL.out hlt (HTB.out.2 (.inl hz)))
            have hdz : decide (z < 0) = true := decide_eq_true hz
            go_quiet ((go_at_call 39; exact Calls.quiet_of_same (swp (HT.out _))))
            go_wp2
            refine bodyPost_ret (v := .tuple #[.string ⟨#[]⟩, .int .i64 42]) (by simp [results, Tryd.results12, go_sem]) rfl (pk_ans HA.out rfl (below_drewN hgW _))
          · have hz0 : 0 ≤ z := by omega
            have hdz : decide (z < 0) = false := decide_eq_false hz
            by_cases hzt : (topN B : Int) < z
            · have HA := Lib.hid (pk_big HC0.out HL.out hlt (HTB.out.2 (.inr hzt)))
              clear hz
              generalize topN B = T at *
              go_quiet ((go_at_call 39; exact Calls.quiet_of_same (swp (HT.out _))))
              go_wp2
              refine bodyPost_ret (v := .tuple #[.string ⟨#[]⟩, .int .i64 42]) (by simp [results, Tryd.results12, go_sem]) rfl (pk_ans HA.out rfl (below_drewN hgW _))
            · have HG := Lib.hid (show ¬ tooB l x k from fun h => by rcases HTB.out.1 h with h | h <;> omega)
              obtain ⟨Z, rfl⟩ := Int.eq_ofNat_of_zero_le hz0
              have hZt : Z ≤ topN B := by omega
              have hZ32 : Z < 4294967296 := by have := top_lt B hB32; omega
              rw [Int.toNat_natCast] at HPT
              have hzt' : (Z : Int) ≤ (topN B : Int) := by omega
              have hztn : ¬ topN B < Z := by omega
              clear hz hzt
              generalize topN B = T at *
              go_quiet ((go_at_call 39; exact Calls.quiet_of_same (swp (HT.out _))))
              have HBN := Lib.hid (fun w => binary_any Z B B hZ32 hB32 (Nat.le_refl _) w)
              have HLE := Lib.hid (show (str (hiB Z B B)).size = B from by rw [str_size, hiB_len])
              have HSD := Lib.hid (str_list (hiB Z B B))
              go_upto_region 12 with fail
              generalize str (hiB Z B B) = zs at *
              refine still_tail 8 (by kernel_rfl) (by kernel_rfl) fun W5 hW5 => ?_
              simp only [List.take_succ_cons, List.take_zero, List.drop_succ_cons, List.drop_zero]
              have pW5 : W5.cell? ⟨gx, ox + k, none⟩ = some (.int .i64 (Z : Int)) := by rw [hW5.out]; exact pW
              have hc5 : W5.cell? ⟨wr.heap.size, 1, none⟩ = some (.int .i64 (B : Int)) := by rw [hW5.out]; exact hcB
              have hs5 : SB w.heap.size w1.heap.size (pkT l x k) W5 := by rw [hW5.out]; exact SB_below HSW.out (below_drewN (Below.refl _ _) nq).drew
              have hg5 : Below w.heap.size w W5 := by rw [hW5.out]; exact (below_drewN hgW nq).drew
              have HS5 := Lib.hid hs5
              clear pW hcB hs5
              repeat still_step
              refine wpStill_nil ?_
              go_wp2_with fail
              refine (HBN.out _).mono ?_
              rintro e w6 ⟨rfl, hb6⟩
              have hg6 := bnx hg5 hb6
              go_wp2_with fail
              refine (sb_write _ _ _ zs _ (SB_below HS5.out hb6) (by have := HPL.out; have := HLE.out; omega) hg6.size).mono ?_
              rintro e w7 ⟨rfl, hs7, hb7⟩
              have HS7 := Lib.hid hs7
              clear hs7
              go_wp2
              go_roundw
              case rel => exact ⟨k + 1, by omega, by go_num, fun j hj => by rcases Nat.lt_succ_iff_lt_or_eq.1 hj with h | rfl; exact HNO.out j h; exact HG.out, by rw [HPT.out, ← HSD.out]; exact HS7.out, hg6.trans hb7⟩
              case measure => simp [intOf]; omega
        · have HO := Lib.hid (pk_ok HC0.out HL.out (fun j hj => HNO.out j (by omega)))
          have hkl : k = l.length := by omega
          have HST := Lib.hid (sb_string _ _ _ _ HSB.out hbel.size)
          have HKL := Lib.hid hkl
          clear hkl
          go_wp2_with fail
          refine HST.out.mono ?_
          rintro e w9 ⟨rfl, hb9⟩
          go_wp2_with fail
          refine bodyPost_ret (v := .tuple #[.string (str (pkT l x k)), .int .i64 0]) (by simp [results, Tryd.results12, go_sem]) rfl (pk_ans HO.out (by rw [HKL.out]) (hbel.trans hb9))
    · have hne : ((x.length : Int) != (l.length : Int)) = true := by
        rw [bne_iff_ne]
        omega
      have HA := Lib.hid (pk_len HC0.out hlen)
      clear hlen
      go_enter Tryd.func12, Tryd.ntmps12
      go_wp2_with fail
      refine HCK.out.mono ?_
      rintro e w1 ⟨rfl, hb1⟩
      go_wp2_with fail
      refine bodyPost_ret (v := .tuple #[.string ⟨#[]⟩, .int .i64 1]) (by simp [results, Tryd.results12, go_sem]) rfl (pk_ans HA.out rfl hb1)
  · have hne : (c1 != 0) = true := by simpa using hc
    have HA := Lib.hid (pk_chk (x := x) h1 hc)
    clear hc h1
    go_enter Tryd.func12, Tryd.ntmps12
    go_wp2_with fail
    refine HCK.out.mono ?_
    rintro e w1 ⟨rfl, hb1⟩
    go_wp2_with fail
    refine bodyPost_ret (v := .tuple #[.string ⟨#[]⟩, .int .i64 c1]) (by simp [results, Tryd.results12, go_sem]) rfl (pk_ans HA.out rfl hb1)
end Go.Proofs.YtaleaicfllcpiaaDoor.Fl
