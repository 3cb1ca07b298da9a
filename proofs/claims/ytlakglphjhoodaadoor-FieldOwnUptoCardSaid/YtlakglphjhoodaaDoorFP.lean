/- Merged for FieldOwn -/
import Derived.Test.YtlakglphjhoodaaDoorFD
import Derived.Test.YtlakglphjhoodaaDoorFF
import Derived.Deep.DeepCutAuto
import Derived.StillTailTactics
import Derived.Test.YtlakglphjhoodaaDoorFE
namespace Go.Proofs.YtlakglphjhoodaaDoor.Fl
open Go.RowKit Mm Law
set_option linter.unusedVariables false
set_option linter.unusedSimpArgs false
set_option linter.unusedSectionVars false
def PkAns (w : World) (l : List Fld) (x : List Int) (e : Ending) (w' : World) : Prop := e = .returned (.tuple #[.string (str (pkS l x)), .int .i64 (pkE l x)]) ∧ Below w.heap.size w w'
theorem pk_ans {w : World} {l : List Fld} {x : List Int} {s : ByteArray} {c : Int} {t : List UInt8} (h : pkE l x = c ∧ pkS l x = t) (hs : s = str t) {w' : World} (hb : Below w.heap.size w w') : PkAns w l x (.returned (.tuple #[.string s, .int .i64 c])) w' := by
  unfold PkAns
  rw [h.1, h.2, hs]
  exact ⟨rfl, hb⟩
set_option maxRecDepth 100000 in
set_option maxHeartbeats 8000000 in
theorem pack_any (l : List Fld) (x : List Int) (v u : Value) (w : World) (hv : SeesF w v l) (hu : SeesS w u 1 x.length (inC x)) (hxw : ∀ z ∈ x, (Lit.int .i64 z).wf = true) :
    Calls Tryd.prog 22 #[v, u] w (PkAns w l x) := by
  have HCK := Lib.hid (check_any l v w hv)
  have HV := Lib.hid hv
  have HU := Lib.hid hu
  have HXW := Lib.hid hxw
  obtain ⟨a0, cap0, rfl, hcap, hcm, hx, hw⟩ := hv
  obtain ⟨a1, cap1, rfl, hcap1, hcm1⟩ := hu.form
  have HX := Lib.hid hx
  have HW := Lib.hid hw
  unfold maxLen at hcm hcm1
  obtain ⟨c1, c2, hcc⟩ : ∃ c1 c2, chk l = (c1, c2) := ⟨_, _, rfl⟩
  rw [hcc] at HCK
  have h1 : (chk l).1 = c1 := by rw [hcc]
  clear hu hxw hx hw hcc
  by_cases hc : c1 = 0
  · subst hc
    have HZ := Lib.hid (chk_zero h1)
    have HC0 := Lib.hid h1
    have hz : 0 < l.length ∧ l.length ≤ 12 := ⟨HZ.out.1, HZ.out.2.1⟩
    obtain ⟨hl0, hl12⟩ := hz
    clear h1
    by_cases hlen : x.length = l.length
    · have HL := Lib.hid hlen
      have hne : ((x.length : Int) != (l.length : Int)) = false := by rw [hlen]; simp
      clear hlen
      go_enter Tryd.func22, Tryd.ntmps22
      go_wp2_with fail
      refine HCK.out.mono ?_
      rintro e w1 ⟨rfl, hb1⟩
      have hSB := SB_new w1 w.heap.size hb1.size
      have hbel0 := bal hb1 (.cells #[.pointer none, .slice none 0 0] 81)
      clear HCK
      have HB1 := Lib.hid hb1
      clear hb1
      go_wp2_with fail
      have HS0 := Lib.hid hSB
      have HE0 := Lib.hid hbel0
      clear hSB hbel0
      go_loopw [26] (fun i wr => ∃ k : Nat, k ≤ l.length ∧ i = .int .i64 (k : Int) ∧ (∀ j, j < k → ¬ tooB l x j) ∧ SB w.heap.size w1.heap.size (pkT l x k) wr ∧ Below w.heap.size w wr) (fun i _ => l.length - (intOf i).toNat)
      case atStart => exact ⟨0, Nat.zero_le _, rfl, fun j hj => absurd hj (by omega), HS0.out, HE0.out⟩
      case round =>
        obtain ⟨k, hk, rfl, hno, hsb, hbel⟩ := hrel
        have HNO := Lib.hid hno
        have HSB := Lib.hid hsb
        clear hno hsb
        by_cases hlt : k < l.length
        · obtain ⟨g, off, rfl, hg, hq⟩ : ∃ g off, a0 = some ⟨g, off, none⟩ ∧ g < w.heap.size ∧ ∀ j f, l[j]? = some f → w.cell? ⟨g, off + j * 2, none⟩ = some (.string f.1) ∧ w.cell? ⟨g, off + (j * 2 + 1), none⟩ = some (.int .i64 f.2) := by
            rcases HX.out with h0 | h0
            · rw [h0] at hlt; simp at hlt
            · exact h0
          have q0 := (hq k l[k] (by simp [hlt])).1
          have q1 := (hq k l[k] (by simp [hlt])).2
          rw [← hbel.cell (p := ⟨g, off + k * 2, none⟩) hg] at q0
          rw [← hbel.cell (p := ⟨g, off + (k * 2 + 1), none⟩) hg] at q1
          rw [← Nat.add_assoc] at q1
          clear hq
          have hxk : k < x.length := by have := HL.out; omega
          obtain ⟨_, gx, ox, rfl, hgx, hqx⟩ := HU.out.at (by omega)
          have p0 := hqx _ _ (inC_at x k x[k] (by simp [hxk]))
          rw [← hbel.cell (p := ⟨gx, ox + k, none⟩) hgx] at p0
          clear hqx
          have hzw := HXW.out x[k] (List.getElem_mem hxk)
          have HVL := Lib.hid (show valAt x k = x[k] from by unfold valAt; simp [hxk])
          have hbk := HZ.out.2.2 k hlt
          have HBA := Lib.hid (bitsAt_of (l := l) (k := k) (f := l[k]) (by simp [hlt]) hbk.1)
          have HPT := Lib.hid (show pkT l x (k + 1) = pkT l x k ++ hiB (valAt x k).toNat (bitsAt l k) (bitsAt l k) from rfl)
          have HPL := Lib.hid (pkT_len (x := x) HZ.out.2.2 k hk)
          have HTB := Lib.hid (show tooB l x k ↔ (valAt x k < 0 ∨ (topN (bitsAt l k) : Int) < valAt x k) from Iff.rfl)
          generalize l[k] = f at *
          generalize x[k] = z at *
          obtain ⟨s, b⟩ := f
          simp only at q0 q1 hbk HBA
          obtain ⟨B, rfl⟩ := Int.eq_ofNat_of_zero_le (show 0 ≤ b by omega)
          have hBB : bitsAt l k = B := by have := HBA.out; omega
          rw [hBB, HVL.out] at HPT HTB
          have hB1 : 1 ≤ B := by omega
          have hB32 : B ≤ 32 := by omega
          clear hbk hBB HBA
          have x0 : (0 : Int) ≤ (k : Int) := by omega
          have x1 : (k : Int) < (x.length : Int) := by omega
          have HT := Lib.hid (fun w => top_any B (by omega) w)
          go_upto_region 10 with fail
          generalize hW : World.alloc wr _ = W
          have hB : Blk W wr.heap.size 27 #[.string s, .int .i64 (B : Int)] := by rw [← hW]; exact Blk.new _ _ _
          have hbW : Below wr.heap.size wr W := by rw [← hW]; go_grown
          have pW : W.cell? ⟨gx, ox + k, none⟩ = some (.int .i64 z) := by rw [hbW.cell (p := ⟨gx, ox + k, none⟩) (Nat.lt_of_lt_of_le hgx hbel.size)]; exact p0
          have hcB := hB.cell 1
          have hgW := bnx hbel hbW
          have HSW := Lib.hid (SB_below HSB.out hbW)
          clear hW p0 q0 q1 hB hbW
          by_cases hz : z < 0
          · have HA := Lib.hid (pk_big HC0.out HL.out hlt (HTB.out.2 (.inl hz)))
            have hdz : decide (z < 0) = true := decide_eq_true hz
            go_quiet ((go_at_call 25; exact Calls.quiet_of_same (swp (HT.out _))))
            go_wp2
            refine bodyPost_ret (v := .tuple #[.string ⟨#[]⟩, .int .i64 42]) (by simp [results, Tryd.results22, go_sem]) rfl (pk_ans HA.out rfl (below_drewN hgW _))
          · have hz0 : 0 ≤ z := by omega
            have hdz : decide (z < 0) = false := decide_eq_false hz
            by_cases hzt : (topN B : Int) < z
            · have HA := Lib.hid (pk_big HC0.out HL.out hlt (HTB.out.2 (.inr hzt)))
              clear hz
              generalize topN B = T at *
              go_quiet ((go_at_call 25; exact Calls.quiet_of_same (swp (HT.out _))))
              go_wp2
              refine bodyPost_ret (v := .tuple #[.string ⟨#[]⟩, .int .i64 42]) (by simp [results, Tryd.results22, go_sem]) rfl (pk_ans HA.out rfl (below_drewN hgW _))
            · have HG := Lib.hid (show ¬ tooB l x k from fun h => by rcases HTB.out.1 h with h | h <;> omega)
              obtain ⟨Z, rfl⟩ := Int.eq_ofNat_of_zero_le hz0
              have hZt : Z ≤ topN B := by omega
              have hZ32 : Z < 4294967296 := by have := top_lt B hB32; omega
              rw [Int.toNat_natCast] at HPT
              have hzt' : (Z : Int) ≤ (topN B : Int) := by omega
              have hztn : ¬ topN B < Z := by omega
              clear hz hzt
              generalize topN B = T at *
              go_quiet ((go_at_call 25; exact Calls.quiet_of_same (swp (HT.out _))))
              have HBN := Lib.hid (fun w => binary_any Z B B hZ32 hB32 (Nat.le_refl _) w)
              have HLE := Lib.hid (show (str (hiB Z B B)).size = B from by rw [str_size, hiB_len])
              have HSD := Lib.hid (str_list (hiB Z B B))
              go_upto_region 12 with fail
              generalize str (hiB Z B B) = zs at *
              refine still_tail 8 (by kernel_rfl) (by kernel_rfl) fun W5 hW5 => ?_
              simp only [List.take_succ_cons, List.take_zero, List.drop_succ_cons, List.drop_zero]
              have pW5 : W5.cell? ⟨gx, ox + k, none⟩ = some (.int .i64 (Z : Int)) := by rw [hW5.out]; exact pW
              have hc5 : W5.cell? ⟨wr.heap.size, 1, none⟩ = some (.int .i64 (B : Int)) := by rw [hW5.out]; exact hcB
              have hs5 : SB w.heap.size w1.heap.size (pkT l x k) W5 := by rw [hW5.out]; exact SB_below HSW.out (below_drewN (Below.refl _ _) nq).drew
              have hg5 : Below w.heap.size w W5 := by rw [hW5.out]; exact (below_drewN hgW nq).drew
              have HS5 := Lib.hid hs5
              clear pW hcB hs5
              repeat still_step
              refine wpStill_nil ?_
              go_wp2_with fail
              refine (HBN.out _).mono ?_
              rintro e w6 ⟨rfl, hb6⟩
              have hg6 := bnx hg5 hb6
              go_wp2_with fail
              refine (sb_write _ _ _ zs _ (SB_below HS5.out hb6) (by have := HPL.out; have := HLE.out; omega) hg6.size).mono ?_
              rintro e w7 ⟨rfl, hs7, hb7⟩
              have HS7 := Lib.hid hs7
              clear hs7
              go_wp2
              go_roundw
              case rel => exact ⟨k + 1, by omega, by go_num, fun j hj => by rcases Nat.lt_succ_iff_lt_or_eq.1 hj with h | rfl; exact HNO.out j h; exact HG.out, by rw [HPT.out, ← HSD.out]; exact HS7.out, hg6.trans hb7⟩
              case measure => simp [intOf]; omega
        · have HO := Lib.hid (pk_ok HC0.out HL.out (fun j hj => HNO.out j (by omega)))
          have hkl : k = l.length := by omega
          have HST := Lib.hid (sb_string _ _ _ _ HSB.out hbel.size)
          have HKL := Lib.hid hkl
          clear hkl
          go_wp2_with fail
          refine HST.out.mono ?_
          rintro e w9 ⟨rfl, hb9⟩
          go_wp2_with fail
          refine bodyPost_ret (v := .tuple #[.string (str (pkT l x k)), .int .i64 0]) (by simp [results, Tryd.results22, go_sem]) rfl (pk_ans HO.out (by rw [HKL.out]) (hbel.trans hb9))
    · have hne : ((x.length : Int) != (l.length : Int)) = true := by
        rw [bne_iff_ne]
        omega
      have HA := Lib.hid (pk_len HC0.out hlen)
      clear hlen
      go_enter Tryd.func22, Tryd.ntmps22
      go_wp2_with fail
      refine HCK.out.mono ?_
      rintro e w1 ⟨rfl, hb1⟩
      go_wp2_with fail
      refine bodyPost_ret (v := .tuple #[.string ⟨#[]⟩, .int .i64 1]) (by simp [results, Tryd.results22, go_sem]) rfl (pk_ans HA.out rfl hb1)
  · have hne : (c1 != 0) = true := by simpa using hc
    have HA := Lib.hid (pk_chk (x := x) h1 hc)
    clear hc h1
    go_enter Tryd.func22, Tryd.ntmps22
    go_wp2_with fail
    refine HCK.out.mono ?_
    rintro e w1 ⟨rfl, hb1⟩
    go_wp2_with fail
    refine bodyPost_ret (v := .tuple #[.string ⟨#[]⟩, .int .i64 c1]) (by simp [results, Tryd.results22, go_sem]) rfl (pk_ans HA.out rfl hb1)
end Go.Proofs.YtlakglphjhoodaaDoor.Fl

namespace Go.Proofs.YtlakglphjhoodaaDoor.Fl
open Go.RowKit Mm Law
set_option maxRecDepth 100000 in
set_option maxHeartbeats 2000000 in
theorem alike_yes (T : List Int) (v u : Value) (w : World) (hv : SeesS w v 1 T.length (inC T)) (hu : SeesS w u 1 T.length (inC T)) :
    Calls Tryd.prog 12 #[v, u] w fun e w' => e = .returned (.bool true) ∧ Below w.heap.size w w' := by
  obtain ⟨a0, cap0, rfl, hcap, hcm⟩ := hv.form
  obtain ⟨a1, cap1, rfl, hcap1, hcm1⟩ := hu.form
  have HX := Lib.hid hv
  have HX1 := Lib.hid hu
  unfold maxLen at hcm hcm1
  have hne : ((T.length : Int) != (T.length : Int)) = false := by simp
  clear hv hu
  go_enter Tryd.func12, Tryd.ntmps12
  go_wp2
  go_loopw [5] (fun i wr => ∃ k : Nat, k ≤ T.length ∧ i = .int .i64 k ∧ Below w.heap.size w wr) (fun i _ => T.length - (intOf i).toNat)
  case atStart => exact ⟨0, Nat.zero_le _, rfl, Below.refl _ _⟩
  case round =>
    obtain ⟨k, hk, rfl, hbel⟩ := hrel
    by_cases hlt : k < T.length
    · obtain ⟨_, g, off, rfl, hg, hq⟩ := HX.out.at (by omega)
      obtain ⟨_, g1, off1, rfl, hg1, hq1⟩ := HX1.out.at (by omega)
      have kat := inC_at T k T[k] (by simp [hlt])
      have q0 := hq _ _ kat
      have p0 := hq1 _ _ kat
      rw [← hbel.cell (p := ⟨g, off + k, none⟩) hg] at q0
      rw [← hbel.cell (p := ⟨g1, off1 + k, none⟩) hg1] at p0
      generalize T[k] = z at *
      have hzz : (z != z) = false := by simp
      have hx1 : (k : Int) < (T.length : Int) := by omega
      have hx0 : (0 : Int) ≤ (k : Int) := by omega
      clear hq hq1 kat
      go_wp2
      go_quiet (fail)
      go_wp2
      go_roundw
      case rel => exact ⟨k + 1, by omega, by go_num, below_drewN hbel _⟩
      case measure => simp [intOf]; omega
    · go_wp2
      go_ret
      exact ⟨rfl, hbel⟩
end Go.Proofs.YtlakglphjhoodaaDoor.Fl

namespace Go.Proofs.YtlakglphjhoodaaDoor.Fl
open Go.RowKit Mm Law
def UnAns (w : World) (l : List Fld) (H : List UInt8) (e : Ending) (w' : World) : Prop := ∃ v, e = .returned (.tuple #[v, .int .i64 (unE l H)]) ∧ w'.ownsRow w.heap.size 3 1 v (unV l H).length (inC (unV l H)) ∧ Below w.heap.size w w'
theorem un_ans {w : World} {l : List Fld} {H : List UInt8} {v : Value} {c : Int} {t : List Int} (h : unE l H = c ∧ unV l H = t) {w' : World} (ho : w'.ownsRow w.heap.size 3 1 v t.length (inC t)) (hb : Below w.heap.size w w') : UnAns w l H (.returned (.tuple #[v, .int .i64 c])) w' := by
  unfold UnAns
  rw [h.1, h.2]
  exact ⟨v, rfl, ho, hb⟩
theorem app_intG {B : Nat} {v : Value} {m : Nat} {L : List Int} {w : World} (t : Int) {ops : Array Oper} {rest : List Oper} {op : Oper} {a : Act} {Q : Exit → Act → World → Prop} {s x : Operand}
    (hown : w.ownsRow B 3 1 v m (inC L)) (hgd : op.guard = none) (ho : op.op = .call { callee := .builtin .append, args := #[s, x], argTypes := #[22, 22] })
    (hs : a.eval s = v) (hx : a.eval x = .slice (some ⟨w.heap.size, 0, none⟩) 1 1) (hn : (m + 1) * 8 ≤ 140737488355328) (hB : B ≤ w.heap.size)
    (h : ∀ v' w', w'.ownsRow B 3 1 v' (m + 1) (inC (L ++ [t])) → Below B w w' → (w.alloc (.cells #[.int .i64 t] 3)).grownBy w' v.ownBlock → wpList Tryd.prog ops Q rest (a.put op.dst v') w') : wpList Tryd.prog ops Q (op :: rest) a (w.alloc (.cells #[.int .i64 t] 3)) := by
  obtain ⟨i0, hi, hz0, hz1, hz2⟩ := info_parts info_int
  refine wpList_append_own _ hgd s x 22 ho B 3 i0 _ 1 8 Tryd.underlying22 hi hz0 hz1 hz2 rfl (by decide) v m _ hs (hown.alloc _) ⟨w.heap.size, 0, none⟩ 1 1 [.int .i64 t] hx rfl (cells_new _ #[.int .i64 t] _)
    (by simp [Value.oneCell']) (by simp only [maxLen]; omega) (by omega) (by simp; omega) ?_
  intro v' w1 hown' hg _
  have h1 : Below B w (w.alloc (.cells #[.int .i64 t] 3)) := (Below.refl _ _).alloc hB _
  exact h v' w1 (by unfold inC at hown' ⊢; rw [List.map_append]; exact hown') (h1.grown hg (by simp; omega) (fun k hk => (hown.lt k hk).1)) hg
def b01 : ByteArray := ⟨#[48, 49]⟩
set_option maxRecDepth 100000 in
set_option maxHeartbeats 8000000 in
theorem unpack_any (l : List Fld) (v : Value) (t : ByteArray) (ht : t.size ≤ maxLen) (w : World) (hv : SeesF w v l) :
    Calls Tryd.prog 18 #[v, .string t] w (UnAns w l t.data.toList) := by
  have HCK := Lib.hid (check_any l v w hv)
  have HV := Lib.hid hv
  obtain ⟨a0, cap0, rfl, hcap, hcm, hx, hw⟩ := hv
  have HX := Lib.hid hx
  have HW := Lib.hid hw
  unfold maxLen at hcm ht
  obtain ⟨c1, c2, hcc⟩ : ∃ c1 c2, chk l = (c1, c2) := ⟨_, _, rfl⟩
  rw [hcc] at HCK
  have h1 : (chk l).1 = c1 := by rw [hcc]
  clear hx hw hcc
  by_cases hc : c1 = 0
  · subst hc
    have HZ := Lib.hid (chk_zero h1)
    have HC0 := Lib.hid h1
    have hz : 0 < l.length ∧ l.length ≤ 12 := ⟨HZ.out.1, HZ.out.2.1⟩
    obtain ⟨hl0, hl12⟩ := hz
    have HTL := Lib.hid (len_s t)
    have HTW := Lib.hid (fun w' (h : Below w.heap.size w w') => width_any l _ w' (HV.out.below h) hl12 HZ.out.2.2)
    have HWD : Wide l := HZ.out.2.2
    have HWI := Lib.hid HWD
    have hsum := pos_int HWD (k := l.length) (Nat.le_refl _)
    have hsb := sum_bd HZ.out.2.2 l.length (Nat.le_refl _)
    rw [hsum] at HTW hsb
    have HSM := Lib.hid hsum
    clear h1 HWD hsum
    go_enter Tryd.func18, Tryd.ntmps18
    go_wp2_with fail
    refine HCK.out.mono ?_
    rintro e w1 ⟨rfl, hb1⟩
    go_wp2_with fail
    refine (HTW.out _ hb1).mono ?_
    rintro e w2 ⟨rfl, hb2⟩
    have HB2 := Lib.hid (bnx hb1 hb2)
    clear hb1 hb2 HTW HCK
    by_cases hpn : t.size = posN l l.length
    · have hne : ((t.size : Int) != (posN l l.length : Int)) = false := by rw [hpn]; simp
      have HPN := Lib.hid hpn
      have HTR := Lib.hid (fun w => trim_any t b01 w (by omega) (by decide) (Go.Proofs.ascii_of_all (by decide)))
      clear hpn
      by_cases hd : ∀ b ∈ t.data.toList, b ∈ dBits
      · have HD := Lib.hid hd
        have HTR2 := HTR.out
        rw [(trims_nil t.data.toList b01.data.toList).2 hd] at HTR2
        have HT2 := Lib.hid HTR2
        have HOK := Lib.hid (un_ok HC0.out (show ofB dBits t.data.toList (sumTo l l.length) from ⟨by have := HSM.out; have := HPN.out; have := HTL.out; omega, hd⟩))
        clear HTR HTR2 hd
        go_wp2_with fail
        refine (HT2.out _).mono ?_
        rintro e w3 ⟨rfl, hb3⟩
        have HB3 := Lib.hid (bnx HB2.out hb3)
        clear hb3
        go_wp2_with fail
        go_loopw [1, 8, 31] (fun h m i wr => ∃ (k : Nat) (s : ByteArray), k ≤ l.length ∧ i = .int .i64 (k : Int) ∧ h = .string s ∧ s.data.toList = t.data.toList.drop (posN l k) ∧ wr.ownsRow w.heap.size 3 1 m k (inC (unT l t.data.toList k)) ∧ Below w.heap.size w wr) (fun _ _ i _ => l.length - (intOf i).toNat)
        case atStart => exact ⟨0, t, Nat.zero_le _, rfl, rfl, by rw [pos_zero, List.drop_zero], World.ownsRow_nil _ _ _ _, HB3.out⟩
        case round =>
          obtain ⟨k, s, hk, rfl, rfl, hsd, hown, hbel⟩ := hrel
          have HSD := Lib.hid hsd
          have HOW := Lib.hid hown
          clear hsd hown
          by_cases hlt : k < l.length
          · obtain ⟨g, off, rfl, hg, hq⟩ : ∃ g off, a0 = some ⟨g, off, none⟩ ∧ g < w.heap.size ∧ ∀ j f, l[j]? = some f → w.cell? ⟨g, off + j * 2, none⟩ = some (.string f.1) ∧ w.cell? ⟨g, off + (j * 2 + 1), none⟩ = some (.int .i64 f.2) := by
              rcases HX.out with h0 | h0
              · rw [h0] at hlt; simp at hlt
              · exact h0
            have q0 := (hq k l[k] (by simp [hlt])).1
            have q1 := (hq k l[k] (by simp [hlt])).2
            rw [← hbel.cell (p := ⟨g, off + k * 2, none⟩) hg] at q0
            rw [← hbel.cell (p := ⟨g, off + (k * 2 + 1), none⟩) hg] at q1
            rw [← Nat.add_assoc] at q1
            have hbk := bitsAt_get HWI.out hlt
            have hps := pos_succ HWI.out hlt
            have hpm := pos_mono HWI.out (j := k + 1) (k := l.length) (by omega) (Nat.le_refl _)
            have hss : s.size = t.size - posN l k := by rw [← len_s, HSD.out, List.length_drop, HTL.out]
            have hsz : bitsAt l k ≤ s.size := by have := HPN.out; omega
            have e1 : s.extract 0 (bitsAt l k) = str (fldB l t.data.toList k) := by rw [ext_take, HSD.out]; rfl
            have e2 : s.extract (bitsAt l k) s.size = str (t.data.toList.drop (posN l (k + 1))) := by
              rw [ext_take, HSD.out, List.drop_drop, ← hps, List.take_of_length_le]
              rw [List.length_drop, HTL.out]
              omega
            have hfl : (str (fldB l t.data.toList k)).size = bitsAt l k := by rw [str_size]; exact fldB_len HWI.out (by have := HPN.out; have := HTL.out; omega) hlt
            have HNU := Lib.hid (fun w => number_any (str (fldB l t.data.toList k)) (by omega) w)
            have HNL := Lib.hid (show (str (fldB l t.data.toList k)).data.toList = fldB l t.data.toList k from str_list _)
            rw [HNL.out] at HNU
            have HUT := Lib.hid (show unT l t.data.toList (k + 1) = unT l t.data.toList k ++ [(numB (fldB l t.data.toList k) : Int)] from rfl)
            have HS2 := Lib.hid (str_list (t.data.toList.drop (posN l (k + 1))))
            generalize str (t.data.toList.drop (posN l (k + 1))) = s2 at *
            generalize str (fldB l t.data.toList k) = sg at *
            obtain ⟨B, hB⟩ : ∃ B, bitsAt l k = B := ⟨_, rfl⟩
            rw [hB] at hbk hsz e1 e2
            have hb1 : l[k].2 = (B : Int) := hbk.1.symm
            rw [hb1] at q1
            have x0 : (0 : Int) ≤ (B : Int) := by omega
            have x1 : (B : Int) ≤ (s.size : Int) := by omega
            have y1 : (k : Int) < (l.length : Int) := by omega
            clear hq hb1 hbk hps hpm hss hsz hfl hB HNL
            generalize l[k] = f at *
            generalize numB (fldB l t.data.toList k) = N at *
            go_upto_region 10 with fail
            generalize hW : World.alloc wr _ = W
            have hB : Blk W wr.heap.size 27 #[.string f.1, .int .i64 (B : Int)] := by rw [← hW]; exact Blk.new _ _ _
            have hbW : Below wr.heap.size wr W := by rw [← hW]; go_grown
            have hcB := hB.cell 1
            have HBK := Lib.hid hB
            have HNE := Lib.hid (row_ne HOW.out)
            have HB4 := Lib.hid (bnx hbel hbW)
            have HOW4 := Lib.hid (own_below HOW.out hbW (Nat.le_refl _))
            have hsw : wr.heap.size < W.heap.size := by rw [← hW]; simp
            clear hW q0 q1 hB hbW hbel
            go_wp2_with fail
            refine (HNU.out _).mono ?_
            rintro e w5 ⟨rfl, rfl⟩
            go_wp2_with (at_builtin; refine app_intG (N : Int) HOW4.out rfl rfl rfl rfl (by omega) HB4.out.size ?_; intro v1 w6 hown1 hb6 hgr6; have hc6 := ((HBK.out.alloc _).grown hgr6 (fun e => HNE.out e.symm)).cell 1)
            go_roundw
            case rel => exact ⟨k + 1, s2, by omega, by go_num, rfl, HS2.out, by rw [HUT.out]; exact hown1, HB4.out.trans hb6⟩
            case measure => simp [intOf]; omega
          · have hkl : k = l.length := by omega
            have HO := Lib.hid (show wr.ownsRow w.heap.size 3 1 u8 (unT l t.data.toList l.length).length (inC (unT l t.data.toList l.length)) from by rw [unT_len]; have := HOW.out; rw [hkl] at this; exact this)
            clear hkl
            go_wp2_with fail
            refine bodyPost_ret (v := .tuple #[u8, .int .i64 0]) (by simp [results, Tryd.results18, go_sem]) rfl (un_ans HOK.out HO.out hbel)
      · have HBD := Lib.hid (un_bad HC0.out (show ¬ ofB dBits t.data.toList (sumTo l l.length) from fun h => hd h.2))
        have htr : Lib.trimS t.data.toList b01.data.toList ≠ [] := fun h => hd ((trims_nil t.data.toList b01.data.toList).1 h)
        have hne2 : (⟨(Lib.trimS t.data.toList b01.data.toList).toArray⟩ : ByteArray).toList.isEmpty = false := emp_not (by simpa using htr)
        generalize (⟨(Lib.trimS t.data.toList b01.data.toList).toArray⟩ : ByteArray) = tr at *
        clear hd htr
        go_wp2_with fail
        refine (HTR.out _).mono ?_
        rintro e w3 ⟨rfl, hb3⟩
        go_wp2_with fail
        refine bodyPost_ret (v := .tuple #[.slice none 0 0, .int .i64 46]) (by simp [results, Tryd.results18, go_sem]) rfl (un_ans HBD.out (World.ownsRow_nil _ _ _ _) (bnx HB2.out hb3))
    · have hne : ((t.size : Int) != (posN l l.length : Int)) = true := by rw [bne_iff_ne]; omega
      have HBD := Lib.hid (un_bad (h := t.data.toList) HC0.out (fun h => by have := h.1; have := HSM.out; have := HTL.out; omega))
      clear hpn
      go_wp2_with fail
      refine bodyPost_ret (v := .tuple #[.slice none 0 0, .int .i64 46]) (by simp [results, Tryd.results18, go_sem]) rfl (un_ans HBD.out (World.ownsRow_nil _ _ _ _) HB2.out)
  · have hne : (c1 != 0) = true := by simpa using hc
    have HA := Lib.hid (un_chk (h := t.data.toList) h1 hc)
    clear hc h1
    go_enter Tryd.func18, Tryd.ntmps18
    go_wp2_with fail
    refine HCK.out.mono ?_
    rintro e w1 ⟨rfl, hb1⟩
    go_wp2_with fail
    refine bodyPost_ret (v := .tuple #[.slice none 0 0, .int .i64 c1]) (by simp [results, Tryd.results18, go_sem]) rfl (un_ans HA.out (World.ownsRow_nil _ _ _ _) hb1)
end Go.Proofs.YtlakglphjhoodaaDoor.Fl
