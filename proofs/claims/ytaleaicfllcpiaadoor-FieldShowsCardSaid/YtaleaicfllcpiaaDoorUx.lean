/- The program's Unpack. -/
import Derived.Test.YtaleaicfllcpiaaDoorUo
import Derived.Test.YtaleaicfllcpiaaDoorBl
import Derived.Test.YtaleaicfllcpiaaDoorCv
import Derived.Deep.DeepCutAuto
import Derived.StillTailTactics
namespace Go.Proofs.YtaleaicfllcpiaaDoor.Fl
open Go.RowKit Mm Law
set_option linter.unusedVariables false
set_option linter.unusedSimpArgs false
set_option linter.unusedSectionVars false
def UnAns (w : World) (l : List Fld) (H : List UInt8) (e : Ending) (w' : World) : Prop := ∃ v, e = .returned (.tuple #[v, .int .i64 (unE l H)]) ∧ w'.ownsRow w.heap.size 3 1 v (unV l H).length (inC (unV l H)) ∧ Below w.heap.size w w'
theorem un_ans {w : World} {l : List Fld} {H : List UInt8} {v : Value} {c : Int} {t : List Int} (h : unE l H = c ∧ unV l H = t) {w' : World} (ho : w'.ownsRow w.heap.size 3 1 v t.length (inC t)) (hb : Below w.heap.size w w') : UnAns w l H (.returned (.tuple #[v, .int .i64 c])) w' := by
  unfold UnAns
  rw [h.1, h.2]
  exact ⟨v, rfl, ho, hb⟩
theorem app_intG {B : Nat} {v : Value} {m : Nat} {L : List Int} {w : World} (t : Int) {ops : Array Oper} {rest : List Oper} {op : Oper} {a : Act} {Q : Exit → Act → World → Prop} {s x : Operand}
    (hown : w.ownsRow B 3 1 v m (inC L)) (hgd : op.guard = none) (ho : op.op = .call { callee := .builtin .append, args := #[s, x], argTypes := #[22, 22] })
    (hs : a.eval s = v) (hx : a.eval x = .slice (some ⟨w.heap.size, 0, none⟩) 1 1) (hn : (m + 1) * 8 ≤ 140737488355328) (hB : B ≤ w.heap.size)
    (h : ∀ v' w', w'.ownsRow B 3 1 v' (m + 1) (inC (L ++ [t])) → Below B w w' → (w.alloc (.cells #[.int .i64 t] 3)).grownBy w' v.ownBlock → wpList Tryd.prog ops Q rest (a.put op.dst v') w') : wpList Tryd.prog ops Q (op :: rest) a (w.alloc (.cells #[.int .i64 t] 3)) := by
  obtain ⟨i0, hi, hz0, hz1, hz2⟩ := info_parts info_int
  refine wpList_append_own _ hgd s x 22 ho B 3 i0 _ 1 8 Tryd.underlying22 hi hz0 hz1 hz2 rfl (by decide) v m _ hs (hown.alloc _) ⟨w.heap.size, 0, none⟩ 1 1 [.int .i64 t] hx rfl (cells_new _ #[.int .i64 t] _)
    (by simp [Value.oneCell']) (by simp only [maxLen]; omega) (by omega) (by simp; omega) ?_
  intro v' w1 hown' hg _
  have h1 : Below B w (w.alloc (.cells #[.int .i64 t] 3)) := (Below.refl _ _).alloc hB _
  exact h v' w1 (by unfold inC at hown' ⊢; rw [List.map_append]; exact hown') (h1.grown hg (by simp; omega) (fun k hk => (hown.lt k hk).1)) hg
def b01 : ByteArray := ⟨#[48, 49]⟩
set_option maxRecDepth 100000 in
set_option maxHeartbeats 8000000 in
theorem unpack_any (l : List Fld) (v : Value) (t : ByteArray) (ht : t.size ≤ maxLen) (w : World) (hv : SeesF w v l) :
    Calls Tryd.prog 14 #[v, .string t] w (UnAns w l t.data.toList) := by
  have HCK := Lib.hid (check_any l v w hv)
  have HV := Lib.hid hv
  obtain ⟨a0, cap0, rfl, hcap, hcm, hx, hw⟩ := hv
  have HX := Lib.hid hx
  have HW := Lib.hid hw
  unfold maxLen at hcm ht
  obtain ⟨c1, c2, hcc⟩ : ∃ c1 c2, chk l = (c1, c2) := ⟨_, _, rfl⟩
  rw [hcc] at HCK
  have h1 : (chk l).1 = c1 := by rw [hcc]
  clear hx hw hcc
  by_cases hc : c1 = 0
  · subst hc
    have HZ := Lib.hid (chk_zero h1)
    have HC0 := Lib.hid h1
    have hz : 0 < l.length ∧ l.length ≤ 12 := ⟨HZ.out.1, HZ.out.2.1⟩
    obtain ⟨hl0, hl12⟩ := hz
    have HTL := Lib.hid (len_s t)
    have HTW := Lib.hid (fun w' (h : Below w.heap.size w w') => width_any l _ w' (HV.out.below h) hl12 HZ.out.2.2)
    have HWD : Wide l := HZ.out.2.2
    have HWI := Lib.hid HWD
    have hsum := pos_int HWD (k := l.length) (Nat.le_refl _)
    have hsb := sum_bd HZ.out.2.2 l.length (Nat.le_refl _)
    rw [hsum] at HTW hsb
    have HSM := Lib.hid hsum
    clear h1 HWD hsum
    go_enter Tryd.func14, Tryd.ntmps14
    go_wp2_with fail
    refine HCK.out.mono ?_
    rintro e w1 ⟨rfl, hb1⟩
    go_wp2_with fail
    refine (HTW.out _ hb1).mono ?_
    rintro e w2 ⟨rfl, hb2⟩
    have HB2 := Lib.hid (bnx hb1 hb2)
    clear hb1 hb2 HTW HCK
    by_cases hpn : t.size = posN l l.length
    · have hne : ((t.size : Int) != (posN l l.length : Int)) = false := by rw [hpn]; simp
      have HPN := Lib.hid hpn
      have HTR := Lib.hid (fun w => trim_any t b01 w (by omega) (by decide) (Go.Proofs.ascii_of_all (by decide)))
      clear hpn
      by_cases hd : ∀ b ∈ t.data.toList, b ∈ dBits
      · have HD := Lib.hid hd
        have HTR2 := HTR.out
        rw [(trims_nil t.data.toList b01.data.toList).2 hd] at HTR2
        have HT2 := Lib.hid HTR2
        have HOK := Lib.hid (un_ok HC0.out (show ofB dBits t.data.toList (sumTo l l.length) from ⟨by have := HSM.out; have := HPN.out; have := HTL.out; omega, hd⟩))
        clear HTR HTR2 hd
        go_wp2_with fail
        refine (HT2.out _).mono ?_
        rintro e w3 ⟨rfl, hb3⟩
        have HB3 := Lib.hid (bnx HB2.out hb3)
        clear hb3
        go_wp2_with fail
        go_loopw [1, 8, 31] (fun h m i wr => ∃ (k : Nat) (s : ByteArray), k ≤ l.length ∧ i = .int .i64 (k : Int) ∧ h = .string s ∧ s.data.toList = t.data.toList.drop (posN l k) ∧ wr.ownsRow w.heap.size 3 1 m k (inC (unT l t.data.toList k)) ∧ Below w.heap.size w wr) (fun _ _ i _ => l.length - (intOf i).toNat)
        case atStart => exact ⟨0, t, Nat.zero_le _, rfl, rfl, by rw [pos_zero, List.drop_zero], World.ownsRow_nil _ _ _ _, HB3.out⟩
        case round =>
          obtain ⟨k, s, hk, rfl, rfl, hsd, hown, hbel⟩ := hrel
          have HSD := Lib.hid hsd
          have HOW := Lib.hid hown
          clear hsd hown
          by_cases hlt : k < l.length
          · obtain ⟨g, off, rfl, hg, hq⟩ : ∃ g off, a0 = some ⟨g, off, none⟩ ∧ g < w.heap.size ∧ ∀ j f, l[j]? = some f → w.cell? ⟨g, off + j * 2, none⟩ = some (.string f.1) ∧ w.cell? ⟨g, off + (j * 2 + 1), none⟩ = some (.int .i64 f.2) := by
              rcases HX.out with h0 | h0
              · rw [h0] at hlt; simp at hlt
              · exact h0
            have q0 := (hq k l[k] (by simp [hlt])).1
            have q1 := (hq k l[k] (by simp [hlt])).2
            rw [← hbel.cell (p := ⟨g, off + k * 2, none⟩) hg] at q0
            rw [← hbel.cell (p := ⟨g, off + (k * 2 + 1), none⟩) hg] at q1
            rw [← Nat.add_assoc] at q1
            have hbk := bitsAt_get HWI.out hlt
            have hps := pos_succ HWI.out hlt
            have hpm := pos_mono HWI.out (j := k + 1) (k := l.length) (by omega) (Nat.le_refl _)
            have hss : s.size = t.size - posN l k := by rw [← len_s, HSD.out, List.length_drop, HTL.out]
            have hsz : bitsAt l k ≤ s.size := by have := HPN.out; omega
            have e1 : s.extract 0 (bitsAt l k) = str (fldB l t.data.toList k) := by rw [ext_take, HSD.out]; rfl
            have e2 : s.extract (bitsAt l k) s.size = str (t.data.toList.drop (posN l (k + 1))) := by
              rw [ext_take, HSD.out, List.drop_drop, ← hps, List.take_of_length_le]
              rw [List.length_drop, HTL.out]
              omega
            have hfl : (str (fldB l t.data.toList k)).size = bitsAt l k := by rw [str_size]; exact fldB_len HWI.out (by have := HPN.out; have := HTL.out; omega) hlt
            have HNU := Lib.hid (fun w => number_any (str (fldB l t.data.toList k)) (by omega) w)
            have HNL := Lib.hid (show (str (fldB l t.data.toList k)).data.toList = fldB l t.data.toList k from str_list _)
            rw [HNL.out] at HNU
            have HUT := Lib.hid (show unT l t.data.toList (k + 1) = unT l t.data.toList k ++ [(numB (fldB l t.data.toList k) : Int)] from rfl)
            have HS2 := Lib.hid (str_list (t.data.toList.drop (posN l (k + 1))))
            generalize str (t.data.toList.drop (posN l (k + 1))) = s2 at *
            generalize str (fldB l t.data.toList k) = sg at *
            obtain ⟨B, hB⟩ : ∃ B, bitsAt l k = B := ⟨_, rfl⟩
            rw [hB] at hbk hsz e1 e2
            have hb1 : l[k].2 = (B : Int) := hbk.1.symm
            rw [hb1] at q1
            have x0 : (0 : Int) ≤ (B : Int) := by omega
            have x1 : (B : Int) ≤ (s.size : Int) := by omega
            have y1 : (k : Int) < (l.length : Int) := by omega
            clear hq hb1 hbk hps hpm hss hsz hfl hB HNL
            generalize l[k] = f at *
            generalize numB (fldB l t.data.toList k) = N at *
            go_upto_region 10 with fail
            generalize hW : World.alloc wr _ = W
            have hB : Blk W wr.heap.size 27 #[.string f.1, .int .i64 (B : Int)] := by rw [← hW]; exact Blk.new _ _ _
            have hbW : Below wr.heap.size wr W := by rw [← hW]; go_grown
            have hcB := hB.cell 1
            have HBK := Lib.hid hB
            have HNE := Lib.hid (row_ne HOW.out)
            have HB4 := Lib.hid (bnx hbel hbW)
            have HOW4 := Lib.hid (own_below HOW.out hbW (Nat.le_refl _))
            have hsw : wr.heap.size < W.heap.size := by rw [← hW]; simp
            clear hW q0 q1 hB hbW hbel
            go_wp2_with fail
            refine (HNU.out _).mono ?_
            rintro e w5 ⟨rfl, rfl⟩
            go_wp2_with (at_builtin; refine app_intG (N : Int) HOW4.out rfl rfl rfl rfl (by omega) HB4.out.size ?_; intro v1 w6 hown1 hb6 hgr6; have hc6 := ((HBK.out.alloc _).grown hgr6 (fun e => HNE.out e.symm)).cell 1)
            go_roundw
            case rel => exact ⟨k + 1, s2, by omega, by go_num, rfl, HS2.out, by rw [HUT.out]; exact hown1, HB4.out.trans hb6⟩
            case measure => simp [intOf]; omega
          · have hkl : k = l.length := by omega
            have HO := Lib.hid (show wr.ownsRow w.heap.size 3 1 u8 (unT l t.data.toList l.length).length (inC (unT l t.data.toList l.length)) from by rw [unT_len]; have := HOW.out; rw [hkl] at this; exact this)
            clear hkl
            go_wp2_with fail
            refine bodyPost_ret (v := .tuple #[u8, .int .i64 0]) (by simp [results, Tryd.results14, go_sem]) rfl (un_ans HOK.out HO.out hbel)
      · have HBD := Lib.hid (un_bad HC0.out (show ¬ ofB dBits t.data.toList (sumTo l l.length) from fun h => hd h.2))
        have htr : Lib.trimS t.data.toList b01.data.toList ≠ [] := fun h => hd ((trims_nil t.data.toList b01.data.toList).1 h)
        have hne2 : (⟨(Lib.trimS t.data.toList b01.data.toList).toArray⟩ : ByteArray).toList.isEmpty = false := emp_not (by simpa using htr)
        generalize (⟨(Lib.trimS t.data.toList b01.data.toList).toArray⟩ : ByteArray) = tr at *
        clear hd htr
        go_wp2_with fail
        refine (HTR.out _).mono ?_
        rintro e w3 ⟨rfl, hb3⟩
        go_wp2_with fail
        refine bodyPost_ret (v := .tuple #[.slice none 0 0, .int .i64 46]) (by simp [results, Tryd.results14, go_sem]) rfl (un_ans HBD.out (World.ownsRow_nil _ _ _ _) (bnx HB2.out hb3))
    · have hne : ((t.size : Int) != (posN l l.length : Int)) = true := by rw [bne_iff_ne]; omega
      have HBD := Lib.hid (un_bad (h := t.data.toList) HC0.out (fun h => by have := h.1; have := HSM.out; have := HTL.out; omega))
      clear hpn
      go_wp2_with fail
      refine bodyPost_ret (v := .tuple #[.slice none 0 0, .int .i64 46]) (by simp [results, Tryd.results14, go_sem]) rfl (un_ans HBD.out (World.ownsRow_nil _ _ _ _) HB2.out)
  · have hne : (c1 != 0) = true := by simpa using hc
    have HA := Lib.hid (un_chk (h := t.data.toList) h1 hc)
    clear hc h1
    go_enter Tryd.func14, Tryd.ntmps14
    go_wp2_with fail
    refine HCK.out.mono ?_
    rintro e w1 ⟨rfl, hb1⟩
    go_wp2_with fail
    refine bodyPost_ret (v := .tuple #[.slice none 0 0, .int .i64 c1]) (by simp [results, Tryd.results14, go_sem]) rfl (un_ans HA.out (World.ownsRow_nil _ _ _ _) hb1)
end Go.Proofs.YtaleaicfllcpiaaDoor.Fl
