/- Merged for FieldOwn -/
import Derived.Test.YtlakglphjhoodaaDoorFG
import Derived.Deep.RegionHeld3
import Derived.Deep.DeepCutAuto
import Derived.WalkLawsBesides
import Derived.Test.YtlakglphjhoodaaDoorFK
import Derived.Test.YtlakglphjhoodaaDoorHd
import Derived.Test.YtlakglphjhoodaaDoorBw
namespace Go.Proofs.YtlakglphjhoodaaDoor.Fl
open Go.RowKit Mm Law
set_option linter.unusedVariables false
set_option linter.unusedSimpArgs false
set_option linter.unusedSectionVars false
theorem str_takeF (s : ByteArray) (n : Nat) : s.extract 0 n = str (s.data.toList.take n) := by
  apply ByteArray.ext
  rw [← Array.toList_inj]
  simp [str, ByteArray.data_extract]
theorem pow_32 {B : Nat} (h : B ≤ 32) : 1 ≤ (2 : Int) ^ B ∧ (2 : Int) ^ B ≤ 4294967296 := by
  have h1 := topN_pos B
  have h2 := pow_33 h
  rw [pow_int]
  have h3 : (2 : Nat) ^ 32 = 4294967296 := by decide
  omega
abbrev CS1 (W : World) (g o : Nat) (z : Value) (w' : World) : Prop := w'.cell? ⟨g, o, none⟩ = some z ∧ Below W.heap.size W w'
theorem CS1.go {W w1 w2 : World} {g o : Nat} {z : Value} (hg : g < W.heap.size) (h : CS1 W g o z w1) (hb : Below w1.heap.size w1 w2) : CS1 W g o z w2 :=
  ⟨by rw [hb.cell (p := ⟨g, o, none⟩) (Nat.lt_of_lt_of_le hg h.2.size)]; exact h.1, bnx h.2 hb⟩
abbrev CS2 (W : World) (g o p : Nat) (z y : Value) (w' : World) : Prop := w'.cell? ⟨g, o, none⟩ = some z ∧ w'.cell? ⟨g, p, none⟩ = some y ∧ Below W.heap.size W w'
theorem CS2.go {W w1 w2 : World} {g o p : Nat} {z y : Value} (hg : g < W.heap.size) (h : CS2 W g o p z y w1) (hb : Below w1.heap.size w1 w2) : CS2 W g o p z y w2 :=
  ⟨by rw [hb.cell (p := ⟨g, o, none⟩) (Nat.lt_of_lt_of_le hg h.2.2.size)]; exact h.1, by rw [hb.cell (p := ⟨g, p, none⟩) (Nat.lt_of_lt_of_le hg h.2.2.size)]; exact h.2.1, bnx h.2.2 hb⟩
structure BlkT (b f x v : Nat) (c : ByteArray) : Prop where
  sz : c.size = b
  fb : f ≤ b
  pf : Pfx c.data.toList
  has : hasB c.data.toList (hiB v b b) = decide (x ≤ v ∧ v < x + 2 ^ f)
  dig : ∀ i, i < b - f → c.data.toList[i]? ≠ some 120
  dig2 : 0 < f → c.data.toList[b - f]? = some 120
  low : lowT c.data.toList = hiB x b b
  top : c.data.toList.take (b - f - 1) = hiB x b (b - f - 1)
theorem blkT {b v : Nat} {p : Nat × Nat} (hp : p.1 < 2 ^ b) (hf : p.2 ≤ b) (hv : v < 2 ^ b) (hm : p.1 % 2 ^ p.2 = 0) : BlkT b p.2 p.1 v (str (preT b p)) where
  sz := by rw [str_size, preT_len hf]
  fb := hf
  pf := by rw [str_list]; exact pre_pfx hf
  has := by rw [str_list]; exact has_pre hp hf hv hm
  dig := fun i hi h => by
    rw [str_list, pre_get, if_pos hi] at h
    exact bit_ne_x _ _ (Option.some.inj h)
  dig2 := fun h => by rw [str_list, pre_get, if_neg (by omega), if_pos (by omega)]
  low := by rw [str_list]; exact low_pre hf hm
  top := by
    rw [str_list]
    unfold preT
    rw [List.take_append_of_le_length (by rw [hiB_len]; omega)]
    unfold hiB
    rw [← List.map_take, List.take_range, show min (b - p.2 - 1) (b - p.2) = b - p.2 - 1 by omega]
theorem ne_lists {a b : List UInt8} (h : a ≠ b) : ((str a).toList == (str b).toList) = false := by
  rw [ByteArray.toList_eq, ByteArray.toList_eq, str_list, str_list]
  simpa using h
theorem geq_no {x y : List UInt8} (h : Op.bytesLess x y = true) : (!(Op.bytesLess (str x).toList (str y).toList)) = false := by
  rw [ByteArray.toList_eq, ByteArray.toList_eq, str_list, str_list, h]; rfl
theorem fewest_sees {w1 wr : World} {g off : Nat} {G : List (Nat × Nat)} {b k : Nat} {p : Nat × Nat} (hq : ∀ j u, (sC (G.map (preT b)))[j]? = some u → w1.cell? ⟨g, off + j, none⟩ = some u) (hg : g < w1.heap.size) (hb : Below w1.heap.size w1 wr) (hk : G[k]? = some p) : wr.cell? ⟨g, off + k, none⟩ = some (.string (str (preT b p))) := by
  rw [hb.cell (p := ⟨g, off + k, none⟩) hg]
  exact hq _ _ (sC_at _ k _ (by rw [List.getElem?_map, hk]; rfl))
theorem nat_wf {n : Nat} (h : n ≤ 4294967296) : (Lit.int .i64 (n : Int)).wf = true := by
  simp [Lit.wf, IntKind.min, IntKind.max, IntKind.bits, IntKind.signed]
  omega
theorem cov_ok (B L I : Nat) (b1 : 1 ≤ B) (b2 : B ≤ 32) (hLI : L ≤ I) (hI : I < 2 ^ B) (w : World) :
    Calls Tryd.prog 15 #[.int .i64 (B : Int), .int .i64 (L : Int), .int .i64 (I : Int)] w fun e w' => ∃ u, e = .returned (.tuple #[u, .int .i64 0]) ∧ w'.ownsRow w.heap.size 9 1 u (gre B L (I + 1)).length (sC ((gre B L (I + 1)).map (preT B))) ∧ Below w.heap.size w w' := by
  obtain ⟨t1, t2⟩ := top_lt B b2
  have h := cov_walk (B : Int) (L : Int) (I : Int) (nat_wf (by omega)) (nat_wf (by omega)) (nat_wf (by omega)) w
  unfold CovAns at h
  obtain ⟨e1, e2⟩ := rcov_ok B L I b1 b2 hLI (by omega)
  rw [e1, e2, List.length_map] at h
  exact h
theorem few_at (B L I V : Nat) (hLI : L ≤ I) (hI : I < 2 ^ B) (hV : V < 2 ^ B) : ∀ (k : Nat) (p : Nat × Nat), (gre B L (I + 1))[k]? = some p →
    BlkT B p.2 p.1 V (str (preT B p)) ∧ stt B L (I + 1) k = p.1 ∧ stt B L (I + 1) (k + 1) = p.1 + 2 ^ p.2 ∧ L ≤ p.1 := by
  intro k p hp
  obtain ⟨a1, a2, a3, a4, a5, a6⟩ := gre_at B (I + 1) _ L (Nat.le_refl _) (by omega) k p hp
  have hpos : 0 < 2 ^ p.2 := Nat.pow_pos (by omega)
  have := a1.2
  exact ⟨blkT (by omega) a2 hV a1.1, a4, a5, a6⟩
theorem few_next (B L I : Nat) (hLI : L ≤ I) (hI : I < 2 ^ B) : ∀ (k : Nat) (p q : Nat × Nat), (gre B L (I + 1))[k]? = some p → (gre B L (I + 1))[k + 1]? = some q →
    Op.bytesLess (hiB p.1 B B) (hiB q.1 B B) = true ∧ (p.2 = q.2 → p.2 < B ∧ hiB q.1 B (B - p.2 - 1) ≠ hiB p.1 B (B - p.2 - 1)) := by
  intro k p q hp hq
  obtain ⟨a1, a2, a3, a4, a5, a6⟩ := gre_at B (I + 1) _ L (Nat.le_refl _) (by omega) k p hp
  obtain ⟨c1, c2, c3, c4, c5, c6⟩ := gre_at B (I + 1) _ L (Nat.le_refl _) (by omega) (k + 1) q hq
  have hpos : 0 < 2 ^ p.2 := Nat.pow_pos (by omega)
  have hpos2 : 0 < 2 ^ q.2 := Nat.pow_pos (by omega)
  have e : q.1 = p.1 + 2 ^ p.2 := by omega
  have := c1.2
  refine ⟨hi_less B _ _ (by rw [Nat.mod_eq_of_lt (by omega), Nat.mod_eq_of_lt (by omega)]; omega), fun h => ?_⟩
  rw [e]
  exact no_halves (by omega) a1.1 a2 a3 (by rw [← e]; rw [h]; omega)
theorem swq {P : Program} {f : FuncId} {args : Array Value} {w : World} {v : Value} (h : Calls P f args w fun e w' => e = .returned v ∧ w' = w) : Calls P f args w fun e w' => e = .returned v ∧ w = w' :=
  h.mono fun _ _ ⟨a, b⟩ => ⟨a, b.symm⟩
def cntF (L V s : Nat) : Nat := if L ≤ V ∧ V < s then 1 else 0
theorem cntF_le (L V s : Nat) : cntF L V s ≤ 1 := by unfold cntF; split <;> omega
theorem cntF_next {L V x f : Nat} (h : L ≤ x) : cntF L V (x + 2 ^ f) = cntF L V x + (if x ≤ V ∧ V < x + 2 ^ f then 1 else 0) := (count_next h).symm
theorem gre_some {B L I : Nat} (h : L ≤ I) : 0 < (gre B L (I + 1)).length := by
  rw [gre_yes (by omega)]; simp
end Go.Proofs.YtlakglphjhoodaaDoor.Fl

namespace Go.Proofs.YtlakglphjhoodaaDoor.Fl
open Go.RowKit Mm Law
def WdAns (w : World) (l S : List Fld) (e : Ending) (w' : World) : Prop := e = .returned (.tuple #[.string (str (wdA l S).2), .int .i64 (wdA l S).1]) ∧ Below w.heap.size w w'
theorem wd_ans {w : World} {l S : List Fld} {s : ByteArray} {c : Int} {t : List UInt8} (h : wdA l S = (c, t)) (hs : s = str t) {w' : World} (hb : Below w.heap.size w w') : WdAns w l S (.returned (.tuple #[.string s, .int .i64 c])) w' := by
  unfold WdAns
  rw [h, hs]
  exact ⟨rfl, hb⟩
theorem str_split (W H : List UInt8) (p q : Nat) : (str W).extract 0 p ++ str H ++ (str W).extract q (str W).size = str (W.take p ++ H ++ W.drop q) := by
  have e1 : (str W).extract 0 p = str (W.take p) := by rw [str_takeF, str_list]
  have e2 : (str W).extract q (str W).size = str (W.drop q) := by
    apply ByteArray.ext
    rw [← Array.toList_inj]
    simp [str, ByteArray.data_extract, ByteArray.size]
    rw [List.take_of_length_le (by simp)]
  rw [e1, e2, str_app, str_app]
theorem cells_later {w : World} {l : List Fld} {a0 : Option Addr} (hx : l = [] ∨ ∃ b off, a0 = some ⟨b, off, none⟩ ∧ b < w.heap.size ∧ ∀ j f, l[j]? = some f → w.cell? ⟨b, off + j * 2, none⟩ = some (.string f.1) ∧ w.cell? ⟨b, off + (j * 2 + 1), none⟩ = some (.int .i64 f.2)) (h0 : 0 < l.length) :
    ∃ g off, a0 = some ⟨g, off, none⟩ ∧ g < w.heap.size ∧ ∀ w', Below w.heap.size w w' → ∀ j f, l[j]? = some f → w'.cell? ⟨g, off + j * 2, none⟩ = some (.string f.1) ∧ w'.cell? ⟨g, off + j * 2 + 1, none⟩ = some (.int .i64 f.2) := by
  rcases hx with rfl | ⟨g, off, ha, hg, hq⟩
  · simp at h0
  · refine ⟨g, off, ha, hg, fun w' hb j f hj => ?_⟩
    have h := hq j f hj
    rw [hb.cell (p := ⟨g, off + j * 2, none⟩) hg, Nat.add_assoc, hb.cell (p := ⟨g, off + (j * 2 + 1), none⟩) hg]
    exact h
end Go.Proofs.YtlakglphjhoodaaDoor.Fl

namespace Go.Proofs.YtlakglphjhoodaaDoor.Fl
open Go.RowKit Mm Law
abbrev WS (w : World) (gs gW : Nat) (z : Value) (W W' : List UInt8) (w' : World) : Prop := w'.cell? ⟨gs, 1, none⟩ = some z ∧ Below w.heap.size w w' ∧ (gs < w'.heap.size ∧ (BK w' gW W ∨ BK w' gW W'))
theorem WS.go {w w1 w2 : World} {gs gW : Nat} {z : Value} {W W' : List UInt8} (h : WS w gs gW z W W' w1) (hb : Below w1.heap.size w1 w2) : WS w gs gW z W W' w2 :=
  ⟨by rw [hb.cell (p := ⟨gs, 1, none⟩) h.2.2.1]; exact h.1, bnx h.2.1 hb, Nat.lt_of_lt_of_le h.2.2.1 hb.size, h.2.2.2.imp (fun k => k.below hb k.1) (fun k => k.below hb k.1)⟩
theorem put_twice (W Z : List UInt8) (p : Nat) (h : p + Z.length ≤ W.length) : (W.take p ++ Z ++ W.drop (p + Z.length)).take p ++ Z ++ (W.take p ++ Z ++ W.drop (p + Z.length)).drop (p + Z.length) = W.take p ++ Z ++ W.drop (p + Z.length) := by
  have h1 : (W.take p).length = p := by rw [List.length_take]; omega
  have h2 : (W.take p ++ Z ++ W.drop (p + Z.length)).take p = W.take p := by
    rw [List.append_assoc, List.take_append_of_le_length (by omega), List.take_of_length_le (by omega)]
  have h3 : (W.take p ++ Z ++ W.drop (p + Z.length)).drop (p + Z.length) = W.drop (p + Z.length) := by
    rw [List.drop_append_of_le_length (by rw [List.length_append]; omega), List.drop_eq_nil_of_le (by rw [List.length_append]; omega), List.nil_append]
  rw [h2, h3]
theorem WS.copy {w w1 : World} {gs gW : Nat} {z : Value} {W : List UInt8} {zs : ByteArray} {P : Nat} (h : WS w gs gW z W (W.take P ++ zs.data.toList ++ W.drop (P + zs.data.toList.length)) w1) (hz : P + zs.data.toList.length ≤ W.length) (hne : gs ≠ gW) (hgW : w.heap.size ≤ gW) :
    WS w gs gW z W (W.take P ++ zs.data.toList ++ W.drop (P + zs.data.toList.length)) (w1.setCells gW P (zs.data.toList.map fun x => Value.int .u8 (x.toNat : Int))) ∧ BK (w1.setCells gW P (zs.data.toList.map fun x => Value.int .u8 (x.toNat : Int))) gW (W.take P ++ zs.data.toList ++ W.drop (P + zs.data.toList.length)) := by
  have hb : BK (w1.setCells gW P (zs.data.toList.map bv)) gW (W.take P ++ zs.data.toList ++ W.drop (P + zs.data.toList.length)) := by
    rcases h.2.2.2 with k | k
    · exact k.put hz
    · have k2 := k.put (o := P) (Z := zs.data.toList) (by rw [List.length_append, List.length_append, List.length_take, List.length_drop]; omega)
      rw [put_twice W _ P hz] at k2
      exact k2
  exact ⟨⟨by rw [World.cell?_setCells_out _ _ _ _ _ (fun e => absurd e hne)]; exact h.1, BK.set_below h.2.1 hgW, by rw [setCells_size]; exact h.2.2.1, .inr hb⟩, hb⟩
theorem size_byte : ∀ w, (Go.sizeOf 5).run Tryd.prog w = .ok 1 w := fun w => by
  first | exact Tryd.run_sizeOf5 w | simp [go_sem, Tryd.sizeOf5]
theorem width_take (l : List Fld) (a : Option Addr) (cap k : Nat) (w : World) (hv : SeesF w (.slice a l.length cap) l) (h12 : l.length ≤ 12) (hbd : ∀ j, (hj : j < l.length) → 1 ≤ l[j].2 ∧ l[j].2 ≤ 32) (hk : k ≤ l.length) :
    Calls Tryd.prog 31 #[.slice a k cap] w fun e w' => e = .returned (.int .i64 (sumTo l k)) ∧ Below w.heap.size w w' := by
  have h := width_any (l.take k) _ w (hv.take k hk) (by simp; omega) (fun j hj => by
    rw [List.length_take] at hj
    rw [List.getElem_take]
    exact hbd j (by omega))
  have e : sumTo (l.take k) (l.take k).length = sumTo l k := by
    unfold sumTo
    rw [List.take_length]
  rw [e] at h
  exact h
set_option maxRecDepth 100000 in
set_option maxHeartbeats 8000000 in
theorem word_any (l S : List Fld) (v u : Value) (w : World) (hv : SeesF w v l) (hu : SeesF w u S) :
    Calls Tryd.prog 21 #[v, u] w (WdAns w l S) := by
  have HCK := Lib.hid (fun w' (h : Below w.heap.size w w') => check_any l v w' (hv.below h))
  have HV := Lib.hid hv
  obtain ⟨a0, cap0, rfl, hcap, hcm, hx, hw⟩ := hv
  obtain ⟨a1, cap1, rfl, hcap1, hcm1, hx1, hw1⟩ := hu
  have HX := Lib.hid hx
  have HX1 := Lib.hid hx1
  have HW1 := Lib.hid hw1
  unfold maxLen at hcm hcm1
  clear hx hw hx1 hw1
  by_cases h12 : 12 < S.length
  · have HA := Lib.hid (wd_long (l := l) h12)
    by_cases hl : 12 < l.length
    all_goals
      go_enter Tryd.func21, Tryd.ntmps21
      go_wp2_with fail
      refine bodyPost_ret (v := .tuple #[.string ⟨#[]⟩, .int .i64 2]) (by simp [results, Tryd.results21, go_sem]) rfl (wd_ans HA.out rfl (Below.refl _ _))
  have h12' : S.length ≤ 12 := by omega
  by_cases hl : 12 < l.length
  · have HA := Lib.hid (show wdA l S = (2, []) from by
      rcases chk_cases l with ⟨_, e⟩ | ⟨h, _⟩ | ⟨_, h, _⟩
      · rw [wd_chk h12 (by rw [e]; decide), e]
      · rw [h] at hl; simp at hl
      · omega)
    go_enter Tryd.func21, Tryd.ntmps21
    go_wp2_with fail
    refine bodyPost_ret (v := .tuple #[.string ⟨#[]⟩, .int .i64 2]) (by simp [results, Tryd.results21, go_sem]) rfl (wd_ans HA.out rfl (Below.refl _ _))
  have hl' : l.length ≤ 12 := by omega
  obtain ⟨c1, c2, hcc⟩ : ∃ c1 c2, chk l = (c1, c2) := ⟨_, _, rfl⟩
  rw [hcc] at HCK
  have h1 : (chk l).1 = c1 := by rw [hcc]
  clear hl hcc
  by_cases hc : c1 = 0
  · subst hc
    have HZ := Lib.hid (chk_zero h1)
    have HA := Lib.hid (wd_go h12 h1)
    obtain ⟨hl0, hl12, -⟩ := HZ.out
    have HRW := Lib.hid (fun w' (h : Below w.heap.size w w') => width_any l _ w' (HV.out.below h) hl12 HZ.out.2.2)
    have hsb := sum_bd HZ.out.2.2 l.length (Nat.le_refl _)
    have hwn : sumTo l l.length = (widN l : Int) := by unfold widN; omega
    have hwb : widN l ≤ 384 := by omega
    rw [hwn] at HRW
    have HXS := Lib.hid (fun w => rep_any (widN l) (by omega) w)
    have HRL := Lib.hid (show (List.replicate (widN l) (120 : UInt8)).length = widN l from by simp)
    clear h1 h12 hsb hwn
    generalize List.replicate (widN l) (120 : UInt8) = W0 at *
    generalize hN : widN l = N at *
    have HN := Lib.hid hN
    clear hN
    go_enter Tryd.func21, Tryd.ntmps21
    go_wp2_with (first | (go_at_call 27; refine (HCK.out _ (Below.refl _ _)).mono ?_; rintro e w1 ⟨rfl, hb1⟩) | (go_at_call 31; refine (HRW.out _ hb1).mono ?_; rintro e w3 ⟨rfl, hb3⟩) | (go_at_call 30; refine (HXS.out _).mono ?_; rintro e w2 ⟨rfl, hb2⟩))
    obtain ⟨capW, W2, hrun, hcW, hcmW, hbk, hbw⟩ := bytes_of w2 (str W0) (by rw [str_size, HRL.out]; omega)
    rw [str_size, HRL.out] at hrun hcW
    rw [str_list] at hbk
    unfold maxLen at hcmW
    have hb5 := bnx (bnx (bnx hb1 hb3) hb2) hbw
    have hgW : w.heap.size ≤ w2.heap.size := (bnx (bnx hb1 hb3) hb2).size
    have HBK := Lib.hid hbk
    have HB5 := Lib.hid hb5
    generalize w2.heap.size = gW at *
    rw [hrun]
    simp only [Result.andThen]
    rw [Oper.upon_value]
    clear hrun hb1 hb2 hb3 hbw HRW HXS HCK hbk hb5
    go_wp2_with fail
    go_loopw [37] (fun i wr => ∃ (k : Nat) (W : List UInt8), k ≤ S.length ∧ i = .int .i64 (k : Int) ∧ W.length = N ∧ BK wr gW W ∧ wdR l [] S W0 = wdR l (S.take k) (S.drop k) W ∧ Below w.heap.size w wr) (fun i _ => S.length - (intOf i).toNat)
    case atStart => exact ⟨0, W0, Nat.zero_le _, rfl, HRL.out, HBK.out, rfl, HB5.out⟩
    case round =>
      obtain ⟨k, W, hk, rfl, hWl, hbk, hwd, hbel⟩ := hrel
      have HWD := Lib.hid (HA.out.trans hwd)
      have HWL := Lib.hid hWl
      have HBW := Lib.hid hbk
      clear hwd hWl hbk
      by_cases hlt : k < S.length
      · obtain ⟨g1, off1, rfl, hg1, hq1⟩ := cells_later HX1.out (by omega)
        obtain ⟨g0, off0, rfl, hg0, hq0⟩ := cells_later HX.out hl0
        have HQ1 := Lib.hid hq1
        have HQ0 := Lib.hid hq0
        have hSk : S[k]? = some S[k] := by simp [hlt]
        have HWB := Lib.hid (wd_bad (l := l) (W := W) hlt)
        have HWO := Lib.hid (wd_ok (l := l) (W := W) hlt)
        have HTK := Lib.hid (show (∃ g ∈ S.take k, g.1 = S[k].1) ↔ ∃ (j : Nat) (hj : j < S.length), j < k ∧ S[j].1 = S[k].1 from by
          constructor
          · rintro ⟨g, hg, he⟩
            obtain ⟨j, hj, rfl⟩ := List.getElem_of_mem hg
            rw [List.length_take] at hj
            exact ⟨j, by omega, by omega, by rw [List.getElem_take] at he; exact he⟩
          · rintro ⟨j, hj, hjk, he⟩
            exact ⟨S[j], by rw [List.mem_take_iff_getElem]; exact ⟨j, by omega, rfl⟩, he⟩)
        have hsz := (HW1.out S[k] (List.getElem_mem hlt)).1
        clear hq0 hq1
        generalize S[k] = s at *
        have HSK := Lib.hid hSk
        clear hSk
        obtain ⟨q0, q1⟩ := HQ1.out _ hbel k s HSK.out
        have hpn : ∀ wx, Below w.heap.size w wx → Calls Tryd.prog 28 #[.slice (some ⟨g0, off0, none⟩) l.length cap0, .string s.1] wx fun e w' => e = .returned (.int .i64 (idxI l s.1)) ∧ Below wx.heap.size wx w' := fun wx h => find_at l _ s.1 wx (HV.out.below h)
        have HSH := Lib.hid (show s = (s.1, s.2) from rfl)
        go_upto_region 10 with fail
        generalize hW1 : World.alloc wr _ = W1
        have hBs : Blk W1 wr.heap.size 60 #[.string s.1, .int .i64 s.2] := by rw [← hW1]; exact Blk.new _ _ _
        have hbW1 : Below wr.heap.size wr W1 := by rw [← hW1]; go_grown
        have hcb0 := hBs.cell 0
        have hgW1 := bnx hbel hbW1
        have HGW1 := Lib.hid hgW1
        have HP0 := Lib.hid (hpn W1 hgW1)
        have hgs : w.heap.size ≤ wr.heap.size := hbel.size
        have hgn : gW ≠ wr.heap.size := fun h => by have := HBW.out.1; omega
        have HBW1 := Lib.hid (HBW.out.below hbW1 HBW.out.1)
        have HBs := Lib.hid hBs
        clear hW1 q0 q1 hpn
        generalize wr.heap.size = gs at *
        by_cases hix : idxF l s.1 < l.length
        · obtain ⟨e1, e2, e3, e4, e5, e6, e7⟩ := plc_fits HZ.out.2.2 hix
          have HEP := Lib.hid (And.intro e2 e7)
          have hli : l[idxF l s.1]? = some l[idxF l s.1] := by simp [hix]
          obtain ⟨_, f1⟩ := HQ0.out _ hbel _ _ hli
          have HE3 := Lib.hid e3
          have HLI := Lib.hid hli
          clear e1 e2 e7 hli f1 e3
          have HIX := Lib.hid hix
          have HB42 := Lib.hid (bad_42 (pre := S.take k) hix)
          have HB0 := Lib.hid (bad_0 (pre := S.take k) hix)
          have HB45 := Lib.hid (bad_45 (pre := S.take k) hix)
          have HST := Lib.hid (show stepW l W s = W.take (plcN l s) ++ hiB s.2.toNat (bitN l s) (bitN l s) ++ W.drop (plcN l s + bitN l s) from rfl)
          have HSL := Lib.hid (stepW_len (l := l) (W := W) (s := s) (by rw [HWL.out, ← HN.out]; exact e6))
          rw [HN.out] at e6
          have ix1 : (idxF l s.1 : Int) < (l.length : Int) := by omega
          generalize idxF l s.1 = ix at *
          generalize plcN l s = P at *
          generalize bitN l s = B at *
          have HF0 := Lib.hid (show Calls Tryd.prog 28 #[.slice (some ⟨g0, off0, none⟩) l.length cap0, .string s.1] W1 fun e w' => e = .returned (.int .i64 (ix : Int)) ∧ Below W1.heap.size W1 w' from by rw [← HEP.out.1]; exact HP0.out)
          go_wp2_with (go_at_call 28; refine HF0.out.mono ?_; rintro e w3 ⟨rfl, hb3⟩)
          have HG3 := Lib.hid (bnx HGW1.out hb3)
          have HBW3 := Lib.hid (HBW1.out.below hb3 HBW1.out.1)
          have HBs3 := Lib.hid (HBs.out.below hb3 HBs.out.lt)
          clear hb3 hcb0 hbW1 hgW1 hBs
          go_loopw [52] (fun j wr' => ∃ m : Nat, m ≤ k ∧ j = .int .i64 (m : Int) ∧ (∀ (i : Nat) (hi : i < S.length), i < m → ¬ S[i].1 = s.1) ∧ Below w3.heap.size w3 wr') (fun j _ => k - (intOf j).toNat)
          case atStart => exact ⟨0, Nat.zero_le _, rfl, fun i _ h => absurd h (by omega), Below.refl _ _⟩
          case round =>
            obtain ⟨m, hm, rfl, hnd, hbm3⟩ := hrel
            have HND := Lib.hid hnd
            clear hnd
            have hbm := bnx HG3.out hbm3
            by_cases hmk : m < k
            · have hSm : S[m]? = some S[m] := by simp [show m < S.length by omega]
              have HDU := Lib.hid (fun (h : S[m].1 = s.1) => HB45.out (HTK.out.2 ⟨m, by omega, hmk, h⟩))
              have HFN := Lib.hid (fun (h : ¬ S[m].1 = s.1) (i : Nat) (hi : i < S.length) (hh : i < m + 1) => show ¬ S[i].1 = s.1 from by rcases Nat.lt_succ_iff_lt_or_eq.1 hh with h1 | rfl; exact HND.out i hi h1; exact h)
              generalize S[m] = r at *
              obtain ⟨m0, m1⟩ := HQ1.out _ hbm m r hSm
              have hbs5 := HBs3.out.below hbm3 HBs3.out.lt
              have HBS5 := Lib.hid hbs5
              have y0 : (0 : Int) ≤ (m : Int) := by omega
              have y1 : (m : Int) < (k : Int) := by omega
              have HM := Lib.hid hbm
              have HM3 := Lib.hid hbm3
              clear hSm hbs5 hbm hbm3
              go_upto_region 16 with fail
              generalize hW4 : World.alloc wr _ = W4
              have hb4 : Blk W4 wr.heap.size 60 #[.string r.1, .int .i64 r.2] := by rw [← hW4]; exact Blk.new _ _ _
              have hbW4 : Below wr.heap.size wr W4 := by rw [← hW4]; go_grown
              have hgW4 := bnx HM.out hbW4
              have hgW3 := bnx HM3.out hbW4
              have hs4 := (HBS5.out.below hbW4 HBS5.out.lt).cell 0
              have hr4 := hb4.cell 0
              have HG4 := Lib.hid hgW4
              have HG43 := Lib.hid hgW3
              clear hW4 hb4 hbW4 hgW4 hgW3 m0 m1
              by_cases he : r.1 = s.1
              · have HD := Lib.hid (HDU.out he)
                have hee : (r.1.toList == s.1.toList) = true := by rw [he]; simp
                clear he
                generalize r.1 = rn at *
                go_wp2
                refine bodyPost_ret (v := .tuple #[.string ⟨#[]⟩, .int .i64 45]) (by simp [results, Tryd.results21, go_sem]) rfl (wd_ans (by rw [HWD.out, HWB.out (by rw [HD.out]; decide), HD.out]) rfl HG4.out)
              · have HF := Lib.hid (HFN.out he)
                have hee := str_ne he
                clear he
                generalize r.1 = rn at *
                go_wp2
                go_roundw
                case rel => exact ⟨m + 1, by omega, by go_num, HF.out, HG43.out⟩
                case measure => simp [intOf]; omega
            · have HNE := Lib.hid (show ¬ ∃ g ∈ S.take k, g.1 = s.1 from fun h => by obtain ⟨j, hj, hjk, he⟩ := HTK.out.1 h; exact HND.out j hj (by omega) he)
              have HBSm := Lib.hid (HBs3.out.below hbm3 HBs3.out.lt)
              have HBWm := Lib.hid (HBW3.out.below hbm3 HBW3.out.1)
              obtain ⟨_, f1⟩ := HQ0.out _ hbm _ _ HLI.out
              rw [← HE3.out] at f1
              have q1 := HBSm.out.cell 1
              have hmm : (k : Int) ≤ (m : Int) := by omega
              have HT := Lib.hid (fun w => top_any B (by omega) w)
              have HB42' := Lib.hid (HB42.out HNE.out)
              have HB0' := Lib.hid (HB0.out HNE.out)
              have HM := Lib.hid hbm
              generalize hz : s.2 = z at *
              clear hbm hbm3
              simp at q1
              by_cases hz0 : z < 0
              · have HD := Lib.hid (HB42'.out (.inl hz0))
                have hdz : decide (z < 0) = true := decide_eq_true hz0
                go_upto_region 20 with fail
                go_quiet ((go_at_call 25; exact Calls.quiet_of_same (swp (HT.out _))))
                go_wp2
                refine bodyPost_ret (v := .tuple #[.string ⟨#[]⟩, .int .i64 42]) (by simp [results, Tryd.results21, go_sem]) rfl (wd_ans (by rw [HWD.out, HWB.out (by rw [HD.out]; decide), HD.out]) rfl (below_drewN HM.out _))
              · have hz1 : 0 ≤ z := by omega
                have hdz : decide (z < 0) = false := decide_eq_false hz0
                by_cases hzt : (topN B : Int) < z
                · have HD := Lib.hid (HB42'.out (.inr hzt))
                  clear hz0
                  generalize topN B = T at *
                  go_upto_region 20 with fail
                  go_quiet ((go_at_call 25; exact Calls.quiet_of_same (swp (HT.out _))))
                  go_wp2
                  refine bodyPost_ret (v := .tuple #[.string ⟨#[]⟩, .int .i64 42]) (by simp [results, Tryd.results21, go_sem]) rfl (wd_ans (by rw [HWD.out, HWB.out (by rw [HD.out]; decide), HD.out]) rfl (below_drewN HM.out _))
                · have HD := Lib.hid (HB0'.out (fun h => by rcases h with h | h <;> omega))
                  obtain ⟨Z, rfl⟩ := Int.eq_ofNat_of_zero_le hz1
                  have hZt : Z ≤ topN B := by omega
                  have hZ32 : Z < 4294967296 := by have := top_lt B e5; omega
                  have hzt' : (Z : Int) ≤ (topN B : Int) := by omega
                  have hztn : ¬ topN B < Z := by omega
                  rw [Int.toNat_natCast] at HST
                  clear hz0 hzt
                  generalize topN B = T at *
                  go_upto_region 20 with fail
                  go_quiet ((go_at_call 25; exact Calls.quiet_of_same (swp (HT.out _))))
                  have HBN := Lib.hid (fun w => binary_any Z B B hZ32 e5 (Nat.le_refl _) w)
                  have HWT := Lib.hid (fun w' (h : Below w.heap.size w w') => show Calls Tryd.prog 31 #[.slice (some ⟨g0, off0, none⟩) ix cap0] w' (fun e w'' => e = .returned (.int .i64 (P : Int)) ∧ Below w'.heap.size w' w'') from by rw [← HEP.out.2]; exact width_take l _ cap0 ix w' (HV.out.below h) hl12 HZ.out.2.2 (by omega))
                  have hzl : (str (hiB Z B B)).size = B := by rw [str_size, hiB_len]
                  have hzd : (str (hiB Z B B)).data.toList = hiB Z B B := str_list _
                  rw [← hzd] at HST
                  go_upto_region 22 with fail
                  generalize str (hiB Z B B) = zs at *
                  have hzll : zs.data.toList.length = B := by rw [len_s]; exact hzl
                  have HFIT := Lib.hid (show P + zs.data.toList.length ≤ W.length from by rw [hzll, HWL.out]; exact e6)
                  have HSTW := Lib.hid (show stepW l W s = W.take P ++ zs.data.toList ++ W.drop (P + zs.data.toList.length) from by rw [HST.out, hzll])
                  have hK0 : WS w gs gW (.int .i64 (Z : Int)) W (W.take P ++ zs.data.toList ++ W.drop (P + zs.data.toList.length)) (wr.drewN nq).drew := ⟨q1, (below_drewN HM.out nq).drew, HBSm.out.lt, .inl ⟨HBWm.out.1, HBWm.out.2.1, HBWm.out.2.2⟩⟩
                  have HFD := Lib.hid (str_list (hiB Z B B))
                  generalize hwn : W.take P ++ zs.data.toList ++ W.drop (P + zs.data.toList.length) = WN at *
                  have HWN := Lib.hid hwn
                  have HZS := Lib.hid hzl
                  have HCP := Lib.hid (fun w1 (h : WS w gs gW (.int .i64 (Z : Int)) W WN w1) => show WS w gs gW (.int .i64 (Z : Int)) W WN (w1.setCells gW P (zs.data.toList.map fun x => Value.int .u8 (x.toNat : Int))) ∧ BK (w1.setCells gW P (zs.data.toList.map fun x => Value.int .u8 (x.toNat : Int))) gW WN from by
                    rw [← HWN.out] at h ⊢
                    exact h.copy HFIT.out (fun e => hgn e.symm) hgW)
                  have HCC := Lib.hid (fun w1 (h : WS w gs gW (.int .i64 (Z : Int)) W WN w1) (j : Nat) (hj : j < zs.size) => show (w1.cell? ⟨gW, P + j, none⟩).isSome = true ∧ w1.frozen? ⟨gW, P + j, none⟩ = false from by
                    have hf := HFIT.out
                    have hlz : zs.data.toList.length = zs.size := len_s zs
                    have hwl2 : WN.length = W.length := by rw [← HWN.out]; simp only [List.length_append, List.length_take, List.length_drop]; omega
                    rcases h.2.2.2 with k | k
                    · exact ⟨k.some (by omega), k.2.2 _ (by omega)⟩
                    · exact ⟨k.some (by omega), k.2.2 _ (by omega)⟩)
                  have n1 : P ≤ N := by omega
                  have n2 : (P : Int) ≤ (N : Int) := by omega
                  have n3 : ¬ capW = P := by omega
                  have n4 : P ≤ capW := by omega
                  have n5 : (P : Int) ≤ (capW : Int) := by omega
                  have n6 : (0 : Int) ≤ (P : Int) := by omega
                  have n7 : (ix : Int) ≤ (cap0 : Int) := by omega
                  have n8 : (0 : Int) ≤ (ix : Int) := by omega
                  have n9 : ix ≤ cap0 := by omega
                  clear hwn hzll hzd hzl f1 q1
                  go_region_held3 (fun w' => WS w gs gW (.int .i64 (Z : Int)) W WN w')
                    (with_reducible (first | assumption | exact hK0 | exact hK2 | exact hK3.1))
                    (first | (go_at_call 31; refine (HWT.out _ (And.left (And.right (by assumption : WS _ _ _ _ _ _ _)))).mono ?_; rintro e w9 ⟨rfl, hb9⟩; have hK2 := WS.go (by assumption : WS _ _ _ _ _ _ _) hb9) | (go_at_call 36; refine (HBN.out _).mono ?_; rintro e w9 ⟨rfl, hb9⟩; have hK2 := WS.go (by assumption : WS _ _ _ _ _ _ _) hb9) | (refine step_copy_string rfl (.tmp 82) (.tmp 87) 77 9 rfl 5 Tryd.underlying77 size_byte gW P _ _ rfl zs rfl (by rw [HZS.out]; omega) (fun j hj => (HCC.out _ (by assumption) j hj).1) (fun j hj => (HCC.out _ (by assumption) j hj).2) ?_; have hK3 := HCP.out _ (by assumption)))
                  all_goals
                    have HKB := Lib.hid hK3
                    clear hK3
                    go_wp2
                    go_roundw
                    case rel => exact ⟨k + 1, stepW l W s, by omega, by go_num, by rw [HSL.out]; exact HWL.out, by rw [HSTW.out]; exact HKB.out.2, by rw [← HWO.out HD.out, ← HWD.out]; exact HA.out.symm, HKB.out.1.2.1⟩
                    case measure => simp [intOf]; omega
        · have HB := Lib.hid (HWB.out (by rw [bad_41 hix]; decide))
          have HB2 := Lib.hid (bad_41 (pre := S.take k) hix)
          have hp := HP0.out
          unfold idxI at hp
          rw [if_neg hix] at hp
          have HP := Lib.hid hp
          clear hp hix
          go_wp2_with (go_at_call 28; refine HP.out.mono ?_; rintro e w3 ⟨rfl, hb3⟩)
          refine bodyPost_ret (v := .tuple #[.string ⟨#[]⟩, .int .i64 41]) (by simp [results, Tryd.results21, go_sem]) rfl (wd_ans (by rw [HWD.out, HB.out, HB2.out]) rfl (bnx HGW1.out hb3))
      · have HO := Lib.hid (wd_end l S W (k := k) (by omega))
        have hst := bk_str (cap := capW) HBW.out HWL.out
        go_wp2_with fail
        refine bodyPost_ret (v := .tuple #[.string (str W), .int .i64 0]) (by simp [results, Tryd.results21, go_sem]) rfl (wd_ans (HWD.out.trans HO.out) rfl hbel)
  · have hne : (c1 != 0) = true := by simpa using hc
    have HA := Lib.hid (show wdA l S = (c1, []) from by rw [wd_chk h12 (by rw [h1]; exact hc), h1])
    clear hc h1 h12
    go_enter Tryd.func21, Tryd.ntmps21
    go_wp2_with fail
    refine (HCK.out _ (Below.refl _ _)).mono ?_
    rintro e w1 ⟨rfl, hb1⟩
    go_wp2_with fail
    refine bodyPost_ret (v := .tuple #[.string ⟨#[]⟩, .int .i64 c1]) (by simp [results, Tryd.results21, go_sem]) rfl (wd_ans HA.out rfl hb1)
end Go.Proofs.YtlakglphjhoodaaDoor.Fl
