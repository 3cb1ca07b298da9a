/- LedgerLists: the walk. -/
import Derived.Test.YtndclkphglpknaaDoorLs
import Derived.Deep.RegionHeld3
import Derived.Test.YtndclkphglpknaaDoorRows
import Derived.MakeChecks
import Derived.Stop.LaidErr
import Derived.Lib.LaidTab
namespace Go.Proofs.YtndclkphglpknaaDoor.Lg
open Go.RowKit Mm Law
set_option linter.unusedVariables false
theorem tab_keep {w w' : World} (h : Tab w) (hb : Below w.heap.size w w') : Tab w' := tab_below h hb
def stW (j m : Nat) : List Value := List.replicate m (.string (chA j))
def stB (j m : Nat) : List Value := List.replicate m (.string (chB j))
theorem stW_succ (j m : Nat) : stW j (m + 1) = stW j m ++ [.string (chA j)] := List.replicate_succ'
theorem stB_succ (j m : Nat) : stB j (m + 1) = stB j m ++ [.string (chB j)] := List.replicate_succ'
theorem set_same {rows : List Rw} {q : Nat} {r : Rw} (h : rows[q]? = some r) : rows.set q r = rows := by
  apply List.ext_getElem?
  intro j
  by_cases hj : j = q
  · subst hj
    rw [List.getElem?_set_self (List.getElem?_eq_some_iff.1 h).1, h]
  · rw [List.getElem?_set_ne (Ne.symm hj)]
/-- the rows that are gone on from, up to one of them; those behind it are as they were -/
def Md (rows gs : List Rw) (q N : Nat) (f : Nat → List Value) : Prop := gs.length = rows.length ∧ ∀ (j : Nat) (r : Rw), gs[j]? = some r → (j < q ∧ r.n = N ∧ r.xs = f j) ∨ (q ≤ j ∧ rows[j]? = some r)
theorem Md.start (rows : List Rw) (N : Nat) (f : Nat → List Value) : Md rows rows 0 N f := ⟨rfl, fun j r hr => .inr ⟨Nat.zero_le _, hr⟩⟩
theorem Md.at {rows gs : List Rw} {q N : Nat} {f : Nat → List Value} (h : Md rows gs q N f) {r : Rw} (hr : rows[q]? = some r) : gs[q]? = some r := by
  have hq := (List.getElem?_eq_some_iff.1 hr).1
  have hql : q < gs.length := by rw [h.1]; exact hq
  have h1 : gs[q]? = some gs[q] := List.getElem?_eq_getElem hql
  rcases h.2 q _ h1 with ⟨h2, _⟩ | ⟨_, h2⟩
  · omega
  · rw [h1, ← h2, hr]
theorem Md.step {rows gs : List Rw} {q N : Nat} {f : Nat → List Value} (h : Md rows gs q N f) {u : Value} {n : Nat} {xs : List Value} (hn : n = N) (hx : xs = f q) : Md rows (gs.set q ⟨u, n, xs⟩) (q + 1) N f := by
  refine ⟨by rw [List.length_set]; exact h.1, fun j r hr => ?_⟩
  by_cases hj : j = q
  · subst hj
    have hl : j < gs.length := by have := (List.getElem?_eq_some_iff.1 hr).1; simpa using this
    rw [List.getElem?_set_self hl] at hr
    cases hr
    exact .inl ⟨by omega, hn, hx⟩
  · rw [List.getElem?_set_ne (Ne.symm hj)] at hr
    rcases h.2 j r hr with ⟨h1, h2⟩ | ⟨h1, h2⟩
    · exact .inl ⟨by omega, h2⟩
    · exact .inr ⟨by omega, h2⟩
theorem Md.full {rows gs : List Rw} {q N : Nat} {f : Nat → List Value} (h : Md rows gs q N f) {j : Nat} (hj : j < q) (hl : j < gs.length) : ∃ u, gs[j]? = some ⟨u, N, f j⟩ := by
  have h1 : gs[j]? = some gs[j] := List.getElem?_eq_getElem hl
  rcases h.2 j _ h1 with ⟨_, h2, h3⟩ | ⟨h2, _⟩
  · exact ⟨gs[j].v, by rw [h1, ← h2, ← h3]⟩
  · omega
theorem whl_small (d : List UInt8) : (whl d).length ≤ d.length := whl_len d
theorem upL_small (t : List UInt8) : (upL t).length ≤ 16384 := by
  by_cases hl : t.length ≤ 16384
  · by_cases h : ∃ l, pkL l = t
    · obtain ⟨l, rfl⟩ := h
      rw [(up_ok (l := l) hl).2]
      have := pkL_ge l
      omega
    · unfold upL
      rw [dif_neg h]
      simp
  · rw [(up_long (by omega)).2]
    simp
set_option maxRecDepth 100000 in
set_option maxHeartbeats 64000000 in
theorem lists_walk (v : Value) (d : List UInt8) (t : ByteArray) (_ : t.size ≤ maxLen) (w : World) (hS : Sees w v (bytesV d)) (ht : Tab w) :
    Calls Tryd.prog 3 #[v, .string t] w fun e w' => e = .returned (.bool true) ∧ Below w.heap.size w w' := by
  have HF := Lib.hid fixed_yes
  have HS := Lib.hid hS
  have HT := Lib.hid ht
  obtain ⟨a0, cap0, rfl, hN, hcap, hcm, hx⟩ := hS
  have hbl := bytesV_len d
  rw [hbl] at HS hcap ⊢
  unfold maxLen at hcm
  clear hx hN hbl ht
  by_cases hl : 200000 < d.length
  · have hli : (200000 : Int) < (d.length : Int) := by omega
    go_enter Tryd.func3, Tryd.ntmps3
    go_wp2_with fail
    refine (HF.out _).mono ?_
    rintro e w1 ⟨rfl, hb1⟩
    go_wp2
    go_ret
    exact ⟨rfl, hb1⟩
  · have hli : ¬ (200000 : Int) < (d.length : Int) := by omega
    have hl2 : d.length ≤ 1000000 := by omega
    have HRW := Lib.hid (fun w' (h : Below w.heap.size w w') => rwhole_any d hl2 (.slice a0 d.length cap0) w' (HS.out.below h))
    have HWH := Lib.hid (fun w' (h : Below w.heap.size w w') => whole_any d hl2 (.slice a0 d.length cap0) w' (HS.out.below h))
    have HRU := Lib.hid (fun w' (h : Below w.heap.size w w') => runpack_any t w' (tab_below HT.out h))
    have HUP := Lib.hid (fun w' => unpack_any t w')
    unfold UpAns at HRU HUP
    have hNs : (whl d).length ≤ 200000 := by have := whl_small d; omega
    have hMs := upL_small t.data.toList
    obtain ⟨ks, hks⟩ : ∃ ks, (whl d).map keyA = ks := ⟨_, rfl⟩
    have hkl : (whl d).length = ks.length := by rw [← hks, List.length_map]
    have hrk : rasC (whl d) = ksC ks := by rw [rasC_key, hks]
    rw [hks, hkl] at HRW
    rw [hrk, hkl] at HWH
    rw [hkl] at hNs
    generalize upE t.data.toList = E at *
    generalize upL t.data.toList = L at *
    generalize whE d = WE at *
    generalize codeOf d WE = WC at *
    clear hks hkl hrk hl hl2
    go_enter Tryd.func3, Tryd.ntmps3
    go_wp2_with fail
    refine (HF.out _).mono ?_
    rintro e w1 ⟨rfl, hb1⟩
    go_wp2_with fail
    refine (HRW.out _ hb1).mono ?_
    rintro e w2 ⟨vw, rfl, hwant, hb2⟩
    obtain ⟨pw, cw, rfl⟩ := own_len hwant
    have HB2 := Lib.hid (bnx hb1 hb2)
    have HFW := Lib.hid (Fz.of_own hwant)
    clear hwant hb1 hb2
    go_wp2_with fail
    refine (HRU.out _ HB2.out).mono ?_
    rintro e w3 ⟨vl, rfl, hlines, hb3⟩
    obtain ⟨pl, cl, rfl⟩ := own_len hlines
    have HB3 := Lib.hid (bnx HB2.out hb3)
    have HFW3 := Lib.hid (HFW.out.below hb3)
    have HFL3 := Lib.hid (Fz.of_own hlines)
    clear hlines hb3 HFW HB2 HRW HRU
    go_wp2_with fail
    go_loopw [11, 12, 13] (fun a b i wr => ∃ (k : Nat) (rows txs : List Rw), k ≤ 12 ∧ i = .int .i64 (k : Int) ∧ rows.length = k ∧ txs.length = k ∧ Cn rows ks.length (fun _ => ksC ks) ∧ Cn txs L.length (fun _ => sC L) ∧ Ls1 w3 rows txs a b wr) (fun _ _ i _ => 12 - (intOf i).toNat)
    case atStart => exact ⟨0, [], [], by omega, rfl, rfl, rfl, Cn.nil _ _, Cn.nil _ _, Ls1.new w3⟩
    case round =>
      obtain ⟨k, rows, txs, hk, rfl, hR, hT, hc1, hc2, hst⟩ := hrel
      have HST := Lib.hid hst
      have HR := Lib.hid hR
      have HTX := Lib.hid hT
      have HC1 := Lib.hid hc1
      have HC2 := Lib.hid hc2
      obtain ⟨pa, ca, rfl⟩ := own_len hst.oa
      obtain ⟨pb, cb, rfl⟩ := own_len hst.ob
      rw [hR] at HST ⊢
      rw [hT] at HST ⊢
      clear hst hR hT hc1 hc2
      by_cases hlt : k < 12
      · as_aux_lemma =>
        have hl12 : (k : Int) < 12 := by omega
        go_wp2_with fail
        refine (HWH.out _ (bnx HB3.out HST.out.bel)).mono ?_
        rintro e x1 ⟨u1, rfl, ho1, hb1⟩
        obtain ⟨p1, c1, rfl⟩ := own_len ho1
        have HO1 := Lib.hid ho1
        have HX1 := Lib.hid hb1
        clear ho1 hb1
        go_wp2_with fail
        refine (HUP.out _).mono ?_
        rintro e x2 ⟨u2, rfl, ho2, hb2⟩
        obtain ⟨p2, c2, rfl⟩ := own_len ho2
        have HS2 := Lib.hid (HST.out.two (q := ⟨.slice p1 ks.length c1, ks.length, ksC ks⟩) (p := ⟨.slice p2 L.length c2, L.length, sC L⟩) HX1.out HO1.out hb2 ho2)
        clear ho2 hb2
        go_wp2_with (at_builtin; refine app_lr _ rfl HS2.out.st.oa rfl rfl rfl rfl (by have := HR.out; omega) HS2.out.st.bel.size ?_; intro a' y1 hoa hka; refine Hid.out ?_)
        refine Lib.hid ?_
        obtain ⟨pa', ca', rfl⟩ := own_len hoa
        have HS3 := Lib.hid ((HS2.out.below (bal (Below.refl _ _) _)).addA hoa hka)
        clear hoa hka
        go_wp2_with (at_builtin; refine app_lt _ rfl HS3.out.st.ob rfl rfl rfl rfl (by have := HTX.out; omega) HS3.out.st.bel.size ?_; intro b' y2 hob hkb; refine Hid.out ?_)
        refine Lib.hid ?_
        have HS4 := Lib.hid ((HS3.out.below (bal (Below.refl _ _) _)).addB hob hkb)
        obtain ⟨pb', cb', rfl⟩ := own_len hob
        clear hob hkb
        go_wp2_with fail
        go_roundw
        case rel => exact ⟨k + 1, _, _, by omega, by go_num, by rw [List.length_append, HR.out]; rfl, by rw [List.length_append, HTX.out]; rfl, HC1.out.snoc rfl, HC2.out.snoc rfl, HS4.out⟩
        case measure => simp [intOf]; omega
      · as_aux_lemma =>
        have hnk : ¬ (k : Int) < 12 := by omega
        have HK := Lib.hid (show k = 12 by omega)
        clear hlt
        obtain ⟨W1, hW1⟩ : ∃ W, W = wr := ⟨wr, rfl⟩
        subst hW1
        go_wp2_with fail
        go_loopw [19] (fun i wx => ∃ q : Nat, q ≤ k ∧ i = .int .i64 (q : Int) ∧ Below W1.heap.size W1 wx) (fun i _ => k - (intOf i).toNat)
        case atStart => exact ⟨0, Nat.zero_le _, rfl, Below.refl _ _⟩
        case round =>
          obtain ⟨q, hq, rfl, hbel⟩ := hrel
          have HB := Lib.hid hbel
          clear hbel
          by_cases hlt2 : q < k
          · as_aux_lemma =>
            have hq12 : (q : Int) < (k : Int) := by omega
            have hq0 : (0 : Int) ≤ (q : Int) := by omega
            obtain ⟨va, hva⟩ := HC1.out.at (i := q) (by have := HR.out; omega)
            obtain ⟨vb, hvb⟩ := HC2.out.at (i := q) (by have := HTX.out; omega)
            have HX := Lib.hid (HST.out.below HB.out)
            have hoa := HX.out.oa
            rw [HR.out] at hoa
            obtain ⟨ga, _, ea, _, _, hga, qa⟩ := own_at hoa (by omega)
            cases ea
            have xa := qa q va (by rw [List.getElem?_map, hva]; rfl)
            obtain ⟨pva, cva, rfl⟩ : ∃ p c, va = .slice p ks.length c := own_len (HX.out.fr.1 q _ hva)
            obtain ⟨pvb, cvb, rfl⟩ : ∃ p c, vb = .slice p L.length c := own_len (HX.out.ft.1 q _ hvb)
            have HY1 := Lib.hid (records_yes ks _ _ wr (SeesS.of_own (HX.out.fr.1 q _ hva)) (HFW3.out.below HX.out.bel).sees)
            clear qa hoa
            go_wp2_with fail
            refine (HY1.out).mono ?_
            rintro e y1 ⟨rfl, hb1⟩
            have HX1 := Lib.hid (HX.out.below hb1)
            have HB1 := Lib.hid (bnx HB.out hb1)
            have hob := HX1.out.ob
            rw [HTX.out] at hob
            obtain ⟨gb, _, eb, _, _, hgb, qb⟩ := own_at hob (by omega)
            cases eb
            have xb := qb q _ (by rw [List.getElem?_map, hvb]; rfl)
            have HY2 := Lib.hid (lists_yes L _ _ y1 (SeesS.of_own (HX1.out.ft.1 q _ hvb)) (HFL3.out.below HX1.out.bel).sees)
            clear qb hob hb1 hva hvb
            go_wp2_with fail
            refine (HY2.out).mono ?_
            rintro e y2 ⟨rfl, hb2⟩
            have HB2 := Lib.hid (bnx HB1.out hb2)
            clear hb2 xa xb
            go_wp2_with fail
            go_roundw
            case rel => exact ⟨q + 1, by omega, by go_num, HB2.out⟩
            case measure => simp [intOf]; omega
          · as_aux_lemma =>
            have hnq : ¬ (q : Int) < (k : Int) := by omega
            clear hlt2 hq
            have HS0 := Lib.hid (HST.out.below HB.out)
            clear HST HB
            obtain ⟨W2, hW2⟩ : ∃ W, W = wr := ⟨wr, rfl⟩
            subst hW2
            go_wp2_with fail
            clear hnq hnk
            go_loopw [20] (fun i wx => ∃ (q : Nat) (rs ts : List Rw), q ≤ k ∧ i = .int .i64 (q : Int) ∧ rs.length = k ∧ ts.length = k ∧ Cn rs ks.length (fun j => if j < q then recW j ks.length else ksC ks) ∧ Cn ts L.length (fun j => if j < q then stW j L.length else sC L) ∧ Ls1 w3 rs ts (.slice pa k ca) (.slice pb k cb) wx) (fun i _ => k - (intOf i).toNat)
            case atStart => exact ⟨0, rows, txs, Nat.zero_le _, rfl, HR.out, HTX.out, HC1.out.of (fun j _ => by simp), HC2.out.of (fun j _ => by simp), HS0.out⟩
            case round =>
              clear HS0 HC1 HC2 HR HTX
              obtain ⟨q, rows, txs, hq, rfl, hR, hT, hc1, hc2, hst⟩ := hrel
              have HST := Lib.hid hst
              have HR := Lib.hid hR
              have HTX := Lib.hid hT
              have HC1 := Lib.hid hc1
              have HC2 := Lib.hid hc2
              clear hst hR hT hc1 hc2
              by_cases hlt2 : q < k
              · as_aux_lemma =>
                have hq12 : (q : Int) < (k : Int) := by omega
                have hq0 : (0 : Int) ≤ (q : Int) := by omega
                obtain ⟨va, hva⟩ := HC1.out.at (i := q) (by have := HR.out; omega)
                obtain ⟨vb, hvb⟩ := HC2.out.at (i := q) (by have := HTX.out; omega)
                simp only [Nat.lt_irrefl, if_false] at hva hvb
                obtain ⟨pva, cva, rfl⟩ : ∃ p c, va = .slice p ks.length c := own_len (HST.out.fr.1 q _ hva)
                obtain ⟨pvb, cvb, rfl⟩ : ∃ p c, vb = .slice p L.length c := own_len (HST.out.ft.1 q _ hvb)
                have HVA := Lib.hid hva
                have HVB := Lib.hid hvb
                clear hva hvb
                obtain ⟨W3, hW3⟩ : ∃ W, W = wr := ⟨wr, rfl⟩
                subst hW3
                go_wp2_with fail
                go_loopw [21] (fun i wx => ∃ (m : Nat) (xs : List Value), m ≤ ks.length ∧ i = .int .i64 (m : Int) ∧ xs.take (m * 3) = recW q m ∧ Ls1 w3 (rows.set q ⟨.slice pva ks.length cva, ks.length, xs⟩) txs (.slice pa k ca) (.slice pb k cb) wx) (fun i _ => ks.length - (intOf i).toNat)
                case atStart => exact ⟨0, ksC ks, Nat.zero_le _, rfl, by simp [recW], by rw [set_same HVA.out]; exact HST.out⟩
                case round =>
                  obtain ⟨m, xs, hm, rfl, htk, hst⟩ := hrel
                  have HX := Lib.hid hst
                  have HTK := Lib.hid htk
                  clear hst htk
                  have hoa := HX.out.oa
                  rw [List.length_set, HR.out] at hoa
                  have hql : q < rows.length := by have := HR.out; omega
                  obtain ⟨ga, _, ea, _, _, hga, qa⟩ := own_at hoa (by omega)
                  cases ea
                  have xa := qa q (.slice pva ks.length cva) (by rw [List.getElem?_map, List.getElem?_set_self hql]; rfl)
                  have HQL := Lib.hid hql
                  clear qa hoa hql
                  by_cases hlt3 : m < ks.length
                  · as_aux_lemma =>
                    have hm12 : (m : Int) < (ks.length : Int) := by omega
                    have hm0 : (0 : Int) ≤ (m : Int) := by omega
                    have hor := HX.out.fr.1 q _ (List.getElem?_set_self HQL.out)
                    simp only at hor
                    obtain ⟨gr, _, er, _, _, hgr, hx⟩ := own_at hor (by omega)
                    cases er
                    have hxl : xs.length = ks.length * 3 := hor.1
                    have hfz := hor.frozenAt
                    have ex : ∀ i, i < ks.length * 3 → ∃ y, wr.cell? ⟨gr, i, none⟩ = some y := fun i hi => ⟨_, hx i _ (List.getElem?_eq_getElem (by omega))⟩
                    obtain ⟨y0, q0⟩ := ex (m * 3) (by omega)
                    obtain ⟨y1, q1⟩ := ex (m * 3 + 1) (by omega)
                    obtain ⟨y2, q2⟩ := ex (m * 3 + 2) (by omega)
                    have HXL := Lib.hid hxl
                    clear hor hx ex hxl
                    go_wp2_with fail
                    go_roundw
                    case rel => exact ⟨m + 1, _, by omega, by go_num, by rw [take3 HXL.out hlt3 HTK.out, recW_succ], HX.out.put3 HQL.out m _ _ _⟩
                    case measure => simp [intOf]; omega
                  · as_aux_lemma =>
                    have hnm : ¬ (m : Int) < (ks.length : Int) := by omega
                    have HMN := Lib.hid (show m = ks.length by omega)
                    have HX2 : Hid (Ls1 w3 (rows.set q ⟨.slice pva ks.length cva, ks.length, recW q ks.length⟩) txs (.slice (some ⟨ga, 0, none⟩) k ca) (.slice pb k cb) wr) := Lib.hid (by
                      have h1 := HTK.out
                      have h2 := HX.out
                      have h3 := (h2.fr.1 q _ (List.getElem?_set_self HQL.out)).1
                      simp only at h3
                      rw [HMN.out, List.take_of_length_le (Nat.le_of_eq h3)] at h1
                      rw [h1] at h2
                      exact h2)
                    clear HX HTK hlt3 HST
                    obtain ⟨W4, hW4⟩ : ∃ W, W = wr := ⟨wr, rfl⟩
                    subst hW4
                    go_wp2_with fail
                    go_loopw [22] (fun i wx => ∃ (p : Nat) (ys : List Value), p ≤ L.length ∧ i = .int .i64 (p : Int) ∧ ys.take p = stW q p ∧ Ls1 w3 (rows.set q ⟨.slice pva ks.length cva, ks.length, recW q ks.length⟩) (txs.set q ⟨.slice pvb L.length cvb, L.length, ys⟩) (.slice (some ⟨ga, 0, none⟩) k ca) (.slice pb k cb) wx) (fun i _ => L.length - (intOf i).toNat)
                    case atStart => exact ⟨0, sC L, Nat.zero_le _, rfl, by simp [stW], by rw [set_same HVB.out]; exact HX2.out⟩
                    case round =>
                      obtain ⟨p, ys, hp, rfl, htk, hst⟩ := hrel
                      have HX := Lib.hid hst
                      have HTK := Lib.hid htk
                      clear hst htk xa
                      have hob := HX.out.ob
                      rw [List.length_set, HTX.out] at hob
                      have hql : q < txs.length := by have := HTX.out; omega
                      obtain ⟨gb, _, eb, _, _, hgb, qb⟩ := own_at hob (by omega)
                      cases eb
                      have xb := qb q (.slice pvb L.length cvb) (by rw [List.getElem?_map, List.getElem?_set_self hql]; rfl)
                      have HQT := Lib.hid hql
                      clear qb hob hql
                      by_cases hlt3 : p < L.length
                      · as_aux_lemma =>
                        have hm12 : (p : Int) < (L.length : Int) := by omega
                        have hm0 : (0 : Int) ≤ (p : Int) := by omega
                        have hor := HX.out.ft.1 q _ (List.getElem?_set_self HQT.out)
                        simp only at hor
                        obtain ⟨gr, _, er, _, _, hgr, hx⟩ := own_at hor (by omega)
                        cases er
                        have hxl : ys.length = L.length := by have := hor.1; omega
                        have hfz := hor.frozenAt
                        obtain ⟨y0, q0⟩ : ∃ y, wr.cell? ⟨gr, p, none⟩ = some y := ⟨_, hx p _ (List.getElem?_eq_getElem (by omega))⟩
                        have HXL := Lib.hid hxl
                        have hcv := conv_a q
                        have hen : Utf8.encode (97 + (q : Int)) = chA q := rfl
                        clear hor hx hxl
                        go_wp2_with fail
                        go_roundw
                        case rel => exact ⟨p + 1, _, by omega, by go_num, by rw [take1 (by have := HXL.out; omega) HTK.out, stW_succ], HX.out.put1 HQT.out p _⟩
                        case measure => simp [intOf]; omega
                      · as_aux_lemma =>
                        have hnp : ¬ (p : Int) < (L.length : Int) := by omega
                        have HX3 : Hid (Ls1 w3 (rows.set q ⟨.slice pva ks.length cva, ks.length, recW q ks.length⟩) (txs.set q ⟨.slice pvb L.length cvb, L.length, stW q L.length⟩) (.slice (some ⟨ga, 0, none⟩) k ca) (.slice (some ⟨gb, 0, none⟩) k cb) wr) := Lib.hid (by
                          have h1 := HTK.out
                          have h2 := HX.out
                          have h3 := (h2.ft.1 q _ (List.getElem?_set_self HQT.out)).1
                          simp only at h3
                          rw [show p = L.length by omega, List.take_of_length_le (by omega)] at h1
                          rw [h1] at h2
                          exact h2)
                        have HN1 : Hid (Cn (rows.set q ⟨.slice pva ks.length cva, ks.length, recW q ks.length⟩) ks.length (fun j => if j < q + 1 then recW j ks.length else ksC ks)) := Lib.hid (HC1.out.set (by simp) (fun j hj => by
                          have : (j < q + 1) = (j < q) := by apply propext; omega
                          simp only [this]))
                        have HN2 : Hid (Cn (txs.set q ⟨.slice pvb L.length cvb, L.length, stW q L.length⟩) L.length (fun j => if j < q + 1 then stW j L.length else sC L)) := Lib.hid (HC2.out.set (by simp) (fun j hj => by
                          have : (j < q + 1) = (j < q) := by apply propext; omega
                          simp only [this]))
                        clear HX HTK hlt3
                        go_wp2_with fail
                        go_roundw
                        case rel => exact ⟨q + 1, _, _, by omega, by go_num, by rw [List.length_set]; exact HR.out, by rw [List.length_set]; exact HTX.out, HN1.out, HN2.out, HX3.out⟩
                        case measure => simp [intOf]; omega
              · as_aux_lemma =>
                have hnq : ¬ (q : Int) < (k : Int) := by omega
                have HKQ := Lib.hid (show k ≤ q by omega)
                have HD1 : Hid (Cn rows ks.length (fun j => recW j ks.length)) := Lib.hid (HC1.out.of (fun j hj => by have h1 := HR.out; have h2 := HKQ.out; rw [if_pos (by omega)]))
                have HD2 : Hid (Cn txs L.length (fun j => stW j L.length)) := Lib.hid (HC2.out.of (fun j hj => by have h1 := HTX.out; have h2 := HKQ.out; rw [if_pos (by omega)]))
                have HS0 := Lib.hid HST.out.to4
                clear HST HC1 HC2
                obtain ⟨W5, hW5⟩ : ∃ W, W = wr := ⟨wr, rfl⟩
                subst hW5
                go_wp2_with fail
                clear hnq hlt2 HKQ hq
                go_loopw [23, 24, 25] (fun m l i wx => ∃ (q : Nat) (gs hs : List Rw), q ≤ k ∧ i = .int .i64 (q : Int) ∧ Md rows gs q (ks.length + 64) (fun j => recW j ks.length ++ recA j 64) ∧ Md txs hs q (L.length + 64) (fun j => stW j L.length ++ stB j 64) ∧ Ls4 w3 rows gs txs hs (.slice pa k ca) (.slice pb k cb) m l q q wx) (fun _ _ i _ => k - (intOf i).toNat)
                case atStart => exact ⟨0, rows, txs, Nat.zero_le _, rfl, Md.start _ _ _, Md.start _ _ _, HS0.out⟩
                case round =>
                  clear HS0
                  obtain ⟨z, gs, hs, hz, rfl, hm1, hm2, hst⟩ := hrel
                  have HST := Lib.hid hst
                  have HM1 := Lib.hid hm1
                  have HM2 := Lib.hid hm2
                  obtain ⟨pm, cm, rfl⟩ := own_len hst.om
                  obtain ⟨pn, cn, rfl⟩ := own_len hst.ol
                  clear hst hm1 hm2
                  by_cases hlt2 : z < k
                  · as_aux_lemma =>
                    have hq12 : (z : Int) < (k : Int) := by omega
                    have hq0 : (0 : Int) ≤ (z : Int) := by omega
                    obtain ⟨va, hva⟩ := HD1.out.at (i := z) (by have := HR.out; omega)
                    obtain ⟨vb, hvb⟩ := HD2.out.at (i := z) (by have := HTX.out; omega)
                    have hga := HM1.out.at hva
                    have hgb := HM2.out.at hvb
                    obtain ⟨pva, cva, rfl⟩ : ∃ p c, va = .slice p ks.length c := own_len (HST.out.gr.fam.1 z _ hga)
                    obtain ⟨pvb, cvb, rfl⟩ : ∃ p c, vb = .slice p L.length c := own_len (HST.out.gt.fam.1 z _ hgb)
                    have hoa := HST.out.oa
                    rw [HR.out] at hoa
                    have hob := HST.out.ob
                    rw [HTX.out] at hob
                    obtain ⟨g1, _, e1, _, _, hg1, qa⟩ := own_at hoa (by omega)
                    cases e1
                    obtain ⟨g2, _, e2, _, _, hg2, qb⟩ := own_at hob (by omega)
                    cases e2
                    have xa := qa z (.slice pva ks.length cva) (by rw [List.getElem?_map, hva]; rfl)
                    have xb := qb z (.slice pvb L.length cvb) (by rw [List.getElem?_map, hvb]; rfl)
                    have HVA := Lib.hid hga
                    have HVB := Lib.hid hgb
                    have HZR := Lib.hid (show z < rows.length by have := HR.out; omega)
                    have HZT := Lib.hid (show z < txs.length by have := HTX.out; omega)
                    have HZG := Lib.hid (List.getElem?_eq_some_iff.1 hga).1
                    have HZH := Lib.hid (List.getElem?_eq_some_iff.1 hgb).1
                    clear hva hvb hga hgb hoa hob qa qb
                    obtain ⟨W6, hW6⟩ : ∃ W, W = wr := ⟨wr, rfl⟩
                    subst hW6
                    go_wp2_with fail
                    clear xa xb
                    go_loopw [26, 27, 28] (fun g h i wx => ∃ p : Nat, p ≤ 64 ∧ i = .int .i64 (p : Int) ∧ Ls4 w3 rows (gs.set z ⟨g, ks.length + p, recW z ks.length ++ recA z p⟩) txs (hs.set z ⟨h, L.length + p, stW z L.length ++ stB z p⟩) (.slice (some ⟨g1, 0, none⟩) k ca) (.slice (some ⟨g2, 0, none⟩) k cb) (.slice pm z cm) (.slice pn z cn) z z wx) (fun _ _ i _ => 64 - (intOf i).toNat)
                    case atStart => exact ⟨0, Nat.zero_le _, rfl, by
                      have e1 : recW z ks.length ++ recA z 0 = recW z ks.length := by simp [recA]
                      have e2 : stW z L.length ++ stB z 0 = stW z L.length := by simp [stB]
                      rw [e1, e2, Nat.add_zero, Nat.add_zero, set_same HVA.out, set_same HVB.out]
                      exact HST.out⟩
                    case round =>
                      obtain ⟨p, hp, rfl, hst⟩ := hrel
                      have hog0 : wr.ownsRow w3.heap.size 40 3 _ (ks.length + p) _ := hst.gr.fam.1 z _ (List.getElem?_set_self HZG.out)
                      have hoh0 : wr.ownsRow w3.heap.size 9 1 _ (L.length + p) _ := hst.gt.fam.1 z _ (List.getElem?_set_self HZH.out)
                      obtain ⟨pg, cg, rfl⟩ := own_len hog0
                      obtain ⟨ph, ch, rfl⟩ := own_len hoh0
                      clear hog0 hoh0
                      have HX := Lib.hid hst
                      clear hst
                      by_cases hlt3 : p < 64
                      · as_aux_lemma =>
                        have hp64 : (p : Int) < 64 := by omega
                        have hcv := conv_b z
                        have hen : Utf8.encode (65 + (z : Int)) = chB z := rfl
                        go_wp2_with (at_builtin; refine app_rcK (-1 - (z : Int)) 0 ⟨#[]⟩ (HX.out.gr.fam.1 z _ (List.getElem?_set_self HZG.out)) rfl rfl rfl rfl (by simp only; omega) HX.out.bel.size ?_; intro g' y1 hog hkg; refine Hid.out ?_)
                        refine Lib.hid ?_
                        have HX1 := Lib.hid ((HX.out.below (bal (Below.refl _ _) _)).stepA HZR.out HZG.out hog hkg)
                        obtain ⟨pg', cg', rfl⟩ := own_len hog
                        clear hog hkg
                        go_wp2_with (at_builtin; refine app_stK (chB z) (HX1.out.gt.fam.1 z _ (List.getElem?_set_self HZH.out)) rfl rfl rfl rfl (by simp only; omega) HX1.out.bel.size ?_; intro h' y2 hoh hkh; refine Hid.out ?_)
                        refine Lib.hid ?_
                        have HX2 := Lib.hid ((HX1.out.below (bal (Below.refl _ _) _)).stepB HZT.out HZH.out hoh hkh)
                        obtain ⟨ph', ch', rfl⟩ := own_len hoh
                        clear hoh hkh
                        rw [List.append_assoc, List.append_assoc, ← recA_succ, ← stB_succ] at HX2
                        go_wp2_with fail
                        go_roundw
                        case rel => exact ⟨p + 1, by omega, by go_num, HX2.out⟩
                        case measure => simp [intOf]; omega
                      · as_aux_lemma =>
                        have hnp : ¬ (p : Int) < 64 := by omega
                        have HP := Lib.hid (show p = 64 by omega)
                        go_wp2_with (at_builtin; refine app_lr _ rfl HX.out.om rfl rfl rfl rfl (by omega) HX.out.bel.size ?_; intro m' y1 hom hkm; refine Hid.out ?_)
                        refine Lib.hid ?_
                        obtain ⟨pm', cm', rfl⟩ := own_len hom
                        have HX1 := Lib.hid ((HX.out.below (bal (Below.refl _ _) _)).moreA (q := ⟨.slice pg (ks.length + p) cg, ks.length + p, recW z ks.length ++ recA z p⟩) (List.getElem?_set_self HZG.out) hom hkm)
                        clear hom hkm
                        go_wp2_with (at_builtin; refine app_lt _ rfl HX1.out.ol rfl rfl rfl rfl (by omega) HX1.out.bel.size ?_; intro l' y2 hol hkl; refine Hid.out ?_)
                        refine Lib.hid ?_
                        obtain ⟨pn', cn', rfl⟩ := own_len hol
                        have HX2 := Lib.hid ((HX1.out.below (bal (Below.refl _ _) _)).moreB (q := ⟨.slice ph (L.length + p) ch, L.length + p, stW z L.length ++ stB z p⟩) (List.getElem?_set_self HZH.out) hol hkl)
                        clear hol hkl
                        have HN1 := Lib.hid (HM1.out.step (u := .slice pg (ks.length + p) cg) (n := ks.length + p) (xs := recW z ks.length ++ recA z p) (by rw [HP.out]) (by rw [HP.out]))
                        have HN2 := Lib.hid (HM2.out.step (u := .slice ph (L.length + p) ch) (n := L.length + p) (xs := stW z L.length ++ stB z p) (by rw [HP.out]) (by rw [HP.out]))
                        go_wp2_with fail
                        go_roundw
                        case rel => exact ⟨z + 1, _, _, by omega, by go_num, HN1.out, HN2.out, HX2.out⟩
                        case measure => simp [intOf]; omega
                  · as_aux_lemma =>
                    have hnz : ¬ (z : Int) < (k : Int) := by omega
                    obtain ⟨V, hV⟩ : ∃ W, W = wr := ⟨wr, rfl⟩
                    subst hV
                    have HZK := Lib.hid (show z = k by omega)
                    go_wp2_with fail
                    clear hnz hlt2 hz
                    go_loopw [29] (fun i wx => ∃ j : Nat, j ≤ z ∧ i = .int .i64 (j : Int) ∧ Below V.heap.size V wx) (fun i _ => z - (intOf i).toNat)
                    case atStart => exact ⟨0, Nat.zero_le _, rfl, Below.refl _ _⟩
                    case round =>
                      obtain ⟨j, hj, rfl, hbel⟩ := hrel
                      have HB := Lib.hid hbel
                      clear hbel
                      have hzk : z ≤ 12 := by have := HZK.out; omega
                      by_cases hlt2 : j < z
                      · as_aux_lemma =>
                        have hjz : (j : Int) < (z : Int) := by omega
                        have hj0 : (0 : Int) ≤ (j : Int) := by omega
                        have hjk : (j : Int) < (k : Int) := by have := HZK.out; omega
                        obtain ⟨ug, hug⟩ := HM1.out.full hlt2 (by have h1 := HM1.out.1; have h2 := HR.out; have h3 := HZK.out; omega)
                        obtain ⟨uh, huh⟩ := HM2.out.full hlt2 (by have h1 := HM2.out.1; have h2 := HTX.out; have h3 := HZK.out; omega)
                        obtain ⟨ur, hur⟩ := HD1.out.at (i := j) (by have h2 := HR.out; have h3 := HZK.out; omega)
                        obtain ⟨ut, hut⟩ := HD2.out.at (i := j) (by have h2 := HTX.out; have h3 := HZK.out; omega)
                        have hoa := HST.out.oa
                        have hob := HST.out.ob
                        rw [HR.out] at hoa
                        rw [HTX.out] at hob
                        obtain ⟨g1, _, e1, _, _, hg1, qa⟩ := own_at hoa (by have := HZK.out; omega)
                        cases e1
                        obtain ⟨g2, _, e2, _, _, hg2, qb⟩ := own_at hob (by have := HZK.out; omega)
                        cases e2
                        obtain ⟨g3, _, e3, _, _, hg3, qm⟩ := own_at HST.out.om (by omega)
                        cases e3
                        obtain ⟨g4, _, e4, _, _, hg4, qn⟩ := own_at HST.out.ol (by omega)
                        cases e4
                        have XA := Lib.hid (qa j ur (by rw [List.getElem?_map, hur]; rfl))
                        have XB := Lib.hid (qb j ut (by rw [List.getElem?_map, hut]; rfl))
                        have XM := Lib.hid (qm j ug (by rw [List.getElem?_map, List.getElem?_take_of_lt hlt2, hug]; rfl))
                        have XN := Lib.hid (qn j uh (by rw [List.getElem?_map, List.getElem?_take_of_lt hlt2, huh]; rfl))
                        obtain ⟨gg, cg, rfl, _, _, hgg, cgs⟩ := own_at (show V.ownsRow w3.heap.size 40 3 ug (ks.length + 64) (recW j ks.length ++ recA j 64) from HST.out.gr.fam.1 j _ hug) (by omega)
                        obtain ⟨gh, ch, rfl, _, _, hgh, chs⟩ := own_at (show V.ownsRow w3.heap.size 9 1 uh (L.length + 64) (stW j L.length ++ stB j 64) from HST.out.gt.fam.1 j _ huh) (by omega)
                        have hfr : Fz V 40 3 ur ks.length (recW j ks.length) := HST.out.gr.fz j _ hur
                        have hft : Fz V 9 1 ut L.length (stW j L.length) := HST.out.gt.fz j _ hut
                        obtain ⟨pr, cr, rfl, _, _⟩ := hfr.form
                        obtain ⟨pt, ct, rfl, _, _⟩ := hft.form
                        have HFR := Lib.hid hfr
                        have HFT := Lib.hid hft
                        have CGS := Lib.hid cgs
                        have CHS := Lib.hid chs
                        clear hfr hft cgs chs qa qb qm qn hoa hob hug huh hur hut
                        obtain ⟨W8, hW8⟩ : ∃ W, W = wr := ⟨wr, rfl⟩
                        subst hW8
                        have hm1 : W8.cell? ⟨g3, j, none⟩ = some (.slice (some ⟨gg, 0, none⟩) (ks.length + 64) cg) := by rw [HB.out.cell (p := ⟨g3, j, none⟩) hg3]; exact XM.out
                        go_wp2_with fail
                        go_loopw [30] (fun i wx => ∃ p : Nat, p ≤ ks.length + 64 ∧ i = .int .i64 (p : Int) ∧ Below V.heap.size V wx) (fun i _ => ks.length + 64 - (intOf i).toNat)
                        case atStart => exact ⟨0, Nat.zero_le _, rfl, HB.out⟩
                        case round =>
                          clear hm1
                          obtain ⟨p, hp, rfl, hbel⟩ := hrel
                          have HBP := Lib.hid hbel
                          have hm1 : wr.cell? ⟨g3, j, none⟩ = some (.slice (some ⟨gg, 0, none⟩) (ks.length + 64) cg) := by rw [hbel.cell (p := ⟨g3, j, none⟩) hg3]; exact XM.out
                          have hs3 : g3 < wr.heap.size := Nat.lt_of_lt_of_le hg3 hbel.size
                          have hsg : gg < wr.heap.size := Nat.lt_of_lt_of_le hgg hbel.size
                          clear hbel
                          by_cases hlt3 : p < ks.length + 64
                          · as_aux_lemma =>
                            have hp64 : (p : Int) < (ks.length : Int) + 64 := by omega
                            have hp0 : (0 : Int) ≤ (p : Int) := by omega
                            by_cases hpn : p < ks.length
                            · as_aux_lemma =>
                              have hpi : (p : Int) < (ks.length : Int) := by omega
                              have hpj : ¬ (ks.length : Int) ≤ (p : Int) := by omega
                              obtain ⟨r0, r1, r2⟩ := recW_at j ks.length p hpn
                              have hll := recW_len j ks.length
                              have c0 := CGS.out (p * 3) _ (by rw [List.getElem?_append_left (by omega)]; exact r0)
                              have c1 := CGS.out (p * 3 + 1) _ (by rw [List.getElem?_append_left (by omega)]; exact r1)
                              have c2 := CGS.out (p * 3 + 2) _ (by rw [List.getElem?_append_left (by omega)]; exact r2)
                              obtain ⟨gr, e5, hgr, qr⟩ := HFR.out.cells (by omega)
                              cases e5
                              have d0 := qr _ _ r0
                              have d1 := qr _ _ r1
                              have d2 := qr _ _ r2
                              have ha1 := XA.out
                              rw [← HBP.out.cell (p := ⟨gg, p * 3, none⟩) hgg] at c0
                              rw [← HBP.out.cell (p := ⟨gg, p * 3 + 1, none⟩) hgg] at c1
                              rw [← HBP.out.cell (p := ⟨gg, p * 3 + 2, none⟩) hgg] at c2
                              rw [← HBP.out.cell (p := ⟨gr, p * 3, none⟩) hgr] at d0
                              rw [← HBP.out.cell (p := ⟨gr, p * 3 + 1, none⟩) hgr] at d1
                              rw [← HBP.out.cell (p := ⟨gr, p * 3 + 2, none⟩) hgr] at d2
                              rw [← HBP.out.cell (p := ⟨g1, j, none⟩) hg1] at ha1
                              have hs1 : g1 < wr.heap.size := Nat.lt_of_lt_of_le hg1 HBP.out.size
                              have hsr : gr < wr.heap.size := Nat.lt_of_lt_of_le hgr HBP.out.size
                              have hqq := rec_neq (100 * (j : Int)) (p : Int) ⟨#[]⟩
                              clear qr r0 r1 r2 hll
                              go_upto_region 51 with fail
                              go_quiet (fail)
                              go_wp2_with fail
                              go_roundw
                              case rel => exact ⟨p + 1, by omega, by go_num, below_drewN HBP.out _⟩
                              case measure => simp [intOf]; omega
                            · as_aux_lemma =>
                              have hpi : ¬ (p : Int) < (ks.length : Int) := by omega
                              have hpj : (ks.length : Int) ≤ (p : Int) := by omega
                              have hll := recW_len j ks.length
                              have c0 := CGS.out (p * 3) (.int .i64 (-1 - (j : Int))) (by rw [List.getElem?_append_right (by omega), hll, show p * 3 - ks.length * 3 = (p - ks.length) * 3 by omega]; exact recA_at j 64 _ (by omega))
                              rw [← HBP.out.cell (p := ⟨gg, p * 3, none⟩) hgg] at c0
                              have hnn : ((-1 - (j : Int)) != (-1 - (j : Int))) = false := by simp
                              clear hll
                              go_upto_region 51 with fail
                              go_quiet (fail)
                              go_wp2_with fail
                              go_roundw
                              case rel => exact ⟨p + 1, by omega, by go_num, below_drewN HBP.out _⟩
                              case measure => simp [intOf]; omega
                          · as_aux_lemma =>
                            have hnp : ¬ (p : Int) < (ks.length : Int) + 64 := by omega
                            obtain ⟨W9, hW9⟩ : ∃ W, W = wr := ⟨wr, rfl⟩
                            subst hW9
                            go_upto_region 55 with fail
                            clear hm1 hs3 hsg hnp hp
                            have hm1 : W9.cell? ⟨g4, j, none⟩ = some (.slice (some ⟨gh, 0, none⟩) (L.length + 64) ch) := by rw [HBP.out.cell (p := ⟨g4, j, none⟩) hg4]; exact XN.out
                            have hs4 : g4 < W9.heap.size := Nat.lt_of_lt_of_le hg4 HBP.out.size
                            go_wp2_with fail
                            go_loopw [31] (fun i wx => ∃ y : Nat, y ≤ L.length + 64 ∧ i = .int .i64 (y : Int) ∧ Below V.heap.size V wx) (fun i _ => L.length + 64 - (intOf i).toNat)
                            case atStart => exact ⟨0, Nat.zero_le _, rfl, HBP.out⟩
                            case round =>
                              clear hm1 hs4
                              obtain ⟨y, hy, rfl, hbel⟩ := hrel
                              have HBY := Lib.hid hbel
                              have hm1 : wr.cell? ⟨g4, j, none⟩ = some (.slice (some ⟨gh, 0, none⟩) (L.length + 64) ch) := by rw [hbel.cell (p := ⟨g4, j, none⟩) hg4]; exact XN.out
                              have hs4 : g4 < wr.heap.size := Nat.lt_of_lt_of_le hg4 hbel.size
                              have hsh : gh < wr.heap.size := Nat.lt_of_lt_of_le hgh hbel.size
                              clear hbel
                              by_cases hlt3 : y < L.length + 64
                              · as_aux_lemma =>
                                have hp64 : (y : Int) < (L.length : Int) + 64 := by omega
                                have hp0 : (0 : Int) ≤ (y : Int) := by omega
                                by_cases hpn : y < L.length
                                · as_aux_lemma =>
                                  have hpi : (y : Int) < (L.length : Int) := by omega
                                  have hpj : ¬ (L.length : Int) ≤ (y : Int) := by omega
                                  have r0 : (stW j L.length)[y]? = some (.string (chA j)) := by unfold stW; rw [List.getElem?_replicate, if_pos hpn]
                                  have hll : (stW j L.length).length = L.length := List.length_replicate
                                  have c0 := CHS.out y _ (by rw [List.getElem?_append_left (by omega)]; exact r0)
                                  obtain ⟨gr, e5, hgr, qr⟩ := HFT.out.cells (by omega)
                                  cases e5
                                  have d0 := qr _ _ r0
                                  have ha1 := XB.out
                                  rw [← HBY.out.cell (p := ⟨gh, y, none⟩) hgh] at c0
                                  rw [← HBY.out.cell (p := ⟨gr, y, none⟩) hgr] at d0
                                  rw [← HBY.out.cell (p := ⟨g2, j, none⟩) hg2] at ha1
                                  have hs1 : g2 < wr.heap.size := Nat.lt_of_lt_of_le hg2 HBY.out.size
                                  have hsr : gr < wr.heap.size := Nat.lt_of_lt_of_le hgr HBY.out.size
                                  have hcv := conv_a j
                                  have hen : Utf8.encode (97 + (j : Int)) = chA j := rfl
                                  have hqq : ((chA j).toList == (chA j).toList) = true := by simp
                                  clear qr r0 hll
                                  generalize chA j = cA at *
                                  go_upto_region 58 with fail
                                  go_quiet (fail)
                                  go_wp2_with fail
                                  go_roundw
                                  case rel => exact ⟨y + 1, by omega, by go_num, below_drewN HBY.out _⟩
                                  case measure => simp [intOf]; omega
                                · as_aux_lemma =>
                                  have hpi : ¬ (y : Int) < (L.length : Int) := by omega
                                  have hpj : (L.length : Int) ≤ (y : Int) := by omega
                                  have hll : (stW j L.length).length = L.length := List.length_replicate
                                  have c0 := CHS.out y (.string (chB j)) (by rw [List.getElem?_append_right (by omega), hll]; unfold stB; rw [List.getElem?_replicate, if_pos (by omega)])
                                  rw [← HBY.out.cell (p := ⟨gh, y, none⟩) hgh] at c0
                                  have hcv := conv_b j
                                  have hen : Utf8.encode (65 + (j : Int)) = chB j := rfl
                                  have hqq : ((chB j).toList == (chB j).toList) = true := by simp
                                  clear hll
                                  generalize chB j = cB at *
                                  go_upto_region 58 with fail
                                  go_quiet (fail)
                                  go_wp2_with fail
                                  go_roundw
                                  case rel => exact ⟨y + 1, by omega, by go_num, below_drewN HBY.out _⟩
                                  case measure => simp [intOf]; omega
                              · as_aux_lemma =>
                                have hny : ¬ (y : Int) < (L.length : Int) + 64 := by omega
                                go_wp2_with fail
                                go_roundw
                                case rel => exact ⟨j + 1, by omega, by go_num, HBY.out⟩
                                case measure => simp [intOf]; omega
                      · as_aux_lemma =>
                        have hnj : ¬ (j : Int) < (z : Int) := by omega
                        obtain ⟨V2, hV2⟩ : ∃ W, W = wr := ⟨wr, rfl⟩
                        subst hV2
                        have HBV := Lib.hid (bnx (bnx HB3.out HST.out.bel) HB.out)
                        have HFWV := Lib.hid (HFW3.out.below (bnx HST.out.bel HB.out))
                        have HFLV := Lib.hid (HFL3.out.below (bnx HST.out.bel HB.out))
                        clear HST HB HM1 HM2 HD1 HD2 HFW3 HFL3
                        go_wp2_with fail
                        refine (HWH.out _ HBV.out).mono ?_
                        rintro e x1 ⟨u1, rfl, ho1, hb1⟩
                        obtain ⟨p1, c1, rfl⟩ := own_len ho1
                        have HO1 := Lib.hid ho1
                        have HX1 := Lib.hid (bnx HBV.out hb1)
                        have HW1 := Lib.hid (HFWV.out.below hb1)
                        have HL1 := Lib.hid (HFLV.out.below hb1)
                        clear ho1 hb1
                        go_wp2_with fail
                        refine (HUP.out _).mono ?_
                        rintro e x2 ⟨u2, rfl, ho2, hb2⟩
                        obtain ⟨p2, c2, rfl⟩ := own_len ho2
                        have HX2 := Lib.hid (bnx HX1.out hb2)
                        have HO2 := Lib.hid (own_below HO1.out hb2 (Nat.le_refl _))
                        have HQ2 := Lib.hid ho2
                        have HL2 := Lib.hid (HL1.out.below hb2)
                        have HY1 := Lib.hid (records_yes ks _ _ x2 (SeesS.of_own HO2.out) (HW1.out.below hb2).sees)
                        clear ho2 hb2
                        go_wp2_with fail
                        refine (HY1.out).mono ?_
                        rintro e y1 ⟨rfl, hb1⟩
                        have HX3 := Lib.hid (bnx HX2.out hb1)
                        have HY2 := Lib.hid (lists_yes L _ _ y1 (SeesS.of_own (own_below HQ2.out hb1 (Nat.le_refl _))) (HL2.out.below hb1).sees)
                        clear hb1
                        go_wp2_with fail
                        refine (HY2.out).mono ?_
                        rintro e y2 ⟨rfl, hb2⟩
                        go_wp2_with fail
                        go_ret
                        exact ⟨rfl, bnx HX3.out hb2⟩
set_option maxRecDepth 100000 in
theorem ledgerLists_laid {w : World} (h : laidMetH Tryd.prog Rows.ledgerListsRow.laid w) : Tab w := by
  rw [MakeChecks.laidMetH_plain _ _ _ (by kernel_rfl)] at h
  have hg0 : Tryd.prog.globalNamed "internal/strconv.uint64pow10" = some 0 := by kernel_rfl
  exact Lib.tabIs_of_head (n := 20) (t := 99) (e := 81) hg0 (by kernel_rfl) (by kernel_rfl) (by kernel_rfl) (by kernel_rfl) (by kernel_rfl) h.tail.tail
end Go.Proofs.YtndclkphglpknaaDoor.Lg
