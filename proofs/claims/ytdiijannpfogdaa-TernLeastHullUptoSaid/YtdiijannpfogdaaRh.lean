/- Hull's answer in the document's words. -/
import Derived.Test.YtdiijannpfogdaaHu
namespace Go.Proofs.Ytdiijannpfogdaa.Tn
open Go.RowKit
def hstep (i : Nat) (d : UInt8) (x : List UInt8) : UInt8 := if byt x i = d then d else 120
def hbyte (t : List UInt8) (L : List (List UInt8)) (i : Nat) : UInt8 := L.foldl (hstep i) (byt t i)
theorem hullL_len (t : List UInt8) (L : List (List UInt8)) : (hullL t L).length = t.length := by
  unfold hullL
  induction L generalizing t with
  | nil => rfl
  | cons x L ih => rw [List.foldl_cons, ih]; simp [hull2]
theorem hullL_byt (t : List UInt8) (L : List (List UInt8)) (i : Nat) (hi : i < t.length) : byt (hullL t L) i = hbyte t L i := by
  unfold hullL hbyte
  induction L generalizing t with
  | nil => rfl
  | cons x L ih =>
    rw [List.foldl_cons, List.foldl_cons, ih _ (by simp [hull2]; exact hi)]
    congr 1
    unfold hull2
    rw [byt_up _ _ _ hi]
    rfl
theorem hullL_up (t : List UInt8) (L : List (List UInt8)) : hullL t L = up (hbyte t L) t.length := eq_up (hullL_len t L) fun i hi => hullL_byt t L i hi
theorem hstep_self (t : List UInt8) (i : Nat) : hstep i (byt t i) t = byt t i := by unfold hstep; rw [if_pos rfl]
theorem hbyte_cons (t : List UInt8) (L : List (List UInt8)) (i : Nat) : (t :: L).foldl (hstep i) (byt t i) = hbyte t L i := by
  rw [List.foldl_cons, hstep_self]; rfl
theorem hstep_snoc (L : List (List UInt8)) (i k : Nat) (d : UInt8) (hk : k < L.length) : (L.take (k + 1)).foldl (hstep i) d = hstep i ((L.take k).foldl (hstep i) d) L[k] := by
  rw [List.take_succ_eq_append_getElem hk, List.foldl_append]; rfl
set_option maxHeartbeats 2000000 in
theorem rhull_walk (t : List UInt8) (M : List (List UInt8)) (ht : t.length ≤ 256) (hM : M.length ≤ 1000000000000) (w : World) (B : Nat) (v : Value) (hv : w.ownsRow B 9 1 v (t :: M).length (srow (t :: M))) (hB : B ≤ w.heap.size) :
    Calls Try.prog 39 #[v] w fun e w' => e = .returned (.tuple #[.string (str (hullT t M)), .int .i64 (hullE t M)]) ∧ Below w.heap.size w w' := by
  obtain ⟨g, cap, rfl, hcap, hBg, hx⟩ := own_at hv (by simp)
  obtain ⟨g', cap', hv', _, hlt⟩ := own_form hv (by simp)
  cases hv'
  have hx' : ∀ j s, (t :: M)[j]? = some s → w.cell? ⟨g, j, none⟩ = some (.string (str s)) := fun j s hj => hx j _ (by rw [srow, List.getElem?_map, hj]; rfl)
  generalize hL : t :: M = L at *
  have hl1 : L.length = M.length + 1 := by rw [← hL]; rfl
  have h00 : L[0]? = some t := by rw [← hL]; rfl
  have HX := Lib.hid hx'
  clear hx'
  have HL := Lib.hid hL
  have H00 := Lib.hid h00
  have hlz : ((L.length : Int) == 0) = false := beq_eq_false_iff_ne.2 (by omega)
  have hL1 : L.length ≤ 1000000000001 := by omega
  have h1L : 1 ≤ L.length := by omega
  have HL1 := Lib.hid hl1
  clear hx hL hv h00 hl1
  go_enter Try.func39, Try.ntmps39
  go_wp2
  go_loopw [4] (fun i wr => ∃ k : Nat, k ≤ L.length ∧ i = .int .i64 k ∧ (∀ j (hj : j < L.length), j < k → fitT L[j] t) ∧ Below w.heap.size w wr) (fun i _ => L.length - (intOf i).toNat)
  case atStart => exact ⟨0, Nat.zero_le _, rfl, fun j _ hj => by omega, Below.refl _ _⟩
  case round =>
    obtain ⟨k, hk, rfl, hall, hbel⟩ := hrel
    have HA := Lib.hid hall
    clear hall
    by_cases hkl : k < L.length
    · have q0 : wr.cell? ⟨g, 0, none⟩ = some (.string (str t)) := by rw [hbel.cell (p := ⟨g, 0, none⟩) hlt]; exact HX.out 0 t H00.out
      have q1 : wr.cell? ⟨g, k, none⟩ = some (.string (str L[k])) := by rw [hbel.cell (p := ⟨g, k, none⟩) hlt]; exact HX.out k _ (List.getElem?_eq_getElem hkl)
      have hf := rfit_any (str L[k]) (str t)
      rw [str_list, str_list] at hf
      by_cases hF : fitT L[k] t
      · rw [decide_eq_true hF] at hf
        have HF := Lib.hid hf
        have HFit := Lib.hid hF
        clear hf hF
        go_wp2
        go_quiet ((go_at_call 67; with_reducible exact quiet_left (HF.out _)))
        go_wp2
        go_roundw
        case rel =>
          refine ⟨k + 1, by omega, by go_num, fun j hj hjk => ?_, below_drewN hbel _⟩
          rcases Nat.lt_or_ge j k with h1 | h1
          · exact HA.out j hj h1
          · obtain rfl : j = k := by omega
            exact HFit.out
        case measure => simp [intOf]; omega
      · have hno : ¬ hullOk t M := fun H => hF (by
          have hm : L[k] ∈ t :: M := by rw [HL.out]; exact List.getElem_mem hkl
          rcases List.mem_cons.1 hm with e | e
          · rw [e]; exact ⟨H.1, rfl⟩
          · have := H.2 _ e
            exact ⟨fun e0 => H.1 (List.eq_nil_of_length_eq_zero (by rw [← this, e0]; rfl)), this⟩)
        have HO : Hid (hullT t M = [] ∧ hullE t M = 11) := ⟨by unfold hullT; rw [if_neg hno], by unfold hullE; rw [if_neg hno]⟩
        rw [decide_eq_false hF] at hf
        have HF := Lib.hid hf
        clear hf hF hno
        go_wp2
        go_quiet ((go_at_call 67; with_reducible exact quiet_left (HF.out _)))
        go_wp2
        go_ret2
        refine ⟨?_, below_drewN hbel _⟩
        rw [HO.out.1, HO.out.2]; rfl
    · have hok : hullOk t M := by
        obtain rfl : k = L.length := by omega
        have h0 : fitT t t := by
          have := HA.out 0 (by omega) (by omega)
          have e : L[0] = t := by have := H00.out; rw [List.getElem?_eq_getElem (by omega)] at this; exact Option.some.inj this
          rw [e] at this; exact this
        refine ⟨h0.1, fun x hx => ?_⟩
        obtain ⟨j, hj, e⟩ := List.getElem_of_mem hx
        have hj' : j + 1 < L.length := by rw [HL1.out]; omega
        have := HA.out (j + 1) hj' hj'
        have e2 : L[j + 1] = x := by
          have e3 : (t :: M)[j + 1]? = some x := by simp [hj, e]
          rw [HL.out, List.getElem?_eq_getElem hj'] at e3
          exact Option.some.inj e3
        rw [e2] at this
        exact this.2
      have HO : Hid (hullT t M = up (hbyte t M) t.length ∧ hullE t M = 0) := ⟨by unfold hullT; rw [if_pos hok, hullL_up], by unfold hullE; rw [if_pos hok]⟩
      have HW : Hid (∀ x ∈ M, x.length = t.length) := hok.2
      clear hok HA
      obtain rfl : k = L.length := by omega
      go_wp2_with fail
      go_loopw [6, 7] (fun u i ws => ∃ k : Nat, k ≤ t.length ∧ i = .int .i64 k ∧ ws.ownsRow w.heap.size 5 1 u k ((up (hbyte t M) k).map bv) ∧ Below w.heap.size w ws) (fun _ i _ => t.length - (intOf i).toNat)
      case atStart => exact ⟨0, Nat.zero_le _, rfl, own_nil _ _, hbel⟩
      case round =>
        clear hbel
        obtain ⟨wo, rfl⟩ : ∃ wo : World, wo = wr := ⟨_, rfl⟩
        obtain ⟨k, hk, rfl, hown, hbel⟩ := hrel
        have q0 : wo.cell? ⟨g, 0, none⟩ = some (.string (str t)) := by rw [hbel.cell (p := ⟨g, 0, none⟩) hlt]; exact HX.out 0 t H00.out
        have hst : (str t).size = t.length := str_size t
        have hsl : (str t).data.toList = t := str_list t
        generalize hs : str t = s at *
        have HSL := Lib.hid hsl
        have HST := Lib.hid hst
        clear hs hsl hst
        by_cases hkt : k < t.length
        · have hks : k < s.size := by rw [HST.out]; exact hkt
          have hb0 := byt_str s k hks
          rw [HSL.out] at hb0
          have hlts : decide ((k : Int) < (s.size : Int)) = true := decide_eq_true (by omega)
          have HB0 := Lib.hid hb0
          clear hb0
          go_wp2_with fail
          go_loop [8, 9] (fun d i => ∃ j : Nat, j ≤ L.length ∧ i = .int .i64 j ∧ d = .int .u8 (((L.take j).foldl (hstep k) (byt t k)).toNat : Int)) (fun _ i => L.length - (intOf i).toNat)
          case atStart => exact ⟨0, Nat.zero_le _, rfl, by rw [List.take_zero, List.foldl_nil, HB0.out]⟩
          case round =>
            obtain ⟨j, hj, rfl, rfl⟩ := hrel
            by_cases hjl : j < L.length
            · have q1 : wo.cell? ⟨g, j, none⟩ = some (.string (str L[j])) := by rw [hbel.cell (p := ⟨g, j, none⟩) hlt]; exact HX.out j _ (List.getElem?_eq_getElem hjl)
              have hxs : (str L[j]).size = t.length := by
                rw [str_size]
                have hm : L[j] ∈ t :: M := by rw [HL.out]; exact List.getElem_mem hjl
                rcases List.mem_cons.1 hm with e | e
                · rw [e]
                · exact HW.out _ e
              have hxl : (str L[j]).data.toList = L[j] := str_list _
              have hsn := hstep_snoc L k j (byt t k) hjl
              generalize str L[j] = x at *
              have hkx : k < x.size := by omega
              have hbx := byt_str x k hkx
              rw [hxl] at hbx
              have HSN := Lib.hid hsn
              have HBX := Lib.hid hbx
              generalize (L.take j).foldl (hstep k) (byt t k) = dd at *
              clear hsn hbx hxl hxs
              by_cases he : x[k] = dd
              · have t1 := be_no he
                have HV := Lib.hid (show hstep k dd L[j] = dd by unfold hstep; rw [HBX.out, if_pos he])
                clear he
                go_wp2_with fail
                go_round
                case rel => exact ⟨j + 1, by omega, by go_num, by rw [HSN.out, HV.out]⟩
                case measure => simp [intOf]; omega
              · have t1 := ne_yes he
                have HV := Lib.hid (show hstep k dd L[j] = 120 by unfold hstep; rw [HBX.out, if_neg he])
                clear he
                go_wp2_with fail
                go_round
                case rel => exact ⟨j + 1, by omega, by go_num, by rw [HSN.out, HV.out]; rfl⟩
                case measure => simp [intOf]; omega
            · obtain rfl : j = L.length := by omega
              have hfin : (L.take L.length).foldl (hstep k) (byt t k) = hbyte t M k := by rw [List.take_length, ← HL.out, hbyte_cons]
              rw [hfin]
              clear hfin
              go_wp2_with (at_builtin; refine app_byte (hbyte t M k) hown rfl rfl rfl rfl (by omega) hbel.size ?_; intro v' w2 hown2 hb2)
              go_roundw
              case rel => exact ⟨k + 1, by omega, by go_num, by rw [up_succ]; exact hown2, hbel.trans hb2⟩
              case measure => simp [intOf]; omega
        · obtain rfl : k = t.length := by omega
          have hlts : decide (t.length < s.size) = false := decide_eq_false (by have := HST.out; omega)
          have hst := str_own hown
          go_wp2_with fail
          go_ret2
          refine ⟨?_, hbel⟩
          rw [HO.out.1, HO.out.2]; rfl
end Go.Proofs.Ytdiijannpfogdaa.Tn
