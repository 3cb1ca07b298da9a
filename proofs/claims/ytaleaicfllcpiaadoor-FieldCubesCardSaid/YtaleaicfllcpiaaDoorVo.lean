/- The document's other. -/
import Derived.Test.YtaleaicfllcpiaaDoorVd
namespace Go.Proofs.YtaleaicfllcpiaaDoor.Fl
open Go.RowKit Mm Law
set_option linter.unusedSimpArgs false
set_option linter.unusedSectionVars false
set_option linter.unusedVariables false
theorem byt_at {c : List UInt8} {i : Nat} (h : i < c.length) : Tn.byt c i = c[i] := by unfold Tn.byt; simp [h]
theorem byt_x {n i : Nat} (h : i < n) : Tn.byt (List.replicate n 120) i = 120 := by rw [byt_at (by simpa using h)]; simp
theorem part_eq {c : List UInt8} {i : Nat} (hi : i < c.length) : Tn.partT (List.replicate c.length 120) c i = c.take i ++ [Tn.otherB c[i]] ++ List.replicate (c.length - i - 1) 120 := by
  unfold Tn.partT
  apply List.ext_getElem?
  intro j
  rw [List.length_replicate]
  by_cases hj : j < c.length
  · have e1 : (Tn.up (Tn.partF (List.replicate c.length 120) c i) c.length)[j]? = some (Tn.partF (List.replicate c.length 120) c i j) := by unfold Tn.up; simp [hj]
    rw [e1]
    unfold Tn.partF
    rw [byt_x hj, byt_at hj, List.append_assoc]
    rcases Nat.lt_trichotomy j i with h | h | h
    · rw [if_neg (by omega), if_pos ⟨h, rfl⟩, List.getElem?_append_left (by rw [List.length_take]; omega), List.getElem?_take, if_pos h, List.getElem?_eq_getElem hj]
    · subst h
      rw [if_pos rfl, List.getElem?_append_right (by rw [List.length_take]; omega), List.length_take, Nat.min_eq_left (by omega), Nat.sub_self]
      rfl
    · rw [if_neg (by omega), if_neg (by omega), List.getElem?_append_right (by rw [List.length_take]; omega), List.length_take, Nat.min_eq_left (by omega)]
      rw [show j - i = (j - i - 1) + 1 from by omega, List.singleton_append, List.getElem?_cons_succ, List.getElem?_replicate, if_pos (by omega)]
  · rw [List.getElem?_eq_none (by unfold Tn.up; simp; omega), List.getElem?_eq_none (by simp; omega)]
def othK (c : List UInt8) (k : Nat) : List (List UInt8) := Tn.partsT (List.replicate c.length 120) c k
theorem othK_all (c : List UInt8) : othK c c.length = othT c := rfl
theorem oth_no {c : List UInt8} {k : Nat} (hk : k < c.length) (h : c[k] = 120) : othK c (k + 1) = othK c k :=
  Tn.partsT_no (by unfold Tn.splits; rw [byt_x hk, byt_at hk, h]; rfl)
theorem oth_yes {c : List UInt8} {k : Nat} (hk : k < c.length) (h : c[k] ≠ 120) : othK c (k + 1) = othK c k ++ [c.take k ++ [Tn.otherB c[k]] ++ List.replicate (c.length - k - 1) 120] := by
  rw [← part_eq hk]
  exact Tn.partsT_yes (by unfold Tn.splits; rw [byt_x hk, byt_at hk]; simp [h])
theorem othK_le (c : List UInt8) (k : Nat) : (othK c k).length ≤ k := Tn.partsT_le _ _ _
theorem other_48 {x : UInt8} (h : x = 48) : Tn.otherB x = 49 := by subst h; rfl
theorem other_no {x : UInt8} (h : ¬ x = 48) : Tn.otherB x = 48 := if_neg h
set_option maxRecDepth 100000 in
set_option maxHeartbeats 16000000 in
theorem rother_any (c : List UInt8) (hl : c.length ≤ 32) (w : World) : Calls Tryd.prog 88 #[.string (str c)] w (StrRow w (othT c)) := by
  have hsz : (str c).size = c.length := str_size c
  have HB := Lib.hid (bget (str c))
  have HXS := Lib.hid (fun (n : Nat) (hn : n ≤ 32) w => xs_any n (by omega) w)
  go_enter Tryd.func88, Tryd.ntmps88
  go_wp2_with fail
  go_loopw [3, 4] (fun m i wr => ∃ k : Nat, k ≤ c.length ∧ i = .int .i64 (k : Int) ∧ wr.ownsRow w.heap.size 9 1 m (othK c k).length (sC (othK c k)) ∧ Below w.heap.size w wr) (fun _ i _ => c.length - (intOf i).toNat)
  case atStart => exact ⟨0, Nat.zero_le _, rfl, World.ownsRow_nil _ _ _ _, Below.refl _ _⟩
  case round =>
    obtain ⟨k, hk, rfl, hown, hbel⟩ := hrel
    have HOW := Lib.hid hown
    clear hown
    by_cases hlt : k < c.length
    · have x2 : k < (str c).size := by omega
      have hg := HB.out k x2
      have hgc : (str c)[k]'x2 = c[k] := by
        rw [str_list, List.getElem?_eq_getElem hlt] at hg
        exact (Option.some.inj hg).symm
      have HNO := Lib.hid (show (str c)[k]'x2 = 120 → othK c (k + 1) = othK c k from fun h => by rw [hgc] at h; exact oth_no hlt h)
      have HYES := Lib.hid (show (str c)[k]'x2 ≠ 120 → othK c (k + 1) = othK c k ++ [c.take k ++ [Tn.otherB ((str c)[k]'x2)] ++ List.replicate (c.length - k - 1) 120] from fun h => by rw [hgc] at h ⊢; exact oth_yes hlt h)
      have h48 := fun (h : (str c)[k]'x2 = 48) => other_48 h
      have hn48 := fun (h : ¬ (str c)[k]'x2 = 48) => other_no h
      have hle := othK_le c k
      have e1 : (str c).extract 0 k = str (c.take k) := by rw [ext_take, str_list, List.drop_zero, Nat.sub_zero]
      have hsl : ∀ W : World, (Instr.slice 9 (.string (str c)) none (some (.int .i64 (k : Int))) none).run Tryd.prog W = .ok (.string (str (c.take k))) W := fun W => by
        rw [run_slice_string_to_if (P := Tryd.prog) W 9 (str c) .i64 (k : Int) Tryd.underlying9, if_pos (by omega), show ((k : Int)).toNat = k from by omega, e1]
      have HX := Lib.hid (fun w => HXS.out (c.length - k - 1) (by omega) w)
      rw [show ((c.length - k - 1 : Nat) : Int) = ((str c).size : Int) - (k : Int) - 1 from by omega] at HX
      have ha : (str (c.take k)).size ≤ 32 := by rw [str_size, List.length_take]; omega
      have hz : (str (List.replicate (c.length - k - 1) (120 : UInt8))).size ≤ 32 := by rw [str_size, List.length_replicate]; omega
      have hw1 : IntKind.i64.wrap (((str c).size : Int) - (k : Int)) = ((str c).size : Int) - (k : Int) := IntWalk.i64_in _ (by omega)
      have hw2 : IntKind.i64.wrap (((str c).size : Int) - (k : Int) - 1) = ((str c).size : Int) - (k : Int) - 1 := IntWalk.i64_in _ (by omega)
      have x0 : (0 : Int) ≤ (k : Int) := by omega
      have x1 : (k : Int) < ((str c).size : Int) := by omega
      have HAP := Lib.hid (fun (d : UInt8) => (show str (c.take k ++ [d] ++ List.replicate (c.length - k - 1) 120) = str (c.take k) ++ str [d] ++ str (List.replicate (c.length - k - 1) 120) from by rw [str_app, str_app]))
      have HSZ := Lib.hid hsz
      clear e1 hg hgc hsz hlt
      generalize hcn : c.length = cn at *
      generalize str (c.take k) = sa at *
      generalize hxz : str (List.replicate (cn - k - 1) (120 : UInt8)) = sz at *
      generalize hsc : str c = sc at *
      clear hcn hxz hsc
      by_cases hx : sc[k] = 120
      · have h1 : (sc[k].toNat : Int) = 120 := by rw [hx]; rfl
        have HT := Lib.hid (HNO.out hx)
        clear hx HYES HNO h48 hn48 hsl hw1 hw2
        go_wp2_with fail
        go_roundw
        case rel => exact ⟨k + 1, by have := HSZ.out; omega, by go_num, by rw [HT.out]; exact HOW.out, hbel⟩
        case measure => have := HSZ.out; simp [intOf]; omega
      · have n1 : ((sc[k].toNat : Int) != 120) = true := by rw [bne_iff_ne]; exact fun h => hx (UInt8.toNat_inj.1 (by have h58 : (120 : UInt8).toNat = 120 := rfl; omega))
        have HT := Lib.hid (HYES.out hx)
        have hs3 : ¬ 9223372036854775807 < sa.size + 1 := by omega
        have hs4 : ¬ 9223372036854775807 < sa.size + 1 + sz.size := by omega
        clear hx HYES HNO
        have hbD : Below w.heap.size w wr.drew := hbel.drew
        by_cases hx4 : sc[k] = 48
        · have h1 : ((sc[k].toNat : Int) == 48) = true := by rw [beq_iff_eq, hx4]; rfl
          have HO := Lib.hid (h48 hx4)
          clear hx4 h48 hn48
          go_wp2_with fail
          go_region_held3 (fun w' => Below w.heap.size w w')
            (with_reducible (first | assumption | exact hbD | exact hK1 | exact hK2 | exact hK4 | fail))
            (first | (go_at_call 56; refine (HX.out _).mono ?_; rintro e w3 ⟨rfl, hb3⟩; have hb3' : Below wr.heap.size wr w3 := ((Below.refl wr.heap.size wr).drew).trans (show Below wr.heap.size wr.drew w3 from hb3); have hK1 : Below w.heap.size w w3 := bnx hbel hb3'; have hK2 : Below w.heap.size w (w3.alloc (.cells #[.string (sa ++ ⟨#[49]⟩ ++ sz)] 9)) := bal hK1 _) | (refine step_app_row (w := w3.alloc (.cells #[.string (sa ++ ⟨#[49]⟩ ++ sz)] 9)) (M := [(sa ++ ⟨#[49]⟩ ++ sz).data.toList]) (.tmp 20) (.tmp 33) ((own_below HOW.out hb3' (Nat.le_refl _)).alloc _) (Tn.own_one w3 9 #[.string (sa ++ ⟨#[49]⟩ ++ sz)] (Nat.le_refl _)) ?gd49 ?gc49 ?gs49 ?gx49 (by omega) hK2.size ?_; (case gd49 => rfl); (case gc49 => rfl); (case gs49 => rfl); (case gx49 => rfl); intro v4 w4 hown4 hb4; have hK4 : Below w.heap.size w w4 := hK2.trans hb4) | fail)
          go_wp2_with fail
          go_roundw
          case rel => exact ⟨k + 1, by have := HSZ.out; omega, by go_num, by rw [HT.out, HO.out, List.length_append, show c.take k ++ [49] ++ List.replicate (cn - k - 1) 120 = (sa ++ ⟨#[49]⟩ ++ sz).data.toList from by rw [show (⟨#[49]⟩ : ByteArray) = str [49] from rfl, ← HAP.out]; rfl]; exact hown4, hK4⟩
          case measure => have := HSZ.out; simp [intOf]; omega
        · have h1 : ((sc[k].toNat : Int) == 48) = false := by rw [beq_eq_false_iff_ne]; exact fun h => hx4 (UInt8.toNat_inj.1 (by have h58 : (48 : UInt8).toNat = 48 := rfl; omega))
          have HO := Lib.hid (hn48 hx4)
          clear hx4 h48 hn48
          go_wp2_with fail
          go_region_held3 (fun w' => Below w.heap.size w w')
            (with_reducible (first | assumption | exact hbD | exact hK1 | exact hK2 | exact hK4 | fail))
            (first | (go_at_call 56; refine (HX.out _).mono ?_; rintro e w3 ⟨rfl, hb3⟩; have hb3' : Below wr.heap.size wr w3 := ((Below.refl wr.heap.size wr).drew).trans (show Below wr.heap.size wr.drew w3 from hb3); have hK1 : Below w.heap.size w w3 := bnx hbel hb3'; have hK2 : Below w.heap.size w (w3.alloc (.cells #[.string (sa ++ ⟨#[48]⟩ ++ sz)] 9)) := bal hK1 _) | (refine step_app_row (w := w3.alloc (.cells #[.string (sa ++ ⟨#[48]⟩ ++ sz)] 9)) (M := [(sa ++ ⟨#[48]⟩ ++ sz).data.toList]) (.tmp 20) (.tmp 33) ((own_below HOW.out hb3' (Nat.le_refl _)).alloc _) (Tn.own_one w3 9 #[.string (sa ++ ⟨#[48]⟩ ++ sz)] (Nat.le_refl _)) ?gd48 ?gc48 ?gs48 ?gx48 (by omega) hK2.size ?_; (case gd48 => rfl); (case gc48 => rfl); (case gs48 => rfl); (case gx48 => rfl); intro v4 w4 hown4 hb4; have hK4 : Below w.heap.size w w4 := hK2.trans hb4) | fail)
          go_wp2_with fail
          go_roundw
          case rel => exact ⟨k + 1, by have := HSZ.out; omega, by go_num, by rw [HT.out, HO.out, List.length_append, show c.take k ++ [48] ++ List.replicate (cn - k - 1) 120 = (sa ++ ⟨#[48]⟩ ++ sz).data.toList from by rw [show (⟨#[48]⟩ : ByteArray) = str [48] from rfl, ← HAP.out]; rfl]; exact hown4, hK4⟩
          case measure => have := HSZ.out; simp [intOf]; omega
    · have hkl : k = c.length := by omega
      have HF := Lib.hid (show wr.ownsRow w.heap.size 9 1 u3 (othT c).length (sC (othT c)) from by have := HOW.out; rw [hkl, othK_all] at this; exact this)
      have y1 : ¬ (k : Int) < ((str c).size : Int) := by omega
      clear hkl hsz
      go_wp2_with fail
      go_ret
      exact ⟨_, rfl, HF.out, hbel⟩
end Go.Proofs.YtaleaicfllcpiaaDoor.Fl
