/- Merged for FieldOwn -/
import Derived.Test.YtlakglphjhoodaaDoorFA
import Derived.Test.YtlakglphjhoodaaDoorFO
import Derived.Deep.RegionHeld3
import Derived.Deep.DeepCutAuto
namespace Go.Proofs.YtlakglphjhoodaaDoor.Fl
open Go.RowKit Mm Law
set_option linter.unusedVariables false
set_option linter.unusedSimpArgs false
set_option linter.unusedSectionVars false
end Go.Proofs.YtlakglphjhoodaaDoor.Fl

namespace Go.Proofs.YtlakglphjhoodaaDoor.Fl
open Go.RowKit Mm Law
def Ans (w : World) (c : Int × Int) (e : Ending) (w' : World) : Prop := e = .returned (.tuple #[.int .i64 c.1, .int .i64 c.2]) ∧ Below w.heap.size w w'
theorem own_sees {w : World} {B : Nat} {v : Value} {e : TypeId} {l : List Fld} (h : w.ownsRow B e 2 v l.length (fcells l)) (hm : ∀ f ∈ l, f.1.size ≤ maxLen ∧ (Lit.int .i64 f.2).wf = true) : SeesF w v l := by
  refine SeesF.of_own h hm fun a m cap hv => ?_
  rcases h.2 with ⟨h0, _⟩ | ⟨g, cap', cur, h0, _, _, _, hc, _⟩
  · rw [h0] at hv; cases hv; exact Nat.zero_le _
  · rw [h0] at hv; cases hv; exact hc
theorem find_yes (l : List Fld) (v : Value) (t : ByteArray) (w : World) (hv : SeesF w v l) (h : ∃ f ∈ l, f.1 = t) :
    Calls Tryd.prog 28 #[v, .string t] w fun e w' => ∃ r : Int, e = .returned (.int .i64 r) ∧ 0 ≤ r ∧ Below w.heap.size w w' :=
  (find_any l v t w hv).mono fun _ _ ⟨r, he, hr, hb⟩ => ⟨r, he, hr.2 h, hb⟩
theorem find_no (l : List Fld) (v : Value) (t : ByteArray) (w : World) (hv : SeesF w v l) (h : ¬ ∃ f ∈ l, f.1 = t) :
    Calls Tryd.prog 28 #[v, .string t] w fun e w' => ∃ r : Int, e = .returned (.int .i64 r) ∧ r < 0 ∧ Below w.heap.size w w' :=
  (find_any l v t w hv).mono fun _ _ ⟨r, he, hr, hb⟩ => ⟨r, he, by have : ¬ 0 ≤ r := fun h0 => h (hr.1 h0); omega, hb⟩
theorem any_eq {s : ByteArray} (h : s = anyS) : (s.toList == [97, 110, 121]) = true := by
  subst h; rw [ByteArray.toList_eq]; rfl
theorem any_ne {s : ByteArray} (h : ¬ s = anyS) : (s.toList == [97, 110, 121]) = false := by
  have := str_ne h
  rw [ByteArray.toList_eq anyS] at this
  exact this
theorem none_eq {s : ByteArray} (h : s = noneS) : (s.toList == [110, 111, 110, 101]) = true := by
  subst h; rw [ByteArray.toList_eq]; rfl
theorem none_ne {s : ByteArray} (h : ¬ s = noneS) : (s.toList == [110, 111, 110, 101]) = false := by
  have := str_ne h
  rw [ByteArray.toList_eq noneS] at this
  exact this
abbrev FdS (W : World) (g : Nat) (s : ByteArray) (b : Int) (w' : World) : Prop := w'.cell? ⟨g, 0, none⟩ = some (.string s) ∧ w'.cell? ⟨g, 1, none⟩ = some (.int .i64 b) ∧ Below W.heap.size W w'
theorem FdS.start {W : World} {g : Nat} {s : ByteArray} {b : Int} (h : Blk W g 27 #[.string s, .int .i64 b]) : FdS W g s b W.drew := ⟨h.drew.cell 0, h.drew.cell 1, (Below.refl _ _).drew⟩
theorem FdS.go {W w1 w2 : World} {g : Nat} {s : ByteArray} {b : Int} (h : Blk W g 27 #[.string s, .int .i64 b]) (h1 : FdS W g s b w1) (hb : Below w1.heap.size w1 w2) : FdS W g s b w2 := by
  have hb2 := bnx h1.2.2 hb
  have h2 := h.below hb2 h.lt
  exact ⟨h2.cell 0, h2.cell 1, hb2⟩
set_option maxRecDepth 100000 in
set_option maxHeartbeats 4000000 in
theorem check_main (l : List Fld) (v : Value) (w : World) (hv : SeesF w v l) (h0 : 0 < l.length) (h12 : l.length ≤ 12) :
    Calls Tryd.prog 27 #[v] w (Ans w (chkFrom l 0)) := by
  have HV := Lib.hid hv
  obtain ⟨a0, cap0, rfl, hcap, hcm, hx, hw⟩ := hv
  have HX := Lib.hid hx
  have HW := Lib.hid hw
  unfold maxLen at hcm
  clear hx hw
  have hz0 : ((l.length : Int) == 0) = false := by rw [beq_eq_false_iff_ne]; omega
  have hz1 : decide ((12 : Int) < (l.length : Int)) = false := by rw [decide_eq_false_iff_not]; omega
  go_enter Tryd.func27, Tryd.ntmps27
  go_wp2
  go_loopw [4, 15] (fun s i wr => ∃ k : Nat, k ≤ l.length ∧ i = .int .i64 k ∧ s = .int .i64 (sumTo l k) ∧ 0 ≤ sumTo l k ∧ sumTo l k ≤ 256 ∧ Below w.heap.size w wr ∧ chkFrom l k = chkFrom l 0) (fun _ i _ => l.length - (intOf i).toNat)
  case atStart => exact ⟨0, Nat.zero_le _, rfl, by rw [sumTo_zero], by rw [sumTo_zero]; omega, by rw [sumTo_zero]; omega, Below.refl _ _, rfl⟩
  case round =>
    obtain ⟨k, hk, rfl, rfl, hs0, hs1, hbel, hch⟩ := hrel
    have HC := Lib.hid hch
    clear hch
    by_cases hlt : k < l.length
    · obtain ⟨g, off, rfl, hg, hq⟩ : ∃ g off, a0 = some ⟨g, off, none⟩ ∧ g < w.heap.size ∧ ∀ j f, l[j]? = some f → w.cell? ⟨g, off + j * 2, none⟩ = some (.string f.1) ∧ w.cell? ⟨g, off + (j * 2 + 1), none⟩ = some (.int .i64 f.2) := by
        rcases HX.out with h0 | h0
        · rw [h0] at hlt; simp at hlt
        · exact h0
      have q0 := (hq k l[k] (by simp [hlt])).1
      have q1 := (hq k l[k] (by simp [hlt])).2
      rw [← hbel.cell (p := ⟨g, off + k * 2, none⟩) hg] at q0
      rw [← hbel.cell (p := ⟨g, off + (k * 2 + 1), none⟩) hg] at q1
      rw [← Nat.add_assoc] at q1
      have HM := HW.out l[k] (List.getElem_mem hlt)
      have HSS := Lib.hid (sumTo_succ hlt)
      have HBD := Lib.hid (fun (h : badAt l k l[k]) => chkFrom_bad hlt h)
      have HOK := Lib.hid (fun (h : ¬ badAt l k l[k]) => chkFrom_ok hlt h)
      have hST := Lib.hid (SeesF.take HV.out k (by omega))
      generalize l[k] = f at *
      obtain ⟨s, b⟩ := f
      simp only at q0 q1 HM
      obtain ⟨hsz, hbw⟩ := HM
      clear hq
      by_cases hname : nameOk s
      · have HN := Lib.hid (fun w => show Calls Tryd.prog 40 #[.string s] w (fun e w' => e = .returned (.bool true) ∧ w = w') from by rw [← decide_eq_true hname]; exact (name_any s w hsz).mono fun _ _ ⟨h1, h2⟩ => ⟨h1, h2.symm⟩)
        have HNO := Lib.hid hname
        clear hname
        by_cases hany : s = anyS
        · have HB := Lib.hid (show badAt l k (s, b) from .inr (.inl hany))
          have hqa := any_eq hany
          clear hany
          go_upto_region 9 with fail
          go_quiet ((go_at_call 40; exact Calls.quiet_of_same (swp (HN.out _))))
          go_wp2
          refine bodyPost_ret (v := .tuple #[.int .i64 40, .int .i64 (k : Int)]) (by simp [results, Tryd.results27, go_sem]) rfl ⟨by rw [← HC.out, HBD.out HB.out], below_drewN (bal hbel _) _⟩
        · have HNA := Lib.hid hany
          have hqa := any_ne hany
          clear hany
          by_cases hnone : s = noneS
          · have HB := Lib.hid (show badAt l k (s, b) from .inr (.inr (.inl hnone)))
            have hqn := none_eq hnone
            clear hnone
            go_upto_region 9 with fail
            go_quiet ((go_at_call 40; exact Calls.quiet_of_same (swp (HN.out _))))
            go_wp2
            refine bodyPost_ret (v := .tuple #[.int .i64 40, .int .i64 (k : Int)]) (by simp [results, Tryd.results27, go_sem]) rfl ⟨by rw [← HC.out, HBD.out HB.out], below_drewN (bal hbel _) _⟩
          · have HNN := Lib.hid hnone
            have hqn := none_ne hnone
            clear hnone
            by_cases hfd : ∃ f ∈ l.take k, f.1 = s
            · have HB := Lib.hid (show badAt l k (s, b) from .inr (.inr (.inr (.inl hfd))))
              have HF := Lib.hid hfd
              clear hfd
              go_upto_region 9 with fail
              generalize hW : World.alloc wr _ = W
              have hB : Blk W wr.heap.size 27 #[.string s, .int .i64 b] := by rw [← hW]; exact Blk.new _ _ _
              have hbW : Below w.heap.size w W := by rw [← hW]; exact bal hbel _
              clear hW
              have x0 : (0 : Int) ≤ (k : Int) := by omega
              have x1 : (k : Int) ≤ (cap0 : Int) := by omega
              have x2 : k ≤ cap0 := by omega
              have HR := Lib.hid (fun w' (h : Below W.heap.size W w') => find_yes (l.take k) _ s w' (hST.out.below (bnx hbW h)) HF.out)
              go_region_held3 (fun w' => FdS W wr.heap.size s b w')
                (with_reducible (first | assumption | exact FdS.start hB | exact hK2))
                (first | (go_at_call 40; refine (HN.out _).mono ?_; rintro e w' ⟨rfl, rfl⟩) | (go_at_call 28; refine (HR.out _ (by assumption : FdS _ _ _ _ _).2.2).mono ?_; rintro e w9 ⟨r, rfl, hr, hb9⟩; have hK2 := FdS.go hB (by assumption) hb9))
              go_wp2
              refine bodyPost_ret (v := .tuple #[.int .i64 40, .int .i64 (k : Int)]) (by simp [results, Tryd.results27, go_sem]) rfl ⟨by rw [← HC.out, HBD.out HB.out], bnx hbW hK2.2.2⟩
            · have HF := Lib.hid hfd
              clear hfd
              go_upto_region 9 with fail
              generalize hW : World.alloc wr _ = W
              have hB : Blk W wr.heap.size 27 #[.string s, .int .i64 b] := by rw [← hW]; exact Blk.new _ _ _
              have hbW : Below w.heap.size w W := by rw [← hW]; exact bal hbel _
              clear hW
              have x0 : (0 : Int) ≤ (k : Int) := by omega
              have x1 : (k : Int) ≤ (cap0 : Int) := by omega
              have x2 : k ≤ cap0 := by omega
              have HR := Lib.hid (fun w' (h : Below W.heap.size W w') => find_no (l.take k) _ s w' (hST.out.below (bnx hbW h)) HF.out)
              go_region_held3 (fun w' => FdS W wr.heap.size s b w')
                (with_reducible (first | assumption | exact FdS.start hB | exact hK2))
                (first | (go_at_call 40; refine (HN.out _).mono ?_; rintro e w' ⟨rfl, rfl⟩) | (go_at_call 28; refine (HR.out _ (by assumption : FdS _ _ _ _ _).2.2).mono ?_; rintro e w9 ⟨r, rfl, hr, hb9⟩; have hK2 := FdS.go hB (by assumption) hb9))
              have hB9 := hB.below hK2.2.2 hB.lt
              have hc9 := hB9.cell
              have hg9 := bnx hbW hK2.2.2
              go_upto_region 11 with fail
              have HR0 := Lib.hid hr
              clear hr hK2
              have hbd : -9223372036854775808 ≤ b ∧ b ≤ 9223372036854775807 := by
                have := hbw
                simp [Lit.wf, IntKind.min, IntKind.max, IntKind.bits, IntKind.signed] at this
                omega
              obtain ⟨hb0, hb1⟩ := hbd
              clear hbw
              by_cases hlo : b < 1
              · have HB := Lib.hid (show badAt l k (s, b) from .inr (.inr (.inr (.inr (.inl hlo)))))
                go_wp2
                refine bodyPost_ret (v := .tuple #[.int .i64 40, .int .i64 (k : Int)]) (by simp [results, Tryd.results27, go_sem]) rfl ⟨by rw [← HC.out, HBD.out HB.out], hg9⟩
              · have hlo' : 1 ≤ b := by omega
                by_cases hhi : 32 < b
                · have HB := Lib.hid (show badAt l k (s, b) from .inr (.inr (.inr (.inr (.inr (.inl hhi))))))
                  clear hlo
                  go_wp2
                  refine bodyPost_ret (v := .tuple #[.int .i64 40, .int .i64 (k : Int)]) (by simp [results, Tryd.results27, go_sem]) rfl ⟨by rw [← HC.out, HBD.out HB.out], hg9⟩
                · have hhi' : b ≤ 32 := by omega
                  clear hb0 hb1
                  by_cases hsm : 256 < sumTo l k + b
                  · have HB := Lib.hid (show badAt l k (s, b) from .inr (.inr (.inr (.inr (.inr (.inr hsm))))))
                    clear hlo hhi
                    go_wp2
                    refine bodyPost_ret (v := .tuple #[.int .i64 40, .int .i64 (k : Int)]) (by simp [results, Tryd.results27, go_sem]) rfl ⟨by rw [← HC.out, HBD.out HB.out], hg9⟩
                  · have hsm' : sumTo l k + b ≤ 256 := by omega
                    have HG := Lib.hid (show ¬ badAt l k (s, b) from by
                      rintro (h | h | h | h | h | h | h)
                      · exact h HNO.out
                      · exact HNA.out h
                      · exact HNN.out h
                      · exact HF.out h
                      · exact hlo h
                      · exact hhi h
                      · exact hsm h)
                    clear hlo hhi hsm
                    go_wp2
                    go_roundw
                    case rel => exact ⟨k + 1, by omega, by go_num, by rw [HSS.out], by rw [HSS.out]; omega, by rw [HSS.out]; omega, hg9, by rw [← HOK.out HG.out]; exact HC.out⟩
                    case measure => simp [intOf]; omega
      · have HB := Lib.hid (show badAt l k (s, b) from .inl hname)
        have HN := Lib.hid (fun w => show Calls Tryd.prog 40 #[.string s] w (fun e w' => e = .returned (.bool false) ∧ w = w') from by rw [← decide_eq_false hname]; exact (name_any s w hsz).mono fun _ _ ⟨h1, h2⟩ => ⟨h1, h2.symm⟩)
        clear hname
        go_upto_region 9 with fail
        go_quiet ((go_at_call 40; exact Calls.quiet_of_same (swp (HN.out _))))
        go_wp2
        refine bodyPost_ret (v := .tuple #[.int .i64 40, .int .i64 (k : Int)]) (by simp [results, Tryd.results27, go_sem]) rfl ⟨by rw [← HC.out, HBD.out HB.out], below_drewN (bal hbel _) _⟩
    · have hkk : k = l.length := by omega
      have HE := Lib.hid (show chkFrom l 0 = (0, 0) from by rw [← HC.out]; exact chkFrom_end hlt)
      go_wp2
      refine bodyPost_ret (v := .tuple #[.int .i64 0, .int .i64 0]) (by simp [results, Tryd.results27, go_sem]) rfl ⟨by rw [HE.out], hbel⟩
end Go.Proofs.YtlakglphjhoodaaDoor.Fl

namespace Go.Proofs.YtlakglphjhoodaaDoor.Fl
open Go.RowKit Mm Law
end Go.Proofs.YtlakglphjhoodaaDoor.Fl

namespace Go.Proofs.YtlakglphjhoodaaDoor.Law
theorem len_argF {H : Type} {P : Program} {ts : List TypeId} {ds : List (DataW H)} {j : Nat} {t e : TypeId} {d : DataW H} {l : List Fld} (h : (DataW.weightsEach P ts ds).all (· ≤ reachBytes) = true) (ht : ts[j]? = some t) (hd : ds[j]? = some d) (hu : P.underlying t = some (.slice e)) (hb : P.bytesOf e = 24)
    (hD : (d = .nil ∧ l = []) ∨ ∃ es spare, d = .slice es spare ∧ es.length = l.length) : l.length * 24 ≤ 140737488355328 := by
  rcases hD with ⟨_, rfl⟩ | ⟨es, spare, rfl, he⟩
  · simp
  · have h1 := sized_slice h ht hd hu
    have h2 := reachBytes_lt
    rw [hb, he] at h1
    omega
end Go.Proofs.YtlakglphjhoodaaDoor.Law
namespace Go.Proofs.YtlakglphjhoodaaDoor.Fl
open Go.RowKit Mm Law
theorem chk_cases (l : List Fld) : (12 < l.length ∧ chk l = (2, 0)) ∨ (l = [] ∧ chk l = (40, 0)) ∨ (0 < l.length ∧ l.length ≤ 12 ∧ chk l = chkFrom l 0) := by
  unfold chk
  by_cases h : 12 < l.length
  · exact .inl ⟨h, by rw [if_pos h]⟩
  · by_cases h0 : l = []
    · exact .inr (.inl ⟨h0, by rw [if_neg h, if_pos h0]⟩)
    · exact .inr (.inr ⟨List.length_pos_iff.2 h0, by omega, by rw [if_neg h, if_neg h0]⟩)
theorem check_any (l : List Fld) (v : Value) (w : World) (hv : SeesF w v l) : Calls Tryd.prog 27 #[v] w (Ans w (chk l)) := by
  rcases chk_cases l with ⟨h, e⟩ | ⟨h, e⟩ | ⟨h, h2, e⟩
  · rw [e]; exact check_long l v w hv h
  · rw [e]; subst h; exact check_nil v w hv
  · rw [e]; exact check_main l v w hv h h2
theorem num_any (x : Int) (w : World) (h : -9223372036854775808 ≤ x ∧ x ≤ 9223372036854775807) : Calls Tryd.prog 20 #[.int .i64 x] w fun e w' => e = .returned (.int .i64 x) ∧ w = w' := by
  obtain ⟨h1, h2⟩ := h
  go_enter Tryd.func20, Tryd.ntmps20
  go_wp2
  go_ret
  exact ⟨rfl, rfl⟩
theorem nil_seesF (w : World) : SeesF w (.slice none 0 0) [] := ⟨none, 0, rfl, Nat.le_refl _, Nat.zero_le _, .inl rfl, by simp⟩
theorem chkFrom_form (l : List Fld) : ∀ (n k : Nat), l.length - k ≤ n → (chkFrom l k).1 = 0 ∧ (chkFrom l k).2 = 0 ∨ (chkFrom l k).1 = 40 ∧ 0 ≤ (chkFrom l k).2 ∧ (chkFrom l k).2 < l.length := by
  intro n
  induction n with
  | zero => intro k hn; rw [chkFrom_end (by omega)]; exact .inl ⟨rfl, rfl⟩
  | succ n ih =>
    intro k hn
    by_cases hk : k < l.length
    · by_cases hb : badAt l k l[k]
      · rw [chkFrom_bad hk hb]; exact .inr ⟨rfl, by simp, by simpa using hk⟩
      · rw [chkFrom_ok hk hb]; exact ih _ (by omega)
    · rw [chkFrom_end hk]; exact .inl ⟨rfl, rfl⟩
theorem chk_form (l : List Fld) : ((chk l).1 = 0 ∨ (chk l).1 = 2 ∨ (chk l).1 = 40) := by
  rcases chk_cases l with ⟨h, e⟩ | ⟨h, e⟩ | ⟨h, h2, e⟩
  · rw [e]; exact .inr (.inl rfl)
  · rw [e]; exact .inr (.inr rfl)
  · rw [e]
    rcases chkFrom_form l l.length 0 (by omega) with h | h
    · exact .inl h.1
    · exact .inr (.inr h.1)
end Go.Proofs.YtlakglphjhoodaaDoor.Fl
