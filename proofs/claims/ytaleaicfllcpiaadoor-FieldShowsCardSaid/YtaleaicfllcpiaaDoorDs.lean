/- Show: the program's show. -/
import Derived.Test.YtaleaicfllcpiaaDoorDc
namespace Go.Proofs.YtaleaicfllcpiaaDoor.Fl
open Go.RowKit Mm Law
set_option linter.unusedVariables false
set_option linter.unusedSimpArgs false
set_option linter.unusedSectionVars false
theorem ib_mem (c : UInt8) : ∀ l : List UInt8, (0 ≤ Lib.indexByte l c) ↔ c ∈ l := by
  intro l
  induction l with
  | nil => simp [Lib.indexByte]
  | cons b l ih =>
    by_cases hb : b = c
    · subst hb; simp [Lib.indexByte]
    · have hb' : (b == c) = false := by rw [beq_eq_false_iff_ne]; exact hb
      have hge := Lib.indexByte_ge l c
      simp only [Lib.indexByte, hb', Bool.false_eq_true, if_false, List.mem_cons]
      rw [← ih]
      have hcb : ¬ c = b := fun h => hb h.symm
      by_cases h1 : Lib.indexByte l c = -1
      · have : (Lib.indexByte l c == -1) = true := by simp [h1]
        simp [h1, hcb]
      · have : (Lib.indexByte l c == -1) = false := by rw [beq_eq_false_iff_ne]; exact h1
        simp only [this, Bool.false_eq_true, if_false, hcb, false_or]
        omega
theorem trim_form (S : List UInt8) : ∃ m, S = Lib.trimRightB S 120 ++ List.replicate m 120 ∧ ∀ b, (Lib.trimRightB S 120).getLast? = some b → b ≠ 120 := by
  unfold Lib.trimRightB
  refine ⟨(S.reverse.takeWhile (· == 120)).length, ?_, ?_⟩
  · have h1 : S.reverse.takeWhile (· == 120) = List.replicate (S.reverse.takeWhile (· == 120)).length 120 := by
      rw [List.eq_replicate_iff]
      exact ⟨rfl, fun b hb => by simpa using List.all_eq_true.1 (List.all_takeWhile (p := (· == (120 : UInt8))) (l := S.reverse)) b hb⟩
    have h2 := List.takeWhile_append_dropWhile (p := (· == (120 : UInt8))) (l := S.reverse)
    have h3 := congrArg List.reverse h2
    rw [List.reverse_append, List.reverse_reverse, h1, List.reverse_replicate] at h3
    exact h3.symm
  · intro b hb
    rw [List.getLast?_reverse] at hb
    intro e
    subst e
    obtain ⟨a, r, har⟩ : ∃ a r, S.reverse.dropWhile (· == 120) = a :: r := by
      cases h : S.reverse.dropWhile (· == 120) with
      | nil => rw [h] at hb; simp at hb
      | cons a r => exact ⟨a, r, rfl⟩
    have h2 := List.head_dropWhile_not (p := (· == (120 : UInt8))) (l := S.reverse) (by rw [har]; simp)
    rw [har] at hb
    simp only [har, List.head_cons] at h2
    simp only [List.head?_cons, Option.some.injEq] at hb
    rw [hb] at h2
    exact absurd h2 (by decide)
theorem cnt_app (A B : List UInt8) : cntN (A ++ B) = cntN A + cntN B := by unfold cntN; rw [List.filter_append, List.length_append]
theorem cnt_x (m : Nat) : cntN (List.replicate m 120) = 0 := by unfold cntN; simp
theorem cnt_no {A : List UInt8} (h : (120 : UInt8) ∉ A) : cntN A = A.length := by
  unfold cntN
  rw [List.filter_eq_self.2]
  intro b hb
  simp
  intro e
  exact h (e ▸ hb)
theorem show_a {S A : List UInt8} {m : Nat} (hS : S = A ++ List.replicate m 120) (h : (120 : UInt8) ∉ A) : fstP S ∧ cntN S = A.length := by
  subst hS
  refine ⟨fun i hi hc => ?_, by rw [cnt_app, cnt_x, cnt_no h]; rfl⟩
  have hiA : i < A.length := by
    refine Nat.lt_of_not_le fun hge => hc ?_
    rw [List.getElem_append_right hge]
    simp
  rw [List.take_append_of_le_length (by omega), cnt_no (fun hm => h (List.mem_of_mem_take hm)), List.length_take]
  omega
theorem cnt_lt {A : List UInt8} (h : (120 : UInt8) ∈ A) : cntN A < A.length := by
  unfold cntN
  refine Nat.lt_of_le_of_ne (List.length_filter_le _ _) fun e => ?_
  have := List.length_filter_eq_length_iff.1 e 120 h
  simp at this
theorem show_b {S A : List UInt8} {m : Nat} (hS : S = A ++ List.replicate m 120) (hl : ∀ b, A.getLast? = some b → b ≠ 120) (h : (120 : UInt8) ∈ A) : ¬ fstP S ∧ cntN S ≠ S.length := by
  subst hS
  have hA : 0 < A.length := List.length_pos_of_mem h
  have hlt := cnt_lt h
  refine ⟨fun hf => ?_, by rw [cnt_app, cnt_x, List.length_append]; omega⟩
  have h1 := hf (A.length - 1) (by rw [List.length_append]; omega) (by
    rw [List.getElem_append_left (by omega)]
    refine hl _ ?_
    rw [List.getLast?_eq_getElem?, List.getElem?_eq_getElem (by omega)])
  rw [show A.length - 1 + 1 = A.length from by omega, List.take_left' rfl] at h1
  omega
open Classical in
noncomputable def partB (S : List UInt8) : ByteArray := if cntN S = S.length then numB2 (numB S) else if fstP S then quadB (numB S) ++ ⟨#[47]⟩ ++ ddT (cntN S) else ⟨#[37]⟩ ++ str S
theorem part_n {S : List UInt8} (h : cntN S = S.length) : partB S = numB2 (numB S) := if_pos h
theorem part_q {S : List UInt8} (h : cntN S ≠ S.length) (h2 : fstP S) : partB S = quadB (numB S) ++ ⟨#[47]⟩ ++ ddT (cntN S) := by unfold partB; rw [if_neg h, if_pos h2]
theorem part_p {S : List UInt8} (h : cntN S ≠ S.length) (h2 : ¬ fstP S) : partB S = ⟨#[37]⟩ ++ str S := by unfold partB; rw [if_neg h, if_neg h2]
theorem quad_size {v : Nat} : (quadB v).size ≤ 100 := by
  have d1 := ddT_size (n := v / 16777216 % 256) (by omega)
  have d2 := ddT_size (n := v / 65536 % 256) (by omega)
  have d3 := ddT_size (n := v / 256 % 256) (by omega)
  have d4 := ddT_size (n := v % 256) (by omega)
  have e : (⟨#[46]⟩ : ByteArray).size = 1 := rfl
  unfold quadB
  simp only [ByteArray.size_append, e]
  omega
set_option maxRecDepth 100000 in
set_option maxHeartbeats 4000000 in
theorem show_any (s : ByteArray) (hs : s.size ≤ 32) (w : World) (ht : Tab w) :
    Calls Tryd.prog 67 #[.string s] w fun e w' => e = .returned (.string (partB s.data.toList)) ∧ Below w.heap.size w w' := by
  have hl : s.data.toList.length = s.size := len_s s
  have HN := Lib.hid (fun w => number_any s hs w)
  have HTR := Lib.hid (fun w => Tryd.strings_TrimRight_one s 120 (by decide) w (by omega))
  obtain ⟨m, hS, hlast⟩ := trim_form s.data.toList
  have hv : numB s.data.toList < 4294967296 := by
    have := numB_bd (l := s.data.toList) (by omega) s.data.toList.length
    rwa [List.take_length] at this
  have HST := Lib.hid (show str s.data.toList = s from str_of s)
  obtain ⟨S, hSS⟩ : ∃ S, s.data.toList = S := ⟨_, rfl⟩
  rw [hSS] at hl HN HTR hS hlast hv HST ⊢
  clear hSS
  generalize Lib.trimRightB S 120 = A at *
  have HC := Lib.hid (fun w => Tryd.strings_Contains_one (str A) 120 w)
  rw [str_list] at HC
  have hAs : (str A).size = A.length := str_size A
  have hlen := congrArg List.length hS
  rw [List.length_append, List.length_replicate] at hlen
  have HQ := Lib.hid (fun w' (h : Below w.heap.size w w') => quad_any (numB S) hv w' (tab_below ht h))
  have HI := Lib.hid (fun w' (n : Nat) (hn : n ≤ 9223372036854775807) (h : Below w.heap.size w w') => itoa_any n hn w' (tab_below ht h))
  by_cases hm : (120 : UInt8) ∈ A
  · have hb := show_b hS hlast hm
    have HP := Lib.hid (part_p hb.2 hb.1)
    rw [show decide (0 ≤ Lib.indexByte A 120) = true from decide_eq_true ((ib_mem 120 A).2 hm)] at HC
    rw [HP.out, HST.out]
    have hs1 : ¬ 9223372036854775807 < 1 + s.size := by omega
    clear hb hm hS hlast ht
    go_enter Tryd.func67, Tryd.ntmps67
    go_wp2_with fail
    refine (HN.out _).mono ?_
    rintro e w1 ⟨rfl, rfl⟩
    go_wp2_with fail
    refine (HTR.out _).mono ?_
    rintro e w2 ⟨rfl, rfl⟩
    go_wp2_with fail
    refine (HC.out _).mono ?_
    rintro e w3 ⟨rfl, rfl⟩
    go_wp2_with fail
    go_ret
    exact ⟨rfl, Below.refl _ _⟩
  · have hb := show_a hS hm
    rw [show decide (0 ≤ Lib.indexByte A 120) = false from decide_eq_false (fun h => hm ((ib_mem 120 A).1 h))] at HC
    rw [show (⟨A.toArray⟩ : ByteArray) = str A from rfl] at HTR
    generalize hhd : str A = hd at *
    have HB := Lib.hid hb
    clear hm hS hlast ht hhd
    by_cases hmz : m = 0
    · have HP := Lib.hid (part_n (show cntN S = S.length from by rw [HB.out.2]; omega))
      have hxx : hd.size = s.size := by omega
      have HXX := Lib.hid hxx
      rw [HP.out]
      clear hlen hAs hmz hl hxx
      by_cases hsm : numB S < 65536
      · have HNB := Lib.hid (show numB2 (numB S) = ddT (numB S) from if_pos hsm)
        rw [HNB.out]
        have HI2 := Lib.hid (fun w' (h : Below w.heap.size w w') => HI.out w' (numB S) (by omega) h)
        generalize numB S = v at *
        have hx2 : (v : Int) < 65536 := by omega
        clear hsm
        go_enter Tryd.func67, Tryd.ntmps67
        go_wp2_with fail
        refine (HN.out _).mono ?_
        rintro e w1 ⟨rfl, rfl⟩
        go_wp2_with fail
        refine (HTR.out _).mono ?_
        rintro e w2 ⟨rfl, rfl⟩
        go_wp2_with fail
        refine (HC.out _).mono ?_
        rintro e w3 ⟨rfl, rfl⟩
        have hx : ¬ hd.size < s.size := by have := HXX.out; omega
        go_wp2_with fail
        refine (HI2.out _ (Below.refl _ _)).mono ?_
        rintro e w4 ⟨rfl, hb4⟩
        go_wp2_with fail
        go_ret
        exact ⟨rfl, hb4⟩
      · have HNB := Lib.hid (show numB2 (numB S) = quadB (numB S) from if_neg hsm)
        rw [HNB.out]
        generalize numB S = v at *
        have HX2 := Lib.hid (show ¬ v < 65536 from hsm)
        clear hsm hv
        go_enter Tryd.func67, Tryd.ntmps67
        go_wp2_with fail
        refine (HN.out _).mono ?_
        rintro e w1 ⟨rfl, rfl⟩
        go_wp2_with fail
        refine (HTR.out _).mono ?_
        rintro e w2 ⟨rfl, rfl⟩
        go_wp2_with fail
        refine (HC.out _).mono ?_
        rintro e w3 ⟨rfl, rfl⟩
        have hx : ¬ hd.size < s.size := by have := HXX.out; omega
        have hx2 : decide ((v : Int) < 65536) = false := decide_eq_false (by have := HX2.out; omega)
        clear hx
        have hx : decide ((hd.size : Int) < (s.size : Int)) = false := decide_eq_false (by have := HXX.out; omega)
        clear hs
        clear hx
        have HHX := Lib.hid (show ¬ hd.size < s.size by have := HXX.out; omega)
        have HHV := Lib.hid (show ¬ (v : Int) < 65536 by have := HX2.out; omega)
        clear hb
        have hx := HHX.out
        go_upto_region 7 with fail
        clear hx
        have hx2 := HHV.out
        go_upto_region 9 with fail
        clear hx2
        go_wp2_with fail
        refine (HQ.out _ (Below.refl _ _)).mono ?_
        rintro e w4 ⟨rfl, hb4⟩
        go_wp2_with fail
        go_ret
        exact ⟨rfl, hb4⟩
    · have HP := Lib.hid (part_q (show cntN S ≠ S.length from by rw [HB.out.2]; omega) HB.out.1)
      rw [HP.out, HB.out.2, ← hAs]
      have hx : (hd.size : Int) < (s.size : Int) := by omega
      have HI2 := Lib.hid (fun w' (h : Below w.heap.size w w') => HI.out w' hd.size (by omega) h)
      have hq := quad_size (v := numB S)
      have hd1 := ddT_size (n := hd.size) (by omega)
      have hs1 : ¬ 9223372036854775807 < (quadB (numB S)).size + 1 := by omega
      have hs2 : ¬ 9223372036854775807 < (quadB (numB S)).size + 1 + (ddT hd.size).size := by omega
      generalize quadB (numB S) = qq at *
      generalize ddT hd.size = dd at *
      generalize numB S = v at *
      clear hlen hAs hq hd1
      go_enter Tryd.func67, Tryd.ntmps67
      go_wp2_with fail
      refine (HN.out _).mono ?_
      rintro e w1 ⟨rfl, rfl⟩
      go_wp2_with fail
      refine (HTR.out _).mono ?_
      rintro e w2 ⟨rfl, rfl⟩
      go_wp2_with fail
      refine (HC.out _).mono ?_
      rintro e w3 ⟨rfl, rfl⟩
      go_wp2_with fail
      refine (HQ.out _ (Below.refl _ _)).mono ?_
      rintro e w4 ⟨rfl, hb4⟩
      go_wp2_with fail
      refine (HI2.out _ hb4).mono ?_
      rintro e w5 ⟨rfl, hb5⟩
      go_wp2_with fail
      go_ret
      exact ⟨rfl, bnx hb4 hb5⟩
end Go.Proofs.YtaleaicfllcpiaaDoor.Fl
