import Derived.Test.YtdiijannpfogdaaLw
import Derived.Test.YtdiijannpfogdaaLq
import Derived.Deep.RegionHeld3
namespace Go.Proofs.Ytdiijannpfogdaa.Tn
open Go.RowKit
attribute [local go_sem] cv cs wv eq_arr
/-- the plain law: Meet is the greatest cube within both; Within both ways is equality -/
theorem within_self {t : List UInt8} (h : isCube t) : withinOk t t := ⟨⟨fun e => by rw [e] at h; simp [isCube] at h, rfl⟩, fun _ _ => .inr rfl⟩
theorem within_antisymm {t u : List UInt8} (h : withinOk t u) (h' : withinOk u t) : t = u := by
  rw [← up_byt t, ← up_byt u, ← h.1.2]
  refine up_congr fun i hi => ?_
  rcases h.2 i hi with h1 | h1
  · rcases h'.2 i (by have := h.1.2; omega) with h2 | h2
    · rw [h1, h2]
    · exact h2.symm
  · exact h1
theorem within_both {a b d : List UInt8} : (withinOk d a ∧ withinOk d b) ↔ (meetOk a b ∧ withinOk d (meetT a b)) := by
  constructor
  · rintro ⟨h1, h2⟩
    have hl : a.length = b.length := by rw [← h1.1.2, ← h2.1.2]
    have ha : a ≠ [] := fun e => h1.1.1 (List.eq_nil_of_length_eq_zero (by rw [h1.1.2, e]; rfl))
    have hm : meetOk a b := by
      refine ⟨⟨ha, hl⟩, fun i hi hc => ?_⟩
      have hi' : i < d.length := by rw [h1.1.2]; exact hi
      rcases h1.2 i hi' with e1 | e1
      · exact hc.1 e1
      · rcases h2.2 i hi' with e2 | e2
        · exact hc.2.1 e2
        · exact hc.2.2 (e1.symm.trans e2)
    refine ⟨hm, ⟨h1.1.1, ?_⟩, fun i hi => ?_⟩
    · unfold meetT; rw [if_pos hm]; simp; exact h1.1.2
    · have hia : i < a.length := by rw [← h1.1.2]; exact hi
      unfold meetT
      rw [if_pos hm, byt_up _ _ _ hia]
      unfold meetF
      split
      · exact h2.2 i hi
      · exact (h1.2 i hi).elim (fun e => absurd e (by assumption)) .inr
  · rintro ⟨hm, h⟩
    unfold meetT at h
    rw [if_pos hm] at h
    have hl : d.length = a.length := by simpa using h.1.2
    have hfit : d ≠ [] := h.1.1
    have key : ∀ i, i < d.length → meetF a b i = 120 ∨ byt d i = meetF a b i := fun i hi => by
      have := h.2 i hi
      rw [byt_up _ _ _ (by omega)] at this
      exact this
    refine ⟨⟨⟨hfit, hl⟩, fun i hi => ?_⟩, ⟨⟨hfit, by rw [hl, hm.1.2]⟩, fun i hi => ?_⟩⟩
    · have hk := key i hi
      unfold meetF at hk
      by_cases e : byt a i = 120
      · exact .inl e
      · rw [if_neg e] at hk
        exact .inr (hk.resolve_left e)
    · have hk := key i hi
      unfold meetF at hk
      by_cases e : byt a i = 120
      · rw [if_pos e] at hk
        exact hk
      · rw [if_neg e] at hk
        by_cases e2 : byt b i = 120
        · exact .inl e2
        · have h3 := hk.resolve_left e
          have h4 := hm.2 i (by omega)
          by_cases e3 : byt a i = byt b i
          · exact .inr (h3.trans e3)
          · exact absurd ⟨e, e2, e3⟩ h4
theorem cubeT_is {t : List UInt8} (h : isCube t) : cubeT t = t := by
  have h1 := h.1.2
  have e : parseE t = 0 := by
    unfold parseE
    rw [if_neg (by omega), if_neg (fun e => by rw [e] at h; simp [isCube] at h), if_pos h.2]
  unfold cubeT
  rw [if_pos e]
theorem lcube_yes (s : ByteArray) (h : isCube s.data.toList) (hs : s.size ≤ maxLen) (w : World) : Calls Try.prog 43 #[.string s] w fun e w' => e = .returned (.bool true) ∧ w = w' := by
  have := lcube_any s hs w; rw [decide_eq_true h] at this; exact this
theorem lcube_no (s : ByteArray) (h : ¬ isCube s.data.toList) (hs : s.size ≤ maxLen) (w : World) : Calls Try.prog 43 #[.string s] w fun e w' => e = .returned (.bool false) ∧ w = w' := by
  have := lcube_any s hs w; rw [decide_eq_false h] at this; exact this
theorem order_cases (s1 s2 s3 : ByteArray) (h : ¬ (isCube s1.data.toList ∧ isCube s2.data.toList ∧ isCube s3.data.toList ∧ s1.size = s2.size ∧ s1.size = s3.size)) :
    ¬ isCube s1.data.toList ∨ (isCube s1.data.toList ∧ ¬ isCube s2.data.toList) ∨ (isCube s1.data.toList ∧ isCube s2.data.toList ∧ ¬ isCube s3.data.toList) ∨
    (isCube s1.data.toList ∧ isCube s2.data.toList ∧ isCube s3.data.toList ∧ ¬ s1.size = s2.size) ∨ (isCube s1.data.toList ∧ isCube s2.data.toList ∧ isCube s3.data.toList ∧ s1.size = s2.size ∧ ¬ s1.size = s3.size) := by
  by_cases a : isCube s1.data.toList <;> by_cases b : isCube s2.data.toList <;> by_cases c : isCube s3.data.toList <;> by_cases d : s1.size = s2.size <;> by_cases e : s1.size = s3.size <;> simp_all
/-- not three cubes of one width -/
theorem xx_text : ((str (allT 2)).toList == [120, 120]) = true := by rw [ByteArray.toList_eq]; decide
theorem sz_ne {a b : ByteArray} (h : ¬ a.size = b.size) : ((a.size : Int) != (b.size : Int)) = true := by rw [bne_iff_ne]; omega
theorem sz_eq {a b : ByteArray} (h : a.size = b.size) : ((a.size : Int) != (b.size : Int)) = false := by rw [h]; simp
set_option maxHeartbeats 4000000 in
theorem order_not (s1 s2 s3 : ByteArray) (h1 : s1.size ≤ maxLen) (h2 : s2.size ≤ maxLen) (h3 : s3.size ≤ maxLen) (w : World)
    (h : ¬ (isCube s1.data.toList ∧ isCube s2.data.toList ∧ isCube s3.data.toList ∧ s1.size = s2.size ∧ s1.size = s3.size)) :
    Calls Try.prog 11 #[.string s1, .string s2, .string s3] w fun e w' => e = .returned (.bool true) ∧ Below w.heap.size w w' := by
  obtain ⟨n1, c1, o1, hC1⟩ : ∃ n c o, Cub (cubeT s1.data.toList) n c o := ⟨_, _, _, Cub.of _⟩
  obtain ⟨n2, c2, o2, hC2⟩ : ∃ n c o, Cub (cubeT s2.data.toList) n c o := ⟨_, _, _, Cub.of _⟩
  obtain ⟨n3, c3, o3, hC3⟩ : ∃ n c o, Cub (cubeT s3.data.toList) n c o := ⟨_, _, _, Cub.of _⟩
  have H1 := Lib.hid hC1
  have H2 := Lib.hid hC2
  have H3 := Lib.hid hC3
  have hx := xx_text
  have HN := Lib.hid (order_cases s1 s2 s3 h)
  clear hC1 hC2 hC3 h
  go_enter Try.func11, Try.ntmps11
  go_wp2_with fail
  refine (parse_s s1 h1 H1.out _).mono ?_
  rintro e w1 ⟨rfl, hb1⟩
  go_wp2_with fail
  refine (parse_s s2 h2 H2.out _).mono ?_
  rintro e w2 ⟨rfl, hb2⟩
  have g2 := bnx (bal hb1 (.cells (cs n1 c1 o1) 30)) hb2
  go_wp2_with fail
  refine (parse_s s3 h3 H3.out _).mono ?_
  rintro e w3 ⟨rfl, hb3⟩
  have g3 := bnx (bal g2 (.cells (cs n2 c2 o2) 30)) hb3
  have g4 := bal g3 (.cells (cs n3 c3 o3) 30)
  rcases HN.out with q1 | ⟨q1, q2⟩ | ⟨q1, q2, q3⟩ | ⟨q1, q2, q3, q4⟩ | ⟨q1, q2, q3, q4, q5⟩
  · have K1 := Lib.hid (lcube_no s1 q1 h1)
    clear q1 HN
    go_wp2_with (first | (go_at_call 43; with_reducible refine (K1.out _).mono ?_; rintro e w' ⟨rfl, rfl⟩) | (go_at_call 29; refine (all_any 2 _).mono ?_; rintro e w4 ⟨n4, c4, o4, hC4, rfl, hb4⟩; have H4 := Lib.hid hC4; clear hC4) | (go_at_call 44; refine (text_any _ _ _ _ _ H4.out).mono ?_; rintro e w5 ⟨rfl, hb5⟩))
    go_ret
    exact ⟨rfl, bnx (bnx g4 hb4) hb5⟩
  · have K1 := Lib.hid (lcube_yes s1 q1 h1)
    have K2 := Lib.hid (lcube_no s2 q2 h2)
    clear q1 q2 HN
    go_wp2_with (first | (go_at_call 43; with_reducible refine (K1.out _).mono ?_; rintro e w' ⟨rfl, rfl⟩) | (go_at_call 43; with_reducible refine (K2.out _).mono ?_; rintro e w' ⟨rfl, rfl⟩) | (go_at_call 29; refine (all_any 2 _).mono ?_; rintro e w4 ⟨n4, c4, o4, hC4, rfl, hb4⟩; have H4 := Lib.hid hC4; clear hC4) | (go_at_call 44; refine (text_any _ _ _ _ _ H4.out).mono ?_; rintro e w5 ⟨rfl, hb5⟩))
    go_ret
    exact ⟨rfl, bnx (bnx g4 hb4) hb5⟩
  · have K1 := Lib.hid (lcube_yes s1 q1 h1)
    have K2 := Lib.hid (lcube_yes s2 q2 h2)
    have K3 := Lib.hid (lcube_no s3 q3 h3)
    clear q1 q2 q3 HN
    go_wp2_with (first | (go_at_call 43; with_reducible refine (K1.out _).mono ?_; rintro e w' ⟨rfl, rfl⟩) | (go_at_call 43; with_reducible refine (K2.out _).mono ?_; rintro e w' ⟨rfl, rfl⟩) | (go_at_call 43; with_reducible refine (K3.out _).mono ?_; rintro e w' ⟨rfl, rfl⟩) | (go_at_call 29; refine (all_any 2 _).mono ?_; rintro e w4 ⟨n4, c4, o4, hC4, rfl, hb4⟩; have H4 := Lib.hid hC4; clear hC4) | (go_at_call 44; refine (text_any _ _ _ _ _ H4.out).mono ?_; rintro e w5 ⟨rfl, hb5⟩))
    go_ret
    exact ⟨rfl, bnx (bnx g4 hb4) hb5⟩
  · have K1 := Lib.hid (lcube_yes s1 q1 h1)
    have K2 := Lib.hid (lcube_yes s2 q2 h2)
    have K3 := Lib.hid (lcube_yes s3 q3 h3)
    have t4 := sz_ne q4
    clear q1 q2 q3 q4 HN
    go_wp2_with (first | (go_at_call 43; with_reducible refine (K1.out _).mono ?_; rintro e w' ⟨rfl, rfl⟩) | (go_at_call 43; with_reducible refine (K2.out _).mono ?_; rintro e w' ⟨rfl, rfl⟩) | (go_at_call 43; with_reducible refine (K3.out _).mono ?_; rintro e w' ⟨rfl, rfl⟩) | (go_at_call 29; refine (all_any 2 _).mono ?_; rintro e w4 ⟨n4, c4, o4, hC4, rfl, hb4⟩; have H4 := Lib.hid hC4; clear hC4) | (go_at_call 44; refine (text_any _ _ _ _ _ H4.out).mono ?_; rintro e w5 ⟨rfl, hb5⟩))
    go_ret
    exact ⟨rfl, bnx (bnx g4 hb4) hb5⟩
  · have K1 := Lib.hid (lcube_yes s1 q1 h1)
    have K2 := Lib.hid (lcube_yes s2 q2 h2)
    have K3 := Lib.hid (lcube_yes s3 q3 h3)
    have t4 := sz_eq q4
    have t5 := sz_ne q5
    clear q1 q2 q3 q4 q5 HN
    go_wp2_with (first | (go_at_call 43; with_reducible refine (K1.out _).mono ?_; rintro e w' ⟨rfl, rfl⟩) | (go_at_call 43; with_reducible refine (K2.out _).mono ?_; rintro e w' ⟨rfl, rfl⟩) | (go_at_call 43; with_reducible refine (K3.out _).mono ?_; rintro e w' ⟨rfl, rfl⟩) | (go_at_call 29; refine (all_any 2 _).mono ?_; rintro e w4 ⟨n4, c4, o4, hC4, rfl, hb4⟩; have H4 := Lib.hid hC4; clear hC4) | (go_at_call 44; refine (text_any _ _ _ _ _ H4.out).mono ?_; rintro e w5 ⟨rfl, hb5⟩))
    go_ret
    exact ⟨rfl, bnx (bnx g4 hb4) hb5⟩
theorem Cub.of_is {t : List UInt8} (h : isCube t) : ∃ n c o, Cub t n c o := ⟨_, _, _, by have := Cub.of t; rw [cubeT_is h] at this; exact this⟩
theorem within_lit {t u : List UInt8} {n m : Nat} {c o d p : Nat → Bool} (h : Cub t n c o) (h' : Cub u m d p) (b : Bool) (hb : decide (withinOk t u) = b) (w : World) :
    Calls Try.prog 41 #[cv n c o, cv m d p] w fun e w' => e = .returned (.bool b) ∧ Below w.heap.size w w' := by
  have := within_any h h' w
  rw [hb] at this
  exact this
theorem meet_lit {t u : List UInt8} {n m : Nat} {c o d p : Nat → Bool} (h : Cub t n c o) (h' : Cub u m d p) (b : Bool) (hb : decide (meetOk t u) = b) (w : World) :
    Calls Try.prog 36 #[cv n c o, cv m d p] w fun e w' => ∃ n' c' o', Cub (meetT t u) n' c' o' ∧ e = .returned (.tuple #[cv n' c' o', .bool b]) ∧ Below w.heap.size w w' := by
  have := meet_any h h' w
  rw [hb] at this
  exact this
attribute [local go_sem] cv cs wv eq_arr
theorem sl_eq (a b : ByteArray) {E : Bool} (h : decide (a.data.toList = b.data.toList) = E) : (a.toList == b.toList) = E := by
  rw [ByteArray.toList_eq, ByteArray.toList_eq, ← h, Bool.eq_iff_iff]; simp
theorem eq_lit {t t' : List UInt8} {n n' : Nat} {c c' o o' : Nat → Bool} (h : Cub t n c o) (h' : Cub t' n' c' o') (E : Bool) (hE : decide (t = t') = E) (w : World) : (binOp .eql 30 (cv n c o) (cv n' c' o')).run Try.prog w = .ok (.bool E) w := by
  rw [← hE]; exact eq_two h h' w
/-- What the last region keeps of the two blocks that it loads. -/
def OrdK (t : TypeId) (g g' : Nat) (C C' : Array Value) (w w' : World) : Prop := Blk w' g t C ∧ Blk w' g' t C' ∧ Below w.heap.size w w'
theorem ordK0 {t : TypeId} {g g' : Nat} {C C' : Array Value} {w w' : World} (h : Blk w' g t C) (h' : Blk w' g' t C') (hb : Below w.heap.size w w') :
    (∀ i, w'.drew.cell? ⟨g, i, none⟩ = C[i]?) ∧ (∀ i, w'.drew.cell? ⟨g', i, none⟩ = C'[i]?) ∧ OrdK t g g' C C' w w'.drew := ⟨h.drew.cell, h'.drew.cell, h.drew, h'.drew, hb.drew⟩
theorem ordK {t : TypeId} {g g' : Nat} {C C' : Array Value} {w w' w2 : World} (h : (∀ i, w'.cell? ⟨g, i, none⟩ = C[i]?) ∧ (∀ i, w'.cell? ⟨g', i, none⟩ = C'[i]?) ∧ OrdK t g g' C C' w w') (hb : Below w'.heap.size w' w2) :
    (∀ i, w2.cell? ⟨g, i, none⟩ = C[i]?) ∧ (∀ i, w2.cell? ⟨g', i, none⟩ = C'[i]?) ∧ OrdK t g g' C C' w w2 := by
  obtain ⟨_, _, h1, h2, h3⟩ := h
  have h1 := h1.below hb h1.lt
  have h2 := h2.below hb h2.lt
  exact ⟨h1.cell, h2.cell, h1, h2, bnx h3 hb⟩
theorem ordB {t : TypeId} {g g' : Nat} {C C' : Array Value} {w w' : World} (h : (∀ i, w'.cell? ⟨g, i, none⟩ = C[i]?) ∧ (∀ i, w'.cell? ⟨g', i, none⟩ = C'[i]?) ∧ OrdK t g g' C C' w w') : Below w.heap.size w w' := h.2.2.2.2
set_option maxHeartbeats 4000000 in
theorem order_yes (s1 s2 s3 : ByteArray) (h1 : s1.size ≤ maxLen) (h2 : s2.size ≤ maxLen) (h3 : s3.size ≤ maxLen) (w : World)
    (q1 : isCube s1.data.toList) (q2 : isCube s2.data.toList) (q3 : isCube s3.data.toList) (q4 : s1.size = s2.size) (q5 : s1.size = s3.size) :
    Calls Try.prog 11 #[.string s1, .string s2, .string s3] w fun e w' => e = .returned (.bool true) ∧ Below w.heap.size w w' := by
  obtain ⟨n1, c1, o1, hC1⟩ := Cub.of_is q1
  obtain ⟨n2, c2, o2, hC2⟩ := Cub.of_is q2
  obtain ⟨n3, c3, o3, hC3⟩ := Cub.of_is q3
  have H1 := Lib.hid hC1
  have H2 := Lib.hid hC2
  have H3 := Lib.hid hC3
  have K1 := Lib.hid (lcube_yes s1 q1 h1)
  have K2 := Lib.hid (lcube_yes s2 q2 h2)
  have K3 := Lib.hid (lcube_yes s3 q3 h3)
  have t4 := sz_eq q4
  have t5 := sz_eq q5
  have HW := Lib.hid (within_both (a := s1.data.toList) (b := s2.data.toList) (d := s3.data.toList))
  have HS := Lib.hid (decide_eq_true (within_self q1))
  have q1' := q1
  clear hC1 hC2 hC3 q1 q2 q3 q4 q5
  go_enter Try.func11, Try.ntmps11
  go_wp2_with fail
  refine (parse_of H1.out s1 rfl _).mono ?_
  rintro e w1 ⟨rfl, hb1⟩
  go_wp2_with fail
  refine (parse_of H2.out s2 rfl _).mono ?_
  rintro e w2 ⟨rfl, hb2⟩
  have g2 := bnx (bal hb1 (.cells (cs n1 c1 o1) 30)) hb2
  have hB1 : Blk w2 w1.heap.size 30 (cs n1 c1 o1) := (Blk.new w1 30 _).below hb2 (by simp)
  go_wp2_with fail
  refine (parse_of H3.out s3 rfl _).mono ?_
  rintro e w3 ⟨rfl, hb3⟩
  have g3 := bnx (bal g2 (.cells (cs n2 c2 o2) 30)) hb3
  have g4 := bal g3 (.cells (cs n3 c3 o3) 30)
  have hB2 : Blk w3 w2.heap.size 30 (cs n2 c2 o2) := (Blk.new w2 30 _).below hb3 (by simp)
  have hB1 := (hB1.alloc (.cells (cs n2 c2 o2) 30)).below hb3 (by have := hB1.lt; simp; omega)
  have hl1 := hB1.lt
  have hl2 := hB2.lt
  have hc1 := hB1.cell
  have hc2 := hB2.cell
  go_wp2_with (first | (go_at_call 43; with_reducible refine (K1.out _).mono ?_; rintro e w' ⟨rfl, rfl⟩) | (go_at_call 43; with_reducible refine (K2.out _).mono ?_; rintro e w' ⟨rfl, rfl⟩) | (go_at_call 43; with_reducible refine (K3.out _).mono ?_; rintro e w' ⟨rfl, rfl⟩))
  clear hc1 hc2 hl1 hl2
  generalize hM : decide (meetOk s1.data.toList s2.data.toList) = M
  have HM := Lib.hid hM
  clear hM
  refine (meet_lit H1.out H2.out M HM.out _).mono ?_
  rintro e w4 ⟨n4, c4, o4, hC4, rfl, hb4⟩
  have H4 := Lib.hid hC4
  have g5 := bnx g4 hb4
  have hB3 : Blk w4 w3.heap.size 30 (cs n3 c3 o3) := (Blk.new w3 30 _).below hb4 (by simp)
  have hB2 := (hB2.alloc (.cells (cs n3 c3 o3) 30)).below hb4 (by have := hB2.lt; simp; omega)
  have hB1 := (hB1.alloc (.cells (cs n3 c3 o3) 30)).below hb4 (by have := hB1.lt; simp; omega)
  clear hC4
  have hl1 := hB1.lt
  have hl2 := hB2.lt
  have hl3 := hB3.lt
  have hc1 := hB1.cell
  have hc2 := hB2.cell
  have hc3 := hB3.cell
  go_wp2_with fail
  generalize hP : decide (withinOk s3.data.toList s1.data.toList) = P
  have HP := Lib.hid hP
  clear hP
  have k31 := within_lit H3.out H1.out P HP.out
  refine (k31 _).mono ?_
  clear k31
  rintro e w5 ⟨rfl, hb5⟩
  have g6 := bnx (bal g5 (.cells (cs n4 c4 o4) 30)) hb5
  have hB4 : Blk w5 w4.heap.size 30 (cs n4 c4 o4) := (Blk.new w4 30 _).below hb5 (by simp)
  have hB3 := (hB3.alloc (.cells (cs n4 c4 o4) 30)).below hb5 (by simp; omega)
  have hB2 := (hB2.alloc (.cells (cs n4 c4 o4) 30)).below hb5 (by simp; omega)
  have hB1 := (hB1.alloc (.cells (cs n4 c4 o4) 30)).below hb5 (by simp; omega)
  clear hc1 hc2 hc3 hl1 hl2 hl3 g5
  have g5 := g6
  clear g6
  have hl1 := hB1.lt
  have hl2 := hB2.lt
  have hl3 := hB3.lt
  have hl4 := hB4.lt
  have hc1 := hB1.cell
  have hc2 := hB2.cell
  have hc3 := hB3.cell
  have hc4 := hB4.cell
  generalize hQ : decide (withinOk s3.data.toList s2.data.toList) = Q
  have k32 := within_lit H3.out H2.out Q hQ
  generalize hR : decide (withinOk s3.data.toList (meetT s1.data.toList s2.data.toList)) = R
  have k34 := within_lit H3.out H4.out R hR
  have k11 := within_lit H1.out H1.out true HS.out
  have HPQ : (P && Q) = (M && R) := by
    rw [← HP.out, ← hQ, ← HM.out, ← hR, Bool.eq_iff_iff]
    simp only [Bool.and_eq_true, decide_eq_true_eq]
    exact HW.out
  simp only [cv, cs, wv] at k32 k34 k11
  have K32 := Lib.hid k32
  have K34 := Lib.hid k34
  have K11 := Lib.hid k11
  generalize hA : decide (withinOk s1.data.toList s2.data.toList) = A
  have ka := within_lit H1.out H2.out A hA
  generalize hB : decide (withinOk s2.data.toList s1.data.toList) = B
  have kb := within_lit H2.out H1.out B hB
  have habe : (A = false ∧ decide (s1.data.toList = s2.data.toList) = false) ∨ (A = true ∧ B = false ∧ decide (s1.data.toList = s2.data.toList) = false) ∨ (A = true ∧ B = true ∧ decide (s1.data.toList = s2.data.toList) = true) := by
    rw [← hA, ← hB]
    by_cases e : s1.data.toList = s2.data.toList
    · right; right
      have := within_self q1'
      refine ⟨decide_eq_true (e ▸ this), decide_eq_true (e ▸ this), decide_eq_true e⟩
    · by_cases ha : withinOk s1.data.toList s2.data.toList
      · right; left
        exact ⟨decide_eq_true ha, decide_eq_false fun hb => e (within_antisymm ha hb), decide_eq_false e⟩
      · left
        exact ⟨decide_eq_false ha, decide_eq_false e⟩
  simp only [cv, cs, wv] at ka kb
  have KA := Lib.hid ka
  have KB := Lib.hid kb
  have habe := Lib.hid habe
  clear ka kb hA hB q1'
  have HQ := Lib.hid hQ
  have HR := Lib.hid hR
  clear k32 k34 k11 hQ hR hb1 hb2 hb3 hb4 hb5
  have hcases : (P = false ∧ M = false) ∨ (P = false ∧ M = true ∧ R = false) ∨ (P = true ∧ Q = false ∧ M = false) ∨ (P = true ∧ Q = false ∧ M = true ∧ R = false) ∨ (P = true ∧ Q = true ∧ M = true ∧ R = true) := by
    cases P <;> cases Q <;> cases M <;> cases R <;> simp_all
  rcases hcases with ⟨rfl, rfl⟩ | ⟨rfl, rfl, rfl⟩ | ⟨rfl, rfl, rfl⟩ | ⟨rfl, rfl, rfl, rfl⟩ | ⟨rfl, rfl, rfl, rfl⟩
  all_goals
    go_wp2_with (first | (go_at_call 41; with_reducible refine (K32.out _).mono ?_; rintro e w' ⟨rfl, hb'⟩; have hB1 := hB1.below hb' hB1.lt; have hB2 := hB2.below hb' hB2.lt; have hB3 := hB3.below hb' hB3.lt; have hB4 := hB4.below hb' hB4.lt; have g5 := bnx g5 hb'; clear hb' hc1 hc2 hc3 hc4 hl1 hl2 hl3 hl4; have hc1 := hB1.cell; have hc2 := hB2.cell; have hc3 := hB3.cell; have hc4 := hB4.cell; have hl1 := hB1.lt; have hl2 := hB2.lt; have hl3 := hB3.lt; have hl4 := hB4.lt) | (go_at_call 41; with_reducible refine (K34.out _).mono ?_; rintro e w' ⟨rfl, hb'⟩; have hB1 := hB1.below hb' hB1.lt; have hB2 := hB2.below hb' hB2.lt; have hB3 := hB3.below hb' hB3.lt; have hB4 := hB4.below hb' hB4.lt; have g5 := bnx g5 hb'; clear hb' hc1 hc2 hc3 hc4 hl1 hl2 hl3 hl4; have hc1 := hB1.cell; have hc2 := hB2.cell; have hc3 := hB3.cell; have hc4 := hB4.cell; have hl1 := hB1.lt; have hl2 := hB2.lt; have hl3 := hB3.lt; have hl4 := hB4.lt) | (go_at_call 41; with_reducible refine (K11.out _).mono ?_; rintro e w' ⟨rfl, hb'⟩; have hB1 := hB1.below hb' hB1.lt; have hB2 := hB2.below hb' hB2.lt; have hB3 := hB3.below hb' hB3.lt; have hB4 := hB4.below hb' hB4.lt; have g5 := bnx g5 hb'; clear hb' hc1 hc2 hc3 hc4 hl1 hl2 hl3 hl4; have hc1 := hB1.cell; have hc2 := hB2.cell; have hc3 := hB3.cell; have hc4 := hB4.cell; have hl1 := hB1.lt; have hl2 := hB2.lt; have hl3 := hB3.lt; have hl4 := hB4.lt))
    rcases habe.out with ⟨rfl, hE⟩ | ⟨rfl, rfl, hE⟩ | ⟨rfl, rfl, hE⟩
  all_goals
    have hT : (s1.toList == s2.toList) = _ := sl_eq s1 s2 hE
    have HE : ∀ w : World, _ := fun w => eq_lit H1.out H2.out _ hE w
    simp only [cv, cs, wv] at HE
    first | go_region_held3 (fun w' => (∀ i, w'.cell? ⟨w1.heap.size, i, none⟩ = (cs n1 c1 o1)[i]?) ∧ (∀ i, w'.cell? ⟨w2.heap.size, i, none⟩ = (cs n2 c2 o2)[i]?) ∧ OrdK 30 w1.heap.size w2.heap.size (cs n1 c1 o1) (cs n2 c2 o2) w w')
      (first | assumption | exact ordK0 hB1 hB2 g5 | exact hK2)
      (first | (go_at_call 41; with_reducible refine (KA.out _).mono ?_; rintro e w' ⟨rfl, hb'⟩; have hK2 := ordK (by assumption) hb') | (go_at_call 41; with_reducible refine (KB.out _).mono ?_; rintro e w' ⟨rfl, hb'⟩; have hK2 := ordK (by assumption) hb')) | fail
  all_goals
    go_wp2_with fail
    go_ret
    first | exact ⟨rfl, ordB (by assumption)⟩ | (refine ⟨?_, ordB (by assumption)⟩; simp)
end Go.Proofs.Ytdiijannpfogdaa.Tn
