import Derived.Test.YtdiijannpfogdaaLw
import Derived.Test.YtdiijannpfogdaaLq
import Derived.Test.YtdiijannpfogdaaLm
import Derived.Deep.RegionHeld3
import Derived.Deep.DeepCutAuto
namespace Go.Proofs.Ytdiijannpfogdaa.Tn
open Go.RowKit
attribute [local go_sem] cv cs wv eq_arr
/- not three cubes of one width -/
set_option maxHeartbeats 4000000 in
theorem order_not (s1 s2 s3 : ByteArray) (h1 : s1.size ≤ maxLen) (h2 : s2.size ≤ maxLen) (h3 : s3.size ≤ maxLen) (w : World)
    (h : ¬ (isCube s1.data.toList ∧ isCube s2.data.toList ∧ isCube s3.data.toList ∧ s1.size = s2.size ∧ s1.size = s3.size)) :
    Calls Try.prog 11 #[.string s1, .string s2, .string s3] w fun e w' => e = .returned (.bool true) ∧ Below w.heap.size w w' := by
  obtain ⟨n1, c1, o1, hC1⟩ : ∃ n c o, Cub (cubeT s1.data.toList) n c o := ⟨_, _, _, Cub.of _⟩
  obtain ⟨n2, c2, o2, hC2⟩ : ∃ n c o, Cub (cubeT s2.data.toList) n c o := ⟨_, _, _, Cub.of _⟩
  obtain ⟨n3, c3, o3, hC3⟩ : ∃ n c o, Cub (cubeT s3.data.toList) n c o := ⟨_, _, _, Cub.of _⟩
  have H1 := Lib.hid hC1
  have H2 := Lib.hid hC2
  have H3 := Lib.hid hC3
  have hx := xx_text
  have HN := Lib.hid (order_cases s1 s2 s3 h)
  clear hC1 hC2 hC3 h
  go_enter Try.func11, Try.ntmps11
  go_wp2_with fail
  refine (parse_s s1 h1 H1.out _).mono ?_
  rintro e w1 ⟨rfl, hb1⟩
  go_wp2_with fail
  refine (parse_s s2 h2 H2.out _).mono ?_
  rintro e w2 ⟨rfl, hb2⟩
  have g2 := bnx (bal hb1 (.cells (cs n1 c1 o1) 30)) hb2
  go_wp2_with fail
  refine (parse_s s3 h3 H3.out _).mono ?_
  rintro e w3 ⟨rfl, hb3⟩
  have g3 := bnx (bal g2 (.cells (cs n2 c2 o2) 30)) hb3
  have g4 := bal g3 (.cells (cs n3 c3 o3) 30)
  rcases HN.out with q1 | ⟨q1, q2⟩ | ⟨q1, q2, q3⟩ | ⟨q1, q2, q3, q4⟩ | ⟨q1, q2, q3, q4, q5⟩
  · have K1 := Lib.hid (lcube_no s1 q1 h1)
    clear q1 HN
    go_wp2_with (first | (go_at_call 43; with_reducible refine (K1.out _).mono ?_; rintro e w' ⟨rfl, rfl⟩) | (go_at_call 29; refine (all_any 2 _).mono ?_; rintro e w4 ⟨n4, c4, o4, hC4, rfl, hb4⟩; have H4 := Lib.hid hC4; clear hC4) | (go_at_call 44; refine (text_any _ _ _ _ _ H4.out).mono ?_; rintro e w5 ⟨rfl, hb5⟩))
    go_ret
    exact ⟨rfl, bnx (bnx g4 hb4) hb5⟩
  · have K1 := Lib.hid (lcube_yes s1 q1 h1)
    have K2 := Lib.hid (lcube_no s2 q2 h2)
    clear q1 q2 HN
    go_wp2_with (first | (go_at_call 43; with_reducible refine (K1.out _).mono ?_; rintro e w' ⟨rfl, rfl⟩) | (go_at_call 43; with_reducible refine (K2.out _).mono ?_; rintro e w' ⟨rfl, rfl⟩) | (go_at_call 29; refine (all_any 2 _).mono ?_; rintro e w4 ⟨n4, c4, o4, hC4, rfl, hb4⟩; have H4 := Lib.hid hC4; clear hC4) | (go_at_call 44; refine (text_any _ _ _ _ _ H4.out).mono ?_; rintro e w5 ⟨rfl, hb5⟩))
    go_ret
    exact ⟨rfl, bnx (bnx g4 hb4) hb5⟩
  · have K1 := Lib.hid (lcube_yes s1 q1 h1)
    have K2 := Lib.hid (lcube_yes s2 q2 h2)
    have K3 := Lib.hid (lcube_no s3 q3 h3)
    clear q1 q2 q3 HN
    go_wp2_with (first | (go_at_call 43; with_reducible refine (K1.out _).mono ?_; rintro e w' ⟨rfl, rfl⟩) | (go_at_call 43; with_reducible refine (K2.out _).mono ?_; rintro e w' ⟨rfl, rfl⟩) | (go_at_call 43; with_reducible refine (K3.out _).mono ?_; rintro e w' ⟨rfl, rfl⟩) | (go_at_call 29; refine (all_any 2 _).mono ?_; rintro e w4 ⟨n4, c4, o4, hC4, rfl, hb4⟩; have H4 := Lib.hid hC4; clear hC4) | (go_at_call 44; refine (text_any _ _ _ _ _ H4.out).mono ?_; rintro e w5 ⟨rfl, hb5⟩))
    go_ret
    exact ⟨rfl, bnx (bnx g4 hb4) hb5⟩
  · have K1 := Lib.hid (lcube_yes s1 q1 h1)
    have K2 := Lib.hid (lcube_yes s2 q2 h2)
    have K3 := Lib.hid (lcube_yes s3 q3 h3)
    have t4 := sz_ne q4
    clear q1 q2 q3 q4 HN
    go_wp2_with (first | (go_at_call 43; with_reducible refine (K1.out _).mono ?_; rintro e w' ⟨rfl, rfl⟩) | (go_at_call 43; with_reducible refine (K2.out _).mono ?_; rintro e w' ⟨rfl, rfl⟩) | (go_at_call 43; with_reducible refine (K3.out _).mono ?_; rintro e w' ⟨rfl, rfl⟩) | (go_at_call 29; refine (all_any 2 _).mono ?_; rintro e w4 ⟨n4, c4, o4, hC4, rfl, hb4⟩; have H4 := Lib.hid hC4; clear hC4) | (go_at_call 44; refine (text_any _ _ _ _ _ H4.out).mono ?_; rintro e w5 ⟨rfl, hb5⟩))
    go_ret
    exact ⟨rfl, bnx (bnx g4 hb4) hb5⟩
  · have K1 := Lib.hid (lcube_yes s1 q1 h1)
    have K2 := Lib.hid (lcube_yes s2 q2 h2)
    have K3 := Lib.hid (lcube_yes s3 q3 h3)
    have t4 := sz_eq q4
    have t5 := sz_ne q5
    clear q1 q2 q3 q4 q5 HN
    go_wp2_with (first | (go_at_call 43; with_reducible refine (K1.out _).mono ?_; rintro e w' ⟨rfl, rfl⟩) | (go_at_call 43; with_reducible refine (K2.out _).mono ?_; rintro e w' ⟨rfl, rfl⟩) | (go_at_call 43; with_reducible refine (K3.out _).mono ?_; rintro e w' ⟨rfl, rfl⟩) | (go_at_call 29; refine (all_any 2 _).mono ?_; rintro e w4 ⟨n4, c4, o4, hC4, rfl, hb4⟩; have H4 := Lib.hid hC4; clear hC4) | (go_at_call 44; refine (text_any _ _ _ _ _ H4.out).mono ?_; rintro e w5 ⟨rfl, hb5⟩))
    go_ret
    exact ⟨rfl, bnx (bnx g4 hb4) hb5⟩
theorem within_lit {t u : List UInt8} {n m : Nat} {c o d p : Nat → Bool} (h : Cub t n c o) (h' : Cub u m d p) (b : Bool) (hb : decide (withinOk t u) = b) (w : World) :
    Calls Try.prog 41 #[cv n c o, cv m d p] w fun e w' => e = .returned (.bool b) ∧ Below w.heap.size w w' := by
  have := within_any h h' w
  rw [hb] at this
  exact this
theorem meet_lit {t u : List UInt8} {n m : Nat} {c o d p : Nat → Bool} (h : Cub t n c o) (h' : Cub u m d p) (b : Bool) (hb : decide (meetOk t u) = b) (w : World) :
    Calls Try.prog 36 #[cv n c o, cv m d p] w fun e w' => ∃ n' c' o', Cub (meetT t u) n' c' o' ∧ e = .returned (.tuple #[cv n' c' o', .bool b]) ∧ Below w.heap.size w w' := by
  have := meet_any h h' w
  rw [hb] at this
  exact this
attribute [local go_sem] cv cs wv eq_arr
theorem sl_eq (a b : ByteArray) {E : Bool} (h : decide (a.data.toList = b.data.toList) = E) : (a.toList == b.toList) = E := by
  rw [ByteArray.toList_eq, ByteArray.toList_eq, ← h, Bool.eq_iff_iff]; simp
theorem eq_lit {t t' : List UInt8} {n n' : Nat} {c c' o o' : Nat → Bool} (h : Cub t n c o) (h' : Cub t' n' c' o') (E : Bool) (hE : decide (t = t') = E) (w : World) : (binOp .eql 30 (cv n c o) (cv n' c' o')).run Try.prog w = .ok (.bool E) w := by
  rw [← hE]; exact eq_two h h' w
/-- What the last region keeps of the two blocks that it loads. -/
def OrdK (t : TypeId) (g g' : Nat) (C C' : Array Value) (w w' : World) : Prop := Blk w' g t C ∧ Blk w' g' t C' ∧ Below w.heap.size w w'
theorem ordK0 {t : TypeId} {g g' : Nat} {C C' : Array Value} {w w' : World} (h : Blk w' g t C) (h' : Blk w' g' t C') (hb : Below w.heap.size w w') :
    (∀ i, w'.drew.cell? ⟨g, i, none⟩ = C[i]?) ∧ (∀ i, w'.drew.cell? ⟨g', i, none⟩ = C'[i]?) ∧ OrdK t g g' C C' w w'.drew := ⟨h.drew.cell, h'.drew.cell, h.drew, h'.drew, hb.drew⟩
theorem ordK {t : TypeId} {g g' : Nat} {C C' : Array Value} {w w' w2 : World} (h : (∀ i, w'.cell? ⟨g, i, none⟩ = C[i]?) ∧ (∀ i, w'.cell? ⟨g', i, none⟩ = C'[i]?) ∧ OrdK t g g' C C' w w') (hb : Below w'.heap.size w' w2) :
    (∀ i, w2.cell? ⟨g, i, none⟩ = C[i]?) ∧ (∀ i, w2.cell? ⟨g', i, none⟩ = C'[i]?) ∧ OrdK t g g' C C' w w2 := by
  obtain ⟨_, _, h1, h2, h3⟩ := h
  have h1 := h1.below hb h1.lt
  have h2 := h2.below hb h2.lt
  exact ⟨h1.cell, h2.cell, h1, h2, bnx h3 hb⟩
theorem ordB {t : TypeId} {g g' : Nat} {C C' : Array Value} {w w' : World} (h : (∀ i, w'.cell? ⟨g, i, none⟩ = C[i]?) ∧ (∀ i, w'.cell? ⟨g', i, none⟩ = C'[i]?) ∧ OrdK t g g' C C' w w') : Below w.heap.size w w' := h.2.2.2.2
/-- What stands between the pieces: the four cubes' blocks. -/
def OrdS (t : TypeId) (g1 g2 g3 g4 : Nat) (C1 C2 C3 C4 : Array Value) (w w' : World) : Prop := Blk w' g1 t C1 ∧ Blk w' g2 t C2 ∧ Blk w' g3 t C3 ∧ Blk w' g4 t C4 ∧ Below w.heap.size w w'
end Go.Proofs.Ytdiijannpfogdaa.Tn
