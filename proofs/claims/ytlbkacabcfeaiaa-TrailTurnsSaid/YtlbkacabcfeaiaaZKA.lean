/- Texts of one kind, put together: Ka, Kb, Kc, Kd, Ke, Kf. -/
import Derived.Test.YtlbkacabcfeaiaaZQr
import Derived.Test.YtlbkacabcfeaiaaZPA
import Derived.Deep.QuietTactic
import Derived.BigQuiet
import Derived.Test.YtlbkacabcfeaiaaZRw
import Derived.Test.YtlbkacabcfeaiaaZEo
/- Patterns: the reference's reader: letters, digits, runs. -/
namespace Go.Proofs.Ytlbkacabcfeaiaa.Tl
open Go.RowKit Mm
set_option linter.unusedVariables false
theorem u8_le (a b : UInt8) : (decide (a ≤ b) : Bool) = decide ((a.toNat : Int) ≤ (b.toNat : Int)) := by
  rw [decide_eq_decide, UInt8.le_iff_toNat_le]
  omega
theorem u8_beq (a b : UInt8) : (a == b) = ((a.toNat : Int) == (b.toNat : Int)) := by
  rw [Bool.eq_iff_iff, beq_iff_eq, beq_iff_eq]
  constructor
  · rintro rfl; rfl
  · intro h
    have h2 : a.toNat = b.toNat := by omega
    rw [← UInt8.ofNat_toNat (x := a), ← UInt8.ofNat_toNat (x := b), h2]
theorem letter_num (c : UInt8) : isLetter c = ((((c.toNat : Int) == 95) || (decide (97 ≤ (c.toNat : Int)) && decide ((c.toNat : Int) ≤ 122))) || (decide (65 ≤ (c.toNat : Int)) && decide ((c.toNat : Int) ≤ 90))) := by
  unfold isLetter
  rw [u8_beq, u8_le, u8_le, u8_le, u8_le]
  rfl
theorem digit_num (c : UInt8) : isDigit c = (decide (48 ≤ (c.toNat : Int)) && decide ((c.toNat : Int) ≤ 57)) := by
  unfold isDigit
  rw [u8_le, u8_le]
  rfl
set_option maxRecDepth 100000 in
set_option maxHeartbeats 4000000 in
theorem rletter_any (c : UInt8) (w : World) : Calls Try.prog 47 #[.int .u8 (c.toNat : Int)] w fun e w' => e = .returned (.bool (isLetter c)) ∧ w = w' := by
  rw [letter_num]
  have hb := c.toNat_lt
  generalize hn : (c.toNat : Int) = n at *
  have hn0 : 0 ≤ n := by omega
  clear hn hb
  go_enter Try.func47, Try.ntmps47
  go_wp2_with fail
  all_goals
    go_ret
    refine ⟨congrArg (fun b => Ending.returned (Value.bool b)) ?_, rfl⟩
    first
      | rfl
      | (rw [Bool.eq_iff_iff]
         simp only [Bool.or_eq_true, Bool.and_eq_true, decide_eq_true_eq, beq_iff_eq, eq_self, true_iff]
         omega)
set_option maxRecDepth 100000 in
set_option maxHeartbeats 4000000 in
theorem rdigit_any (c : UInt8) (w : World) : Calls Try.prog 51 #[.int .u8 (c.toNat : Int)] w fun e w' => e = .returned (.bool (isDigit c)) ∧ w = w' := by
  rw [digit_num]
  have hb := c.toNat_lt
  generalize hn : (c.toNat : Int) = n at *
  have hn0 : 0 ≤ n := by omega
  clear hn hb
  go_enter Try.func51, Try.ntmps51
  go_wp2_with fail
  all_goals
    go_ret
    refine ⟨congrArg (fun b => Ending.returned (Value.bool b)) ?_, rfl⟩
    first
      | rfl
      | (rw [Bool.eq_iff_iff]
         simp only [Bool.and_eq_true, decide_eq_true_eq, Bool.false_eq_true, false_iff]
         omega)
end Go.Proofs.Ytlbkacabcfeaiaa.Tl
/- Patterns: the reference's reader: what it looks at, what it refuses. -/
namespace Go.Proofs.Ytlbkacabcfeaiaa.Tl
open Go.RowKit Mm
set_option linter.unusedVariables false
def rfC (s : ByteArray) (pos it deep : Nat) (bad : Int) (nv : Value) : Array Value := #[.string s, .int .i64 (pos : Int), .int .i64 (it : Int), .int .i64 (deep : Int), .int .i64 bad, nv]
section
variable {w : World} {g : Nat} {t : TypeId} {s : ByteArray} {pos it deep : Nat} {bad : Int} {nv : Value}
theorem Blk.f0 (hB : Blk w g t (rfC s pos it deep bad nv)) : w.cell? ⟨g, 0, none⟩ = some (.string s) := hB.cell 0
theorem Blk.f1 (hB : Blk w g t (rfC s pos it deep bad nv)) : w.cell? ⟨g, 1, none⟩ = some (.int .i64 (pos : Int)) := hB.cell 1
theorem Blk.f2 (hB : Blk w g t (rfC s pos it deep bad nv)) : w.cell? ⟨g, 2, none⟩ = some (.int .i64 (it : Int)) := hB.cell 2
theorem Blk.f3 (hB : Blk w g t (rfC s pos it deep bad nv)) : w.cell? ⟨g, 3, none⟩ = some (.int .i64 (deep : Int)) := hB.cell 3
theorem Blk.f4 (hB : Blk w g t (rfC s pos it deep bad nv)) : w.cell? ⟨g, 4, none⟩ = some (.int .i64 bad) := hB.cell 4
theorem Blk.f5 (hB : Blk w g t (rfC s pos it deep bad nv)) : w.cell? ⟨g, 5, none⟩ = some nv := hB.cell 5
theorem Blk.s1 (hB : Blk w g t (rfC s pos it deep bad nv)) (p : Nat) : Blk (w.setCell ⟨g, 1, none⟩ (.int .i64 (p : Int))) g t (rfC s p it deep bad nv) := hB.set_ 1 _
theorem Blk.s2 (hB : Blk w g t (rfC s pos it deep bad nv)) (p : Nat) : Blk (w.setCell ⟨g, 2, none⟩ (.int .i64 (p : Int))) g t (rfC s pos p deep bad nv) := hB.set_ 2 _
theorem Blk.s3 (hB : Blk w g t (rfC s pos it deep bad nv)) (p : Nat) : Blk (w.setCell ⟨g, 3, none⟩ (.int .i64 (p : Int))) g t (rfC s pos it p bad nv) := hB.set_ 3 _
theorem Blk.s4 (hB : Blk w g t (rfC s pos it deep bad nv)) (p : Int) : Blk (w.setCell ⟨g, 4, none⟩ (.int .i64 p)) g t (rfC s pos it deep p nv) := hB.set_ 4 _
theorem Blk.s5 (hB : Blk w g t (rfC s pos it deep bad nv)) (p : Value) : Blk (w.setCell ⟨g, 5, none⟩ p) g t (rfC s pos it deep bad p) := hB.set_ 5 _
end
set_option maxRecDepth 100000 in
set_option maxHeartbeats 4000000 in
theorem letterAt_any (w : World) (g k : Nat) (s : ByteArray) (pos it deep : Nat) (bad : Int) (nv : Value) (hB : Blk w g 67 (rfC s pos it deep bad nv)) (hs : s.size ≤ 1000) (hk : k ≤ 2000) :
    Calls Try.prog 49 #[.pointer (some ⟨g, 0, none⟩), .int .i64 (k : Int)] w fun e w' => e = .returned (.bool (atB isLetter (xs s) k)) ∧ w = w' := by
  have q0 := Blk.f0 hB
  by_cases hlt : k < s.size
  · rw [at_in hlt]
    have HL := Lib.hid (rletter_any s[k] w)
    clear hB
    generalize hy : s[k] = y at *
    go_enter Try.func49, Try.ntmps49
    go_wp2_with fail
    refine HL.out.mono ?_
    rintro e w' ⟨rfl, rfl⟩
    go_wp2_with fail
    go_ret
    exact ⟨rfl, rfl⟩
  · rw [at_out (by omega)]
    clear hB
    go_enter Try.func49, Try.ntmps49
    go_wp2_with fail
    go_ret
    exact ⟨rfl, rfl⟩
set_option maxRecDepth 100000 in
set_option maxHeartbeats 4000000 in
theorem rrun_any (w : World) (g k0 : Nat) (s : ByteArray) (pos it deep : Nat) (bad : Int) (nv : Value) (hB : Blk w g 67 (rfC s pos it deep bad nv)) (hs : s.size ≤ 1000) (hk0 : k0 ≤ s.size) :
    Calls Try.prog 50 #[.pointer (some ⟨g, 0, none⟩), .int .i64 (k0 : Int)] w fun e w' => e = .returned (.int .i64 (runEnd (xs s) k0 : Int)) ∧ w = w' := by
  have q0 := Blk.f0 hB
  clear hB
  go_enter Try.func50, Try.ntmps50
  go_wp2_with fail
  go_loopw [1] (fun i wr => ∃ k : Nat, k ≤ s.size ∧ i = .int .i64 (k : Int) ∧ runEnd (xs s) k0 = runEnd (xs s) k ∧ w = wr) (fun i _ => s.size - (intOf i).toNat)
  case atStart => exact ⟨k0, hk0, rfl, rfl, rfl⟩
  case round =>
    obtain ⟨k, hk, rfl, hr, rfl⟩ := hrel
    have HR := Lib.hid hr
    clear hr
    by_cases hlt : k < s.size
    · have HL := Lib.hid (rletter_any s[k] w)
      have HD := Lib.hid (rdigit_any s[k] w)
      have hw : atB isWord (xs s) k = (isLetter s[k] || isDigit s[k]) := by rw [at_in hlt]; rfl
      generalize hy : s[k] = y at *
      cases hl : isLetter y with
      | true =>
        rw [hl] at HL hw
        have HS := Lib.hid (run_step (x := xs s) (i := k) (by rw [hw]; rfl))
        clear hw hl
        go_wp2_with fail
        refine HL.out.mono ?_
        rintro e w' ⟨rfl, rfl⟩
        go_wp2_with fail
        go_roundw
        case rel => exact ⟨k + 1, by omega, by go_num, by rw [HR.out, HS.out], trivial⟩
        case measure => simp [intOf]; omega
      | false =>
        rw [hl] at HL hw
        cases hd : isDigit y with
        | true =>
          rw [hd] at HD hw
          have HS := Lib.hid (run_step (x := xs s) (i := k) (by rw [hw]; rfl))
          clear hw hl hd
          go_wp2_with fail
          refine HL.out.mono ?_
          rintro e w' ⟨rfl, rfl⟩
          go_wp2_with fail
          refine HD.out.mono ?_
          rintro e w' ⟨rfl, rfl⟩
          go_wp2_with fail
          go_roundw
          case rel => exact ⟨k + 1, by omega, by go_num, by rw [HR.out, HS.out], trivial⟩
          case measure => simp [intOf]; omega
        | false =>
          rw [hd] at HD hw
          have HS := Lib.hid (run_stop (x := xs s) (i := k) (by rw [hw]; rfl))
          clear hw hl hd
          go_wp2_with fail
          refine HL.out.mono ?_
          rintro e w' ⟨rfl, rfl⟩
          go_wp2_with fail
          refine HD.out.mono ?_
          rintro e w' ⟨rfl, rfl⟩
          go_wp2_with fail
          go_ret
          exact ⟨by rw [HR.out, HS.out]; rfl, rfl⟩
    · have HS := Lib.hid (run_stop (x := xs s) (i := k) (at_out (by omega)))
      go_wp2_with fail
      go_ret
      exact ⟨by rw [HR.out, HS.out]; rfl, rfl⟩
set_option maxRecDepth 100000 in
set_option maxHeartbeats 4000000 in
theorem refuse_any (w : World) (g k : Nat) (s : ByteArray) (pos it deep : Nat) (bad : Int) (nv : Value) (hB : Blk w g 67 (rfC s pos it deep bad nv)) :
    Calls Try.prog 20 #[.pointer (some ⟨g, 0, none⟩), .int .i64 (k : Int)] w fun e w' => e = .returned (.tuple #[]) ∧ Blk w' g 67 (rfC s pos it deep (if bad < 0 then (k : Int) else bad) nv) ∧ w.grownBy w' (some g) := by
  have q4 := Blk.f4 hB
  have hf := hB.frozen 4
  have HB := Lib.hid hB
  clear hB
  by_cases hb : bad < 0
  · rw [if_pos hb]
    go_enter Try.func20, Try.ntmps20
    go_wp2_with fail
    go_end0
    exact ⟨rfl, Blk.s4 HB.out _, only_set _ _ _ _⟩
  · rw [if_neg hb]
    go_enter Try.func20, Try.ntmps20
    go_wp2_with fail
    go_end0
    exact ⟨rfl, HB.out, grefl _ _⟩
set_option maxRecDepth 100000 in
set_option maxHeartbeats 4000000 in
theorem ritem_any (w : World) (g k : Nat) (s : ByteArray) (pos it deep : Nat) (bad : Int) (nv : Value) (hB : Blk w g 67 (rfC s pos it deep bad nv)) (hit : it ≤ 1000) :
    Calls Try.prog 32 #[.pointer (some ⟨g, 0, none⟩), .int .i64 (k : Int)] w fun e w' => e = .returned (.tuple #[]) ∧ Blk w' g 67 (rfC s pos (it + 1) deep (if 48 ≤ it ∧ bad < 0 then (k : Int) else bad) nv) ∧ w.grownBy w' (some g) := by
  have q2 := Blk.f2 hB
  have hf := hB.frozen 2
  have HB := Lib.hid hB
  have HR := Lib.hid (refuse_any w g k s pos it deep bad nv hB)
  have e2 : wrap64 ((it : Int) + 1) = (it : Int) + 1 := by unfold wrap64; omega
  clear hB
  obtain ⟨b2, hb2⟩ : ∃ b2, b2 = if 48 ≤ it ∧ bad < 0 then (k : Int) else bad := ⟨_, rfl⟩
  rw [← hb2]
  by_cases hb : 48 ≤ it
  · obtain ⟨b3, hb3⟩ : ∃ b3, b3 = if bad < 0 then (k : Int) else bad := ⟨_, rfl⟩
    rw [← hb3] at HR
    have he : b2 = b3 := by
      rw [hb2, hb3]
      by_cases h : bad < 0
      · rw [if_pos h, if_pos ⟨hb, h⟩]
      · rw [if_neg h, if_neg (fun h2 => h h2.2)]
    subst he
    clear hb2 hb3
    go_enter Try.func32, Try.ntmps32
    go_wp2_with fail
    refine HR.out.mono ?_
    rintro e w1 ⟨rfl, hb1, hg1⟩
    have q21 := Blk.f2 hb1
    have hf1 := hb1.frozen 2
    have HB1 := Lib.hid hb1
    have HG1 := Lib.hid hg1
    clear hb1 hg1 q2 hf
    go_wp2_with fail
    go_end0
    exact ⟨rfl, Blk.s2 HB1.out (it + 1), gtrans HG1.out (only_set _ _ _ _)⟩
  · rw [if_neg (fun h2 => hb h2.1)] at hb2
    subst hb2
    go_enter Try.func32, Try.ntmps32
    go_wp2_with fail
    go_end0
    exact ⟨rfl, Blk.s2 HB.out (it + 1), only_set _ _ _ _⟩
theorem grown_drewN (w : World) (n : Nat) (row : Option Nat) : w.grownBy (w.drewN n) row := ⟨rfl, rfl, rfl, Nat.le_refl _, fun _ _ _ => rfl⟩
/-- blanks passed -/
def Same (x : List UInt8) (p q : Nat) : Prop := ∀ it stk ch ps, res x ⟨p, it, stk, ch, ps⟩ = res x ⟨q, it, stk, ch, ps⟩
theorem Same.refl (x : List UInt8) (p : Nat) : Same x p p := fun _ _ _ _ => rfl
theorem Same.step {x : List UInt8} {p q : Nat} (h : Same x p q) (hx : x[q]? = some 32) : Same x p (q + 1) := fun it stk ch ps => (h it stk ch ps).trans (res_inl (st_32 hx))
/-- the byte that stands there, 0 at the end -/
def byteAt (x : List UInt8) (p : Nat) : Nat := (x[p]?.map UInt8.toNat).getD 0
def posR (g : Nat) (w : World) : Nat := match w.cell? ⟨g, 1, none⟩ with
  | some (.int _ p) => p.toNat
  | _ => 0
theorem posR_of {w : World} {g : Nat} {t : TypeId} {s : ByteArray} {pos it deep : Nat} {bad : Int} {nv : Value} (hB : Blk w g t (rfC s pos it deep bad nv)) : posR g w = pos := by
  unfold posR
  rw [Blk.f1 hB]
  exact Int.toNat_natCast pos
structure Pk (w : World) (g : Nat) (s : ByteArray) (pos it deep : Nat) (bad : Int) (nv : Value) (q : Nat) (w' : World) : Prop where
  ge : pos ≤ q
  le : q ≤ s.size ∨ q = pos
  same : Same (xs s) pos q
  stay : (xs s)[pos]? ≠ some 32 → q = pos
  blk : Blk w' g 67 (rfC s q it deep bad nv)
  grow : w.grownBy w' (some g)
set_option maxRecDepth 100000 in
set_option maxHeartbeats 4000000 in
theorem peek_any (w : World) (g : Nat) (s : ByteArray) (pos it deep : Nat) (bad : Int) (nv : Value) (hB : Blk w g 67 (rfC s pos it deep bad nv)) (hs : s.size ≤ 1000) (hp : pos ≤ 2000) :
    Calls Try.prog 31 #[.pointer (some ⟨g, 0, none⟩)] w fun e w' => ∃ q, e = .returned (.int .u8 (byteAt (xs s) q : Int)) ∧ Pk w g s pos it deep bad nv q w' ∧ (xs s)[q]? ≠ some 32 := by
  have HS := Lib.hid (show Pk w g s pos it deep bad nv pos w from ⟨Nat.le_refl _, .inr rfl, Same.refl _ _, fun _ => rfl, hB, grefl _ _⟩)
  clear hB
  go_enter Try.func31, Try.ntmps31
  go_wp2_with fail
  go_loopw [] (fun wr => ∃ q : Nat, Pk w g s pos it deep bad nv q wr) (fun wr => 2001 - posR g wr)
  case atStart => exact ⟨pos, HS.out⟩
  case round =>
    obtain ⟨q, hq⟩ := hrel
    have q0 := Blk.f0 hq.blk
    have q1 := Blk.f1 hq.blk
    have hf := hq.blk.frozen 1
    have hle := hq.le
    have hmu := posR_of hq.blk
    have HQ := Lib.hid hq
    clear hq HS
    have hnn : (0 : Int) ≤ (q : Int) := by omega
    by_cases hlt : q < s.size
    · have hltI : (q : Int) < (s.size : Int) := by omega
      have hx := xs_get hlt
      have hby : byteAt (xs s) q = s[q].toNat := by unfold byteAt; rw [hx]; rfl
      have hbl := s[q].toNat_lt
      by_cases h32 : s[q] = 32
      · have HX := Lib.hid (show (xs s)[q]? = some 32 from by rw [hx, h32])
        have hb32 : ((s[q].toNat : Nat) : Int) = 32 := by rw [h32]; rfl
        clear hx hby h32 hle
        generalize hy : s[q] = y at *
        go_wp2_with fail
        go_quiet (fail)
        go_wp2_with fail
        go_roundw
        case rel =>
          refine ⟨q + 1, ?_⟩
          have h := HQ.out
          exact ⟨Nat.le_succ_of_le h.ge, .inl hlt, h.same.step HX.out, fun hn => absurd HX.out (by rw [h.stay hn]; exact hn), Blk.s1 (h.blk.drewN _) (q + 1), gtrans (gtrans h.grow (grown_drewN _ _ _)) (only_set _ _ _ _)⟩
        case measure =>
          refine Nat.lt_of_le_of_lt (Nat.le_of_eq <| congrArg (fun n => 2001 - n) (posR_of (Blk.s1 (HQ.out.blk.drewN _) (q + 1)))) ?_
          rw [posR_of HQ.out.blk]
          omega
      · have hb32 : ¬ ((s[q].toNat : Nat) : Int) = 32 := fun h => h32 (by
          have h2 : s[q].toNat = (32 : UInt8).toNat := by have : (32 : UInt8).toNat = 32 := rfl; omega
          rw [← UInt8.ofNat_toNat (x := s[q]), h2]; rfl)
        have HX := Lib.hid (show (xs s)[q]? ≠ some 32 from by rw [hx]; exact fun h => h32 (Option.some.inj h))
        have HBY := Lib.hid hby
        clear hx hby h32 hle
        generalize hy : s[q] = y at *
        go_wp2_with fail
        go_quiet (fail)
        go_wp2_with fail
        go_quiet (fail)
        go_wp2_with fail
        go_quiet (fail)
        go_wp2_with fail
        go_ret
        refine ⟨q, by rw [HBY.out]; rfl, ?_, HX.out⟩
        have h := HQ.out
        exact ⟨h.ge, h.le, h.same, h.stay, ((h.blk.drewN _).drewN _).drewN _, gtrans (gtrans (gtrans h.grow (grown_drewN _ _ _)) (grown_drewN _ _ _)) (grown_drewN _ _ _)⟩
    · have hltI : ¬ (q : Int) < (s.size : Int) := by omega
      have HX := Lib.hid (show (xs s)[q]? = none from xs_none (by omega))
      clear hle
      go_wp2_with fail
      go_quiet (fail)
      go_wp2_with fail
      go_quiet (fail)
      go_wp2_with fail
      go_ret
      refine ⟨q, by unfold byteAt; rw [HX.out]; rfl, ?_, by rw [HX.out]; intro h; cases h⟩
      have h := HQ.out
      exact ⟨h.ge, h.le, h.same, h.stay, (h.blk.drewN _).drewN _, gtrans (gtrans h.grow (grown_drewN _ _ _)) (grown_drewN _ _ _)⟩
end Go.Proofs.Ytlbkacabcfeaiaa.Tl
/- Patterns: the reference's reader: its nodes. -/
namespace Go.Proofs.Ytlbkacabcfeaiaa.Tl
open Go.RowKit Mm
set_option linter.unusedVariables false
structure Nd where
  kind : Nat
  name : ByteArray
  no : Bool
  kv : Value
  kids : List Nat
def ndV (d : Nd) : List Value := [.int .i64 (d.kind : Int), .string d.name, .bool d.no, d.kv]
def ndC (N : List Nd) : List Value := N.flatMap ndV
theorem ndC_cons (d : Nd) (N : List Nd) : ndC (d :: N) = .int .i64 (d.kind : Int) :: .string d.name :: .bool d.no :: d.kv :: ndC N := rfl
theorem ndC_snoc (N : List Nd) (d : Nd) : ndC (N ++ [d]) = ndC N ++ ndV d := by simp [ndC]
theorem ndC_get {N : List Nd} {i : Nat} {d : Nd} (h : N[i]? = some d) : (ndC N)[i * 4]? = some (.int .i64 (d.kind : Int)) ∧ (ndC N)[i * 4 + 1]? = some (.string d.name) ∧ (ndC N)[i * 4 + 2]? = some (.bool d.no) ∧ (ndC N)[i * 4 + 3]? = some d.kv := by
  induction N generalizing i with
  | nil => simp at h
  | cons x c ih =>
    cases i with
    | zero =>
      simp only [List.getElem?_cons_zero, Option.some.injEq] at h
      subst h
      exact ⟨rfl, rfl, rfl, rfl⟩
    | succ i =>
      rw [List.getElem?_cons_succ] at h
      obtain ⟨h0, h1, h2, h3⟩ := ih h
      rw [ndC_cons, show (i + 1) * 4 = i * 4 + 4 from by omega]
      exact ⟨h0, h1, h2, h3⟩
theorem info_node : (Try.prog.info? 92).map (fun i => (i.zero, i.size, i.bytes)) = some (some (.agg #[.int .i64 0, .string ⟨#[]⟩, .bool false, .slice none 0 0]), 4, 56) := by kernel_rfl
/-- rows of numbers stay -/
def Fr (X Y : World) : Prop := X.heap.size ≤ Y.heap.size ∧ ∀ (g : Nat) (cur : Array Value), X.heap[g]? = some (Obj.cells cur 3 (0, 0)) → Y.heap[g]? = some (Obj.cells cur 3 (0, 0))
section
variable {X Y Z : World}
theorem Fr.refl (X : World) : Fr X X := ⟨Nat.le_refl _, fun _ _ h => h⟩
theorem Fr.trans (h : Fr X Y) (k : Fr Y Z) : Fr X Z := ⟨Nat.le_trans h.1 k.1, fun g c hg => k.2 g c (h.2 g c hg)⟩
theorem Fr.below (h : Below X.heap.size X Y) : Fr X Y := ⟨h.size, fun g c hg => (h.block g (Array.getElem?_eq_some_iff.1 hg).1).trans hg⟩
theorem Fr.by {row : Option Nat} (h : X.grownBy Y row) (hr : ∀ g, row = some g → ∀ c, X.heap[g]? ≠ some (.cells c 3 (0, 0))) : Fr X Y :=
  ⟨h.size, fun g c hg => (h.block g (Array.getElem?_eq_some_iff.1 hg).1 (fun e => hr g e.symm c hg)).trans hg⟩
theorem Fr.blk {g : Nat} {cs : Array Value} (h : X.grownBy Y (some g)) (hb : Blk X g 67 cs) : Fr X Y :=
  Fr.by h (fun k hk c e => by
    cases hk
    unfold Blk at hb
    rw [hb] at e
    cases e)
theorem Fr.row {B n : Nat} {v : Value} {xs : List Value} (h : X.grownBy Y v.ownBlock) (hb : X.ownsRow B 92 4 v n xs) : Fr X Y :=
  Fr.by h (fun k hk c e => by
    obtain ⟨_, _, cur, h2⟩ := own_ty hb hk
    rw [h2] at e
    cases e)
theorem Fz.fr {v : Value} {n : Nat} {xs : List Value} (h : Fz X 3 1 v n xs) (hf : Fr X Y) : Fz Y 3 1 v n xs := by
  obtain ⟨a, cap, rfl, hc, hm, hl, hx⟩ := h
  refine ⟨a, cap, rfl, hc, hm, hl, hx.imp id ?_⟩
  rintro ⟨g, cur, rfl, hg, hx⟩
  exact ⟨g, cur, rfl, hf.2 g cur hg, hx⟩
theorem own_fr {B n : Nat} {v : Value} {xs : List Value} (h : X.ownsRow B 3 1 v n xs) (hf : Fr X Y) : Y.ownsRow B 3 1 v n xs := by
  refine ⟨h.1, ?_⟩
  rcases h.2 with h0 | ⟨g, cap, cur, hv, hbg, hg, rest⟩
  · exact .inl h0
  · exact .inr ⟨g, cap, cur, hv, hbg, hf.2 g cur hg, rest⟩
end
/-- the reference's reader, its nodes -/
structure Rf (W : World) (g : Nat) (s : ByteArray) (pos it deep : Nat) (bad : Int) (N : List Nd) (nv : Value) (X : World) : Prop where
  lt : g < W.heap.size
  bel : W.grownBy X (some g)
  blk : Blk X g 67 (rfC s pos it deep bad nv)
  row : X.ownsRow W.heap.size 92 4 nv N.length (ndC N)
  kid : ∀ d ∈ N, Fz X 3 1 d.kv d.kids.length (iv d.kids)
section
variable {W X Y : World} {g : Nat} {s : ByteArray} {pos it deep : Nat} {bad : Int} {N : List Nd} {nv : Value}
theorem Rf.ap (h : Rf W g s pos it deep bad N nv X) : some g ≠ nv.ownBlock := blk_apart h.blk h.row (by decide)
theorem Rf.below (h : Rf W g s pos it deep bad N nv X) (hb : Below X.heap.size X Y) : Rf W g s pos it deep bad N nv Y := by
  have hl := h.bel.size
  refine ⟨h.lt, ⟨hb.os.trans h.bel.os, hb.tape.trans h.bel.tape, hb.output.trans h.bel.output, Nat.le_trans hl hb.size, fun k hk hne => (hb.block k (Nat.lt_of_lt_of_le hk hl)).trans (h.bel.block k hk hne)⟩, h.blk.below hb h.blk.lt, own_below h.row hb (Nat.le_refl _), fun d hd => Fz.fr (h.kid d hd) (Fr.below hb)⟩
/-- the reader's own cells turn -/
theorem Rf.put {pos' it' deep' : Nat} {bad' : Int} (h : Rf W g s pos it deep bad N nv X) (hg : X.grownBy Y (some g)) (hb : Blk Y g 67 (rfC s pos' it' deep' bad' nv)) : Rf W g s pos' it' deep' bad' N nv Y ∧ Fr X Y := by
  have hf := Fr.blk hg h.blk
  exact ⟨⟨h.lt, gtrans h.bel hg, hb, own_put h.row hg h.lt, fun d hd => Fz.fr (h.kid d hd) hf⟩, hf⟩
/-- one more node behind the others -/
theorem Rf.more {d : Nd} {v' : Value} {cs : Array Value} (h : Rf W g s pos it deep bad N nv X) (ho : Y.ownsRow W.heap.size 92 4 v' (N.length + 1) (ndC N ++ ndV d)) (hk : Keeps (X.alloc (.cells cs 92)) nv v' Y) :
    Blk Y g 67 (rfC s pos it deep bad nv) ∧ (Fz X 3 1 d.kv d.kids.length (iv d.kids) → Rf W g s pos it deep bad (N ++ [d]) v' (Y.setCell ⟨g, 5, none⟩ v') ∧ Fr X (Y.setCell ⟨g, 5, none⟩ v')) := by
  have hA : Below X.heap.size X (X.alloc (.cells cs 92)) := (Below.refl _ X).alloc (Nat.le_refl _) _
  have h1 := h.below hA
  have hg := hk.by
  have hb : Blk Y g 67 (rfC s pos it deep bad nv) := h1.blk.grown hg h1.ap
  refine ⟨hb, fun hkid => ?_⟩
  have f1 : Fr X Y := (Fr.below hA).trans (Fr.row hg h1.row)
  have f2 : Fr Y (Y.setCell ⟨g, 5, none⟩ v') := Fr.blk (only_set _ _ _ _) hb
  have f3 := f1.trans f2
  refine ⟨⟨h.lt, ?_, Blk.s5 hb v', ?_, ?_⟩, f3⟩
  · refine gtrans ?_ (only_set Y g 5 v')
    have hl := h1.bel.size
    refine ⟨hg.os.trans h1.bel.os, hg.tape.trans h1.bel.tape, hg.output.trans h1.bel.output, Nat.le_trans hl hg.size, fun k hk hne => (hg.block k (Nat.lt_of_lt_of_le hk hl) (fun e => ?_)).trans (h1.bel.block k hk hne)⟩
    have := (h1.row.lt k e.symm).1
    omega
  · rw [List.length_append, ndC_snoc]
    exact own_put ho (only_set _ _ _ _) h.lt
  · intro e he
    rcases List.mem_append.1 he with he | he
    · exact Fz.fr (h.kid e he) f3
    · rw [List.mem_singleton] at he
      subst he
      exact Fz.fr hkid f3
end
abbrev HdN (g b : Nat) (nv v0 v1 v2 v3 : Value) (W : World) : Prop := W.cell? ⟨g, 5, none⟩ = some nv ∧ W.cell? ⟨b, 0, none⟩ = some v0 ∧ W.cell? ⟨b, 1, none⟩ = some v1 ∧ W.cell? ⟨b, 2, none⟩ = some v2 ∧ W.cell? ⟨b, 3, none⟩ = some v3
theorem HdN.of {X : World} {g b : Nat} {s : ByteArray} {pos it deep : Nat} {bad : Int} {nv v0 v1 v2 v3 : Value} {t t' : TypeId} (h : Blk X g t (rfC s pos it deep bad nv)) (h2 : Blk X b t' #[v0, v1, v2, v3]) : HdN g b nv v0 v1 v2 v3 X := ⟨Blk.f5 h, h2.cell 0, h2.cell 1, h2.cell 2, h2.cell 3⟩
set_option maxRecDepth 100000 in
set_option maxHeartbeats 8000000 in
theorem node_any {W X : World} {g : Nat} {s : ByteArray} {pos it deep : Nat} {bad : Int} {N : List Nd} {nv : Value} (h : Rf W g s pos it deep bad N nv X) (d : Nd) (hkid : Fz X 3 1 d.kv d.kids.length (iv d.kids)) (hN : N.length ≤ 100000) :
    Calls Try.prog 45 #[.pointer (some ⟨g, 0, none⟩), .agg #[.int .i64 (d.kind : Int), .string d.name, .bool d.no, d.kv]] X fun e w' => e = .returned (.int .i64 (N.length : Int)) ∧ (∃ nv', Rf W g s pos it deep bad (N ++ [d]) nv' w') ∧ Fr X w' := by
  have hb0 : Below X.heap.size X (X.alloc (.cells #[.int .i64 (d.kind : Int), .string d.name, .bool d.no, d.kv] 92)) := (Below.refl _ X).alloc (Nat.le_refl _) _
  have HB := Blk.new X 92 #[.int .i64 (d.kind : Int), .string d.name, .bool d.no, d.kv]
  have h0 := (h.below hb0).below (Below.refl _ _).drew
  have HF := Lib.hid ((Fr.below hb0).trans (Fr.below (Below.refl _ _).drew))
  have HK := Lib.hid (Fz.fr hkid HF.out)
  have hS0 := HdN.of h0.blk HB.drew
  have HBX := Lib.hid HB.drew
  have HNE := Lib.hid (Ne.symm (row_ne h.row))
  obtain ⟨an, cn, rfl⟩ := own_len h0.row
  have h1c : ∀ u ∈ ndV d, u.oneCell' = true := by
    intro u hu
    obtain ⟨a, cap, e, _⟩ := hkid
    unfold ndV at hu
    simp only [List.mem_cons, List.not_mem_nil, or_false] at hu
    rcases hu with rfl | rfl | rfl | rfl
    · rfl
    · rfl
    · rfl
    · rw [e]; rfl
  have H1C := Lib.hid h1c
  have H0 := Lib.hid h0
  have hgl := Nat.lt_of_lt_of_le h.lt h.bel.size
  have hws := h0.bel.size
  have hgx := h0.blk.lt
  have hbx := HB.drew.lt
  obtain ⟨kd, nm, no, kv, kids⟩ := d
  dsimp only at hS0 hbx
  clear h hkid hb0 HB h0 h1c
  go_enter Try.func45, Try.ntmps45
  go_wp2_with fail
  refine wp_region_last 10 (fun w' => HdN g X.heap.size (.slice an N.length cn) (.int .i64 (kd : Int)) (.string nm) (.bool no) kv w') mixed ?_
  generalize World.drew _ = X1 at *
  refine wpLast_take (i := 0) (oi := { dst := some 5, op := Op.move (Operand.tmp 0), type := 65, pos := "pattern.go:66", after := #[], guard := none }) (v := ?_) rfl (by kernel_rfl) (by kernel_rfl) (by kernel_rfl) (by kernel_rfl) (fun _ _ _ h => h) (Or.inl ⟨by rfl, ?_⟩) (by assumption) ?_
  rotate_left
  · intro w hSw
    try dsimp only at hSw
    go_simp
    try with_reducible rfl
  try simp only [Act.put, List.setIfInBounds_toArray, List.set_cons_zero, List.set_cons_succ]
  refine wpLast_take (i := 1) (oi := { dst := some 6, op := Op.move (Operand.tmp 0), type := 65, pos := "pattern.go:66", after := #[], guard := none }) (v := ?_) rfl (by kernel_rfl) (by kernel_rfl) (by kernel_rfl) (by kernel_rfl) (fun _ _ _ h => h) (Or.inl ⟨by rfl, ?_⟩) (by assumption) ?_
  rotate_left
  · intro w hSw
    try dsimp only at hSw
    go_simp
    try with_reducible rfl
  try simp only [Act.put, List.setIfInBounds_toArray, List.set_cons_zero, List.set_cons_succ]
  refine wpLast_take (i := 2) (oi := { dst := some 7, op := Op.nilCheck (Operand.tmp 6), type := 0, pos := "pattern.go:66", after := #[{ on := 1, ground := Ground.data }], guard := none }) (v := ?_) rfl (by kernel_rfl) (by kernel_rfl) (by kernel_rfl) (by kernel_rfl) (fun _ _ _ h => h) (Or.inl ⟨by rfl, ?_⟩) (by assumption) ?_
  rotate_left
  · intro w hSw
    try dsimp only at hSw
    go_simp
    try with_reducible rfl
  try simp only [Act.put, List.setIfInBounds_toArray, List.set_cons_zero, List.set_cons_succ]
  refine wpLast_take (i := 3) (oi := { dst := some 8, op := Op.fieldAddr 67 (Operand.tmp 7) 5, type := 0, pos := "pattern.go:66", after := #[{ on := 2, ground := Ground.data }], guard := none }) (v := ?_) rfl (by kernel_rfl) (by kernel_rfl) (by kernel_rfl) (by kernel_rfl) (fun _ _ _ h => h) (Or.inl ⟨by rfl, ?_⟩) (by assumption) ?_
  rotate_left
  · intro w hSw
    try dsimp only at hSw
    go_simp
    try with_reducible rfl
  try simp only [Act.put, List.setIfInBounds_toArray, List.set_cons_zero, List.set_cons_succ]
  refine wpLast_take (i := 4) (oi := { dst := some 9, op := Op.load 26 (Operand.tmp 8), type := 26, pos := "pattern.go:66", after := #[{ on := 3, ground := Ground.data }], guard := none }) (v := ?_) rfl (by kernel_rfl) (by kernel_rfl) (by kernel_rfl) (by kernel_rfl) (fun _ _ _ h => h) (Or.inl ⟨by rfl, ?_⟩) (by assumption) ?_
  rotate_left
  · intro w hSw
    try dsimp only at hSw
    go_simp
    try with_reducible rfl
  try simp only [Act.put, List.setIfInBounds_toArray, List.set_cons_zero, List.set_cons_succ]
  refine wpLast_take (i := 5) (oi := { dst := some 10, op := Op.load 92 (Operand.tmp 3), type := 92, pos := "pattern.go:66", after := #[], guard := none }) (v := ?_) rfl (by kernel_rfl) (by kernel_rfl) (by kernel_rfl) (by kernel_rfl) (fun _ _ _ h => h) (Or.inl ⟨by rfl, ?_⟩) (by assumption) ?_
  rotate_left
  · intro w hSw
    try dsimp only at hSw
    go_simp
    try with_reducible rfl
  try simp only [Act.put, List.setIfInBounds_toArray, List.set_cons_zero, List.set_cons_succ]
  refine wpLast_ready (rs := [6]) (by kernel_rfl) (by simp) ?_
  refine EachLast.cons (o := { dst := some 11, op := Op.buildSlice 26 1 #[(0, Operand.tmp 10)], type := 26, pos := "pattern.go:66", after := #[{ on := 5, ground := Ground.data }], guard := none }) rfl (fun K hK => ?_) EachLast.nil
  go_simp
  have hA : Below X1.heap.size X1 (X1.alloc (.cells #[.int .i64 (kd : Int), .string nm, .bool no, kv] 92)) := (Below.refl _ X1).alloc (Nat.le_refl _) _
  have hS1 : HdN g X.heap.size (.slice an N.length cn) (.int .i64 (kd : Int)) (.string nm) (.bool no) kv (X1.alloc (.cells #[.int .i64 (kd : Int), .string nm, .bool no, kv] 92)) := ⟨(hA.cell (p := ⟨g, 5, none⟩) hgx).trans hS0.1, (hA.cell (p := ⟨X.heap.size, 0, none⟩) hbx).trans hS0.2.1, (hA.cell (p := ⟨X.heap.size, 1, none⟩) hbx).trans hS0.2.2.1, (hA.cell (p := ⟨X.heap.size, 2, none⟩) hbx).trans hS0.2.2.2.1, (hA.cell (p := ⟨X.heap.size, 3, none⟩) hbx).trans hS0.2.2.2.2⟩
  refine hK.out _ _ (fun _ => hS1) ?_
  try simp only [Act.put, List.setIfInBounds_toArray, List.set_cons_zero, List.set_cons_succ]
  refine wpLast_ready (rs := [7]) (by kernel_rfl) (by simp) ?_
  refine EachLast.cons (o := { dst := some 12, op := Op.call { callee := Callee.builtin Builtin.append, args := #[Operand.tmp 9, Operand.tmp 11], argTypes := #[26, 26] }, type := 26, pos := "pattern.go:66", after := #[{ on := 4, ground := Ground.data }, { on := 6, ground := Ground.data }], guard := none }) rfl (fun K hK => ?_) EachLast.nil
  refine step_keep (w := X1) (ndV ⟨kd, nm, no, kv, kids⟩) (.tmp 9) (.tmp 11) Try.underlying26 info_node rfl (by decide) H1C.out rfl H0.out.row ?gd ?go ?gs ?gx (by simp only [maxLen]; omega) (by omega) hws ?_
  case gd => rfl
  case go => rfl
  case gs => rfl
  case gx => rfl
  intro v' Y ho hk
  obtain ⟨hbY, hfin⟩ := H0.out.more ho hk
  have hBY := (HBX.out.alloc _).grown hk.by HNE.out
  have hS9 := HdN.of hbY hBY
  have f5 := hbY.frozen 5
  obtain ⟨a9, c9, rfl⟩ := own_len ho
  obtain ⟨hR, hFr⟩ := hfin HK.out
  have HR := Lib.hid hR
  have HFr := Lib.hid hFr
  have q5 := Blk.f5 hR.blk
  clear hfin hR hFr
  refine hK.out _ _ (fun _ => hS9) ?_
  try simp only [Act.put, List.setIfInBounds_toArray, List.set_cons_zero, List.set_cons_succ]
  refine wpLast_ready (rs := [8]) (by kernel_rfl) (by simp) ?_
  refine EachLast.cons (o := { dst := some 13, op := Op.nilCheck (Operand.tmp 5), type := 0, pos := "pattern.go:66", after := #[{ on := 0, ground := Ground.data }, { on := 0, ground := Ground.phase }, { on := 1, ground := Ground.phase }, { on := 2, ground := Ground.phase }, { on := 3, ground := Ground.phase }, { on := 4, ground := Ground.phase }, { on := 5, ground := Ground.phase }, { on := 6, ground := Ground.phase }, { on := 7, ground := Ground.phase }], guard := none }) rfl (fun K hK => ?_) EachLast.nil
  go_simp
  refine hK.out _ _ (fun _ => hS9) ?_
  try simp only [Act.put, List.setIfInBounds_toArray, List.set_cons_zero, List.set_cons_succ]
  refine wpLast_ready (rs := [9]) (by kernel_rfl) (by simp) ?_
  refine EachLast.cons (o := { dst := some 14, op := Op.fieldAddr 67 (Operand.tmp 13) 5, type := 0, pos := "pattern.go:66", after := #[{ on := 8, ground := Ground.data }, { on := 0, ground := Ground.phase }, { on := 1, ground := Ground.phase }, { on := 2, ground := Ground.phase }, { on := 3, ground := Ground.phase }, { on := 4, ground := Ground.phase }, { on := 5, ground := Ground.phase }, { on := 6, ground := Ground.phase }, { on := 7, ground := Ground.phase }], guard := none }) rfl (fun K hK => ?_) EachLast.nil
  go_simp
  refine hK.out _ _ (fun _ => hS9) ?_
  try simp only [Act.put, List.setIfInBounds_toArray, List.set_cons_zero, List.set_cons_succ]
  refine wpLast_ready (rs := [10]) (by kernel_rfl) (by simp) ?_
  refine EachLast.cons (o := { dst := none, op := Op.store 26 (Operand.tmp 14) (Operand.tmp 12), type := 0, pos := "pattern.go:66", after := #[{ on := 9, ground := Ground.data }, { on := 7, ground := Ground.data }, { on := 7, ground := Ground.chain }, { on := 0, ground := Ground.phase }, { on := 1, ground := Ground.phase }, { on := 2, ground := Ground.phase }, { on := 3, ground := Ground.phase }, { on := 4, ground := Ground.phase }, { on := 5, ground := Ground.phase }, { on := 6, ground := Ground.phase }, { on := 7, ground := Ground.phase }], guard := none }) rfl (fun K hK => ?_) EachLast.nil
  go_simp
  refine hK.out _ _ (fun h => absurd rfl h) ?_
  try simp only [Act.put, List.setIfInBounds_toArray, List.set_cons_zero, List.set_cons_succ]
  refine wpLast_done (by kernel_rfl) ?_ _
  go_wp2_with fail
  go_ret
  exact ⟨rfl, ⟨_, HR.out⟩, HF.out.trans HFr.out⟩
end Go.Proofs.Ytlbkacabcfeaiaa.Tl
/- Patterns: the reference's names; which tree a node denotes. -/
namespace Go.Proofs.Ytlbkacabcfeaiaa.Tl
open Go.RowKit Mm
set_option linter.unusedVariables false
def sufK (c : UInt8) : Nat := if c = 42 then 6 else if c = 43 then 7 else 8
/-- node number k denotes a tree -/
inductive Den (N : List Nd) : Nat → T → Prop where
  | any (k : Nat) (d : Nd) : N[k]? = some d → d.kind = 1 → Den N k (.leaf [46] false false false)
  | nam (k : Nat) (d : Nd) (po : Bool) : N[k]? = some d → d.kind = (if po then 2 else 3) → Den N k (.leaf d.name.data.toList true po d.no)
  | seq (k : Nat) (d : Nd) (l : List T) : N[k]? = some d → d.kind = 4 → d.kids.length = l.length → (∀ (i j : Nat) (t : T), d.kids[i]? = some j → l[i]? = some t → Den N j t) → Den N k (.seq l)
  | alt (k : Nat) (d : Nd) (l : List T) : N[k]? = some d → d.kind = 5 → d.kids.length = l.length → (∀ (i j : Nat) (t : T), d.kids[i]? = some j → l[i]? = some t → Den N j t) → Den N k (.alt l)
  | suf (k : Nat) (d : Nd) (j : Nat) (t : T) (c : UInt8) : N[k]? = some d → d.kind = sufK c → d.kids = [j] → (c = 42 ∨ c = 43 ∨ c = 63) → Den N j t → Den N k (.suf t c)
theorem nd_more {N M : List Nd} {k : Nat} {d : Nd} (h : N[k]? = some d) : (N ++ M)[k]? = some d := by
  rw [List.getElem?_append_left (List.getElem?_eq_some_iff.1 h).1]
  exact h
theorem Den.more {N M : List Nd} {k : Nat} {t : T} (h : Den N k t) : Den (N ++ M) k t := by
  induction h with
  | any k d h1 h2 => exact .any k d (nd_more h1) h2
  | nam k d po h1 h2 => exact .nam k d po (nd_more h1) h2
  | seq k d l h1 h2 h3 _ ih => exact .seq k d l (nd_more h1) h2 h3 ih
  | alt k d l h1 h2 h3 _ ih => exact .alt k d l (nd_more h1) h2 h3 ih
  | suf k d j t c h1 h2 h3 h4 _ ih => exact .suf k d j t c (nd_more h1) h2 h3 h4 ih
theorem Den.lt {N : List Nd} {k : Nat} {t : T} (h : Den N k t) : k < N.length := by
  cases h with
  | any k d h1 _ => exact (List.getElem?_eq_some_iff.1 h1).1
  | nam k d po h1 _ => exact (List.getElem?_eq_some_iff.1 h1).1
  | seq k d l h1 _ _ _ => exact (List.getElem?_eq_some_iff.1 h1).1
  | alt k d l h1 _ _ _ => exact (List.getElem?_eq_some_iff.1 h1).1
  | suf k d j t c h1 _ _ _ _ => exact (List.getElem?_eq_some_iff.1 h1).1
theorem snoc_get (N : List Nd) (d : Nd) : (N ++ [d])[N.length]? = some d := by simp
theorem kid_nil (X : World) : Fz X 3 1 (.slice none 0 0) ([] : List Nat).length (iv []) := ⟨none, 0, rfl, Nat.le_refl _, Nat.zero_le _, rfl, .inl ⟨rfl, rfl, rfl⟩⟩
/-- a name's node -/
def namN (s : ByteArray) (i : Nat) (no : Bool) : Nd := ⟨if portAt (xs s) i then 2 else 3, s.extract i (nameEnd (xs s) i), no, .slice none 0 0, []⟩
theorem nam_den (N : List Nd) (s : ByteArray) (i : Nat) (no : Bool) (h1 : i ≤ nameEnd (xs s) i) (h2 : nameEnd (xs s) i ≤ s.size) : Den (N ++ [namN s i no]) N.length (nameT (xs s) i no) := by
  have h := Den.nam N.length (namN s i no) (portAt (xs s) i) (snoc_get N _) rfl
  unfold nameT
  have e : (namN s i no).name.data.toList = ((xs s).drop i).take (nameEnd (xs s) i - i) := by
    show (s.extract i (nameEnd (xs s) i)).data.toList = _
    rw [slice_str s i _ h1 h2]
    rfl
  rw [e] at h
  exact h
set_option maxRecDepth 100000 in
set_option maxHeartbeats 8000000 in
theorem rname_any {W X : World} {g : Nat} {s : ByteArray} {pos it deep : Nat} {bad : Int} {N : List Nd} {nv : Value} (h : Rf W g s pos it deep bad N nv X) (hs : s.size ≤ 1000) (hl : atB isLetter (xs s) pos = true) (hN : N.length ≤ 100000) (no : Bool) :
    Calls Try.prog 48 #[.pointer (some ⟨g, 0, none⟩), .bool no] X fun e w' => e = .returned (.int .i64 (N.length : Int)) ∧ (∃ nv', Rf W g s (nameEnd (xs s) pos) it deep (if nameLong (xs s) pos = true ∧ bad < 0 then (pos : Int) else bad) (N ++ [namN s pos no]) nv' w') ∧ Fr X w' := by
  have q0 := Blk.f0 h.blk
  have q1 := Blk.f1 h.blk
  have hxl := xs_len s
  have hpos : pos < s.size := by have := at_lt hl; omega
  have HRun := Lib.hid (fun k (hk : k ≤ s.size) => rrun_any X g k s _ _ _ _ _ h.blk hs hk)
  have HLt := Lib.hid (fun k (hk : k ≤ 2000) => letterAt_any X g k s _ _ _ _ _ h.blk hs hk)
  have HRef := Lib.hid (refuse_any X g pos s _ _ _ _ _ h.blk)
  have HH := Lib.hid h
  have hne := name_end hl
  have hk3 := run_step (letter_word hl)
  have hrg := run_ge (xs s) pos
  have hrl := run_le (x := xs s) (i := pos) (by omega)
  have HND := Lib.hid (show namN s pos no = ⟨if portAt (xs s) pos then 2 else 3, s.extract pos (nameEnd (xs s) pos), no, .slice none 0 0, []⟩ from rfl)
  have hP := portAt_eq (xs s) pos _ rfl
  obtain ⟨nd, hnd⟩ : ∃ nd, nd = namN s pos no := ⟨_, rfl⟩
  rw [← hnd]
  have HEQ := Lib.hid hnd
  clear hnd
  obtain ⟨bad2, hbad2⟩ : ∃ b, b = if nameLong (xs s) pos = true ∧ bad < 0 then (pos : Int) else bad := ⟨_, rfl⟩
  rw [← hbad2]
  have HB2 := Lib.hid hbad2
  clear h hk3 hbad2
  generalize hx : xs s = x at *
  generalize hk0 : runEnd x pos = k at *
  go_enter Try.func48, Try.ntmps48
  go_wp2_with fail
  refine (HRun.out pos (by omega)).mono ?_
  rintro e w' ⟨rfl, rfl⟩
  rw [hk0]
  go_upto_region 5 with fail
  go_cut [42] (fun s42 wx => s42 = .bool (portAt x pos) ∧ X = wx)
  case first =>
    by_cases hks : k < s.size
    · by_cases h46 : s[k] = 46
      · have hxk : x[k]? = some 46 := by rw [← hx, xs_get hks, h46]
        rw [hxk] at hP
        have hn46 : ((s[k].toNat : Nat) : Int) = 46 := by rw [h46]; rfl
        have hP2 : portAt x pos = atB isLetter x (k + 1) := by rw [hP]; rfl
        go_wp2_with fail
        refine (HLt.out (k + 1) (by omega)).mono ?_
        rintro e w' ⟨rfl, rfl⟩
        go_wp2_with fail
        go_meet
        exact ⟨by rw [hP2], rfl⟩
      · have hxk : x[k]? = some s[k] := by rw [← hx, xs_get hks]
        have hP2 : portAt x pos = false := by rw [hP, hxk]; simp [h46]
        have hn46 : ¬ ((s[k].toNat : Nat) : Int) = 46 := fun e => h46 (by
          apply UInt8.toNat_inj.1
          have : (46 : UInt8).toNat = 46 := rfl
          omega)
        go_wp2_with fail
        go_meet
        exact ⟨by rw [hP2], rfl⟩
    · have hP2 : portAt x pos = false := by rw [hP, ← hx, xs_none (by omega)]; rfl
      go_wp2_with fail
      go_meet
      exact ⟨by rw [hP2], rfl⟩
  case rest =>
  obtain ⟨rfl, rfl⟩ := hcut
  have HD1 := Lib.hid (show decide ((24 : Int) < (k : Int) - (pos : Int)) = decide (24 < k - pos) from decide_eq_decide.2 (by omega))
  go_upto_if 42 with fail
  go_cut [6, 7, 8] (fun s6 s7 s8 wx => s6 = .int .i64 (nameEnd x pos : Int) ∧ s7 = .bool (nameLong x pos) ∧ s8 = .int .i64 ((if portAt x pos then 2 else 3 : Nat) : Int) ∧ X = wx)
  case first =>
    cases hpt : portAt x pos with
    | true =>
      rw [hpt] at hP
      have hlk : atB isLetter x (k + 1) = true := (Bool.and_eq_true_iff.1 hP.symm).2
      have hk4 : k + 1 < x.length := at_lt hlk
      have hrg2 := run_ge x (k + 1)
      have hrl2 := run_le (x := x) (i := k + 1) (by omega)
      have HNE := Lib.hid (show nameEnd x pos = runEnd x (k + 1) from by unfold nameEnd; rw [if_pos hpt, hk0])
      have HNL := Lib.hid (show nameLong x pos = (decide (24 < k - pos) || decide (24 < runEnd x (k + 1) - (k + 1))) from by unfold nameLong; rw [hpt, hk0]; rfl)
      have HR2 := Lib.hid (HRun.out (k + 1) (by omega))
      clear hP hlk
      generalize runEnd x (k + 1) = e at *
      have HD2 := Lib.hid (show decide ((24 : Int) < (e : Int) - ((k : Int) + 1)) = decide (24 < e - (k + 1)) from decide_eq_decide.2 (by omega))
      by_cases hlg : 24 < k - pos
      · have hI : (24 : Int) < (k : Int) - (pos : Int) := by omega
        have HL1 := Lib.hid (decide_eq_true hlg)
        clear hlg
        go_wp2_with fail
        refine HR2.out.mono ?_
        rintro e1 w' ⟨rfl, rfl⟩
        go_wp2_with fail
        go_meet
        exact ⟨by rw [HNE.out], by rw [HNL.out, HL1.out]; rfl, by rw [hpt]; rfl, rfl⟩
      · have hI : ¬ (24 : Int) < (k : Int) - (pos : Int) := by omega
        have HL1 := Lib.hid (decide_eq_false hlg)
        clear hlg
        go_wp2_with fail
        refine HR2.out.mono ?_
        rintro e1 w' ⟨rfl, rfl⟩
        go_wp2_with fail
        go_meet
        exact ⟨by rw [HNE.out], by rw [HNL.out, ← HD1.out, ← HD2.out], by rw [hpt]; rfl, rfl⟩
    | false =>
      have HNE := Lib.hid (show nameEnd x pos = k from by unfold nameEnd; rw [hpt, if_neg (by simp), hk0])
      have HNL := Lib.hid (show nameLong x pos = decide (24 < k - pos) from by unfold nameLong; rw [hpt, hk0]; simp)
      clear hP
      go_wp2_with fail
      go_meet
      exact ⟨by rw [HNE.out], by rw [HNL.out, ← HD1.out], by rw [hpt]; rfl, rfl⟩
  case rest =>
  obtain ⟨rfl, rfl, rfl, rfl⟩ := hcut
  clear hP HRun HLt hl hrg hrl
  have hf1 := HH.out.blk.frozen 1
  have hne1 := hne.1
  have hne2 := hne.2
  rw [hxl] at hne2
  have hnd := HEQ.out
  have hkd : ((nd.kind : Nat) : Int) = ((if portAt x pos = true then 2 else 3 : Nat) : Int) := by rw [hnd, HND.out]
  have hnm : nd.name = s.extract pos (nameEnd x pos) := by rw [hnd, HND.out]
  have hno : nd.no = no := by rw [hnd, HND.out]
  have hkv : nd.kv = .slice none 0 0 := by rw [hnd, HND.out]
  have hks : nd.kids = [] := by rw [hnd, HND.out]
  have HNode := Lib.hid (show ∀ (X : World) (pos2 it deep : Nat) (bad : Int), Rf W g s pos2 it deep bad N nv X → Calls Try.prog 45 #[.pointer (some ⟨g, 0, none⟩), .agg #[.int .i64 ((if portAt x pos = true then 2 else 3 : Nat) : Int), .string (s.extract pos (nameEnd x pos)), .bool no, .slice none 0 0]] X fun e w' => e = .returned (.int .i64 (N.length : Int)) ∧ (∃ nv', Rf W g s pos2 it deep bad (N ++ [nd]) nv' w') ∧ Fr X w' from fun X pos2 it deep bad hX => by
    have h := node_any hX nd (by rw [hkv, hks]; exact kid_nil _) hN
    rw [hkd, hnm, hno, hkv] at h
    exact h)
  clear hnd hkd hnm hno hkv hks HND
  generalize hee : nameEnd x pos = e at *
  have HEE := Lib.hid hee
  clear hee
  generalize ((if portAt x pos = true then 2 else 3 : Nat) : Int) = kd at *
  have z0 : (0 : Int) ≤ (pos : Int) := by omega
  have z1 : (pos : Int) ≤ (e : Int) := by omega
  have z2 : (e : Int) ≤ (s.size : Int) := by omega
  cases hnl : nameLong x pos with
  | true =>
    rw [hnl] at HB2
    have hb3 : bad2 = if bad < 0 then (pos : Int) else bad := by
      rw [HB2.out]
      by_cases h : bad < 0
      · rw [if_pos h, if_pos ⟨rfl, h⟩]
      · rw [if_neg h, if_neg (fun h2 => h h2.2)]
    rw [← hb3] at HRef
    clear hb3
    go_wp2_with fail
    refine HRef.out.mono ?_
    rintro e1 w1 ⟨rfl, hb1, hg1⟩
    obtain ⟨hR1, hF1⟩ := HH.out.put hg1 hb1
    have HR1 := Lib.hid hR1
    have HF1 := Lib.hid hF1
    have q01 := Blk.f0 hb1
    have hf2 := hb1.frozen 1
    have q11 := Blk.f1 hb1
    clear hg1 hb1 hR1 hF1 q0 q1 hf1
    go_wp2_with fail
    obtain ⟨hR2, hF2⟩ := HR1.out.put (only_set _ _ 1 _) (Blk.s1 HR1.out.blk e)
    refine (HNode.out _ _ _ _ _ hR2).mono ?_
    rintro e1 w3 ⟨rfl, hR3, hF3⟩
    go_wp2_with fail
    go_ret
    exact ⟨rfl, by rw [HEE.out]; exact hR3, (HF1.out.trans hF2).trans hF3⟩
  | false =>
    rw [hnl] at HB2
    have hb3 : bad2 = bad := by rw [HB2.out, if_neg (fun h => by cases h.1)]
    subst hb3
    go_wp2_with fail
    obtain ⟨hR2, hF2⟩ := HH.out.put (only_set _ _ 1 _) (Blk.s1 HH.out.blk e)
    refine (HNode.out _ _ _ _ _ hR2).mono ?_
    rintro e1 w3 ⟨rfl, hR3, hF3⟩
    go_wp2_with fail
    go_ret
    exact ⟨rfl, by rw [HEE.out]; exact hR3, hF2.trans hF3⟩
end Go.Proofs.Ytlbkacabcfeaiaa.Tl
/- Patterns: the reference lays lists flat and joins them. -/
namespace Go.Proofs.Ytlbkacabcfeaiaa.Tl
open Go.RowKit Mm
set_option linter.unusedVariables false
/-- a list of nodes denotes a list of trees -/
def DenL (N : List Nd) (ks : List Nat) (ts : List T) : Prop := ks.length = ts.length ∧ ∀ (i j : Nat) (t : T), ks[i]? = some j → ts[i]? = some t → Den N j t
theorem DenL.nil (N : List Nd) : DenL N [] [] := ⟨rfl, fun i j t h => by simp at h⟩
theorem DenL.one {N : List Nd} {k : Nat} {t : T} (h : Den N k t) : DenL N [k] [t] := by
  refine ⟨rfl, fun i j u h1 h2 => ?_⟩
  cases i with
  | zero =>
    simp only [List.getElem?_cons_zero, Option.some.injEq] at h1 h2
    subst h1 h2
    exact h
  | succ i => simp at h1
theorem DenL.app {N : List Nd} {ks js : List Nat} {ts us : List T} (h : DenL N ks ts) (k : DenL N js us) : DenL N (ks ++ js) (ts ++ us) := by
  refine ⟨by rw [List.length_append, List.length_append, h.1, k.1], fun i j t h1 h2 => ?_⟩
  rcases Nat.lt_or_ge i ks.length with hi | hi
  · rw [List.getElem?_append_left hi] at h1
    rw [List.getElem?_append_left (by rw [← h.1]; exact hi)] at h2
    exact h.2 i j t h1 h2
  · rw [List.getElem?_append_right hi] at h1
    rw [List.getElem?_append_right (by rw [← h.1]; exact hi), ← h.1] at h2
    exact k.2 _ j t h1 h2
theorem DenL.more {N M : List Nd} {ks : List Nat} {ts : List T} (h : DenL N ks ts) : DenL (N ++ M) ks ts := ⟨h.1, fun i j t h1 h2 => (h.2 i j t h1 h2).more⟩
def inK (kd : Nat) (t : T) : List T := if kd = 4 then inSeq t else inAlt t
def mkK (kd : Nat) (l : List T) : T := if kd = 4 then mkSeq l else mkAlt l
def kidL (N : List Nd) (kd k : Nat) : List Nat := match N[k]? with
  | some d => if d.kind = kd then d.kids else [k]
  | none => [k]
def laidL (N : List Nd) (kd : Nat) (ks : List Nat) : List Nat := ks.flatMap (kidL N kd)
theorem sufK_lt (c : UInt8) : 6 ≤ sufK c := by unfold sufK; split <;> (try split) <;> omega
theorem den_kids {N : List Nd} {kd k : Nat} {t : T} (hkd : kd = 4 ∨ kd = 5) (h : Den N k t) : DenL N (kidL N kd k) (inK kd t) := by
  have h0 := h
  unfold kidL inK
  cases h with
  | any k d h1 h2 =>
    rw [h1]
    simp only
    rw [if_neg (by omega)]
    rcases hkd with rfl | rfl
    · rw [if_pos rfl]; exact .one h0
    · rw [if_neg (by decide)]; exact .one h0
  | nam k d po h1 h2 =>
    rw [h1]
    simp only
    have : d.kind = 2 ∨ d.kind = 3 := by cases po <;> simp_all
    rw [if_neg (by omega)]
    rcases hkd with rfl | rfl
    · rw [if_pos rfl]; exact .one h0
    · rw [if_neg (by decide)]; exact .one h0
  | seq k d l h1 h2 h3 h4 =>
    rw [h1]
    simp only
    rcases hkd with rfl | rfl
    · rw [if_pos rfl, if_pos h2]; exact ⟨h3, h4⟩
    · rw [if_neg (by omega), if_neg (by decide)]; exact .one h0
  | alt k d l h1 h2 h3 h4 =>
    rw [h1]
    simp only
    rcases hkd with rfl | rfl
    · rw [if_pos rfl, if_neg (by omega)]; exact .one h0
    · rw [if_pos h2, if_neg (by decide)]; exact ⟨h3, h4⟩
  | suf k d j t c h1 h2 h3 h4 h5 =>
    rw [h1]
    simp only
    have := sufK_lt c
    rw [if_neg (by omega)]
    rcases hkd with rfl | rfl
    · rw [if_pos rfl]; exact .one h0
    · rw [if_neg (by decide)]; exact .one h0
theorem den_laid {N : List Nd} {kd : Nat} (hkd : kd = 4 ∨ kd = 5) : ∀ {ks : List Nat} {ts : List T}, DenL N ks ts → DenL N (laidL N kd ks) (ts.flatMap (inK kd))
  | [], [], _ => .nil N
  | [], t :: ts, h => by have := h.1; simp at this
  | k :: ks, [], h => by have := h.1; simp at this
  | k :: ks, t :: ts, h => by
    have h1 := den_kids hkd (h.2 0 k t rfl rfl)
    have h2 : DenL N ks ts := ⟨by have := h.1; simpa using this, fun i j u hi hj => h.2 (i + 1) j u hi hj⟩
    have h3 := den_laid hkd h2
    unfold laidL at *
    rw [List.flatMap_cons, List.flatMap_cons]
    exact h1.app h3
theorem inK_bd (kd : Nat) (t : T) : bdL (inK kd t) ≤ bd t := by
  unfold inK
  split
  · exact bd_inSeq t
  · exact bd_inAlt t
theorem laid_len {N : List Nd} {kd : Nat} (hkd : kd = 4 ∨ kd = 5) {ks : List Nat} {ts : List T} (h : DenL N ks ts) : (laidL N kd ks).length * 8 ≤ bdL ts := by
  have h1 := (den_laid hkd h).1
  have h2 := bdL_len (ts.flatMap (inK kd))
  have h3 := bd_flat (inK kd) (inK_bd kd) ts
  omega
theorem laid_step {N : List Nd} {kd : Nat} {ks : List Nat} {k : Nat} (h : k < ks.length) : laidL N kd (ks.take (k + 1)) = laidL N kd (ks.take k) ++ kidL N kd ks[k] := by
  unfold laidL
  rw [List.take_succ_eq_append_getElem h, List.flatMap_append]
  simp
theorem laid_pre {N : List Nd} {kd : Nat} (ks : List Nat) (k : Nat) : (laidL N kd (ks.take k)).length ≤ (laidL N kd ks).length := by
  unfold laidL
  conv => rhs; rw [← List.take_append_drop k ks]
  rw [List.flatMap_append, List.length_append]
  omega
theorem iv_app (a b : List Nat) : iv (a ++ b) = iv a ++ iv b := List.map_append
theorem iv_one (a : List Nat) : ∀ u ∈ iv a, u.oneCell' = true := by
  intro u hu
  unfold iv at hu
  obtain ⟨n, _, rfl⟩ := List.mem_map.1 hu
  rfl
theorem iv_get {l : List Nat} {k : Nat} (h : k < l.length) : (iv l)[k]? = some (.int .i64 (l[k] : Int)) := by simp [iv, h]
abbrev Hd6 (g gl k n gn : Nat) (nv v0 v1 v2 v3 : Value) (W : World) : Prop := W.cell? ⟨g, 5, none⟩ = some nv ∧ W.cell? ⟨gl, k, none⟩ = some (.int .i64 (n : Int)) ∧ W.cell? ⟨gn, n * 4, none⟩ = some v0 ∧ W.cell? ⟨gn, n * 4 + 1, none⟩ = some v1 ∧ W.cell? ⟨gn, n * 4 + 2, none⟩ = some v2 ∧ W.cell? ⟨gn, n * 4 + 3, none⟩ = some v3
set_option maxRecDepth 100000 in
set_option maxHeartbeats 8000000 in
theorem laid_any {W X : World} {g : Nat} {s : ByteArray} {pos it deep : Nat} {bad : Int} {N : List Nd} {nv : Value} (h : Rf W g s pos it deep bad N nv X) (kd : Nat) (hkd : kd = 4 ∨ kd = 5) (lv : Value) (ks : List Nat) (ts : List T) (hl : Fz X 3 1 lv ks.length (iv ks)) (hd : DenL N ks ts) (hb : bdL ts ≤ 50000) (hN : N.length ≤ 100000) :
    Calls Try.prog 44 #[.pointer (some ⟨g, 0, none⟩), .int .i64 (kd : Int), lv] X fun e w' => ∃ v', e = .returned v' ∧ w'.ownsRow X.heap.size 3 1 v' (laidL N kd ks).length (iv (laidL N kd ks)) ∧ Below X.heap.size X w' := by
  have hlen := laid_len hkd hd
  have hpre := laid_pre (N := N) (kd := kd) ks
  obtain ⟨a0, cap, rfl, hcap, hcm⟩ := Fz.form hl
  unfold maxLen at hcm
  have HC := Lib.hid (fun h : 0 < ks.length => Fz.cells hl h)
  have HH := Lib.hid h
  have hkl := bdL_len ts
  have hdl := hd.1
  have HD := Lib.hid hd
  have HP := Lib.hid hpre
  obtain ⟨an, cn, rfl⟩ := own_len h.row
  clear h hl hd hpre
  go_enter Try.func44, Try.ntmps44
  go_wp2_with fail
  go_loopw [7, 8] (fun o i wr => ∃ k : Nat, k ≤ ks.length ∧ i = .int .i64 (k : Int) ∧ wr.ownsRow X.heap.size 3 1 o (laidL N kd (ks.take k)).length (iv (laidL N kd (ks.take k))) ∧ Below X.heap.size X wr) (fun _ i _ => ks.length - (intOf i).toNat)
  case atStart => exact ⟨0, Nat.zero_le _, rfl, World.ownsRow_nil _ _ _ _, Below.refl _ _⟩
  case round =>
    obtain ⟨k, hk, rfl, hrow, hbel⟩ := hrel
    have hpk := HP.out k
    by_cases hlt : k < ks.length
    · obtain ⟨gl, rfl, hgl, hcl⟩ := HC.out (by omega)
      have hkt : k < ts.length := by omega
      clear hdl
      have hdk := HD.out.2 k ks[k] ts[k] (List.getElem?_eq_getElem hlt) (List.getElem?_eq_getElem hkt)
      have hnk := hdk.lt
      obtain ⟨gn, cn2, hnv, _, _, hgnw, hnc⟩ := own_at (HH.out.below hbel).row (by omega)
      cases hnv
      obtain ⟨d, hdd⟩ : ∃ d, N[ks[k]]? = some d := ⟨_, List.getElem?_eq_getElem hnk⟩
      have hdm : d ∈ N := List.mem_of_getElem? hdd
      obtain ⟨hn0, hn1, hn2, hn3⟩ := ndC_get hdd
      have p0 := hnc _ _ hn0
      have p1 := hnc _ _ hn1
      have p2 := hnc _ _ hn2
      have p3 := hnc _ _ hn3
      have PL := Lib.hid (hcl k _ (iv_get hlt))
      have pl : wr.cell? ⟨gl, k, none⟩ = some (.int .i64 (ks[k] : Int)) := (Below.cell hbel (p := ⟨gl, k, none⟩) hgl).trans (hcl k _ (iv_get hlt))
      have hkidd := (HH.out.below hbel).kid d hdm
      have pg := Blk.f5 (HH.out.below hbel).blk
      have HS := Lib.hid (laid_step (N := N) (kd := kd) hlt)
      have hkl2 : kidL N kd ks[k] = if d.kind = kd then d.kids else [ks[k]] := by unfold kidL; rw [hdd]
      have hnext := HP.out (k + 1)
      rw [HS.out, List.length_append, hkl2] at hnext
      rw [hkl2] at HS
      generalize ks[k] = n at *
      generalize laidL N kd (ks.take k) = L at *
      have HR := Lib.hid hrow
      have HB := Lib.hid hbel
      clear hrow hnc hcl hn0 hn1 hn2 hn3 hdk hkl2
      have i0 : (0 : Int) ≤ (n : Int) := by omega
      have i1 : (n : Int) < (N.length : Int) := by omega
      have i2 : (0 : Int) ≤ (k : Int) := by omega
      have i3 : (k : Int) < (ks.length : Int) := by omega
      have hgw := (HH.out.below HB.out).blk.lt
      have hglw := Nat.lt_of_lt_of_le hgl HB.out.size
      have hS0 : Hd6 g gl k n gn (.slice (some ⟨gn, 0, none⟩) N.length cn) (.int .i64 (d.kind : Int)) (.string d.name) (.bool d.no) d.kv wr.drew := ⟨pg, pl, p0, p1, p2, p3⟩
      have HBD := Lib.hid HB.out.drew
      have HRD := Lib.hid (show wr.drew.ownsRow _ _ _ _ _ _ from HR.out)
      have HKD := Lib.hid (Fz.fr hkidd (Fr.below (Below.refl _ wr).drew))
      have hkvf := Fz.form hkidd
      obtain ⟨ak, ck, hkv, _⟩ := hkvf
      rw [hkv] at HKD hS0
      have hwid : IntKind.i64.wrap (n : Int) = (n : Int) := IntWalk.i64_in _ (by omega)
      have hwik : IntKind.i64.wrap (k : Int) = (k : Int) := IntWalk.i64_in _ (by omega)
      clear pg pl p0 p1 p2 p3 hkidd hkv
      go_wp2_with fail
      go_upto_region 5 with fail
      refine wp_region_last 11 (fun w' => Hd6 g gl k n gn (.slice (some ⟨gn, 0, none⟩) N.length cn) (.int .i64 (d.kind : Int)) (.string d.name) (.bool d.no) (.slice ak d.kids.length ck) w') mixed ?_
      have hgn5 : gn < wr.drew.heap.size := hgnw
      have hgw5 : g < wr.drew.heap.size := hgw
      have hgl5 : gl < wr.drew.heap.size := hglw
      clear HR HB
      generalize wr.drew = w5 at *
      refine wpLast_take (i := 0) (oi := { dst := some 16, op := Op.move (Operand.tmp 0), type := 65, pos := "pattern.go:186", after := #[], guard := none }) (v := ?_) rfl (by kernel_rfl) (by kernel_rfl) (by kernel_rfl) (by kernel_rfl) (fun _ _ _ h => h) (Or.inl ⟨by rfl, ?_⟩) (by assumption) ?_
      rotate_left
      · intro w hSw
        try dsimp only at hSw
        go_simp
        try with_reducible rfl
      try simp only [Act.put, List.setIfInBounds_toArray, List.set_cons_zero, List.set_cons_succ]
      refine wpLast_take (i := 1) (oi := { dst := some 17, op := Op.nilCheck (Operand.tmp 16), type := 0, pos := "pattern.go:186", after := #[{ on := 0, ground := Ground.data }], guard := none }) (v := ?_) rfl (by kernel_rfl) (by kernel_rfl) (by kernel_rfl) (by kernel_rfl) (fun _ _ _ h => h) (Or.inl ⟨by rfl, ?_⟩) (by assumption) ?_
      rotate_left
      · intro w hSw
        try dsimp only at hSw
        go_simp
        try with_reducible rfl
      try simp only [Act.put, List.setIfInBounds_toArray, List.set_cons_zero, List.set_cons_succ]
      refine wpLast_take (i := 2) (oi := { dst := some 18, op := Op.fieldAddr 67 (Operand.tmp 17) 5, type := 0, pos := "pattern.go:186", after := #[{ on := 1, ground := Ground.data }], guard := none }) (v := ?_) rfl (by kernel_rfl) (by kernel_rfl) (by kernel_rfl) (by kernel_rfl) (fun _ _ _ h => h) (Or.inl ⟨by rfl, ?_⟩) (by assumption) ?_
      rotate_left
      · intro w hSw
        try dsimp only at hSw
        go_simp
        try with_reducible rfl
      try simp only [Act.put, List.setIfInBounds_toArray, List.set_cons_zero, List.set_cons_succ]
      refine wpLast_take (i := 3) (oi := { dst := some 19, op := Op.load 26 (Operand.tmp 18), type := 26, pos := "pattern.go:186", after := #[{ on := 2, ground := Ground.data }], guard := none }) (v := ?_) rfl (by kernel_rfl) (by kernel_rfl) (by kernel_rfl) (by kernel_rfl) (fun _ _ _ h => h) (Or.inl ⟨by rfl, ?_⟩) (by assumption) ?_
      rotate_left
      · intro w hSw
        try dsimp only at hSw
        go_simp
        try with_reducible rfl
      try simp only [Act.put, List.setIfInBounds_toArray, List.set_cons_zero, List.set_cons_succ]
      refine wpLast_take (i := 4) (oi := { dst := some 20, op := Op.move (Operand.tmp 2), type := 72, pos := "pattern.go:186", after := #[], guard := none }) (v := ?_) rfl (by kernel_rfl) (by kernel_rfl) (by kernel_rfl) (by kernel_rfl) (fun _ _ _ h => h) (Or.inl ⟨by rfl, ?_⟩) (by assumption) ?_
      rotate_left
      · intro w hSw
        try dsimp only at hSw
        go_simp
        try with_reducible rfl
      try simp only [Act.put, List.setIfInBounds_toArray, List.set_cons_zero, List.set_cons_succ]
      refine wpLast_take (i := 5) (oi := { dst := some 21, op := Op.move (Operand.tmp 8), type := 3, pos := "pattern.go:186", after := #[], guard := none }) (v := ?_) rfl (by kernel_rfl) (by kernel_rfl) (by kernel_rfl) (by kernel_rfl) (fun _ _ _ h => h) (Or.inl ⟨by rfl, ?_⟩) (by assumption) ?_
      rotate_left
      · intro w hSw
        try dsimp only at hSw
        go_simp
        try with_reducible rfl
      try simp only [Act.put, List.setIfInBounds_toArray, List.set_cons_zero, List.set_cons_succ]
      refine wpLast_take (i := 6) (oi := { dst := some 22, op := Op.indexAddr 72 (Operand.tmp 20) (Operand.tmp 21), type := 0, pos := "pattern.go:186", after := #[{ on := 4, ground := Ground.data }, { on := 5, ground := Ground.data }], guard := none }) (v := ?_) rfl (by kernel_rfl) (by kernel_rfl) (by kernel_rfl) (by kernel_rfl) (fun _ _ _ h => h) (Or.inl ⟨by rfl, ?_⟩) (by assumption) ?_
      rotate_left
      · intro w hSw
        try dsimp only at hSw
        go_simp
        try with_reducible rfl
      try simp only [Act.put, List.setIfInBounds_toArray, List.set_cons_zero, List.set_cons_succ]
      refine wpLast_take (i := 7) (oi := { dst := some 23, op := Op.load 3 (Operand.tmp 22), type := 3, pos := "pattern.go:186", after := #[{ on := 6, ground := Ground.data }], guard := none }) (v := ?_) rfl (by kernel_rfl) (by kernel_rfl) (by kernel_rfl) (by kernel_rfl) (fun _ _ _ h => h) (Or.inl ⟨by rfl, ?_⟩) (by assumption) ?_
      rotate_left
      · intro w hSw
        try dsimp only at hSw
        go_simp
        try with_reducible rfl
      try simp only [Act.put, List.setIfInBounds_toArray, List.set_cons_zero, List.set_cons_succ]
      refine wpLast_take (i := 8) (oi := { dst := some 24, op := Op.indexAddr 26 (Operand.tmp 19) (Operand.tmp 23), type := 0, pos := "pattern.go:186", after := #[{ on := 3, ground := Ground.data }, { on := 7, ground := Ground.data }], guard := none }) (v := ?_) rfl (by kernel_rfl) (by kernel_rfl) (by kernel_rfl) (by kernel_rfl) (fun _ _ _ h => h) (Or.inl ⟨by rfl, ?_⟩) (by assumption) ?_
      rotate_left
      · intro w hSw
        try dsimp only at hSw
        go_simp
        try with_reducible rfl
      try simp only [Act.put, List.setIfInBounds_toArray, List.set_cons_zero, List.set_cons_succ]
      refine wpLast_take (i := 9) (oi := { dst := some 25, op := Op.load 92 (Operand.tmp 24), type := 92, pos := "pattern.go:186", after := #[{ on := 8, ground := Ground.data }], guard := none }) (v := ?_) rfl (by kernel_rfl) (by kernel_rfl) (by kernel_rfl) (by kernel_rfl) (fun _ _ _ h => h) (Or.inl ⟨by rfl, ?_⟩) (by assumption) ?_
      rotate_left
      · intro w hSw
        try dsimp only at hSw
        go_simp
        try with_reducible rfl
      try simp only [Act.put, List.setIfInBounds_toArray, List.set_cons_zero, List.set_cons_succ]
      have hA : Below w5.heap.size w5 (w5.alloc (.cells #[.int .i64 0, .string ⟨#[]⟩, .bool false, .slice none 0 0] 92)) := (Below.refl _ w5).alloc (Nat.le_refl _) _
      have hS1 : Hd6 g gl k n gn (.slice (some ⟨gn, 0, none⟩) N.length cn) (.int .i64 (d.kind : Int)) (.string d.name) (.bool d.no) (.slice ak d.kids.length ck) (w5.alloc (.cells #[.int .i64 0, .string ⟨#[]⟩, .bool false, .slice none 0 0] 92)) := ⟨(hA.cell (p := ⟨g, 5, none⟩) hgw5).trans hS0.1, (hA.cell (p := ⟨gl, k, none⟩) hgl5).trans hS0.2.1, (hA.cell (p := ⟨gn, n * 4, none⟩) hgn5).trans hS0.2.2.1, (hA.cell (p := ⟨gn, n * 4 + 1, none⟩) hgn5).trans hS0.2.2.2.1, (hA.cell (p := ⟨gn, n * 4 + 2, none⟩) hgn5).trans hS0.2.2.2.2.1, (hA.cell (p := ⟨gn, n * 4 + 3, none⟩) hgn5).trans hS0.2.2.2.2.2⟩
      refine wpLast_ready (rs := [10]) (by kernel_rfl) (by simp) ?_
      refine EachLast.cons (o := { dst := some 9, op := Op.alloc 92, type := 0, pos := "pattern.go:186", after := #[], guard := none }) rfl (fun K hK => ?_) EachLast.nil
      go_simp
      refine hK.out _ _ (fun _ => hS1) ?_
      try simp only [Act.put, List.setIfInBounds_toArray, List.set_cons_zero, List.set_cons_succ]
      refine wpLast_ready (rs := [11]) (by kernel_rfl) (by simp) ?_
      refine EachLast.cons (o := { dst := none, op := Op.store 92 (Operand.tmp 9) (Operand.tmp 25), type := 0, pos := "pattern.go:186", after := #[{ on := 10, ground := Ground.data }, { on := 9, ground := Ground.data }, { on := 0, ground := Ground.phase }, { on := 1, ground := Ground.phase }, { on := 2, ground := Ground.phase }, { on := 3, ground := Ground.phase }, { on := 4, ground := Ground.phase }, { on := 5, ground := Ground.phase }, { on := 6, ground := Ground.phase }, { on := 7, ground := Ground.phase }, { on := 8, ground := Ground.phase }, { on := 9, ground := Ground.phase }, { on := 10, ground := Ground.phase }], guard := none }) rfl (fun K hK => ?_) EachLast.nil
      go_simp
      refine hK.out _ _ (fun h => absurd rfl h) ?_
      try simp only [Act.put, List.setIfInBounds_toArray, List.set_cons_zero, List.set_cons_succ]
      refine wpLast_done (by kernel_rfl) ?_ _
      have hB6 : Below X.heap.size X (w5.alloc (.cells #[.int .i64 (d.kind : Int), .string d.name, .bool d.no, .slice ak d.kids.length ck] 92)) := HBD.out.alloc HBD.out.size _
      have HB6 := Lib.hid hB6
      have HR6 := Lib.hid (HRD.out.alloc (.cells #[.int .i64 (d.kind : Int), .string d.name, .bool d.no, .slice ak d.kids.length ck] 92))
      have HK6 := Lib.hid (Fz.fr HKD.out (Fr.below (X := w5) (Y := w5.alloc (.cells #[.int .i64 (d.kind : Int), .string d.name, .bool d.no, .slice ak d.kids.length ck] 92)) ((Below.refl _ w5).alloc (Nat.le_refl _) _)))
      have c60 := (Blk.new w5 92 #[.int .i64 (d.kind : Int), .string d.name, .bool d.no, .slice ak d.kids.length ck]).cell 0
      have c63 := (Blk.new w5 92 #[.int .i64 (d.kind : Int), .string d.name, .bool d.no, .slice ak d.kids.length ck]).cell 3
      obtain ⟨a7, c7, rfl⟩ := own_len HRD.out
      clear hB6 HBD HRD HKD hS0 hS1 hA
      generalize hw6 : w5.alloc (.cells #[.int .i64 (d.kind : Int), .string d.name, .bool d.no, .slice ak d.kids.length ck] 92) = w6 at *
      clear hw6
      generalize w5.heap.size = q5 at *
      by_cases hkq : d.kind = kd
      · rw [if_pos hkq] at hnext HS
        have hkI : (d.kind : Int) = (kd : Int) := by omega
        have HKQ := Lib.hid hkq
        clear hkq
        go_wp2_with (at_builtin; refine app_sees 72 Try.underlying72 info_int rfl HR6.out (Fz.toSees HK6.out) rfl rfl rfl rfl (iv_one _) (by rw [iv_len]; simp only [maxLen]; omega) (by rw [iv_len]; omega) HB6.out.size ?_; intro v8 w8 ho8 hg8)
        go_roundw
        case rel => exact ⟨k + 1, by omega, by go_num, by rw [HS.out, List.length_append, iv_app]; rw [iv_len] at ho8; exact ho8, HB6.out.grown hg8 HB6.out.size (fun z hz => (HR6.out.lt z hz).1)⟩
        case measure => simp [intOf]; omega
      · rw [if_neg hkq] at hnext HS
        have hkI : ¬ (d.kind : Int) = (kd : Int) := by omega
        clear hkq
        have pl6 : w6.cell? ⟨gl, k, none⟩ = some (.int .i64 (n : Int)) := (Below.cell HB6.out (p := ⟨gl, k, none⟩) hgl).trans PL.out
        go_wp2_with (at_builtin; refine app_int (k := n) rfl HR6.out rfl rfl rfl rfl (by simp) (by omega) HB6.out.size ?_; intro v8 w8 ho8 hk8)
        go_roundw
        case rel => exact ⟨k + 1, by omega, by go_num, by rw [HS.out]; exact ho8, (HB6.out.alloc HB6.out.size _).grown hk8.by (by simp; have := HB6.out.size; omega) (fun z hz => (HR6.out.lt z hz).1)⟩
        case measure => simp [intOf]; omega
    · obtain rfl : k = ks.length := by omega
      rw [List.take_length] at hrow
      have HR := Lib.hid hrow
      have HB := Lib.hid hbel
      clear hrow hbel
      go_wp2_with fail
      go_ret
      exact ⟨_, rfl, HR.out, HB.out⟩
end Go.Proofs.Ytlbkacabcfeaiaa.Tl
/- Patterns: the reference joins a list of nodes. -/
namespace Go.Proofs.Ytlbkacabcfeaiaa.Tl
open Go.RowKit Mm
set_option linter.unusedVariables false
theorem mkK_one {kd : Nat} {ts : List T} {t : T} (hkd : kd = 4 ∨ kd = 5) (h : ts.flatMap (inK kd) = [t]) : mkK kd ts = t := by
  rcases hkd with rfl | rfl
  · show oneOr .seq (ts.flatMap (inK 4)) = t
    rw [h]
    rfl
  · show oneOr .alt (ts.flatMap (inK 5)) = t
    rw [h]
    rfl
theorem oneOr_many {f : List T → T} {l : List T} (h : l.length ≠ 1) : oneOr f l = f l := by
  unfold oneOr
  split
  · exact absurd rfl h
  · rfl
/-- the kids' rows are younger -/
def NewK (X : World) (M : List Nd) : Prop := ∀ d ∈ M, ∀ g, d.kv.ownBlock = some g → X.heap.size ≤ g
theorem NewK.nil (X : World) : NewK X [] := fun d h => by cases h
theorem NewK.app {X Y : World} {M K : List Nd} (h : NewK X M) (k : NewK Y K) (hs : X.heap.size ≤ Y.heap.size) : NewK X (M ++ K) := fun d hd g hg => by
  rcases List.mem_append.1 hd with hd | hd
  · exact h d hd g hg
  · exact Nat.le_trans hs (k d hd g hg)
theorem NewK.one {X : World} {d : Nd} (h : ∀ g, d.kv.ownBlock = some g → X.heap.size ≤ g) : NewK X [d] := fun e he => by
  rw [List.mem_singleton] at he
  subst he
  exact h
set_option maxRecDepth 100000 in
set_option maxHeartbeats 8000000 in
theorem rjoin_any {W X : World} {g : Nat} {s : ByteArray} {pos it deep : Nat} {bad : Int} {N : List Nd} {nv : Value} (h : Rf W g s pos it deep bad N nv X) (kd : Nat) (hkd : kd = 4 ∨ kd = 5) (lv : Value) (ks : List Nat) (ts : List T) (hl : Fz X 3 1 lv ks.length (iv ks)) (hd : DenL N ks ts) (hb : bdL ts ≤ 50000) (hN : N.length ≤ 90000) :
    Calls Try.prog 33 #[.pointer (some ⟨g, 0, none⟩), .int .i64 (kd : Int), lv] X fun e w' => ∃ (k : Nat) (M : List Nd) (nv' : Value), e = .returned (.int .i64 (k : Int)) ∧ Rf W g s pos it deep bad (N ++ M) nv' w' ∧ Fr X w' ∧ NewK X M ∧ M.length ≤ 1 ∧ Den (N ++ M) k (mkK kd ts) := by
  have HL := Lib.hid (laid_any h kd hkd lv ks ts hl hd hb (by omega))
  have hlen := laid_len hkd hd
  have hdl := den_laid hkd hd
  obtain ⟨a0, cap, rfl, _⟩ := Fz.form hl
  have HH := Lib.hid h
  have HD := Lib.hid hdl
  clear h hl hd hdl
  generalize hLL : laidL N kd ks = L at *
  clear hLL
  go_enter Try.func33, Try.ntmps33
  go_wp2_with fail
  refine HL.out.mono ?_
  rintro e w1 ⟨v', rfl, hrow, hb1⟩
  have HR := Lib.hid (HH.out.below hb1)
  have HW := Lib.hid hrow
  have HB := Lib.hid hb1
  obtain ⟨a1, c1, rfl⟩ := own_len hrow
  by_cases h1 : L.length = 1
  · obtain ⟨k, rfl⟩ := List.length_eq_one_iff.1 h1
    obtain ⟨t, ht⟩ := List.length_eq_one_iff.1 (show (ts.flatMap (inK kd)).length = 1 from by rw [← HD.out.1]; rfl)
    have hden : Den N k (mkK kd ts) := by rw [mkK_one hkd ht]; exact HD.out.2 0 k t rfl (by rw [ht]; rfl)
    obtain ⟨gl, cl, hv, _, _, hgl, hc⟩ := own_at hrow (by simp)
    cases hv
    have p0 := hc 0 _ rfl
    have HDN := Lib.hid hden
    clear hrow hb1 hc hden h1
    go_wp2_with fail
    go_ret
    exact ⟨k, [], _, rfl, by rw [List.append_nil]; exact HR.out, Fr.below HB.out, NewK.nil _, by simp, by rw [List.append_nil]; exact HDN.out⟩
  · have h1I : ¬ (L.length : Int) = 1 := by omega
    have HN := Lib.hid (node_any HR.out ⟨kd, ⟨#[]⟩, false, .slice a1 L.length c1, L⟩ (Fz.of_own hrow) (by omega))
    have HNEW := Lib.hid (show ∀ g, (Value.slice a1 L.length c1).ownBlock = some g → X.heap.size ≤ g from fun g hg => (hrow.lt g hg).1)
    have HDN := Lib.hid (show Den (N ++ [⟨kd, ⟨#[]⟩, false, .slice a1 L.length c1, L⟩]) N.length (mkK kd ts) from by
      have hm := HD.out.more (M := [⟨kd, ⟨#[]⟩, false, .slice a1 L.length c1, L⟩])
      have hne : (ts.flatMap (inK kd)).length ≠ 1 := by rw [← HD.out.1]; exact h1
      rcases hkd with rfl | rfl
      · show Den _ _ (oneOr .seq (ts.flatMap (inK 4)))
        rw [oneOr_many hne]
        exact .seq _ _ _ (snoc_get N _) rfl hm.1 hm.2
      · show Den _ _ (oneOr .alt (ts.flatMap (inK 5)))
        rw [oneOr_many hne]
        exact .alt _ _ _ (snoc_get N _) rfl hm.1 hm.2)
    clear hrow hb1 h1 hlen
    go_wp2_with fail
    refine HN.out.mono ?_
    rintro e w2 ⟨rfl, ⟨nv', hR2⟩, hF2⟩
    go_wp2_with fail
    go_ret
    exact ⟨N.length, [_], nv', rfl, hR2, (Fr.below HB.out).trans hF2, NewK.one HNEW.out, by simp, HDN.out⟩
end Go.Proofs.Ytlbkacabcfeaiaa.Tl
