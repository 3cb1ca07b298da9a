/- Patterns: the reference's reader: what it looks at, what it refuses. -/
import Derived.Test.YtlbkacabcfeaiaaKa
import Derived.Test.YtlbkacabcfeaiaaPc
import Derived.Deep.QuietTactic
import Derived.BigQuiet
namespace Go.Proofs.Ytlbkacabcfeaiaa.Tl
open Go.RowKit Mm
set_option linter.unusedVariables false
def rfC (s : ByteArray) (pos it deep : Nat) (bad : Int) (nv : Value) : Array Value := #[.string s, .int .i64 (pos : Int), .int .i64 (it : Int), .int .i64 (deep : Int), .int .i64 bad, nv]
section
variable {w : World} {g : Nat} {t : TypeId} {s : ByteArray} {pos it deep : Nat} {bad : Int} {nv : Value}
theorem Blk.f0 (hB : Blk w g t (rfC s pos it deep bad nv)) : w.cell? ⟨g, 0, none⟩ = some (.string s) := hB.cell 0
theorem Blk.f1 (hB : Blk w g t (rfC s pos it deep bad nv)) : w.cell? ⟨g, 1, none⟩ = some (.int .i64 (pos : Int)) := hB.cell 1
theorem Blk.f2 (hB : Blk w g t (rfC s pos it deep bad nv)) : w.cell? ⟨g, 2, none⟩ = some (.int .i64 (it : Int)) := hB.cell 2
theorem Blk.f3 (hB : Blk w g t (rfC s pos it deep bad nv)) : w.cell? ⟨g, 3, none⟩ = some (.int .i64 (deep : Int)) := hB.cell 3
theorem Blk.f4 (hB : Blk w g t (rfC s pos it deep bad nv)) : w.cell? ⟨g, 4, none⟩ = some (.int .i64 bad) := hB.cell 4
theorem Blk.f5 (hB : Blk w g t (rfC s pos it deep bad nv)) : w.cell? ⟨g, 5, none⟩ = some nv := hB.cell 5
theorem Blk.s1 (hB : Blk w g t (rfC s pos it deep bad nv)) (p : Nat) : Blk (w.setCell ⟨g, 1, none⟩ (.int .i64 (p : Int))) g t (rfC s p it deep bad nv) := hB.set_ 1 _
theorem Blk.s2 (hB : Blk w g t (rfC s pos it deep bad nv)) (p : Nat) : Blk (w.setCell ⟨g, 2, none⟩ (.int .i64 (p : Int))) g t (rfC s pos p deep bad nv) := hB.set_ 2 _
theorem Blk.s3 (hB : Blk w g t (rfC s pos it deep bad nv)) (p : Nat) : Blk (w.setCell ⟨g, 3, none⟩ (.int .i64 (p : Int))) g t (rfC s pos it p bad nv) := hB.set_ 3 _
theorem Blk.s4 (hB : Blk w g t (rfC s pos it deep bad nv)) (p : Int) : Blk (w.setCell ⟨g, 4, none⟩ (.int .i64 p)) g t (rfC s pos it deep p nv) := hB.set_ 4 _
theorem Blk.s5 (hB : Blk w g t (rfC s pos it deep bad nv)) (p : Value) : Blk (w.setCell ⟨g, 5, none⟩ p) g t (rfC s pos it deep bad p) := hB.set_ 5 _
end
set_option maxRecDepth 100000 in
set_option maxHeartbeats 4000000 in
theorem letterAt_any (w : World) (g k : Nat) (s : ByteArray) (pos it deep : Nat) (bad : Int) (nv : Value) (hB : Blk w g 67 (rfC s pos it deep bad nv)) (hs : s.size ≤ 1000) (hk : k ≤ 2000) :
    Calls Try.prog 49 #[.pointer (some ⟨g, 0, none⟩), .int .i64 (k : Int)] w fun e w' => e = .returned (.bool (atB isLetter (xs s) k)) ∧ w = w' := by
  have q0 := Blk.f0 hB
  by_cases hlt : k < s.size
  · rw [at_in hlt]
    have HL := Lib.hid (rletter_any s[k] w)
    clear hB
    generalize hy : s[k] = y at *
    go_enter Try.func49, Try.ntmps49
    go_wp2_with fail
    refine HL.out.mono ?_
    rintro e w' ⟨rfl, rfl⟩
    go_wp2_with fail
    go_ret
    exact ⟨rfl, rfl⟩
  · rw [at_out (by omega)]
    clear hB
    go_enter Try.func49, Try.ntmps49
    go_wp2_with fail
    go_ret
    exact ⟨rfl, rfl⟩
set_option maxRecDepth 100000 in
set_option maxHeartbeats 4000000 in
theorem rrun_any (w : World) (g k0 : Nat) (s : ByteArray) (pos it deep : Nat) (bad : Int) (nv : Value) (hB : Blk w g 67 (rfC s pos it deep bad nv)) (hs : s.size ≤ 1000) (hk0 : k0 ≤ s.size) :
    Calls Try.prog 50 #[.pointer (some ⟨g, 0, none⟩), .int .i64 (k0 : Int)] w fun e w' => e = .returned (.int .i64 (runEnd (xs s) k0 : Int)) ∧ w = w' := by
  have q0 := Blk.f0 hB
  clear hB
  go_enter Try.func50, Try.ntmps50
  go_wp2_with fail
  go_loopw [1] (fun i wr => ∃ k : Nat, k ≤ s.size ∧ i = .int .i64 (k : Int) ∧ runEnd (xs s) k0 = runEnd (xs s) k ∧ w = wr) (fun i _ => s.size - (intOf i).toNat)
  case atStart => exact ⟨k0, hk0, rfl, rfl, rfl⟩
  case round =>
    obtain ⟨k, hk, rfl, hr, rfl⟩ := hrel
    have HR := Lib.hid hr
    clear hr
    by_cases hlt : k < s.size
    · have HL := Lib.hid (rletter_any s[k] w)
      have HD := Lib.hid (rdigit_any s[k] w)
      have hw : atB isWord (xs s) k = (isLetter s[k] || isDigit s[k]) := by rw [at_in hlt]; rfl
      generalize hy : s[k] = y at *
      cases hl : isLetter y with
      | true =>
        rw [hl] at HL hw
        have HS := Lib.hid (run_step (x := xs s) (i := k) (by rw [hw]; rfl))
        clear hw hl
        go_wp2_with fail
        refine HL.out.mono ?_
        rintro e w' ⟨rfl, rfl⟩
        go_wp2_with fail
        go_roundw
        case rel => exact ⟨k + 1, by omega, by go_num, by rw [HR.out, HS.out], trivial⟩
        case measure => simp [intOf]; omega
      | false =>
        rw [hl] at HL hw
        cases hd : isDigit y with
        | true =>
          rw [hd] at HD hw
          have HS := Lib.hid (run_step (x := xs s) (i := k) (by rw [hw]; rfl))
          clear hw hl hd
          go_wp2_with fail
          refine HL.out.mono ?_
          rintro e w' ⟨rfl, rfl⟩
          go_wp2_with fail
          refine HD.out.mono ?_
          rintro e w' ⟨rfl, rfl⟩
          go_wp2_with fail
          go_roundw
          case rel => exact ⟨k + 1, by omega, by go_num, by rw [HR.out, HS.out], trivial⟩
          case measure => simp [intOf]; omega
        | false =>
          rw [hd] at HD hw
          have HS := Lib.hid (run_stop (x := xs s) (i := k) (by rw [hw]; rfl))
          clear hw hl hd
          go_wp2_with fail
          refine HL.out.mono ?_
          rintro e w' ⟨rfl, rfl⟩
          go_wp2_with fail
          refine HD.out.mono ?_
          rintro e w' ⟨rfl, rfl⟩
          go_wp2_with fail
          go_ret
          exact ⟨by rw [HR.out, HS.out]; rfl, rfl⟩
    · have HS := Lib.hid (run_stop (x := xs s) (i := k) (at_out (by omega)))
      go_wp2_with fail
      go_ret
      exact ⟨by rw [HR.out, HS.out]; rfl, rfl⟩
set_option maxRecDepth 100000 in
set_option maxHeartbeats 4000000 in
theorem refuse_any (w : World) (g k : Nat) (s : ByteArray) (pos it deep : Nat) (bad : Int) (nv : Value) (hB : Blk w g 67 (rfC s pos it deep bad nv)) :
    Calls Try.prog 20 #[.pointer (some ⟨g, 0, none⟩), .int .i64 (k : Int)] w fun e w' => e = .returned (.tuple #[]) ∧ Blk w' g 67 (rfC s pos it deep (if bad < 0 then (k : Int) else bad) nv) ∧ w.grownBy w' (some g) := by
  have q4 := Blk.f4 hB
  have hf := hB.frozen 4
  have HB := Lib.hid hB
  clear hB
  by_cases hb : bad < 0
  · rw [if_pos hb]
    go_enter Try.func20, Try.ntmps20
    go_wp2_with fail
    go_end0
    exact ⟨rfl, Blk.s4 HB.out _, only_set _ _ _ _⟩
  · rw [if_neg hb]
    go_enter Try.func20, Try.ntmps20
    go_wp2_with fail
    go_end0
    exact ⟨rfl, HB.out, grefl _ _⟩
set_option maxRecDepth 100000 in
set_option maxHeartbeats 4000000 in
theorem ritem_any (w : World) (g k : Nat) (s : ByteArray) (pos it deep : Nat) (bad : Int) (nv : Value) (hB : Blk w g 67 (rfC s pos it deep bad nv)) (hit : it ≤ 1000) :
    Calls Try.prog 32 #[.pointer (some ⟨g, 0, none⟩), .int .i64 (k : Int)] w fun e w' => e = .returned (.tuple #[]) ∧ Blk w' g 67 (rfC s pos (it + 1) deep (if 48 ≤ it ∧ bad < 0 then (k : Int) else bad) nv) ∧ w.grownBy w' (some g) := by
  have q2 := Blk.f2 hB
  have hf := hB.frozen 2
  have HB := Lib.hid hB
  have HR := Lib.hid (refuse_any w g k s pos it deep bad nv hB)
  have e2 : wrap64 ((it : Int) + 1) = (it : Int) + 1 := by unfold wrap64; omega
  clear hB
  obtain ⟨b2, hb2⟩ : ∃ b2, b2 = if 48 ≤ it ∧ bad < 0 then (k : Int) else bad := ⟨_, rfl⟩
  rw [← hb2]
  by_cases hb : 48 ≤ it
  · obtain ⟨b3, hb3⟩ : ∃ b3, b3 = if bad < 0 then (k : Int) else bad := ⟨_, rfl⟩
    rw [← hb3] at HR
    have he : b2 = b3 := by
      rw [hb2, hb3]
      by_cases h : bad < 0
      · rw [if_pos h, if_pos ⟨hb, h⟩]
      · rw [if_neg h, if_neg (fun h2 => h h2.2)]
    subst he
    clear hb2 hb3
    go_enter Try.func32, Try.ntmps32
    go_wp2_with fail
    refine HR.out.mono ?_
    rintro e w1 ⟨rfl, hb1, hg1⟩
    have q21 := Blk.f2 hb1
    have hf1 := hb1.frozen 2
    have HB1 := Lib.hid hb1
    have HG1 := Lib.hid hg1
    clear hb1 hg1 q2 hf
    go_wp2_with fail
    go_end0
    exact ⟨rfl, Blk.s2 HB1.out (it + 1), gtrans HG1.out (only_set _ _ _ _)⟩
  · rw [if_neg (fun h2 => hb h2.1)] at hb2
    subst hb2
    go_enter Try.func32, Try.ntmps32
    go_wp2_with fail
    go_end0
    exact ⟨rfl, Blk.s2 HB.out (it + 1), only_set _ _ _ _⟩
theorem grown_drewN (w : World) (n : Nat) (row : Option Nat) : w.grownBy (w.drewN n) row := ⟨rfl, rfl, rfl, Nat.le_refl _, fun _ _ _ => rfl⟩
/-- blanks passed -/
def Same (x : List UInt8) (p q : Nat) : Prop := ∀ it stk ch ps, res x ⟨p, it, stk, ch, ps⟩ = res x ⟨q, it, stk, ch, ps⟩
theorem Same.refl (x : List UInt8) (p : Nat) : Same x p p := fun _ _ _ _ => rfl
theorem Same.step {x : List UInt8} {p q : Nat} (h : Same x p q) (hx : x[q]? = some 32) : Same x p (q + 1) := fun it stk ch ps => (h it stk ch ps).trans (res_inl (st_32 hx))
/-- the byte that stands there, 0 at the end -/
def byteAt (x : List UInt8) (p : Nat) : Nat := (x[p]?.map UInt8.toNat).getD 0
def posR (g : Nat) (w : World) : Nat := match w.cell? ⟨g, 1, none⟩ with
  | some (.int _ p) => p.toNat
  | _ => 0
theorem posR_of {w : World} {g : Nat} {t : TypeId} {s : ByteArray} {pos it deep : Nat} {bad : Int} {nv : Value} (hB : Blk w g t (rfC s pos it deep bad nv)) : posR g w = pos := by
  unfold posR
  rw [Blk.f1 hB]
  exact Int.toNat_natCast pos
structure Pk (w : World) (g : Nat) (s : ByteArray) (pos it deep : Nat) (bad : Int) (nv : Value) (q : Nat) (w' : World) : Prop where
  ge : pos ≤ q
  le : q ≤ s.size ∨ q = pos
  same : Same (xs s) pos q
  stay : (xs s)[pos]? ≠ some 32 → q = pos
  blk : Blk w' g 67 (rfC s q it deep bad nv)
  grow : w.grownBy w' (some g)
set_option maxRecDepth 100000 in
set_option maxHeartbeats 4000000 in
theorem peek_any (w : World) (g : Nat) (s : ByteArray) (pos it deep : Nat) (bad : Int) (nv : Value) (hB : Blk w g 67 (rfC s pos it deep bad nv)) (hs : s.size ≤ 1000) (hp : pos ≤ 2000) :
    Calls Try.prog 31 #[.pointer (some ⟨g, 0, none⟩)] w fun e w' => ∃ q, e = .returned (.int .u8 (byteAt (xs s) q : Int)) ∧ Pk w g s pos it deep bad nv q w' ∧ (xs s)[q]? ≠ some 32 := by
  have HS := Lib.hid (show Pk w g s pos it deep bad nv pos w from ⟨Nat.le_refl _, .inr rfl, Same.refl _ _, fun _ => rfl, hB, grefl _ _⟩)
  clear hB
  go_enter Try.func31, Try.ntmps31
  go_wp2_with fail
  go_loopw [] (fun wr => ∃ q : Nat, Pk w g s pos it deep bad nv q wr) (fun wr => 2001 - posR g wr)
  case atStart => exact ⟨pos, HS.out⟩
  case round =>
    obtain ⟨q, hq⟩ := hrel
    have q0 := Blk.f0 hq.blk
    have q1 := Blk.f1 hq.blk
    have hf := hq.blk.frozen 1
    have hle := hq.le
    have hmu := posR_of hq.blk
    have HQ := Lib.hid hq
    clear hq HS
    have hnn : (0 : Int) ≤ (q : Int) := by omega
    by_cases hlt : q < s.size
    · have hltI : (q : Int) < (s.size : Int) := by omega
      have hx := xs_get hlt
      have hby : byteAt (xs s) q = s[q].toNat := by unfold byteAt; rw [hx]; rfl
      have hbl := s[q].toNat_lt
      by_cases h32 : s[q] = 32
      · have HX := Lib.hid (show (xs s)[q]? = some 32 from by rw [hx, h32])
        have hb32 : ((s[q].toNat : Nat) : Int) = 32 := by rw [h32]; rfl
        clear hx hby h32 hle
        generalize hy : s[q] = y at *
        go_wp2_with fail
        go_quiet (fail)
        go_wp2_with fail
        go_roundw
        case rel =>
          refine ⟨q + 1, ?_⟩
          have h := HQ.out
          exact ⟨Nat.le_succ_of_le h.ge, .inl hlt, h.same.step HX.out, fun hn => absurd HX.out (by rw [h.stay hn]; exact hn), Blk.s1 (h.blk.drewN _) (q + 1), gtrans (gtrans h.grow (grown_drewN _ _ _)) (only_set _ _ _ _)⟩
        case measure =>
          refine Nat.lt_of_le_of_lt (Nat.le_of_eq <| congrArg (fun n => 2001 - n) (posR_of (Blk.s1 (HQ.out.blk.drewN _) (q + 1)))) ?_
          rw [posR_of HQ.out.blk]
          omega
      · have hb32 : ¬ ((s[q].toNat : Nat) : Int) = 32 := fun h => h32 (by
          have h2 : s[q].toNat = (32 : UInt8).toNat := by have : (32 : UInt8).toNat = 32 := rfl; omega
          rw [← UInt8.ofNat_toNat (x := s[q]), h2]; rfl)
        have HX := Lib.hid (show (xs s)[q]? ≠ some 32 from by rw [hx]; exact fun h => h32 (Option.some.inj h))
        have HBY := Lib.hid hby
        clear hx hby h32 hle
        generalize hy : s[q] = y at *
        go_wp2_with fail
        go_quiet (fail)
        go_wp2_with fail
        go_quiet (fail)
        go_wp2_with fail
        go_quiet (fail)
        go_wp2_with fail
        go_ret
        refine ⟨q, by rw [HBY.out]; rfl, ?_, HX.out⟩
        have h := HQ.out
        exact ⟨h.ge, h.le, h.same, h.stay, ((h.blk.drewN _).drewN _).drewN _, gtrans (gtrans (gtrans h.grow (grown_drewN _ _ _)) (grown_drewN _ _ _)) (grown_drewN _ _ _)⟩
    · have hltI : ¬ (q : Int) < (s.size : Int) := by omega
      have HX := Lib.hid (show (xs s)[q]? = none from xs_none (by omega))
      clear hle
      go_wp2_with fail
      go_quiet (fail)
      go_wp2_with fail
      go_quiet (fail)
      go_wp2_with fail
      go_ret
      refine ⟨q, by unfold byteAt; rw [HX.out]; rfl, ?_, by rw [HX.out]; intro h; cases h⟩
      have h := HQ.out
      exact ⟨h.ge, h.le, h.same, h.stay, (h.blk.drewN _).drewN _, gtrans (gtrans h.grow (grown_drewN _ _ _)) (grown_drewN _ _ _)⟩
end Go.Proofs.Ytlbkacabcfeaiaa.Tl
