/- Patterns: the reference's atoms. -/
import Derived.Test.YtlbkacabcfeaiaaKg
namespace Go.Proofs.Ytlbkacabcfeaiaa.Tl
open Go.RowKit Mm
set_option linter.unusedVariables false
/-- how far a pattern is read -/
def PatR (s : ByteArray) (deep pos it : Nat) (N M : List Nd) (k pos' it' : Nat) (bad' : Int) : Prop :=
  (bad' = -1 ∧ pos' ≤ s.size ∧ it' ≤ 48 ∧ ∃ ch ps, Den (N ++ M) k (whole ch ps) ∧ bdL ch + bdL ps + 16 * pos ≤ 16 * pos' ∧ ((xs s)[pos']? = none ∨ (xs s)[pos']? = some 41) ∧ ∀ stk : List (List T × List T), stk.length = deep → res (xs s) ⟨pos, it, stk, [], []⟩ = res (xs s) ⟨pos', it', stk, ch, ps⟩) ∨
  (∃ b : Nat, bad' = (b : Int) ∧ pos' + deep ≤ s.size + 33 ∧ it' ≤ 49 ∧ ∀ stk : List (List T × List T), stk.length = deep → res (xs s) ⟨pos, it, stk, [], []⟩ = .err b)
def PatQ (W X : World) (g : Nat) (s : ByteArray) (deep : Nat) (N : List Nd) (pos it : Nat) (e : Ending) (w' : World) : Prop :=
  ∃ (k : Nat) (M : List Nd) (nv' : Value) (pos' it' : Nat) (bad' : Int), e = .returned (.int .i64 (k : Int)) ∧ Out W g s deep N X pos' it' bad' M nv' w' ∧ pos ≤ pos' ∧ M.length + 4 * pos ≤ 4 * pos' + 2 ∧ PatR s deep pos it N M k pos' it' bad'
def PatC (s : ByteArray) (n : Nat) : Prop := ∀ (W X : World) (g pos it deep : Nat) (N : List Nd) (nv : Value), Rf W g s pos it deep (-1) N nv X → pos ≤ s.size → s.size - pos ≤ n → it ≤ 48 → deep ≤ 32 → N.length ≤ 4 * pos + 4 →
  Calls Try.prog 19 #[.pointer (some ⟨g, 0, none⟩)] X (PatQ W X g s deep N pos it)
/-- how far an atom is read -/
def AtomR (s : ByteArray) (deep pos it : Nat) (ps : List T) (N M : List Nd) (k pos' it' : Nat) (bad' : Int) : Prop :=
  (bad' = -1 ∧ pos' ≤ s.size ∧ it' ≤ 48 ∧ ∃ t, Den (N ++ M) k t ∧ bd t + 16 * pos ≤ 16 * pos' ∧ ∀ (stk : List (List T × List T)) (ch : List T), stk.length = deep → res (xs s) ⟨pos, it, stk, ch, ps⟩ = res (xs s) ⟨pos', it', stk, ch, ps ++ [t]⟩) ∨
  (∃ b : Nat, bad' = (b : Int) ∧ pos' + deep ≤ s.size + 33 ∧ it' ≤ 49 ∧ ∀ (stk : List (List T × List T)) (ch : List T), stk.length = deep → res (xs s) ⟨pos, it, stk, ch, ps⟩ = .err b)
def AtomQ (W X : World) (g : Nat) (s : ByteArray) (deep : Nat) (N : List Nd) (pos it : Nat) (ps : List T) (e : Ending) (w' : World) : Prop :=
  ∃ (k : Nat) (M : List Nd) (nv' : Value) (pos' it' : Nat) (bad' : Int), e = .returned (.int .i64 (k : Int)) ∧ Out W g s deep N X pos' it' bad' M nv' w' ∧ pos ≤ pos' ∧ M.length + 4 * pos ≤ 4 * pos' ∧ AtomR s deep pos it ps N M k pos' it' bad'
theorem item_bad {i p : Nat} (h : i ≤ 48) : (if 48 ≤ i ∧ (-1 : Int) < 0 then (p : Int) else -1) = if 48 ≤ i then (p : Int) else -1 := by
  by_cases h1 : 48 ≤ i
  · rw [if_pos h1, if_pos ⟨h1, by decide⟩]
  · rw [if_neg h1, if_neg (fun h2 => h1 h2.1)]
section
variable {W X : World} {g : Nat} {s : ByteArray} {pos it deep : Nat} {N : List Nd} {nv : Value} {ps : List T}
set_option maxRecDepth 100000 in
set_option maxHeartbeats 8000000 in
theorem atom_dot (h : Rf W g s pos it deep (-1) N nv X) (hc : (xs s)[pos]? = some 46) (hit : it ≤ 48) (hdp : deep ≤ 32) (hN : N.length ≤ 90000) (hs : s.size ≤ 256) :
    Calls Try.prog 42 #[.pointer (some ⟨g, 0, none⟩), .int .u8 46] X (AtomQ W X g s deep N pos it ps) := by
  have hpl : pos < s.size := by have := (List.getElem?_eq_some_iff.1 hc).1; rw [xs_len] at this; exact this
  have HO := Lib.hid (Out.start h)
  have q1 := Blk.f1 h.blk
  have HIT := Lib.hid (ritem_any X g pos s _ _ _ _ _ h.blk (by omega))
  rw [item_bad hit] at HIT
  have HR := Lib.hid (show AtomR s deep pos it ps N [⟨1, ⟨#[]⟩, false, .slice none 0 0, []⟩] N.length (pos + 1) (it + 1) (if 48 ≤ it then (pos : Int) else -1) from by
    by_cases h48 : 48 ≤ it
    · rw [if_pos h48]
      exact .inr ⟨pos, rfl, by omega, by omega, fun stk ch _ => st_46e hc h48⟩
    · rw [if_neg h48]
      exact .inl ⟨rfl, by omega, by omega, .leaf [46] false false false, .any _ _ (snoc_get N _) rfl, by simp only [bd, List.length_cons, List.length_nil]; omega, fun stk ch _ => res_inl (st_46 hc (by omega))⟩)
  generalize (if 48 ≤ it then (pos : Int) else -1) = b at *
  clear h hc
  go_enter Try.func42, Try.ntmps42
  go_wp2_with fail
  refine HIT.out.mono ?_
  rintro e w1 ⟨rfl, hb1, hg1⟩
  have HO1 := Lib.hid (HO.out.put hg1 hb1)
  have q11 := Blk.f1 hb1
  have hf1 := hb1.frozen 1
  have HO2 := Lib.hid (HO1.out.put (only_set _ _ 1 _) (Blk.s1 HO1.out.rf.blk (pos + 1)))
  clear hb1 hg1 q1
  go_upto_region 4 with fail
  have HO3 := Lib.hid (show Out W g s deep N X (pos + 1) (it + 1) b [] nv (w1.setCell ⟨g, 1, none⟩ (.int .i64 ((pos : Int) + 1))) from HO2.out)
  clear HO2 q11 hf1
  generalize World.setCell _ _ _ = w2 at *
  have HND := Lib.hid (node_any HO3.out.rf ⟨1, ⟨#[]⟩, false, .slice none 0 0, []⟩ (kid_nil _) (by rw [List.append_nil]; omega))
  rw [List.append_nil] at HND
  go_wp2_with fail
  refine HND.out.mono ?_
  rintro e w3 ⟨rfl, hR3, hF3⟩
  obtain ⟨v3, hO3⟩ := HO3.out.more (nd := ⟨1, ⟨#[]⟩, false, .slice none 0 0, []⟩) (by rw [List.append_nil]; exact hR3) hF3 (fun z hz => by cases hz)
  have HO4 := Lib.hid hO3
  clear hR3 hF3 hO3
  go_wp2_with fail
  go_ret
  exact ⟨_, _, _, _, _, _, rfl, HO4.out, by omega, by simp; omega, HR.out⟩
theorem letter_other {c : UInt8} (h : isLetter c = true) : Other c := by
  refine ⟨?_, ?_, ?_, ?_, ?_, ?_, ?_, ?_, ?_⟩ <;> (rintro rfl; exact absurd h (by decide))
/-- a name read behind an item -/
theorem nam_res {deny : Bool} {i : Nat} (hl : atB isLetter (xs s) i = true) (hpi : pos ≤ i) (hs : s.size ≤ 256) (hdp : deep ≤ 32) (hit : it ≤ 48)
    (h1 : it < 48 → ∀ (stk : List (List T × List T)) (ch : List T), res (xs s) ⟨pos, it, stk, ch, ps⟩ = namR (xs s) ⟨i, it + 1, stk, ch, ps⟩ deny)
    (h2 : 48 ≤ it → ∀ (stk : List (List T × List T)) (ch : List T), res (xs s) ⟨pos, it, stk, ch, ps⟩ = .err pos) :
    AtomR s deep pos it ps N [namN s i deny] N.length (nameEnd (xs s) i) (it + 1) (if nameLong (xs s) i = true ∧ (if 48 ≤ it then (pos : Int) else -1) < 0 then (i : Int) else if 48 ≤ it then (pos : Int) else -1) := by
  have hne := name_end hl
  have hxl := xs_len s
  by_cases h48 : 48 ≤ it
  · rw [if_pos h48, if_neg (fun h => by have := h.2; omega)]
    exact .inr ⟨pos, rfl, by omega, by omega, fun stk ch _ => h2 h48 stk ch⟩
  · rw [if_neg h48]
    by_cases hlg : nameLong (xs s) i = true
    · rw [if_pos ⟨hlg, by decide⟩]
      refine .inr ⟨i, rfl, by omega, by omega, fun stk ch _ => ?_⟩
      rw [h1 (by omega)]
      unfold namR
      rw [if_pos hlg]
    · rw [if_neg (fun h => hlg h.1)]
      refine .inl ⟨rfl, by omega, by omega, nameT (xs s) i deny, nam_den N s i deny (by omega) (by omega), ?_, fun stk ch _ => ?_⟩
      · unfold nameT
        simp only [bd, List.length_take, List.length_drop]
        omega
      · rw [h1 (by omega)]
        unfold namR
        rw [if_neg hlg]
set_option maxRecDepth 100000 in
set_option maxHeartbeats 8000000 in
theorem atom_let (h : Rf W g s pos it deep (-1) N nv X) {c : UInt8} (hc : (xs s)[pos]? = some c) (hlet : isLetter c = true) (hit : it ≤ 48) (hdp : deep ≤ 32) (hN : N.length ≤ 90000) (hs : s.size ≤ 256) :
    Calls Try.prog 42 #[.pointer (some ⟨g, 0, none⟩), .int .u8 (c.toNat : Int)] X (AtomQ W X g s deep N pos it ps) := by
  have hpl : pos < s.size := by have := (List.getElem?_eq_some_iff.1 hc).1; rw [xs_len] at this; exact this
  have hat : atB isLetter (xs s) pos = true := by unfold atB; rw [hc]; exact hlet
  have hot := letter_other hlet
  have HO := Lib.hid (Out.start h)
  have q1 := Blk.f1 h.blk
  have HIT := Lib.hid (ritem_any X g pos s _ _ _ _ _ h.blk (by omega))
  rw [item_bad hit] at HIT
  have hne := name_end hat
  have HLT := Lib.hid (rletter_any c X)
  rw [hlet] at HLT
  have HR := Lib.hid (nam_res (N := N) (deny := false) (ps := ps) hat (Nat.le_refl _) hs hdp hit (fun h => fun stk ch => st_let hot hc h hlet) (fun h => fun stk ch => st_lete hot hc (by rw [hlet, decide_eq_false (by omega)]; rfl)))
  have hb : ¬ ((c.toNat : Nat) : Int) = 46 := fun e => hot.2.2.2.2.2.2.2.1 (UInt8.toNat_inj.1 (by have : (46 : UInt8).toNat = 46 := rfl; omega))
  have HNM := Lib.hid (fun (w : World) (b : Int) (h : Rf W g s pos (it + 1) deep b N nv w) => rname_any h (by omega) hat (by omega) false)
  generalize (if 48 ≤ it then (pos : Int) else -1) = b at *
  clear h hc hlet hot hat
  go_enter Try.func42, Try.ntmps42
  go_wp2_with fail
  refine HLT.out.mono ?_
  rintro e w0 ⟨rfl, rfl⟩
  go_wp2_with fail
  refine HIT.out.mono ?_
  rintro e w1 ⟨rfl, hb1, hg1⟩
  have HO1 := Lib.hid (HO.out.put hg1 hb1)
  have HR1 := Lib.hid (show Rf W g s pos (it + 1) deep b N nv w1 from by have := HO1.out.rf; rw [List.append_nil] at this; exact this)
  clear hb1 hg1 q1
  go_wp2_with fail
  refine (HNM.out _ _ HR1.out).mono ?_
  rintro e w3 ⟨rfl, ⟨v3, hR3⟩, hF3⟩
  have HO4 := Lib.hid (show Out W g s deep N X _ _ _ [namN s pos false] v3 w3 from ⟨hR3, HO1.out.fr.trans hF3, NewK.one (fun z hz => by cases hz)⟩)
  clear hR3 hF3
  go_wp2_with fail
  go_ret
  exact ⟨_, _, _, _, _, _, rfl, HO4.out, by omega, by simp only [List.length_cons, List.length_nil]; omega, HR.out⟩
end
end Go.Proofs.Ytlbkacabcfeaiaa.Tl
