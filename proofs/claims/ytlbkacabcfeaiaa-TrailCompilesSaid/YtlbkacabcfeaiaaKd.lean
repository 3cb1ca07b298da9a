/- Patterns: the reference's names; which tree a node denotes. -/
import Derived.Test.YtlbkacabcfeaiaaKc
namespace Go.Proofs.Ytlbkacabcfeaiaa.Tl
open Go.RowKit Mm
set_option linter.unusedVariables false
def sufK (c : UInt8) : Nat := if c = 42 then 6 else if c = 43 then 7 else 8
/-- node number k denotes a tree -/
inductive Den (N : List Nd) : Nat → T → Prop where
  | any (k : Nat) (d : Nd) : N[k]? = some d → d.kind = 1 → Den N k (.leaf [46] false false false)
  | nam (k : Nat) (d : Nd) (po : Bool) : N[k]? = some d → d.kind = (if po then 2 else 3) → Den N k (.leaf d.name.data.toList true po d.no)
  | seq (k : Nat) (d : Nd) (l : List T) : N[k]? = some d → d.kind = 4 → d.kids.length = l.length → (∀ (i j : Nat) (t : T), d.kids[i]? = some j → l[i]? = some t → Den N j t) → Den N k (.seq l)
  | alt (k : Nat) (d : Nd) (l : List T) : N[k]? = some d → d.kind = 5 → d.kids.length = l.length → (∀ (i j : Nat) (t : T), d.kids[i]? = some j → l[i]? = some t → Den N j t) → Den N k (.alt l)
  | suf (k : Nat) (d : Nd) (j : Nat) (t : T) (c : UInt8) : N[k]? = some d → d.kind = sufK c → d.kids = [j] → (c = 42 ∨ c = 43 ∨ c = 63) → Den N j t → Den N k (.suf t c)
theorem nd_more {N M : List Nd} {k : Nat} {d : Nd} (h : N[k]? = some d) : (N ++ M)[k]? = some d := by
  rw [List.getElem?_append_left (List.getElem?_eq_some_iff.1 h).1]
  exact h
theorem Den.more {N M : List Nd} {k : Nat} {t : T} (h : Den N k t) : Den (N ++ M) k t := by
  induction h with
  | any k d h1 h2 => exact .any k d (nd_more h1) h2
  | nam k d po h1 h2 => exact .nam k d po (nd_more h1) h2
  | seq k d l h1 h2 h3 _ ih => exact .seq k d l (nd_more h1) h2 h3 ih
  | alt k d l h1 h2 h3 _ ih => exact .alt k d l (nd_more h1) h2 h3 ih
  | suf k d j t c h1 h2 h3 h4 _ ih => exact .suf k d j t c (nd_more h1) h2 h3 h4 ih
theorem Den.lt {N : List Nd} {k : Nat} {t : T} (h : Den N k t) : k < N.length := by
  cases h with
  | any k d h1 _ => exact (List.getElem?_eq_some_iff.1 h1).1
  | nam k d po h1 _ => exact (List.getElem?_eq_some_iff.1 h1).1
  | seq k d l h1 _ _ _ => exact (List.getElem?_eq_some_iff.1 h1).1
  | alt k d l h1 _ _ _ => exact (List.getElem?_eq_some_iff.1 h1).1
  | suf k d j t c h1 _ _ _ _ => exact (List.getElem?_eq_some_iff.1 h1).1
theorem snoc_get (N : List Nd) (d : Nd) : (N ++ [d])[N.length]? = some d := by simp
theorem kid_nil (X : World) : Fz X 3 1 (.slice none 0 0) ([] : List Nat).length (iv []) := ⟨none, 0, rfl, Nat.le_refl _, Nat.zero_le _, rfl, .inl ⟨rfl, rfl, rfl⟩⟩
/-- a name's node -/
def namN (s : ByteArray) (i : Nat) (no : Bool) : Nd := ⟨if portAt (xs s) i then 2 else 3, s.extract i (nameEnd (xs s) i), no, .slice none 0 0, []⟩
theorem nam_den (N : List Nd) (s : ByteArray) (i : Nat) (no : Bool) (h1 : i ≤ nameEnd (xs s) i) (h2 : nameEnd (xs s) i ≤ s.size) : Den (N ++ [namN s i no]) N.length (nameT (xs s) i no) := by
  have h := Den.nam N.length (namN s i no) (portAt (xs s) i) (snoc_get N _) rfl
  unfold nameT
  have e : (namN s i no).name.data.toList = ((xs s).drop i).take (nameEnd (xs s) i - i) := by
    show (s.extract i (nameEnd (xs s) i)).data.toList = _
    rw [slice_str s i _ h1 h2]
    rfl
  rw [e] at h
  exact h
set_option maxRecDepth 100000 in
set_option maxHeartbeats 8000000 in
theorem rname_any {W X : World} {g : Nat} {s : ByteArray} {pos it deep : Nat} {bad : Int} {N : List Nd} {nv : Value} (h : Rf W g s pos it deep bad N nv X) (hs : s.size ≤ 1000) (hl : atB isLetter (xs s) pos = true) (hN : N.length ≤ 100000) (no : Bool) :
    Calls Try.prog 48 #[.pointer (some ⟨g, 0, none⟩), .bool no] X fun e w' => e = .returned (.int .i64 (N.length : Int)) ∧ (∃ nv', Rf W g s (nameEnd (xs s) pos) it deep (if nameLong (xs s) pos = true ∧ bad < 0 then (pos : Int) else bad) (N ++ [namN s pos no]) nv' w') ∧ Fr X w' := by
  have q0 := Blk.f0 h.blk
  have q1 := Blk.f1 h.blk
  have hxl := xs_len s
  have hpos : pos < s.size := by have := at_lt hl; omega
  have HRun := Lib.hid (fun k (hk : k ≤ s.size) => rrun_any X g k s _ _ _ _ _ h.blk hs hk)
  have HLt := Lib.hid (fun k (hk : k ≤ 2000) => letterAt_any X g k s _ _ _ _ _ h.blk hs hk)
  have HRef := Lib.hid (refuse_any X g pos s _ _ _ _ _ h.blk)
  have HH := Lib.hid h
  have hne := name_end hl
  have hk3 := run_step (letter_word hl)
  have hrg := run_ge (xs s) pos
  have hrl := run_le (x := xs s) (i := pos) (by omega)
  have HND := Lib.hid (show namN s pos no = ⟨if portAt (xs s) pos then 2 else 3, s.extract pos (nameEnd (xs s) pos), no, .slice none 0 0, []⟩ from rfl)
  have hP := portAt_eq (xs s) pos _ rfl
  obtain ⟨nd, hnd⟩ : ∃ nd, nd = namN s pos no := ⟨_, rfl⟩
  rw [← hnd]
  have HEQ := Lib.hid hnd
  clear hnd
  obtain ⟨bad2, hbad2⟩ : ∃ b, b = if nameLong (xs s) pos = true ∧ bad < 0 then (pos : Int) else bad := ⟨_, rfl⟩
  rw [← hbad2]
  have HB2 := Lib.hid hbad2
  clear h hk3 hbad2
  generalize hx : xs s = x at *
  generalize hk0 : runEnd x pos = k at *
  go_enter Try.func48, Try.ntmps48
  go_wp2_with fail
  refine (HRun.out pos (by omega)).mono ?_
  rintro e w' ⟨rfl, rfl⟩
  rw [hk0]
  go_upto_region 5 with fail
  go_cut [42] (fun s42 wx => s42 = .bool (portAt x pos) ∧ X = wx)
  case first =>
    by_cases hks : k < s.size
    · by_cases h46 : s[k] = 46
      · have hxk : x[k]? = some 46 := by rw [← hx, xs_get hks, h46]
        rw [hxk] at hP
        have hn46 : ((s[k].toNat : Nat) : Int) = 46 := by rw [h46]; rfl
        have hP2 : portAt x pos = atB isLetter x (k + 1) := by rw [hP]; rfl
        go_wp2_with fail
        refine (HLt.out (k + 1) (by omega)).mono ?_
        rintro e w' ⟨rfl, rfl⟩
        go_wp2_with fail
        go_meet
        exact ⟨by rw [hP2], rfl⟩
      · have hxk : x[k]? = some s[k] := by rw [← hx, xs_get hks]
        have hP2 : portAt x pos = false := by rw [hP, hxk]; simp [h46]
        have hn46 : ¬ ((s[k].toNat : Nat) : Int) = 46 := fun e => h46 (by
          apply UInt8.toNat_inj.1
          have : (46 : UInt8).toNat = 46 := rfl
          omega)
        go_wp2_with fail
        go_meet
        exact ⟨by rw [hP2], rfl⟩
    · have hP2 : portAt x pos = false := by rw [hP, ← hx, xs_none (by omega)]; rfl
      go_wp2_with fail
      go_meet
      exact ⟨by rw [hP2], rfl⟩
  case rest =>
  obtain ⟨rfl, rfl⟩ := hcut
  have HD1 := Lib.hid (show decide ((24 : Int) < (k : Int) - (pos : Int)) = decide (24 < k - pos) from decide_eq_decide.2 (by omega))
  go_upto_if 42 with fail
  go_cut [6, 7, 8] (fun s6 s7 s8 wx => s6 = .int .i64 (nameEnd x pos : Int) ∧ s7 = .bool (nameLong x pos) ∧ s8 = .int .i64 ((if portAt x pos then 2 else 3 : Nat) : Int) ∧ X = wx)
  case first =>
    cases hpt : portAt x pos with
    | true =>
      rw [hpt] at hP
      have hlk : atB isLetter x (k + 1) = true := (Bool.and_eq_true_iff.1 hP.symm).2
      have hk4 : k + 1 < x.length := at_lt hlk
      have hrg2 := run_ge x (k + 1)
      have hrl2 := run_le (x := x) (i := k + 1) (by omega)
      have HNE := Lib.hid (show nameEnd x pos = runEnd x (k + 1) from by unfold nameEnd; rw [if_pos hpt, hk0])
      have HNL := Lib.hid (show nameLong x pos = (decide (24 < k - pos) || decide (24 < runEnd x (k + 1) - (k + 1))) from by unfold nameLong; rw [hpt, hk0]; rfl)
      have HR2 := Lib.hid (HRun.out (k + 1) (by omega))
      clear hP hlk
      generalize runEnd x (k + 1) = e at *
      have HD2 := Lib.hid (show decide ((24 : Int) < (e : Int) - ((k : Int) + 1)) = decide (24 < e - (k + 1)) from decide_eq_decide.2 (by omega))
      by_cases hlg : 24 < k - pos
      · have hI : (24 : Int) < (k : Int) - (pos : Int) := by omega
        have HL1 := Lib.hid (decide_eq_true hlg)
        clear hlg
        go_wp2_with fail
        refine HR2.out.mono ?_
        rintro e1 w' ⟨rfl, rfl⟩
        go_wp2_with fail
        go_meet
        exact ⟨by rw [HNE.out], by rw [HNL.out, HL1.out]; rfl, by rw [hpt]; rfl, rfl⟩
      · have hI : ¬ (24 : Int) < (k : Int) - (pos : Int) := by omega
        have HL1 := Lib.hid (decide_eq_false hlg)
        clear hlg
        go_wp2_with fail
        refine HR2.out.mono ?_
        rintro e1 w' ⟨rfl, rfl⟩
        go_wp2_with fail
        go_meet
        exact ⟨by rw [HNE.out], by rw [HNL.out, ← HD1.out, ← HD2.out], by rw [hpt]; rfl, rfl⟩
    | false =>
      have HNE := Lib.hid (show nameEnd x pos = k from by unfold nameEnd; rw [hpt, if_neg (by simp), hk0])
      have HNL := Lib.hid (show nameLong x pos = decide (24 < k - pos) from by unfold nameLong; rw [hpt, hk0]; simp)
      clear hP
      go_wp2_with fail
      go_meet
      exact ⟨by rw [HNE.out], by rw [HNL.out, ← HD1.out], by rw [hpt]; rfl, rfl⟩
  case rest =>
  obtain ⟨rfl, rfl, rfl, rfl⟩ := hcut
  clear hP HRun HLt hl hrg hrl
  have hf1 := HH.out.blk.frozen 1
  have hne1 := hne.1
  have hne2 := hne.2
  rw [hxl] at hne2
  have hnd := HEQ.out
  have hkd : ((nd.kind : Nat) : Int) = ((if portAt x pos = true then 2 else 3 : Nat) : Int) := by rw [hnd, HND.out]
  have hnm : nd.name = s.extract pos (nameEnd x pos) := by rw [hnd, HND.out]
  have hno : nd.no = no := by rw [hnd, HND.out]
  have hkv : nd.kv = .slice none 0 0 := by rw [hnd, HND.out]
  have hks : nd.kids = [] := by rw [hnd, HND.out]
  have HNode := Lib.hid (show ∀ (X : World) (pos2 it deep : Nat) (bad : Int), Rf W g s pos2 it deep bad N nv X → Calls Try.prog 45 #[.pointer (some ⟨g, 0, none⟩), .agg #[.int .i64 ((if portAt x pos = true then 2 else 3 : Nat) : Int), .string (s.extract pos (nameEnd x pos)), .bool no, .slice none 0 0]] X fun e w' => e = .returned (.int .i64 (N.length : Int)) ∧ (∃ nv', Rf W g s pos2 it deep bad (N ++ [nd]) nv' w') ∧ Fr X w' from fun X pos2 it deep bad hX => by
    have h := node_any hX nd (by rw [hkv, hks]; exact kid_nil _) hN
    rw [hkd, hnm, hno, hkv] at h
    exact h)
  clear hnd hkd hnm hno hkv hks HND
  generalize hee : nameEnd x pos = e at *
  have HEE := Lib.hid hee
  clear hee
  generalize ((if portAt x pos = true then 2 else 3 : Nat) : Int) = kd at *
  have z0 : (0 : Int) ≤ (pos : Int) := by omega
  have z1 : (pos : Int) ≤ (e : Int) := by omega
  have z2 : (e : Int) ≤ (s.size : Int) := by omega
  cases hnl : nameLong x pos with
  | true =>
    rw [hnl] at HB2
    have hb3 : bad2 = if bad < 0 then (pos : Int) else bad := by
      rw [HB2.out]
      by_cases h : bad < 0
      · rw [if_pos h, if_pos ⟨rfl, h⟩]
      · rw [if_neg h, if_neg (fun h2 => h h2.2)]
    rw [← hb3] at HRef
    clear hb3
    go_wp2_with fail
    refine HRef.out.mono ?_
    rintro e1 w1 ⟨rfl, hb1, hg1⟩
    obtain ⟨hR1, hF1⟩ := HH.out.put hg1 hb1
    have HR1 := Lib.hid hR1
    have HF1 := Lib.hid hF1
    have q01 := Blk.f0 hb1
    have hf2 := hb1.frozen 1
    have q11 := Blk.f1 hb1
    clear hg1 hb1 hR1 hF1 q0 q1 hf1
    go_wp2_with fail
    obtain ⟨hR2, hF2⟩ := HR1.out.put (only_set _ _ 1 _) (Blk.s1 HR1.out.blk e)
    refine (HNode.out _ _ _ _ _ hR2).mono ?_
    rintro e1 w3 ⟨rfl, hR3, hF3⟩
    go_wp2_with fail
    go_ret
    exact ⟨rfl, by rw [HEE.out]; exact hR3, (HF1.out.trans hF2).trans hF3⟩
  | false =>
    rw [hnl] at HB2
    have hb3 : bad2 = bad := by rw [HB2.out, if_neg (fun h => by cases h.1)]
    subst hb3
    go_wp2_with fail
    obtain ⟨hR2, hF2⟩ := HH.out.put (only_set _ _ 1 _) (Blk.s1 HH.out.blk e)
    refine (HNode.out _ _ _ _ _ hR2).mono ?_
    rintro e1 w3 ⟨rfl, hR3, hF3⟩
    go_wp2_with fail
    go_ret
    exact ⟨rfl, by rw [HEE.out]; exact hR3, hF2.trans hF3⟩
end Go.Proofs.Ytlbkacabcfeaiaa.Tl
