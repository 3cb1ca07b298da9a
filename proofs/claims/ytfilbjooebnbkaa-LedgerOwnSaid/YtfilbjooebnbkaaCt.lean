/- Plain law of records that were written one behind the other: cut anywhere, or with one byte that is another one. No program in sight. -/
import Derived.Test.YtfilbjooebnbkaaIj
import Derived.Test.YtfilbjooebnbkaaWp
namespace Go.Proofs.Ytfilbjooebnbkaa.Lg
open Go.RowKit Mm
set_option linter.unusedSimpArgs false
theorem num4_inj {a b : List UInt8} (ha : a.length = 4) (hb : b.length = 4) (h : num4 a = num4 b) : a = b := by
  match a, ha with
  | [a0, a1, a2, a3], _ =>
    match b, hb with
    | [b0, b1, b2, b3], _ =>
      rw [← four_num a0 a1 a2 a3, ← four_num b0 b1 b2 b3, h]
theorem head_facts (k s n : Nat) (r : List UInt8) (hs : s < 4294967296) (hn : n < 4294967296) :
    bt (head1 k s n ++ r) 0 = 82 ∧ bt (head1 k s n ++ r) 1 = 76 ∧ bt (head1 k s n ++ r) 2 = UInt8.ofNat k ∧ bt (head1 k s n ++ r) 3 = 0 ∧ n4 (head1 k s n ++ r) 4 = s ∧ n4 (head1 k s n ++ r) 8 = n ∧
    n4 (head1 k s n ++ r) 12 = crc (head0 k s n) ∧ (head1 k s n ++ r).take 12 = head0 k s n := by
  refine ⟨rfl, rfl, rfl, rfl, num_four s hs, num_four n hn, num_four _ (crc_lt _), rfl⟩
theorem kd_ok {k : Nat} (h : k ≤ 4) : (UInt8.ofNat k).toNat = k := by
  rw [UInt8.toNat_ofNat']
  exact Nat.mod_eq_of_lt (by omega)
/-- a head that is as it should be -/
theorem head_ok (k s n : Nat) (r : List UInt8) (hk : 1 ≤ k ∧ k ≤ 4) (hs : 1 ≤ s ∧ s ≤ 2147483647) (hn : n ≤ 16384) :
    rdE (head1 k s n ++ r) = (if r.length < n + 4 then 191 else if n4 (head1 k s n ++ r) (16 + n) ≠ crc ((head1 k s n ++ r).take (16 + n)) then 192 else 0) := by
  obtain ⟨b0, b1, b2, b3, c4, c8, c12, ct⟩ := head_facts k s n r (by omega) (by omega)
  have hk2 : (bt (head1 k s n ++ r) 2).toNat = k := by rw [b2]; exact kd_ok hk.2
  have hl : (head1 k s n ++ r).length = 16 + r.length := by simp [head1_len]
  have hsp : ¬ spoilt (head1 k s n ++ r) := by
    unfold spoilt recOk
    rw [b0, b1, b3, c12, ct, hk2, c4, c8]
    simp
    omega
  unfold rdE
  rw [if_neg (by omega), if_neg hsp, c8, hl]
  by_cases h : r.length < n + 4
  · rw [if_pos h, if_pos (by omega)]
  · rw [if_neg h, if_neg (by omega)]
theorem tail_facts (k s : Nat) (t u r : List UInt8) (hu : u.length = 4) : n4 (head1 k s t.length ++ (t ++ (u ++ r))) (16 + t.length) = num4 u ∧ (head1 k s t.length ++ (t ++ (u ++ r))).take (16 + t.length) = head1 k s t.length ++ t := by
  have hl : (head1 k s t.length ++ t).length = 16 + t.length := by simp [head1_len]
  refine ⟨?_, ?_⟩
  · unfold n4
    rw [← List.append_assoc, List.drop_left' hl, List.take_left' hu]
  · rw [← List.append_assoc, List.take_left' hl]
theorem rdT_head (k s : Nat) (t r : List UInt8) (ht : t.length ≤ 16384) (hs : s ≤ 2147483647) : rdT (head1 k s t.length ++ (t ++ r)) = t := by
  obtain ⟨_, _, _, _, _, c8, _, _⟩ := head_facts k s t.length (t ++ r) (by omega) (by omega)
  unfold rdT
  rw [c8, List.drop_left' (head1_len ..), List.take_left' rfl]
def WOk (w : Nat × List UInt8) : Prop := 1 ≤ w.1 ∧ w.1 ≤ 4 ∧ w.2.length ≤ 16384
theorem enc_head (k s : Nat) (t : List UInt8) : enc k s t = head0 k s t.length ++ (four (crc (head0 k s t.length)) ++ (t ++ four (crc (head1 k s t.length ++ t)))) := by
  show head1 k s t.length ++ t ++ four (crc (head1 k s t.length ++ t)) = _
  rw [List.append_assoc]
  show (head0 k s t.length ++ four (crc (head0 k s t.length))) ++ (t ++ four (crc (head1 k s t.length ++ t))) = _
  rw [List.append_assoc]
theorem enc_app (k s : Nat) (t r : List UInt8) : enc k s t ++ r = head1 k s t.length ++ (t ++ (four (crc (head1 k s t.length ++ t)) ++ r)) := by
  unfold enc
  simp only [List.append_assoc]
theorem enc_ok (k s : Nat) (t r : List UInt8) (hw : WOk (k, t)) (hs : 1 ≤ s ∧ s ≤ 2147483647) :
    rdE (enc k s t ++ r) = 0 ∧ n4 (enc k s t ++ r) 4 = s ∧ (bt (enc k s t ++ r) 2).toNat = k ∧ rdT (enc k s t ++ r) = t ∧ n4 (enc k s t ++ r) 8 = t.length := by
  obtain ⟨k1, k2, k3⟩ := hw
  simp only at k1 k2 k3
  rw [enc_app]
  obtain ⟨b0, b1, b2, b3, c4, c8, c12, ct⟩ := head_facts k s t.length (t ++ (four (crc (head1 k s t.length ++ t)) ++ r)) (by omega) (by omega)
  obtain ⟨t1, t2⟩ := tail_facts k s t (four (crc (head1 k s t.length ++ t))) r rfl
  refine ⟨?_, c4, by rw [b2]; exact kd_ok k2, rdT_head k s t _ k3 hs.2, c8⟩
  rw [head_ok k s t.length _ ⟨k1, k2⟩ hs k3, if_neg (by simp only [List.length_append, List.length_take, four_len]; omega), t1, t2, num_four _ (crc_lt _)]
  simp
theorem enc_cut (k s : Nat) (t : List UInt8) (c : Nat) (hw : WOk (k, t)) (hs : 1 ≤ s ∧ s ≤ 2147483647) (hc : c < t.length + 20) : rdE ((enc k s t).take c) = 191 := by
  obtain ⟨k1, k2, k3⟩ := hw
  simp only at k1 k2 k3
  have hl : ((enc k s t).take c).length = c := by rw [List.length_take, enc_len]; omega
  by_cases h16 : c < 16
  · unfold rdE
    rw [hl, if_pos h16]
  · have e : (enc k s t).take c = head1 k s t.length ++ (t ++ four (crc (head1 k s t.length ++ t))).take (c - 16) := by
      have h0 : enc k s t = head1 k s t.length ++ (t ++ four (crc (head1 k s t.length ++ t))) := by unfold enc; simp only [List.append_assoc]
      rw [h0, List.take_append, head1_len, List.take_of_length_le (by rw [head1_len]; omega)]
    rw [e, head_ok k s t.length _ ⟨k1, k2⟩ hs k3, if_pos (by simp only [List.length_append, List.length_take, List.length_set, four_len]; omega)]
theorem enc_spoilt (k s : Nat) (t : List UInt8) (p : Nat) (y : UInt8) (r : List UInt8) (hw : WOk (k, t)) (hs : 1 ≤ s ∧ s ≤ 2147483647) (hp : p < (enc k s t).length) (hy : y ≠ (enc k s t)[p]) : rdE ((enc k s t).set p y ++ r) = 192 := by
  obtain ⟨k1, k2, k3⟩ := hw
  simp only at k1 k2 k3
  have hlen := enc_len k s t
  have hL : 16 ≤ ((enc k s t).set p y ++ r).length := by rw [List.length_append, List.length_set]; omega
  have get : ∀ (a b : List UInt8) (i : Nat) (h : i < (a ++ b).length) (hi : i < a.length), (a ++ b)[i] = a[i] := fun a b i h hi => List.getElem_append_left hi
  by_cases h12 : p < 12
  · have e : (enc k s t).set p y = (head0 k s t.length).set p y ++ (four (crc (head0 k s t.length)) ++ (t ++ four (crc (head1 k s t.length ++ t)))) := by
      have h0 : enc k s t = head0 k s t.length ++ (four (crc (head0 k s t.length)) ++ (t ++ four (crc (head1 k s t.length ++ t)))) := enc_head k s t
      rw [h0, List.set_append_left _ _ (by rw [head0_len]; exact h12)]
    have hy0 : y ≠ (head0 k s t.length)[p]'(by rw [head0_len]; exact h12) := by
      intro h
      apply hy
      rw [h]
      simp only [enc_head k s t]
      exact (List.getElem_append_left _).symm
    have hl0 : ((head0 k s t.length).set p y).length = 12 := by rw [List.length_set]; exact head0_len ..
    refine rdE_spoilt hL (.inr (.inr (.inr (.inl ?_))))
    have c1 : ((enc k s t).set p y ++ r).take 12 = (head0 k s t.length).set p y := by rw [e, List.append_assoc, List.take_left' hl0]
    have c2 : n4 ((enc k s t).set p y ++ r) 12 = crc (head0 k s t.length) := by
      unfold n4
      rw [e, List.append_assoc, List.drop_left' hl0, List.append_assoc, List.take_left' (four_len _), num_four _ (crc_lt _)]
    rw [c1, c2]
    exact fun h => crc_set _ p (by rw [head0_len]; exact h12) y hy0 h.symm
  · by_cases h16 : p < 16
    · have e : (enc k s t).set p y = head0 k s t.length ++ ((four (crc (head0 k s t.length))).set (p - 12) y ++ (t ++ four (crc (head1 k s t.length ++ t)))) := by
        have h0 : enc k s t = head0 k s t.length ++ (four (crc (head0 k s t.length)) ++ (t ++ four (crc (head1 k s t.length ++ t)))) := enc_head k s t
        rw [h0, List.set_append_right _ _ (by rw [head0_len]; omega), head0_len, List.set_append_left _ _ (by rw [four_len]; omega)]
      refine rdE_spoilt hL (.inr (.inr (.inr (.inl ?_))))
      have hl4 : ((four (crc (head0 k s t.length))).set (p - 12) y).length = 4 := by rw [List.length_set]; rfl
      have c1 : ((enc k s t).set p y ++ r).take 12 = head0 k s t.length := by rw [e, List.append_assoc, List.take_left' (head0_len ..)]
      have c2 : n4 ((enc k s t).set p y ++ r) 12 = num4 ((four (crc (head0 k s t.length))).set (p - 12) y) := by
        unfold n4
        rw [e, List.append_assoc, List.drop_left' (head0_len ..), List.append_assoc, List.take_left' hl4]
      rw [c1, c2]
      intro h
      have h4 : (four (crc (head0 k s t.length))).set (p - 12) y = four (crc (head0 k s t.length)) := num4_inj hl4 (four_len _) (by rw [h, num_four _ (crc_lt _)])
      apply hy
      have hpp : p - 12 < (four (crc (head0 k s t.length))).length := by rw [four_len]; omega
      have e1 : (enc k s t)[p] = (four (crc (head0 k s t.length)))[p - 12] := by
        simp only [enc_head k s t]
        rw [List.getElem_append_right (by rw [head0_len]; omega)]
        simp only [head0_len]
        exact List.getElem_append_left _
      rw [e1]
      have := congrArg (fun z => z[p - 12]?) h4
      simp only [List.getElem?_set_self hpp, List.getElem?_eq_getElem hpp, Option.some.injEq] at this
      exact this
    · have e0 : enc k s t = head1 k s t.length ++ (t ++ four (crc (head1 k s t.length ++ t))) := by unfold enc; simp only [List.append_assoc]
      by_cases ht : p < 16 + t.length
      · have e : (enc k s t).set p y ++ r = head1 k s t.length ++ (t.set (p - 16) y ++ (four (crc (head1 k s t.length ++ t)) ++ r)) := by
          rw [e0, List.set_append_right _ _ (by rw [head1_len]; omega), head1_len, List.set_append_left _ _ (by omega)]
          simp only [List.append_assoc]
        have hlt : (t.set (p - 16) y).length = t.length := List.length_set ..
        have hpt : p - 16 < t.length := by omega
        have hyt : y ≠ t[p - 16] := by
          intro h
          apply hy
          rw [h]
          simp only [e0]
          rw [List.getElem_append_right (by rw [head1_len]; omega)]
          simp only [head1_len]
          exact (List.getElem_append_left _).symm
        rw [e]
        have tf := tail_facts k s (t.set (p - 16) y) (four (crc (head1 k s t.length ++ t))) r rfl
        rw [hlt] at tf
        rw [head_ok k s t.length _ ⟨k1, k2⟩ hs k3, if_neg (by simp only [List.length_append, List.length_take, List.length_set, four_len]; omega), tf.1, tf.2, num_four _ (crc_lt _), if_pos]
        have e9 : head1 k s t.length ++ t.set (p - 16) y = (head1 k s t.length ++ t).set p y := by
          rw [List.set_append_right _ _ (by rw [head1_len]; omega), head1_len]
        rw [e9]
        refine fun h => crc_set (head1 k s t.length ++ t) p (by rw [List.length_append, head1_len]; omega) y ?_ h.symm
        intro h
        apply hyt
        rw [h, List.getElem_append_right (by rw [head1_len]; omega)]
        simp only [head1_len]
      · have e : (enc k s t).set p y ++ r = head1 k s t.length ++ (t ++ ((four (crc (head1 k s t.length ++ t))).set (p - 16 - t.length) y ++ r)) := by
          rw [e0, List.set_append_right _ _ (by rw [head1_len]; omega), head1_len, List.set_append_right _ _ (by omega)]
          simp only [List.append_assoc]
        have hl4 : ((four (crc (head1 k s t.length ++ t))).set (p - 16 - t.length) y).length = 4 := by rw [List.length_set]; rfl
        rw [e]
        obtain ⟨t1, t2⟩ := tail_facts k s t ((four (crc (head1 k s t.length ++ t))).set (p - 16 - t.length) y) r hl4
        rw [head_ok k s t.length _ ⟨k1, k2⟩ hs k3, if_neg (by simp only [List.length_append, List.length_take, four_len]; omega), t1, t2, if_pos]
        intro h
        have h4 := num4_inj hl4 (four_len (crc (head1 k s t.length ++ t))) (by rw [h, num_four _ (crc_lt _)])
        apply hy
        have hpp : p - 16 - t.length < (four (crc (head1 k s t.length ++ t))).length := by rw [four_len]; omega
        have e1 : (enc k s t)[p] = (four (crc (head1 k s t.length ++ t)))[p - 16 - t.length] := by
          simp only [e0]
          rw [List.getElem_append_right (by rw [head1_len]; omega)]
          simp only [head1_len]
          exact List.getElem_append_right (by omega)
        rw [e1]
        have := congrArg (fun z => z[p - 16 - t.length]?) h4
        simp only [List.getElem?_set_self hpp, List.getElem?_eq_getElem hpp, Option.some.injEq] at this
        exact this
/-! Records one behind the other. -/
def diskOf : List (Nat × List UInt8) → Nat → List UInt8
  | [], _ => []
  | w :: ws, sq => enc w.1 sq w.2 ++ diskOf ws (sq + 1)
def key (r : RA) : Nat × Nat × List UInt8 := (r.sq, r.kd, r.tx)
def numbered : List (Nat × List UInt8) → Nat → List (Nat × Nat × List UInt8)
  | [], _ => []
  | w :: ws, sq => (sq, w.1, w.2) :: numbered ws (sq + 1)
theorem diskOf_app (a b : List (Nat × List UInt8)) (sq : Nat) : diskOf (a ++ b) sq = diskOf a sq ++ diskOf b (sq + a.length) := by
  induction a generalizing sq with
  | nil => rfl
  | cons w a ih => simp only [List.cons_append, diskOf, ih, List.append_assoc, List.length_cons]; congr 3; omega
theorem numbered_app (a b : List (Nat × List UInt8)) (sq : Nat) : numbered (a ++ b) sq = numbered a sq ++ numbered b (sq + a.length) := by
  induction a generalizing sq with
  | nil => rfl
  | cons w a ih => simp only [List.cons_append, numbered, ih, List.length_cons]; congr 3; omega
theorem numbered_len (a : List (Nat × List UInt8)) (sq : Nat) : (numbered a sq).length = a.length := by
  induction a generalizing sq with
  | nil => rfl
  | cons w a ih => simp [numbered, ih]
/-- what was written is read, and the rest behind it -/
theorem recs_run (ws : List (Nat × List UInt8)) (hws : ∀ w ∈ ws, WOk w) (L tl : List UInt8) (hL : L.length ≤ 1000000) : ∀ (p sq : Nat), 1 ≤ sq → sq + ws.length ≤ 2147483647 → L.drop p = diskOf ws sq ++ tl →
    (recs L p sq).map key = numbered ws sq ++ (recs L (p + (diskOf ws sq).length) (sq + ws.length)).map key ∧ endOf p (recs L p sq) = endOf (p + (diskOf ws sq).length) (recs L (p + (diskOf ws sq).length) (sq + ws.length)) := by
  induction ws with
  | nil => intro p sq _ _ _; simp [diskOf, numbered]
  | cons w ws ih =>
    intro p sq h1 h2 hd
    obtain ⟨k, t⟩ := w
    simp only [diskOf, List.append_assoc] at hd
    have hw : WOk (k, t) := hws _ (List.mem_cons_self ..)
    obtain ⟨a1, a2, a3, a4, a5⟩ := enc_ok k sq t (diskOf ws (sq + 1) ++ tl) hw ⟨h1, by simp at h2; omega⟩
    have hn : nextOk L p sq := ⟨hL, by rw [hd]; exact a1, by rw [hd]; exact a2⟩
    obtain ⟨r, hr, hpl, hsq, hkd, htx, hlen, _⟩ := recs_yes hn
    rw [hd] at hsq hkd htx
    rw [hd, a5] at hr hlen
    have hd2 : L.drop (p + t.length + 20) = diskOf ws (sq + 1) ++ tl := by
      rw [Nat.add_assoc, ← List.drop_drop, hd, List.drop_left' (enc_len k sq t)]
    obtain ⟨i1, i2⟩ := ih (fun w hw => hws w (List.mem_cons_of_mem _ hw)) (p + t.length + 20) (sq + 1) (by omega) (by simp at h2; omega) hd2
    have el : p + (diskOf ((k, t) :: ws) sq).length = p + t.length + 20 + (diskOf ws (sq + 1)).length := by simp only [diskOf, List.length_append, enc_len]; omega
    have es : sq + ((k, t) :: ws).length = sq + 1 + ws.length := by simp; omega
    rw [el, es, hr]
    refine ⟨?_, ?_⟩
    · rw [List.map_cons, i1]
      simp only [numbered, List.cons_append]
      congr 1
      simp only [key, hsq, hkd, htx, a2, a3, a4]
    · rw [← i2]
      simp only [endOf, List.foldl_cons, hpl, hlen]
/-- how many records end at c or before -/
def cutN : List (Nat × List UInt8) → Nat → Nat
  | [], _ => 0
  | w :: ws, c => if w.2.length + 20 ≤ c then cutN ws (c - (w.2.length + 20)) + 1 else 0
def cutE : List (Nat × List UInt8) → Nat → Nat
  | [], _ => 0
  | w :: ws, c => if w.2.length + 20 ≤ c then (w.2.length + 20) + cutE ws (c - (w.2.length + 20)) else 0
theorem rdE_nil : rdE [] = 191 := by decide
theorem numbered_take (ws : List (Nat × List UInt8)) (n sq : Nat) : (numbered ws sq).take n = numbered (ws.take n) sq := by
  induction ws generalizing n sq with
  | nil => simp [numbered]
  | cons w ws ih => cases n with
    | zero => simp [numbered]
    | succ n => simp [numbered, ih]
theorem cut_split (ws : List (Nat × List UInt8)) (hws : ∀ w ∈ ws, WOk w) : ∀ (sq c : Nat), 1 ≤ sq → sq + ws.length ≤ 2147483647 → c ≤ (diskOf ws sq).length →
    ∃ tl, (diskOf ws sq).take c = diskOf (ws.take (cutN ws c)) sq ++ tl ∧ (diskOf (ws.take (cutN ws c)) sq).length = cutE ws c ∧ rdE tl = 191 ∧ cutE ws c ≤ c ∧ cutN ws c ≤ ws.length := by
  induction ws with
  | nil =>
    intro sq c _ _ hc
    simp only [diskOf, List.length_nil] at hc
    have : c = 0 := by omega
    subst this
    exact ⟨[], rfl, rfl, rdE_nil, Nat.le_refl _, Nat.le_refl _⟩
  | cons w ws ih =>
    intro sq c h1 h2 hc
    simp only [List.length_cons] at h2
    by_cases h : w.2.length + 20 ≤ c
    · have hl := enc_len w.1 sq w.2
      obtain ⟨tl, t1, t2, t3, t4, t5⟩ := ih (fun w hw => hws w (List.mem_cons_of_mem _ hw)) (sq + 1) (c - (w.2.length + 20)) (by omega) (by omega) (by simp only [diskOf, List.length_append] at hc; omega)
      refine ⟨tl, ?_, ?_, t3, ?_, ?_⟩
      · simp only [diskOf, cutN, if_pos h, List.take_succ_cons]
        rw [List.take_append, hl, List.take_of_length_le (by omega), t1, List.append_assoc]
      · simp only [cutN, cutE, if_pos h, List.take_succ_cons, diskOf, List.length_append, hl, t2]
      · simp only [cutE, if_pos h]; omega
      · simp only [cutN, if_pos h, List.length_cons]; omega
    · have hl := enc_len w.1 sq w.2
      refine ⟨(enc w.1 sq w.2).take c, ?_, ?_, ?_, ?_, ?_⟩
      · simp only [diskOf, cutN, if_neg h, List.take_zero, List.nil_append]
        rw [List.take_append_of_le_length (by omega)]
      · simp only [cutN, cutE, if_neg h, List.take_zero, diskOf, List.length_nil]
      · exact enc_cut w.1 sq w.2 c (hws w (List.mem_cons_self ..)) ⟨h1, by omega⟩ (by omega)
      · simp only [cutE, if_neg h]; omega
      · simp only [cutN, if_neg h]; omega
theorem spoil_split (ws : List (Nat × List UInt8)) (hws : ∀ w ∈ ws, WOk w) (y : UInt8) : ∀ (sq p : Nat), 1 ≤ sq → sq + ws.length ≤ 2147483647 → (hp : p < (diskOf ws sq).length) → y ≠ (diskOf ws sq)[p] →
    ∃ tl, (diskOf ws sq).set p y = diskOf (ws.take (cutN ws p)) sq ++ tl ∧ (diskOf (ws.take (cutN ws p)) sq).length = cutE ws p ∧ rdE tl = 192 ∧ cutE ws p ≤ p ∧ cutN ws p < ws.length := by
  induction ws with
  | nil =>
    intro sq p _ _ hp
    simp [diskOf] at hp
  | cons w ws ih =>
    intro sq p h1 h2 hp hy
    simp only [List.length_cons] at h2
    have hl := enc_len w.1 sq w.2
    by_cases h : w.2.length + 20 ≤ p
    · have hp2 : p - (w.2.length + 20) < (diskOf ws (sq + 1)).length := by simp only [diskOf, List.length_append] at hp; omega
      have hy2 : y ≠ (diskOf ws (sq + 1))[p - (w.2.length + 20)] := by
        intro e
        apply hy
        rw [e]
        simp only [diskOf]
        rw [List.getElem_append_right (by omega)]
        simp only [hl]
      obtain ⟨tl, t1, t2, t3, t4, t5⟩ := ih (fun w hw => hws w (List.mem_cons_of_mem _ hw)) (sq + 1) (p - (w.2.length + 20)) (by omega) (by omega) hp2 hy2
      refine ⟨tl, ?_, ?_, t3, ?_, ?_⟩
      · simp only [diskOf, cutN, if_pos h, List.take_succ_cons]
        rw [List.set_append_right _ _ (by omega), hl, t1, List.append_assoc]
      · simp only [cutN, cutE, if_pos h, List.take_succ_cons, diskOf, List.length_append, hl, t2]
      · simp only [cutE, if_pos h]; omega
      · simp only [cutN, if_pos h, List.length_cons]; omega
    · have hp2 : p < (enc w.1 sq w.2).length := by omega
      refine ⟨(enc w.1 sq w.2).set p y ++ diskOf ws (sq + 1), ?_, ?_, ?_, ?_, ?_⟩
      · simp only [diskOf, cutN, if_neg h, List.take_zero, List.nil_append]
        rw [List.set_append_left _ _ hp2]
      · simp only [cutN, cutE, if_neg h, List.take_zero, diskOf, List.length_nil]
      · refine enc_spoilt w.1 sq w.2 p y _ (hws w (List.mem_cons_self ..)) ⟨h1, by omega⟩ hp2 ?_
        intro e
        apply hy
        rw [e]
        simp only [diskOf]
        exact (List.getElem_append_left _).symm
      · simp only [cutE, if_neg h]; omega
      · simp only [cutN, if_neg h, List.length_cons]; omega
/-- what is read where some records are whole and what follows is none -/
theorem whl_part (ws : List (Nat × List UInt8)) (hws : ∀ w ∈ ws, WOk w) (L tl : List UInt8) (hL : L.length ≤ 1000000) (hn : ws.length ≤ 40) (hd : L = diskOf ws 1 ++ tl) (he : rdE tl ≠ 0) :
    (whl L).map key = numbered ws 1 ∧ whE L = (diskOf ws 1).length ∧ L.drop (whE L) = tl := by
  obtain ⟨a, b⟩ := recs_run ws hws L tl hL 0 1 (Nat.le_refl _) (by omega) (by rw [List.drop_zero]; exact hd)
  have hdr : L.drop (0 + (diskOf ws 1).length) = tl := by rw [Nat.zero_add, hd, List.drop_left' rfl]
  have hno : ¬ nextOk L (0 + (diskOf ws 1).length) (1 + ws.length) := by
    intro h
    apply he
    rw [← hdr]
    exact h.2.1
  rw [recs_no hno] at a b
  have hE : whE L = (diskOf ws 1).length := by
    unfold whE whl
    rw [b, endOf_nil, Nat.zero_add]
  refine ⟨by unfold whl; simpa using a, hE, by rw [hE]; rw [Nat.zero_add] at hdr; exact hdr⟩
theorem cut_law (ws : List (Nat × List UInt8)) (hws : ∀ w ∈ ws, WOk w) (hn : ws.length ≤ 40) (hD : (diskOf ws 1).length ≤ 1000000) (c : Nat) (hc : c ≤ (diskOf ws 1).length) :
    (whl ((diskOf ws 1).take c)).map key = (numbered ws 1).take (cutN ws c) ∧ whE ((diskOf ws 1).take c) = cutE ws c ∧ codeOf ((diskOf ws 1).take c) (cutE ws c) = (if cutE ws c = c then 0 else 191) ∧ cutN ws c ≤ ws.length := by
  obtain ⟨tl, t1, t2, t3, t4, t5⟩ := cut_split ws hws 1 c (Nat.le_refl _) (by omega) hc
  have hl : ((diskOf ws 1).take c).length = c := by rw [List.length_take]; omega
  obtain ⟨a, b, d⟩ := whl_part (ws.take (cutN ws c)) (fun w hw => hws w (List.mem_of_mem_take hw)) ((diskOf ws 1).take c) tl (by omega) (by rw [List.length_take]; omega) t1 (by rw [t3]; decide)
  rw [t2] at b
  refine ⟨by rw [a, numbered_take], b, ?_, t5⟩
  unfold codeOf
  rw [hl]
  by_cases h : cutE ws c = c
  · rw [if_pos h, if_pos h]
  · rw [b] at d
    rw [if_neg h, if_neg h, d, t3]
    decide
theorem spoil_law (ws : List (Nat × List UInt8)) (hws : ∀ w ∈ ws, WOk w) (hn : ws.length ≤ 40) (hD : (diskOf ws 1).length ≤ 1000000) (p : Nat) (hp : p < (diskOf ws 1).length) (y : UInt8) (hy : y ≠ (diskOf ws 1)[p]) :
    (whl ((diskOf ws 1).set p y)).map key = (numbered ws 1).take (cutN ws p) ∧ whE ((diskOf ws 1).set p y) = cutE ws p ∧ codeOf ((diskOf ws 1).set p y) (cutE ws p) = 192 ∧ cutN ws p < ws.length := by
  obtain ⟨tl, t1, t2, t3, t4, t5⟩ := spoil_split ws hws y 1 p (Nat.le_refl _) (by omega) hp hy
  have hl : ((diskOf ws 1).set p y).length = (diskOf ws 1).length := List.length_set ..
  obtain ⟨a, b, d⟩ := whl_part (ws.take (cutN ws p)) (fun w hw => hws w (List.mem_of_mem_take hw)) ((diskOf ws 1).set p y) tl (by omega) (by rw [List.length_take]; omega) t1 (by rw [t3]; decide)
  rw [t2] at b
  refine ⟨by rw [a, numbered_take], b, ?_, t5⟩
  unfold codeOf
  rw [b] at d
  rw [hl, if_neg (by omega), d, t3]
  decide
/-- going on by one record -/
theorem cut_step (ws : List (Nat × List UInt8)) (c n e : Nat) (w : Nat × List UInt8) (hw : ws[n]? = some w) (h1 : cutN ws c = n + cutN (ws.drop n) (c - e)) (h2 : cutE ws c = e + cutE (ws.drop n) (c - e)) (h : e + w.2.length + 20 ≤ c) :
    cutN ws c = n + 1 + cutN (ws.drop (n + 1)) (c - (e + w.2.length + 20)) ∧ cutE ws c = e + w.2.length + 20 + cutE (ws.drop (n + 1)) (c - (e + w.2.length + 20)) := by
  have hn := (List.getElem?_eq_some_iff.1 hw).1
  have hd : ws.drop n = w :: ws.drop (n + 1) := by
    rw [List.drop_eq_getElem_cons hn]
    have := (List.getElem?_eq_some_iff.1 hw).2
    rw [this]
  rw [hd] at h1 h2
  simp only [cutN, cutE, if_pos (show w.2.length + 20 ≤ c - e by omega)] at h1 h2
  rw [show c - e - (w.2.length + 20) = c - (e + w.2.length + 20) by omega] at h1 h2
  omega
theorem cut_stop (ws : List (Nat × List UInt8)) (c n e : Nat) (h1 : cutN ws c = n + cutN (ws.drop n) (c - e)) (h2 : cutE ws c = e + cutE (ws.drop n) (c - e)) (h : ∀ w, ws[n]? = some w → c < e + w.2.length + 20) (he : e ≤ c) : cutN ws c = n ∧ cutE ws c = e := by
  by_cases hn : n < ws.length
  · have hw := h ws[n] (by simp [hn])
    rw [List.drop_eq_getElem_cons hn] at h1 h2
    simp only [cutN, cutE, if_neg (show ¬ (ws[n].2.length + 20 ≤ c - e) by omega)] at h1 h2
    omega
  · rw [List.drop_of_length_le (by omega)] at h1 h2
    simp only [cutN, cutE] at h1 h2
    omega
theorem numbered_at (ws : List (Nat × List UInt8)) (n sq : Nat) (w : Nat × List UInt8) (h : ws[n]? = some w) : (numbered ws sq)[n]? = some (sq + n, w.1, w.2) := by
  induction ws generalizing n sq with
  | nil => cases h
  | cons x ws ih =>
    cases n with
    | zero => cases h; rfl
    | succ n =>
      have := ih n (sq + 1) (by simpa using h)
      simp only [numbered, List.getElem?_cons_succ]
      rw [this]
      congr 2
      omega
end Go.Proofs.Ytfilbjooebnbkaa.Lg
