/- TernLeastHull: the plain law and the walk. -/
import Derived.Test.YtdiijannpfogdaaHw
import Derived.Test.YtdiijannpfogdaaLo
namespace Go.Proofs.Ytdiijannpfogdaa.Tn
open Go.RowKit
open Law (ArgS)
theorem within_refl {t : List UInt8} (h : t ≠ []) : withinOk t t := ⟨⟨h, rfl⟩, fun _ _ => .inr rfl⟩
theorem hull2_len (t u : List UInt8) : (hull2 t u).length = t.length := by simp [hull2]
theorem hull2_within {t u z : List UInt8} (hl : u.length = t.length) : withinOk (hull2 t u) z ↔ withinOk t z ∧ withinOk u z := by
  have hlen := hull2_len t u
  have hn : hull2 t u ≠ [] ↔ t ≠ [] := by
    rw [← List.length_pos_iff, ← List.length_pos_iff, hlen]
  have hn2 : u ≠ [] ↔ t ≠ [] := by
    rw [← List.length_pos_iff, ← List.length_pos_iff, hl]
  have hF : ∀ i, i < t.length → byt (hull2 t u) i = hullF t u i := fun i hi => by unfold hull2; rw [byt_up _ _ _ hi]
  constructor
  · rintro ⟨⟨h0, h1⟩, h2⟩
    refine ⟨⟨⟨hn.1 h0, by omega⟩, fun i hi => ?_⟩, ⟨⟨hn2.2 (hn.1 h0), by omega⟩, fun i hi => ?_⟩⟩
    · have h3 := h2 i (by omega)
      rw [hF i hi] at h3
      unfold hullF at h3
      by_cases e : byt u i = byt t i
      · rw [if_pos e] at h3; exact h3
      · rw [if_neg e] at h3; exact .inl (h3.elim id Eq.symm)
    · have h3 := h2 i (by omega)
      rw [hF i (by omega)] at h3
      unfold hullF at h3
      by_cases e : byt u i = byt t i
      · rw [if_pos e, ← e] at h3; exact h3
      · rw [if_neg e] at h3; exact .inl (h3.elim id Eq.symm)
  · rintro ⟨⟨⟨h0, h1⟩, h2⟩, ⟨_, h4⟩⟩
    refine ⟨⟨hn.2 h0, by omega⟩, fun i hi => ?_⟩
    have h5 := h2 i (by omega)
    have h6 := h4 i (by omega)
    rw [hF i (by omega)]
    unfold hullF
    by_cases e : byt u i = byt t i
    · rw [if_pos e]; exact h5
    · rw [if_neg e]
      rcases h5 with h5 | h5
      · exact .inl h5
      · rcases h6 with h6 | h6
        · exact .inl h6
        · exact absurd (h6.trans h5.symm) e
theorem hullL_within (L : List (List UInt8)) : ∀ (t z : List UInt8), (∀ x ∈ L, x.length = t.length) → (withinOk (hullL t L) z ↔ withinOk t z ∧ ∀ x ∈ L, withinOk x z) := by
  induction L with
  | nil => intro t z _; simp [hullL]
  | cons u L ih =>
    intro t z hl
    have e : hullL t (u :: L) = hullL (hull2 t u) L := rfl
    rw [e, ih (hull2 t u) z (fun x hx => by rw [hull2_len]; exact hl x (List.mem_cons_of_mem _ hx)), hull2_within (hl u (List.mem_cons_self ..))]
    simp [and_assoc]
theorem hullL_nonempty {t : List UInt8} {L : List (List UInt8)} (h : t ≠ []) : hullL t L ≠ [] := by
  rw [← List.length_pos_iff, hullL_len, List.length_pos_iff]; exact h
theorem hullT_ok {t : List UInt8} {L : List (List UInt8)} (h : hullOk t L) : hullT t L = hullL t L := by unfold hullT; rw [if_pos h]
theorem least_up {t : List UInt8} {L : List (List UInt8)} (h : hullOk t L) : withinOk t (hullT t L) ∧ ∀ x ∈ L, withinOk x (hullT t L) := by
  rw [hullT_ok h]
  exact (hullL_within L t _ h.2).1 (within_refl (hullL_nonempty h.1))
theorem least_low {t : List UInt8} {L : List (List UInt8)} (h : hullOk t L) (z : List UInt8) : withinOk (hullT t L) z ↔ withinOk t z ∧ ∀ x ∈ L, withinOk x z := by
  rw [hullT_ok h]
  exact hullL_within L t _ h.2
/-- all of one width, and cubes -/
def fitsB (s1 s3 : ByteArray) (Xs : List ByteArray) : Bool := decide (isCube s1.data.toList ∧ isCube s3.data.toList ∧ s1.size = s3.size ∧ ∀ X ∈ Xs, isCube X.data.toList ∧ X.size = s1.size)
theorem fitsB_snoc (s1 s3 : ByteArray) (Xs : List ByteArray) (k : Nat) (h : k < Xs.length) : fitsB s1 s3 (Xs.take (k + 1)) = (fitsB s1 s3 (Xs.take k) && decide (isCube Xs[k].data.toList) && decide (Xs[k].size = s1.size)) := by
  unfold fitsB
  rw [List.take_succ_eq_append_getElem h, Bool.eq_iff_iff]
  simp only [decide_eq_true_eq, Bool.and_eq_true, List.mem_append, List.mem_singleton, or_imp, forall_and, forall_eq]
  constructor
  · rintro ⟨a, b, c, ⟨d1, d2⟩, ⟨e1, e2⟩⟩; exact ⟨⟨⟨a, b, c, d1, e1⟩, d2⟩, e2⟩
  · rintro ⟨⟨⟨a, b, c, d1, e1⟩, d2⟩, e2⟩; exact ⟨a, b, c, ⟨d1, d2⟩, ⟨e1, e2⟩⟩
theorem fitsB_ok {s1 s3 : ByteArray} {Xs : List ByteArray} (h : fitsB s1 s3 Xs = true) : hullOk (cubeT s1.data.toList) (cubesOf Xs) ∧ cubeT s1.data.toList = s1.data.toList ∧ cubeT s3.data.toList = s3.data.toList := by
  have h := of_decide_eq_true h
  obtain ⟨a, b, c, d⟩ := h
  refine ⟨⟨?_, fun x hx => ?_⟩, cubeT_is a, cubeT_is b⟩
  · rw [cubeT_is a]; intro e; rw [e] at a; simp [isCube] at a
  · obtain ⟨X, hX, rfl⟩ := List.mem_map.1 hx
    obtain ⟨e1, e2⟩ := d X hX
    rw [cubeT_is e1, cubeT_is a, len_s, len_s, e2]
attribute [local go_sem] cv cs wv eq_arr
theorem fitsB_nil (s1 s3 : ByteArray) : fitsB s1 s3 [] = (decide (isCube s1.data.toList) && decide (isCube s3.data.toList) && decide (s1.size = s3.size)) := by
  unfold fitsB
  rw [Bool.eq_iff_iff]
  simp [and_assoc]
theorem lcube_lit (s : ByteArray) (hs : s.size ≤ maxLen) (b : Bool) (hb : decide (isCube s.data.toList) = b) (w : World) : Calls Try.prog 43 #[.string s] w fun e w' => e = .returned (.bool b) ∧ w = w' := by
  rw [← hb]; exact lcube_any s hs w
theorem sz_dec {a b : ByteArray} {d : Bool} (h : decide (a.size = b.size) = d) : ((a.size : Int) == (b.size : Int)) = d := by
  rw [← h, Bool.eq_iff_iff]
  simp only [beq_iff_eq, decide_eq_true_eq]
  omega
def allB (L : List (List UInt8)) (t z : List UInt8) : Bool := decide (withinOk t z ∧ ∀ x ∈ L, withinOk x z)
theorem allB_snoc (L : List (List UInt8)) (t z : List UInt8) (k : Nat) (h : k < L.length) : allB (L.take (k + 1)) t z = (allB (L.take k) t z && decide (withinOk L[k] z)) := by
  unfold allB
  rw [List.take_succ_eq_append_getElem h, Bool.eq_iff_iff]
  simp only [decide_eq_true_eq, Bool.and_eq_true, List.mem_append, List.mem_singleton, or_imp, forall_and, forall_eq]
  constructor
  · rintro ⟨a, b, c⟩; exact ⟨⟨a, b⟩, c⟩
  · rintro ⟨⟨a, b⟩, c⟩; exact ⟨a, b, c⟩
set_option maxRecDepth 100000 in
set_option maxHeartbeats 4000000 in
theorem least_walk (s1 : ByteArray) (h1 : s1.size ≤ maxLen) (v : Value) (Xs : List ByteArray) (s3 : ByteArray) (h3 : s3.size ≤ maxLen) (w : World) (hA : ArgS w v Xs) (hk : Xs.length ≤ 1048576) :
    Calls Try.prog 15 #[.string s1, v, .string s3] w fun e w' => e = .returned (.bool true) ∧ Below w.heap.size w w' := by
  obtain ⟨n, c, o, hC⟩ : ∃ n c o, Cub (cubeT s1.data.toList) n c o := ⟨_, _, _, Cub.of _⟩
  obtain ⟨n3, c3, o3, hC3⟩ : ∃ n c o, Cub (cubeT s3.data.toList) n c o := ⟨_, _, _, Cub.of _⟩
  obtain ⟨a0, cap0, rfl, hcap, hcm, hcell, hsz⟩ := hA
  have HC := Lib.hid hC
  have HC3 := Lib.hid hC3
  have HX := Lib.hid hcell
  have HZ := Lib.hid hsz
  have hx := xx_text
  clear hC hC3 hcell hsz
  unfold maxLen at hcm
  generalize hb1 : decide (isCube s1.data.toList) = b1
  generalize hb3 : decide (isCube s3.data.toList) = b3
  generalize hbz : decide (s1.size = s3.size) = bz
  have K1 := Lib.hid (lcube_lit s1 h1 b1 hb1)
  have K3 := Lib.hid (lcube_lit s3 h3 b3 hb3)
  have hzz := sz_dec hbz
  have HF0 := Lib.hid (show fitsB s1 s3 (Xs.take 0) = (b1 && b3 && bz) by rw [List.take_zero, fitsB_nil, hb1, hb3, hbz])
  clear hb1 hb3 hbz
  go_enter Try.func15, Try.ntmps15
  go_wp2_with fail
  refine (parse_s s1 h1 HC.out _).mono ?_
  rintro e w1 ⟨rfl, hb1⟩
  go_wp2_with fail
  refine (parse_s s3 h3 HC3.out _).mono ?_
  rintro e w2 ⟨rfl, hb2⟩
  have hB1 := (Blk.new w1 30 (cs n c o)).below hb2 (by simp)
  have g1 := bnx (bal hb1 (.cells (cs n c o) 30)) hb2
  go_upto_region 3 with fail
  generalize hW : World.alloc w2 _ = W
  have hW' : World.alloc w2 (.cells (cs n3 c3 o3) 30) = W := hW
  have hB1W := hB1.alloc (.cells (cs n3 c3 o3) 30)
  have hB3W := Blk.new w2 30 (cs n3 c3 o3)
  have hbW := bal g1 (.cells (cs n3 c3 o3) 30)
  rw [hW'] at hB1W hB3W hbW
  have hz12 : w.heap.size ≤ w1.heap.size := hb1.size
  clear hW hW' hB1 g1 hb1 hb2
  go_cut [11] (fun s11 wx => s11 = .bool (b1 && b3 && bz) ∧ W = wx)
  case first =>
    cases b1 <;> cases b3 <;> cases bz
    all_goals go_wp2_with (first | (go_at_call 43; with_reducible refine (K1.out _).mono ?_; rintro e w' ⟨rfl, rfl⟩) | (go_at_call 43; with_reducible refine (K3.out _).mono ?_; rintro e w' ⟨rfl, rfl⟩))
    all_goals go_meet
    all_goals exact ⟨rfl, rfl⟩
  case rest =>
    obtain ⟨rfl, rfl⟩ := hcut
    rw [← HF0.out]
    clear HF0 K1 K3 hzz
    go_wp2_with fail
    go_loopw [11, 12, 13] (fun f v i wr => ∃ k : Nat, k ≤ Xs.length ∧ i = .int .i64 k ∧ f = .bool (fitsB s1 s3 (Xs.take k)) ∧ wr.ownsRow W.heap.size 30 9 v k (crow (cubesOf (Xs.take k))) ∧ Blk wr w1.heap.size 30 (cs n c o) ∧ Blk wr w2.heap.size 30 (cs n3 c3 o3) ∧ W.heap.size ≤ wr.heap.size ∧ Below w.heap.size w wr) (fun _ _ i _ => Xs.length - (intOf i).toNat)
    case atStart => exact ⟨0, Nat.zero_le _, rfl, rfl, crow_nil _ _, hB1W, hB3W, Nat.le_refl _, hbW⟩
    case round =>
      have hW1 : w1.heap.size < W.heap.size := hB1W.lt
      have hW2 : w2.heap.size < W.heap.size := hB3W.lt
      clear hB1W hB3W hbW
      obtain ⟨wo, rfl⟩ : ∃ wo : World, wo = wr := ⟨_, rfl⟩
      obtain ⟨k, hk', rfl, rfl, hv, hB1, hB3, hWw, hbel⟩ := hrel
      by_cases hlt : k < Xs.length
      · obtain ⟨b, off, rfl, hbl, hq⟩ : ∃ b off, a0 = some ⟨b, off, none⟩ ∧ b < w.heap.size ∧ ∀ j X, Xs[j]? = some X → w.cell? ⟨b, off + j, none⟩ = some (.string X) := by
          rcases HX.out with h0 | h0
          · rw [h0] at hlt; simp at hlt
          · exact h0
        have HQ := Lib.hid (fun (wr : World) (hb : Below w.heap.size w wr) => show wr.cell? ⟨b, off + k, none⟩ = some (.string Xs[k]) by rw [hb.cell (p := ⟨b, off + k, none⟩) hbl]; exact hq k _ (List.getElem?_eq_getElem hlt))
        have hXs : Xs[k].size ≤ maxLen := HZ.out _ (List.getElem_mem hlt)
        have HS := Lib.hid (cubesOf_snoc Xs k hlt)
        have HF := Lib.hid (fitsB_snoc s1 s3 Xs k hlt)
        have q0 := HQ.out wo hbel
        generalize Xs[k] = X at *
        obtain ⟨m, d, p, hD⟩ : ∃ n c o, Cub (cubeT X.data.toList) n c o := ⟨_, _, _, Cub.of _⟩
        have HD := Lib.hid hD
        generalize hbx : decide (isCube X.data.toList) = bx at *
        generalize hby : decide (X.size = s1.size) = by_ at *
        have KX := Lib.hid (lcube_lit X hXs bx hbx)
        have hyy := sz_dec hby
        clear hq hD hbx hby
        go_wp2_with fail
        refine (parse_s X hXs HD.out _).mono ?_
        rintro e w3 ⟨rfl, hb3⟩
        have hv3 := own_below hv hb3 (Nat.le_refl _)
        have hB1' := hB1.below hb3 hB1.lt
        have hB3' := hB3.below hb3 hB3.lt
        have hbel3 := bnx hbel hb3
        have hWw3 := Nat.le_trans hWw hb3.size
        clear q0 hv hB1 hB3 hbel hWw hb3
        go_upto_region 9 with fail
        generalize hW : World.alloc w3 _ = w4
        have hW' : World.alloc w3 (.cells (cs m d p) 30) = w4 := hW
        have hv4 := hv3.alloc (.cells (cs m d p) 30)
        have hD4 := Blk.new w3 30 (cs m d p)
        have hB14 := hB1'.alloc (.cells (cs m d p) 30)
        have hB34 := hB3'.alloc (.cells (cs m d p) 30)
        have hbel4 := bal hbel3 (.cells (cs m d p) 30)
        rw [hW'] at hv4 hD4 hB14 hB34 hbel4
        have hWw4 : W.heap.size ≤ w4.heap.size := by rw [← hW]; simp; omega
        have hcD := hD4.cell
        clear hW hW' hv3 hB1' hB3' hbel3 hWw3
        go_upto_region 10 with (at_builtin; refine app_cubeG HD.out hv4 rfl rfl rfl rfl (by omega) hWw4 ?_; intro v5 w5 hv5 hg5)
        have hB15 := hB14.grown hg5 (blk_ne hv4 hW1)
        have hB35 := hB34.grown hg5 (blk_ne hv4 hW2)
        have hbel5 : Below w.heap.size w w5 := hbel4.trans ((below_grown hv4 hg5 hWw4).mono (by omega))
        have hWw5 : W.heap.size ≤ w5.heap.size := Nat.le_trans hWw4 hg5.size
        have q5 := HQ.out w5 hbel5
        clear hg5 hcD hD4 hv4 hB14 hB34 hbel4 hWw4
        generalize hf : fitsB s1 s3 (List.take k Xs) = f at *
        have HF' := Lib.hid HF.out
        clear hf HF
        cases f <;> cases bx <;> cases by_
        all_goals
          go_wp2_with (first | (go_at_call 43; with_reducible refine (KX.out _).mono ?_; rintro e w' ⟨rfl, rfl⟩))
          go_roundw
          case rel => exact ⟨k + 1, by omega, by go_num, by rw [HF'.out]; rfl, by rw [HS.out]; exact hv5, hB15, hB35, hWw5, hbel5⟩
          case measure => simp [intOf]; omega
      · obtain rfl : k = Xs.length := by omega
        rw [List.take_length] at hv
        generalize hf : fitsB s1 s3 (List.take Xs.length Xs) = F
        rw [List.take_length] at hf
        have HFK := Lib.hid (fun h => fitsB_ok (hf.trans h))
        have hn := cubesOf_len Xs
        have HCB := Lib.hid (cubesOf_cubs Xs)
        generalize cubesOf Xs = L at *
        rw [← hn] at hv
        have hk2 : L.length ≤ 1048576 := by omega
        obtain ⟨av, capv, e⟩ := own_len hv
        subst e
        have kh := fun w hS => hull_any HC.out HCB.out w (.slice av L.length capv) hS (by omega)
        have hS := Sees.of_own hv
        have hc1 := hB1.cell
        clear hn hlt hk' hf
        cases F
        · go_wp2_with fail
          refine (kh _ hS).mono ?_
          rintro e w5 ⟨n5, c5, o5, hC5, rfl, hb5⟩
          have g5 := bnx hbel hb5
          have g6 := bal g5 (.cells (cs n5 c5 o5) 30)
          clear hc1 hb5 kh hS
          go_wp2_with (first | (go_at_call 29; refine (all_any 2 _).mono ?_; rintro e w6 ⟨n6, c6, o6, hC6, rfl, hb6⟩; have H6 := Lib.hid hC6; clear hC6) | (go_at_call 44; refine (text_any _ _ _ _ _ H6.out).mono ?_; rintro e w7 ⟨rfl, hb7⟩))
          go_ret
          exact ⟨rfl, bnx (bnx g6 hb6) hb7⟩
        · obtain ⟨hok, ht, hz⟩ := HFK.out rfl
          rw [show hullE (cubeT s1.data.toList) L = 0 by unfold hullE; rw [if_pos hok]] at kh
          generalize cubeT s1.data.toList = t at *
          generalize cubeT s3.data.toList = z at *
          have hup := least_up hok
          have hlow := least_low hok z
          generalize hullT t L = hT at *
          generalize hb0 : decide (withinOk t z) = b0
          have KU := Lib.hid (decide_eq_true hup.1)
          have KV := Lib.hid (fun x hx => decide_eq_true (hup.2 x hx))
          have KL := Lib.hid (show decide (withinOk hT z) = allB L t z by unfold allB; rw [Bool.eq_iff_iff]; simp only [decide_eq_true_eq]; exact hlow)
          have KB0 := Lib.hid hb0
          have HA0 := Lib.hid (show allB (L.take 0) t z = b0 by rw [List.take_zero, ← hb0]; unfold allB; rw [Bool.eq_iff_iff]; simp)
          clear hup hlow hb0 hok ht hz HFK
          go_wp2_with fail
          refine (kh _ hS).mono ?_
          rintro e w5 ⟨n5, c5, o5, hC5, rfl, hb5⟩
          have H5 := Lib.hid hC5
          have hv5 := own_below hv hb5 (Nat.le_refl _)
          have hB15 := hB1.below hb5 hB1.lt
          have hB35 := hB3.below hb5 hB3.lt
          have hbel5 := bnx hbel hb5
          clear hc1 hb5 kh hS hC5 hv hB1 hB3 hbel
          go_upto_region 12 with fail
          generalize hW : World.alloc w5 _ = w6
          have hW' : World.alloc w5 (.cells (cs n5 c5 o5) 30) = w6 := hW
          have hv6 := hv5.alloc (.cells (cs n5 c5 o5) 30)
          have hB56 := Blk.new w5 30 (cs n5 c5 o5)
          have hB16 := hB15.alloc (.cells (cs n5 c5 o5) 30)
          have hB36 := hB35.alloc (.cells (cs n5 c5 o5) 30)
          have hbel6 := bal hbel5 (.cells (cs n5 c5 o5) 30)
          rw [hW'] at hv6 hB56 hB16 hB36 hbel6
          clear hW hW' hv5 hB15 hB35 hbel5
          have hc1 := hB16.cell
          have hc3 := hB36.cell
          have hc5 := hB56.cell
          go_wp2_with (first | (go_at_call 40; refine (num_any _ _).mono ?_; rintro e w' ⟨rfl, rfl⟩))
          refine (within_lit HC.out H5.out true KU.out _).mono ?_
          rintro e w7 ⟨rfl, hb7⟩
          have hv7 := own_below hv6 hb7 (Nat.le_refl _)
          have hB17 := hB16.below hb7 hB16.lt
          have hB37 := hB36.below hb7 hB36.lt
          have hB57 := hB56.below hb7 hB56.lt
          have hbel7 := bnx hbel6 hb7
          clear hc1 hc3 hc5 hb7 hv6 hB16 hB36 hB56 hbel6
          have hc1 := hB17.cell
          have hc3 := hB37.cell
          have hc5 := hB57.cell
          go_wp2_with fail
          refine (within_lit HC.out HC3.out b0 KB0.out _).mono ?_
          rintro e w8 ⟨rfl, hb8⟩
          have hv8 := own_below hv7 hb8 (Nat.le_refl _)
          have hB38 := hB37.below hb8 hB37.lt
          have hB58 := hB57.below hb8 hB57.lt
          have hbel8 := bnx hbel7 hb8
          clear hc1 hc3 hc5 hb8 hv7 hB17 hB37 hB57 hbel7
          rw [← HA0.out]
          go_wp2_with fail
          go_loopw [18, 19] (fun al i wr => ∃ k : Nat, k ≤ L.length ∧ i = .int .i64 k ∧ al = .bool (allB (L.take k) t z) ∧ wr.ownsRow W.heap.size 30 9 (.slice av L.length capv) L.length (crow L) ∧ Blk wr w2.heap.size 30 (cs n3 c3 o3) ∧ Blk wr w5.heap.size 30 (cs n5 c5 o5) ∧ Below w.heap.size w wr) (fun _ i _ => L.length - (intOf i).toNat)
          case atStart => exact ⟨0, Nat.zero_le _, rfl, rfl, hv8, hB38, hB58, hbel8⟩
          case round =>
            clear hv8 hB38 hB58 hbel8
            obtain ⟨wq, rfl⟩ : ∃ wq : World, wq = wr := ⟨_, rfl⟩
            obtain ⟨k, hk, rfl, rfl, hv, hB3, hB5, hbel⟩ := hrel
            by_cases hlt : k < L.length
            · obtain ⟨g, cap, e, hcap', _, hxu⟩ := own_at hv (by omega)
              cases e
              obtain ⟨m, d, p, hD⟩ := HCB.out L[k] (List.getElem_mem hlt)
              have HD := Lib.hid hD
              have HSN := Lib.hid (allB_snoc L t z k hlt)
              have KVk := Lib.hid (KV.out L[k] (List.getElem_mem hlt))
              generalize hbk : decide (withinOk L[k] z) = bk at *
              have KBk := Lib.hid hbk
              generalize hal : allB (L.take k) t z = al at *
              clear hbk hal hxu
              go_wp2_with fail
              refine still_tail 5 (by kernel_rfl) (by kernel_rfl) fun W5 hW5 => ?_
              simp only [List.take_succ_cons, List.take_zero, List.drop_succ_cons, List.drop_zero]
              have hv5 : W5.ownsRow W.heap.size 30 9 (.slice (some ⟨g, 0, none⟩) L.length capv) L.length (crow L) := by rw [hW5.out]; exact hv
              have hB35 := hB3.at_drew hW5
              have hB55 := hB5.at_drew hW5
              have hbel5 := hbel.trans (below_at_drew hW5 _)
              have hq := own_cells hv5 hlt HD.out
              have q0 := hq 0 _ (by omega) rfl
              have q1 := hq 1 _ (by omega) rfl
              have q2 := hq 2 _ (by omega) rfl
              have q3 := hq 3 _ (by omega) rfl
              have q4 := hq 4 _ (by omega) rfl
              have q5 := hq 5 _ (by omega) rfl
              have q6 := hq 6 _ (by omega) rfl
              have q7 := hq 7 _ (by omega) rfl
              have q8 := hq 8 _ (by omega) rfl
              rw [Nat.add_zero] at q0
              have hc5 := hB55.cell
              clear hW5 hv hB3 hB5 hbel hq hD
              repeat still_step
              refine wpStill_nil ?_
              go_wp2_with fail
              refine (within_lit HD.out H5.out true KVk.out _).mono ?_
              rintro e w9 ⟨rfl, hb9⟩
              have hv9 := own_below hv5 hb9 (Nat.le_refl _)
              have hB39 := hB35.below hb9 hB35.lt
              have hB59 := hB55.below hb9 hB55.lt
              have hbel9 := bnx hbel5 hb9
              clear hv5 hB35 hB55 hbel5 hb9 hc5 q0 q1 q2 q3 q4 q5 q6 q7 q8
              go_wp2_with fail
              cases al
              · go_quiet (fail)
                go_wp2_with fail
                go_roundw
                case rel => exact ⟨k + 1, by omega, by go_num, by rw [HSN.out]; rfl, own_drewN hv9 _, hB39.drewN _, hB59.drewN _, below_drewN hbel9 _⟩
                case measure => simp [intOf]; omega
              · refine still_tail 7 (by kernel_rfl) (by kernel_rfl) fun W5 hW5 => ?_
                simp only [List.take_succ_cons, List.take_zero, List.drop_succ_cons, List.drop_zero]
                have hv5 : W5.ownsRow W.heap.size 30 9 (.slice (some ⟨g, 0, none⟩) L.length capv) L.length (crow L) := by rw [hW5.out]; exact hv9
                have hB35 := hB39.at_drew hW5
                have hB55 := hB59.at_drew hW5
                have hbel5 := hbel9.trans (below_at_drew hW5 _)
                have hq := own_cells hv5 hlt HD.out
                have q0 := hq 0 _ (by omega) rfl
                have q1 := hq 1 _ (by omega) rfl
                have q2 := hq 2 _ (by omega) rfl
                have q3 := hq 3 _ (by omega) rfl
                have q4 := hq 4 _ (by omega) rfl
                have q5 := hq 5 _ (by omega) rfl
                have q6 := hq 6 _ (by omega) rfl
                have q7 := hq 7 _ (by omega) rfl
                have q8 := hq 8 _ (by omega) rfl
                rw [Nat.add_zero] at q0
                have hc3 := hB35.cell
                clear hW5 hv9 hB39 hB59 hbel9 hq
                repeat still_step
                refine wpStill_nil ?_
                go_wp2_with fail
                refine (within_lit HD.out HC3.out bk KBk.out _).mono ?_
                rintro e w10 ⟨rfl, hb10⟩
                have hv10 := own_below hv5 hb10 (Nat.le_refl _)
                have hB310 := hB35.below hb10 hB35.lt
                have hB510 := hB55.below hb10 hB55.lt
                have hbel10 := bnx hbel5 hb10
                clear hv5 hB35 hB55 hbel5 hb10 hc3 q0 q1 q2 q3 q4 q5 q6 q7 q8
                go_wp2_with fail
                go_roundw
                case rel => exact ⟨k + 1, by omega, by go_num, by rw [HSN.out]; rfl, hv10, hB310, hB510, hbel10⟩
                case measure => simp [intOf]; omega
            · obtain rfl : k = L.length := by omega
              rw [List.take_length]
              generalize hA : allB L t z = A at *
              have hAA : (A == A) = true := by simp
              have hc3 := hB3.cell
              have hc5 := hB5.cell
              clear hA
              go_wp2_with fail
              refine (within_lit H5.out HC3.out A KL.out _).mono ?_
              rintro e w9 ⟨rfl, hb9⟩
              go_wp2_with fail
              go_ret
              exact ⟨rfl, bnx hbel hb9⟩
end Go.Proofs.Ytdiijannpfogdaa.Tn
