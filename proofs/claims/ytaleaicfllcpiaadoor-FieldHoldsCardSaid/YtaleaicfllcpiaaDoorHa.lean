/- halves, the document's way. -/
import Derived.Test.YtaleaicfllcpiaaDoorPr
import Derived.Maps.AppendAt
namespace Go.Proofs.YtaleaicfllcpiaaDoor.Fl
open Go.RowKit Mm Law
set_option linter.unusedVariables false
set_option linter.unusedSimpArgs false
set_option linter.unusedSectionVars false
theorem hal_one {k x lo e : Nat} (h : lo ≤ x ∧ x + 2 ^ k ≤ e) : hal k x lo e = [(x, k)] := by
  cases k with
  | zero => unfold hal; rw [if_pos h]
  | succ k => unfold hal; rw [if_pos h]
theorem hal_none {k x lo e : Nat} (h : ¬ (lo ≤ x ∧ x + 2 ^ k ≤ e)) (h2 : e ≤ x ∨ x + 2 ^ k ≤ lo) : hal k x lo e = [] := by
  cases k with
  | zero => unfold hal; rw [if_neg h]
  | succ k => unfold hal; rw [if_neg h, if_pos h2]
theorem hal_two {k x lo e : Nat} (h : ¬ (lo ≤ x ∧ x + 2 ^ k ≤ e)) (h2 : ¬ (e ≤ x ∨ x + 2 ^ k ≤ lo)) : ∃ j, k = j + 1 ∧ hal k x lo e = hal j x lo e ++ hal j (x + 2 ^ j) lo e := by
  cases k with
  | zero => simp at h h2; omega
  | succ k => exact ⟨k, rfl, by conv => lhs; unfold hal
                                rw [if_neg h, if_neg h2]⟩
theorem hal_len (lo e : Nat) : ∀ k x, (hal k x lo e).length ≤ 2 ^ k := by
  intro k
  induction k with
  | zero => intro x; unfold hal; split <;> simp
  | succ k ih =>
    intro x
    have h1 := ih x
    have h2 := ih (x + 2 ^ k)
    have h3 := topN_pos k
    have h4 : 2 ^ (k + 1) = 2 ^ k + 2 ^ k := by rw [Nat.pow_succ]; omega
    unfold hal
    split
    · simp; omega
    · split
      · simp
      · rw [List.length_append]; omega
theorem app_strs {B : Nat} {v : Value} {m : Nat} {L : List (List UInt8)} {w : World} (t : List UInt8) {ops : Array Oper} {rest : List Oper} {op : Oper} {a : Act} {Q : Exit → Act → World → Prop} {s x : Operand}
    (hown : w.ownsRow B 9 1 v m (sC L)) (hgd : op.guard = none) (ho : op.op = .call { callee := .builtin .append, args := #[s, x], argTypes := #[53, 53] })
    (hs : a.eval s = v) (hx : a.eval x = .slice (some ⟨w.heap.size, 0, none⟩) 1 1) (hn : (m + 1) * 16 ≤ 140737488355328) (hB : B ≤ w.heap.size)
    (h : ∀ v' w', w'.ownsRow B 9 1 v' (m + 1) (sC (L ++ [t])) → Below B w w' → (w.alloc (.cells #[.string (str t)] 9)).grownBy w' v.ownBlock → (v'.ownBlock = v.ownBlock ∨ v'.ownBlock = some (w.heap.size + 1)) → wpList Tryd.prog ops Q rest (a.put op.dst v') w') : wpList Tryd.prog ops Q (op :: rest) a (w.alloc (.cells #[.string (str t)] 9)) := by
  obtain ⟨i0, hi, hz0, hz1, hz2⟩ := info_parts info_str
  refine wpList_append_own_at _ hgd s x 53 ho B 9 i0 _ 1 16 Tryd.underlying53 hi hz0 hz1 hz2 rfl (by decide) v m _ hs (hown.alloc _) ⟨w.heap.size, 0, none⟩ 1 1 [.string (str t)] hx rfl (cells_new _ #[.string (str t)] _)
    (by simp [Value.oneCell']) (by simp only [maxLen]; omega) (by omega) (by simp; omega) ?_
  intro v' w1 hown' hg _ hat
  have h1 : Below B w (w.alloc (.cells #[.string (str t)] 9)) := (Below.refl _ _).alloc hB _
  exact h v' w1 (by unfold sC at hown' ⊢; rw [List.map_append]; exact hown') (h1.grown hg (by simp; omega) (fun k hk => (hown.lt k hk).1)) hg (by simpa using hat)
/-- one call, its own calls given -/
def HalAt (b lo e : Nat) (hi : Int) (n k x : Nat) : Prop := ∀ w : World,
    Calls Tryd.prog 104 #[.int .i64 (b : Int), .int .i64 (x : Int), .int .i64 (n : Int), .int .i64 (lo : Int), .int .i64 hi] w fun r w' => ∃ u, r = .returned u ∧ w'.ownsRow w.heap.size 9 1 u (hal k x lo e).length (sC ((hal k x lo e).map (preT b))) ∧ Below w.heap.size w w'
set_option maxRecDepth 100000 in
set_option maxHeartbeats 4000000 in
theorem halves_one (b lo e : Nat) (hi : Int) (hb : b ≤ 32) (hlo : lo ≤ 4294967296) (he : e ≤ 4294967296) (hhi : hi + 1 = (e : Int)) (k n x : Nat) (hk : n + k = b) (hx : x + 2 ^ k ≤ 4294967296) (hc : (lo ≤ x ∧ x + 2 ^ k ≤ e) ∨ (e ≤ x ∨ x + 2 ^ k ≤ lo)) : HalAt b lo e hi n k x := by
  intro w
  have hhi0 : -1 ≤ hi := by omega
  have hhi1 : hi < 4294967296 := by omega
  have hbn : (b : Int) - (n : Int) = (k : Int) := by omega
  have hpk := topN_pos k
  have htl : topN k + 1 = 2 ^ k := by unfold topN; omega
  have HT := Lib.hid (fun w => rtop_any k (by omega) w)
  by_cases h1 : lo ≤ x ∧ x + 2 ^ k ≤ e
  · have HL := Lib.hid (hal_one h1)
    obtain ⟨h1, h2⟩ := h1
    have h3 : (x : Int) + (topN k : Int) ≤ hi := by omega
    have hsh : (x : Int) / 2 ^ k = ((x / 2 ^ k : Nat) : Int) := by rw [pow_int]; simp
    have hsb : x / 2 ^ k ≤ x := Nat.div_le_self _ _
    have hdg := fun w => digits_any (x / 2 ^ k) n (by omega) (by omega) w
    have hsf := hiB_shift x b n (by omega)
    rw [show b - n = k by omega] at hsf
    rw [hsf] at hdg
    have HDG := Lib.hid hdg
    have HXS := Lib.hid (fun w => xs_any k (by omega) w)
    have HST := Lib.hid (show str (preT b (x, k)) = str (hiB x b n) ++ str (List.replicate k 120) from by rw [str_app]; unfold preT; simp only; rw [show b - k = n by omega])
    have hl1 : (str (hiB x b n)).size = n := by rw [str_size, hiB_len]
    have hl2 : (str (List.replicate k (120 : UInt8))).size = k := by rw [str_size, List.length_replicate]
    have hx32 : x < 4294967296 := by omega
    have ht32 : topN k ≤ 4294967296 := by omega
    clear hdg hsf hc hx hpk htl h2 hhi
    generalize topN k = T at *
    generalize x / 2 ^ k = M at *
    generalize str (hiB x b n) = s1 at *
    generalize str (List.replicate k (120 : UInt8)) = s2 at *
    go_enter Tryd.func104, Tryd.ntmps104
    go_wp2_with (first | (go_at_call 85; refine (HT.out _).mono ?_; rintro r w' ⟨rfl, rfl⟩) | (go_at_call 105; refine (HDG.out _).mono ?_; rintro r w1 ⟨rfl, hb1⟩) | (go_at_call 56; refine (HXS.out _).mono ?_; rintro r w2 ⟨rfl, hb2⟩))
    go_ret
    refine ⟨_, rfl, ?_, bal (bnx hb1 hb2) _⟩
    have := own_one w2 9 #[.string (s1 ++ s2)] (B := w.heap.size) (by have := hb1.size; have := hb2.size; omega)
    rw [HL.out]
    simp only [List.map_cons, List.map_nil, List.length_cons, List.length_nil, sC]
    rw [HST.out]
    exact this
  · have h2 : e ≤ x ∨ x + 2 ^ k ≤ lo := by rcases hc with h | h; exact absurd h h1; exact h
    have HL := Lib.hid (hal_none h1 h2)
    have hx32 : x < 4294967296 := by omega
    have ht32 : topN k ≤ 4294967296 := by omega
    have hsp : ((lo : Int) ≤ (x : Int) ∧ hi < (x : Int) + (topN k : Int)) ∨ (x : Int) < (lo : Int) := by
      by_cases h : lo ≤ x
      · left; exact ⟨by omega, by have : ¬ x + 2 ^ k ≤ e := fun hh => h1 ⟨h, hh⟩; omega⟩
      · right; omega
    have hsq : hi < (x : Int) ∨ ((x : Int) ≤ hi ∧ (x : Int) + (topN k : Int) < (lo : Int)) := by
      by_cases h : e ≤ x
      · left; omega
      · right; omega
    clear hc hx hpk htl h1 h2 hhi
    generalize topN k = T at *
    rcases hsp with ⟨a1, a2⟩ | a1 <;> rcases hsq with a3 | ⟨a3, a4⟩
    all_goals first | (exfalso; omega) | skip
    all_goals
      go_enter Tryd.func104, Tryd.ntmps104
      go_wp2_with (go_at_call 85; refine (HT.out _).mono ?_; rintro r w' ⟨rfl, rfl⟩)
      go_ret
      exact ⟨_, rfl, by rw [HL.out]; exact World.ownsRow_nil _ _ _ _, Below.refl _ _⟩
theorem sC_at (T : List (List UInt8)) (j : Nat) (t : List UInt8) (h : T[j]? = some t) : (sC T)[j]? = some (.string (str t)) := by
  unfold sC; rw [List.getElem?_map, h]; rfl
set_option maxRecDepth 100000 in
set_option maxHeartbeats 4000000 in
theorem halves_two (b lo e : Nat) (hi : Int) (hb : b ≤ 32) (hlo : lo ≤ 4294967296) (he : e ≤ 4294967296) (hhi : hi + 1 = (e : Int)) (j n x : Nat) (hk : n + (j + 1) = b) (hx : x + 2 ^ (j + 1) ≤ 4294967296)
    (h1 : ¬ (lo ≤ x ∧ x + 2 ^ (j + 1) ≤ e)) (h2 : ¬ (e ≤ x ∨ x + 2 ^ (j + 1) ≤ lo)) (HA : HalAt b lo e hi (n + 1) j x) (HB : HalAt b lo e hi (n + 1) j (x + 2 ^ j)) : HalAt b lo e hi n (j + 1) x := by
  intro w
  have hhi0 : -1 ≤ hi := by omega
  have hhi1 : hi < 4294967296 := by omega
  have hbn : (b : Int) - (n : Int) = ((j + 1 : Nat) : Int) := by omega
  have hbn1 : ((j + 1 : Nat) : Int) - 1 = (j : Int) := by omega
  have hpk := topN_pos (j + 1)
  have htl : topN (j + 1) + 1 = 2 ^ (j + 1) := by unfold topN; omega
  have hT := fun w => rtop_any (j + 1) (by omega) w
  have HT := Lib.hid hT
  obtain ⟨j', hj', hL⟩ := hal_two h1 h2
  have hjj : j' = j := by omega
  subst hjj
  have HL := Lib.hid hL
  have hA := HA
  have hB := HB
  unfold HalAt at hA hB
  have hpj := topN_pos j'
  have hp2 : 2 ^ (j' + 1) = 2 ^ j' + 2 ^ j' := by rw [Nat.pow_succ]; omega
  obtain ⟨p0, p1⟩ := pow_bd j' (by omega)
  have hla := hal_len lo e j' x
  have hlb := hal_len lo e j' (x + 2 ^ j')
  have hsp : ((lo : Int) ≤ (x : Int) ∧ hi < (x : Int) + (topN (j' + 1) : Int)) ∨ (x : Int) < (lo : Int) := by
    by_cases h : lo ≤ x
    · left; exact ⟨by omega, by have : ¬ x + 2 ^ (j' + 1) ≤ e := fun hh => h1 ⟨h, hh⟩; omega⟩
    · right; omega
  have hsq : (x : Int) ≤ hi ∧ (lo : Int) ≤ (x : Int) + (topN (j' + 1) : Int) := by omega
  obtain ⟨b1, b2⟩ := hsq
  have hxj : x + 2 ^ j' ≤ 4294967296 := by omega
  have ht32 : topN (j' + 1) ≤ 8589934592 := by omega
  have hpa : 2 ^ j' ≤ 4294967296 := by omega
  have hcp : ((x + 2 ^ j' : Nat) : Int) = (x : Int) + (2 : Int) ^ j' := by rw [pow_int]; omega
  rw [hcp] at hB
  simp only [Int.natCast_add, Int.cast_ofNat_Int] at hA hB hbn
  have HA1 := Lib.hid hA
  have HB1 := Lib.hid hB
  generalize hal j' x lo e = A at *
  generalize hal j' (x + 2 ^ j') lo e = B at *
  clear hA hB HA HB hL h1 h2 hx hpk htl hT hp2 hhi hj' hbn1 hcp
  generalize topN (j' + 1) = T at *
  rcases hsp with ⟨a1, a2⟩ | a1
  all_goals
    go_enter Tryd.func104, Tryd.ntmps104
    go_upto_region 6 with (go_at_call 85; refine (HT.out _).mono ?_; rintro r w' ⟨rfl, rfl⟩)
    go_wp2_with fail
    refine (HA1.out _).mono ?_
    rintro r w1 ⟨ul, rfl, hol, hb1⟩
    have HOL := Lib.hid hol
    clear hol
    go_wp2_with fail
    refine (HB1.out _).mono ?_
    rintro r w2 ⟨ur, rfl, hor, hb2⟩
    have HOL2 := Lib.hid (own_below HOL.out hb2 (Nat.le_refl _))
    have HOR2 := Lib.hid hor
    have hsep : ∀ g, ur.ownBlock = some g → ul.ownBlock ≠ some g := fun g hg hl => by
      have h1 := (HOL.out.lt g hl).2
      have h2 := (HOR2.out.lt g hg).1
      omega
    have HSEP := Lib.hid hsep
    have hrl : ∀ g, ur.ownBlock = some g → g < w2.heap.size := fun g hg => (HOR2.out.lt g hg).2
    have HRL := Lib.hid hrl
    obtain ⟨ar, cr, rfl⟩ := own_len hor
    have g2 := bnx hb1 hb2
    clear hor hsep hrl HOL HA1 HB1
    go_wp2_with fail
    go_loopw [12, 14] (fun u i wr => ∃ k : Nat, k ≤ B.length ∧ i = .int .i64 (k : Int) ∧ Below w.heap.size w wr ∧ w2.heap.size ≤ wr.heap.size ∧ wr.ownsRow w.heap.size 9 1 u (A.length + k) (sC ((A ++ B.take k).map (preT b))) ∧ wr.ownsRow w1.heap.size 9 1 (.slice ar B.length cr) B.length (sC (B.map (preT b))) ∧ (∀ g, (Value.slice ar B.length cr).ownBlock = some g → u.ownBlock ≠ some g)) (fun _ i _ => B.length - (intOf i).toNat)
    case atStart => exact ⟨0, Nat.zero_le _, rfl, g2, Nat.le_refl _, by simpa using HOL2.out, HOR2.out, HSEP.out⟩
    case round =>
      clear g2
      obtain ⟨k, hk, rfl, hbel, hsz, hol, hor, hsep⟩ := hrel
      have HOLk := Lib.hid hol
      have HORk := Lib.hid hor
      have HSEPk := Lib.hid hsep
      clear hol hor hsep
      by_cases hlt : k < B.length
      · obtain ⟨gr, cap, hv, hcc, _, hglt, hcell⟩ := own_at HORk.out (by omega)
        simp only [Value.slice.injEq] at hv
        obtain ⟨rfl, _, rfl⟩ := hv
        have q := hcell k _ (sC_at (B.map (preT b)) k (preT b B[k]) (by simp [hlt]))
        have HTK := Lib.hid (show A ++ B.take (k + 1) = (A ++ B.take k) ++ [B[k]] from by rw [List.take_succ_eq_append_getElem hlt, List.append_assoc])
        generalize B[k] = t at *
        clear hcell
        go_wp2_with (at_builtin; refine app_strs (preT b t) HOLk.out rfl rfl rfl rfl (by omega) hbel.size ?_; intro v1 w3 hown3 hb3 hg3 hat3)
        have hor3 := (HORk.out.alloc (.cells #[.string (str (preT b t))] 9)).kept hg3 (.inr (fun h => HSEPk.out gr rfl (h.symm.trans rfl)))
        go_roundw
        case rel => exact ⟨k + 1, by omega, by go_num, hbel.trans hb3, by have := hb3.size; omega, by rw [HTK.out, List.map_append, ← Nat.add_assoc]; exact hown3, hor3, fun g hg h => by
          rcases hat3 with h3 | h3
          · exact HSEPk.out g hg (h3 ▸ h)
          · rw [h3] at h
            have := HRL.out g hg
            simp only [Option.some.injEq] at h
            omega⟩
        case measure => simp [intOf]; omega
      · have hkB : k = B.length := by omega
        have HF := Lib.hid (show wr.ownsRow w.heap.size 9 1 u12 (hal (j' + 1) x lo e).length (sC ((hal (j' + 1) x lo e).map (preT b))) from by
          have := HOLk.out
          rw [hkB, List.take_length] at this
          rw [HL.out, List.length_append]
          exact this)
        have hnl : B.length ≤ k := by omega
        clear hkB hlt
        go_wp2
        go_ret
        exact ⟨_, rfl, HF.out, hbel⟩
end Go.Proofs.YtaleaicfllcpiaaDoor.Fl
