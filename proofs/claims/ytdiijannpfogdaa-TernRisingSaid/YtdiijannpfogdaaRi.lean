/- TernRising. -/
import Derived.Test.YtdiijannpfogdaaRp
import Derived.Test.YtdiijannpfogdaaMt
import Derived.Test.YtdiijannpfogdaaIm
import Derived.Test.YtdiijannpfogdaaLo
import Derived.Deep.RegionHeld3
namespace Go.Proofs.Ytdiijannpfogdaa.Tn
open Go.RowKit
open Go.Op (bytesLess)
attribute [local go_sem] cv cs wv
theorem xx_eq : ((str (allT 2)).toList == [120, 120]) = true := by rw [ByteArray.toList_eq]; rfl
set_option maxRecDepth 100000 in
set_option maxHeartbeats 4000000 in
theorem rising_not (s h : ByteArray) (hs : s.size ≤ maxLen) (hh : h.size ≤ maxLen) (x : Int) (w : World) (hno : ¬ (isCube s.data.toList ∧ isHead h.data.toList s.size)) :
    Calls Try.prog 18 #[.string s, .string h, .int .i64 x] w fun e w' => e = .returned (.bool true) ∧ Below w.heap.size w w' := by
  obtain ⟨n, c, o, hC⟩ : ∃ n c o, Cub (cubeT s.data.toList) n c o := ⟨_, _, _, Cub.of _⟩
  have HC := Lib.hid hC
  have hxx := xx_eq
  clear hC
  go_enter Try.func18, Try.ntmps18
  go_wp2_with fail
  refine (parse_s s hs HC.out _).mono ?_
  rintro e w1 ⟨rfl, hb1⟩
  have g1 := bal hb1 (.cells (cs n c o) 30)
  by_cases q1 : isCube s.data.toList
  · have q2 : ¬ isHead h.data.toList s.size := fun q => hno ⟨q1, q⟩
    have K1 := Lib.hid (lcube_yes s q1 hs)
    have K2 := Lib.hid (lhead_no h s.size q2 hh)
    clear q1 q2 hno
    go_wp2_with (first | (go_at_call 43; with_reducible refine (K1.out _).mono ?_; rintro e w' ⟨rfl, rfl⟩) | (go_at_call 61; with_reducible refine (K2.out _).mono ?_; rintro e w' ⟨rfl, rfl⟩) | (go_at_call 29; refine (all_any 2 _).mono ?_; rintro e w4 ⟨n4, c4, o4, hC4, rfl, hb4⟩; have H4 := Lib.hid hC4; clear hC4) | (go_at_call 44; refine (text_any _ _ _ _ _ H4.out).mono ?_; rintro e w5 ⟨rfl, hb5⟩))
    go_ret
    exact ⟨rfl, bnx (bnx g1 hb4) hb5⟩
  · have K1 := Lib.hid (lcube_no s q1 hs)
    clear q1 hno
    go_wp2_with (first | (go_at_call 43; with_reducible refine (K1.out _).mono ?_; rintro e w' ⟨rfl, rfl⟩) | (go_at_call 29; refine (all_any 2 _).mono ?_; rintro e w4 ⟨n4, c4, o4, hC4, rfl, hb4⟩; have H4 := Lib.hid hC4; clear hC4) | (go_at_call 44; refine (text_any _ _ _ _ _ H4.out).mono ?_; rintro e w5 ⟨rfl, hb5⟩))
    go_ret
    exact ⟨rfl, bnx (bnx g1 hb4) hb5⟩
theorem cub_self {s : ByteArray} (q : isCube s.data.toList) : cubeT s.data.toList = s.data.toList := by
  have h0 : parseE s.data.toList = 0 := by
    unfold parseE
    rw [if_neg (by have := q.1.2; omega), if_neg (fun e => by have := q.1.1; rw [e] at this; simp at this), if_pos q.2]
  unfold cubeT
  rw [if_pos h0]
theorem hdr_head (n : Nat) (g : Nat → Bool) : isHead (hdr n g) n := ⟨hdr_len n g, by
  unfold hdr up
  rw [List.all_map, List.all_eq_true]
  intro i _
  cases hg : g i <;> simp [bitD, digB, hg]⟩
theorem hdr_holds {t : List UInt8} {n : Nat} {c o g : Nat → Bool} (h : Cub t n c o) (a : Agr c o n g) : holdsT t (hdr n g) := by
  intro i hi
  have hi' : i < n := by rw [h.hn]; exact hi
  rw [h.at_ i hi', hdr_at _ _ _ hi']
  cases hc : c i with
  | false => exact .inl rfl
  | true => right; rw [a i hi' hc]; rfl
theorem head_hdr {l : List UInt8} {n : Nat} (h : isHead l n) : l = hdr n (fun i => byt l i == 49) := by
  refine eq_up h.1 fun i hi => ?_
  have hm : byt l i ∈ l := by
    have hi2 : i < l.length := by rw [h.1]; exact hi
    simp only [byt, List.getD, List.getElem?_eq_getElem hi2, Option.getD_some]
    exact List.getElem_mem hi2
  have := List.all_eq_true.1 h.2 _ hm
  simp only [digB, Bool.or_eq_true, beq_iff_eq] at this
  rcases this with e | e <;> simp [e, bitD]
theorem holds_agr {t l : List UInt8} {n : Nat} {c o : Nat → Bool} (h : Cub t n c o) (hh : holdsT t l) : Agr c o n (fun i => byt l i == 49) := by
  intro i hi hc
  have h1 := hh i (by rw [← h.hn]; exact hi)
  rw [h.at_ i hi] at h1
  rcases h1 with h1 | h1
  · exact absurd h1 (dig_nx hc)
  · simp only
    rw [← h1, dig_c hc]
    cases o i <;> rfl
theorem holds_q (a b : ByteArray) (hs : a.size ≤ 256) (hab : b.size = a.size) (X : Bool) (hX : decide (holdsT a.data.toList b.data.toList) = X) (w : World) (k : Nat) : Calls Try.prog 62 #[.string a, .string b] (w.drewN k) fun e w'' => e = .returned (.bool X) ∧ ∃ m, w'' = w.drewN m :=
  (lholds_any a b hs hab _).mono fun e w' ⟨he, m, hw⟩ => ⟨by rw [he, hX], k + m, by rw [hw]; simp [World.drewN, Nat.add_assoc]⟩
theorem str_bl (a b : List UInt8) : bytesLess (str a).toList (str b).toList = bytesLess a b := by rw [ByteArray.toList_eq, ByteArray.toList_eq]; rfl
theorem sl_bl (h : ByteArray) (b : List UInt8) : bytesLess h.toList (str b).toList = bytesLess h.data.toList b := by rw [ByteArray.toList_eq, ByteArray.toList_eq]; rfl
theorem sl_eql (h : ByteArray) (b : List UInt8) : (h.toList == (str b).toList) = decide (h.data.toList = b) := by
  rw [ByteArray.toList_eq, ByteArray.toList_eq, str_list]
  by_cases e : h.data.toList = b <;> simp [e]
theorem ls_eql (h : ByteArray) (b : List UInt8) : ((str b).toList == h.toList) = decide (b = h.data.toList) := by
  rw [ByteArray.toList_eq, ByteArray.toList_eq, str_list]
  by_cases e : b = h.data.toList <;> simp [e]
theorem run_geq (a b : ByteArray) (h : bytesLess a.toList b.toList = true) (w : World) : (binOp .geq 9 (.string a) (.string b)).run Try.prog w = .ok (.bool false) w := by
  have e : (binOp .geq 9 (.string a) (.string b)).run Try.prog w = .ok (.bool (!bytesLess a.toList b.toList)) w := rfl
  rw [e, h]; rfl
theorem run_gtr (a b : ByteArray) (X : Bool) (h : (bytesLess a.toList b.toList || a.toList == b.toList) = !X) (w : World) : (binOp .gtr 9 (.string a) (.string b)).run Try.prog w = .ok (.bool X) w := by
  have e : (binOp .gtr 9 (.string a) (.string b)).run Try.prog w = .ok (.bool (!(bytesLess a.toList b.toList || a.toList == b.toList))) w := rfl
  rw [e, h, Bool.not_not]
/-- what the list is -/
structure RL (t h : List UInt8) (n K : Nat) (L : List (List UInt8)) : Prop where
  pos : 0 < L.length
  le : L.length ≤ K
  heads : ∀ x ∈ L, isHead x n
  holds : ∀ x ∈ L, holdsT t x
  rise : ∀ i a b, L[i]? = some a → L[i + 1]? = some b → bytesLess a b = true
  last : holdsT t h → h ∉ L → L.length = K ∧ ∀ a, L[L.length - 1]? = some a → bytesLess a h = true
theorem rl_of {t h : List UInt8} {n : Nat} {c o : Nat → Bool} (hC : Cub t n c o) (hn : 0 < n) (hh : isHead h n) (K : Nat) (hK : 0 < K) : RL t h n K ((memAll n c o).take K) := by
  rw [memAll_pos hn]
  have hsub := hC.nrm.sub
  have ho : Agr c o n o := fun _ _ _ => rfl
  have hag := mem_agr (c := c) (o := o) (n := n) _ (Nat.le_refl _) ho
  have hri := mem_rise (c := c) (n := n) _ (h := o) (Nat.le_refl _)
  have hmem : ∀ x ∈ (memT c n o).take K, x ∈ memT c n o := fun x hx => List.mem_of_mem_take hx
  have hrt : ∀ i a b, ((memT c n o).take K)[i]? = some a → ((memT c n o).take K)[i + 1]? = some b → bytesLess a b = true := fun i a b h1 h2 => by
    rw [List.getElem?_take] at h1 h2
    by_cases c1 : i + 1 < K
    · rw [if_pos (by omega)] at h1
      rw [if_pos c1] at h2
      exact hri i a b h1 h2
    · rw [if_neg c1] at h2; cases h2
  refine ⟨?_, by rw [List.length_take]; omega, fun x hx => ?_, fun x hx => ?_, hrt, fun hho hni => ?_⟩
  · obtain ⟨tl, htl⟩ := memT_cons c n o
    rw [htl, List.length_take]
    simp; omega
  · obtain ⟨g, _, rfl⟩ := hag x (hmem x hx); exact hdr_head n g
  · obtain ⟨g, ha, rfl⟩ := hag x (hmem x hx); exact hdr_holds hC ha
  · have ha := holds_agr hC hho
    have hin := mem_all (c := c) (o := o) (n := n) _ (Nat.le_refl _) ho ha (least_le hsub ha)
    rw [← head_hdr hh] at hin
    obtain ⟨j, hj, he⟩ := List.getElem_of_mem hin
    have hjK : K ≤ j := by
      rcases Nat.lt_or_ge j K with h2 | h2
      · exact absurd (by rw [← he]; exact List.mem_take_iff_getElem.2 ⟨j, by omega, rfl⟩) hni
      · exact h2
    have hlen : ((memT c n o).take K).length = K := by rw [List.length_take]; omega
    refine ⟨hlen, fun a h1 => ?_⟩
    rw [hlen, List.getElem?_take_of_lt (by omega)] at h1
    exact rise_lt hri (fun a b d _ _ _ => less_trans a b d) (j - K) (K - 1) a h h1 (by rw [show K - 1 + (j - K) + 1 = j by omega, List.getElem?_eq_getElem hj, he])
set_option maxRecDepth 100000 in
set_option maxHeartbeats 4000000 in
theorem rising_yes (s h : ByteArray) (hs : s.size ≤ maxLen) (hh : h.size ≤ maxLen) (x : Int) (w : World) (q1 : isCube s.data.toList) (q2 : isHead h.data.toList s.size) :
    Calls Try.prog 18 #[.string s, .string h, .int .i64 x] w fun e w' => e = .returned (.bool true) ∧ Below w.heap.size w w' := by
  obtain ⟨n, c, o, hC⟩ : ∃ n c o, Cub (cubeT s.data.toList) n c o := ⟨_, _, _, Cub.of _⟩
  have HC := Lib.hid hC
  rw [cub_self q1] at hC
  have hns : n = s.size := by rw [hC.hn, len_s]
  have hn0 : 0 < n := by have := q1.1.1; rw [hC.hn]; exact this
  have hn := hC.nrm.le
  have hx := clamp_le x 9999 (by decide)
  have HRL := Lib.hid (fun K (hK : 0 < K) => rl_of hC hn0 (by rw [hns]; exact q2) K hK)
  have K1 := Lib.hid (lcube_yes s q1 hs)
  have K2 := Lib.hid (lhead_yes h s.size q2 hh)
  have hsz := len_s s
  have hl256 : s.size ≤ 256 := by omega
  have hhz : h.size = s.size := by rw [← len_s h]; exact q2.1
  have HHZ := Lib.hid hhz
  subst hns
  clear hC q1 q2 hsz hhz
  go_enter Try.func18, Try.ntmps18
  go_wp2_with fail
  refine (parse_s s hs HC.out _).mono ?_
  rintro e w1 ⟨rfl, hb1⟩
  have g1 := bal hb1 (.cells (cs s.size c o) 30)
  have hbc := Blk.new w1 30 (cs s.size c o)
  go_wp2_with (first | (go_at_call 43; with_reducible refine (K1.out _).mono ?_; rintro e w' ⟨rfl, rfl⟩) | (go_at_call 61; with_reducible refine (K2.out _).mono ?_; rintro e w' ⟨rfl, rfl⟩))
  refine still_tail 4 (by kernel_rfl) (by kernel_rfl) fun W hW => ?_
  simp only [List.take_succ_cons, List.take_zero, List.drop_succ_cons, List.drop_zero]
  have hcw : ∀ i, W.cell? ⟨w1.heap.size, i, none⟩ = (cs s.size c o)[i]? := by rw [hW.out]; exact hbc.drew.cell
  have gW : Below w.heap.size w W := by rw [hW.out]; exact g1.drew
  clear g1 hbc hb1
  repeat still_step
  still_call (swp (within_law x 9999 (by decide) _))
  repeat still_step
  refine wpStill_nil ?_
  generalize hkc : clamp x 9999 = k0 at *
  have HKC := Lib.hid (fun w' => by have h := within_law x 9999 (by decide) w'; rw [hkc] at h; exact h)
  clear hkc
  have hsm : ∀ w', Calls Try.prog 57 #[cv s.size c o, .int .i64 ((k0 : Int) + 1)] w' fun e w2 => ∃ v, e = .returned v ∧ w2.ownsRow w'.heap.size 9 1 v ((memAll s.size c o).take (k0 + 1)).length (srow ((memAll s.size c o).take (k0 + 1))) ∧ Below w'.heap.size w' w2 := fun w' => by
    have h := some_any (c := c) (o := o) hn (k0 + 1) (by omega) w'
    push_cast at h
    exact h
  have HSM := Lib.hid hsm
  have hrl := HRL.out (k0 + 1) (by omega)
  obtain ⟨L, hL⟩ : ∃ L, (memAll s.size c o).take (k0 + 1) = L := ⟨_, rfl⟩
  rw [hL] at hrl hsm
  have HSM := Lib.hid hsm
  have HR := Lib.hid hrl
  clear hsm hrl hL HRL hcw
  have hpos := HR.out.pos
  have hle := HR.out.le
  go_wp2_with fail
  refine (HSM.out _).mono ?_
  rintro e w2 ⟨v, rfl, ho, hb2⟩
  have g2 := bnx gW hb2
  obtain ⟨g, cap, rfl, hcap, _, hq⟩ := own_at ho hpos
  have hlt2 : g < w2.heap.size := by obtain ⟨_, _, e, _, hl⟩ := own_form ho hpos; cases e; exact hl
  have HQ := Lib.hid (fun j t (hj : L[j]? = some t) => hq j _ (srow_at L j t hj))
  have HK2 := Lib.hid fun t (ht : t ∈ L) w => lhead_yes (str t) s.size (HR.out.heads t ht) (by have := (HR.out.heads t ht).1; unfold maxLen; rw [str_size]; omega) w
  have HK3 := Lib.hid fun t (ht : t ∈ L) w k => holds_q s (str t) hl256 (by rw [str_size, (HR.out.heads t ht).1]) true (decide_eq_true (HR.out.holds t ht)) w k
  clear hq ho hb2 HSM gW K1 K2
  go_wp2_with fail
  go_loopw [10, 11] (fun m i wr => ∃ (k : Nat) (b : Bool), k ≤ L.length ∧ i = .int .i64 k ∧ m = .bool b ∧ (b = true ↔ h.data.toList ∈ L.take k) ∧ Below w2.heap.size w2 wr) (fun _ i _ => L.length - (intOf i).toNat)
  case atStart => exact ⟨0, false, Nat.zero_le _, rfl, rfl, by simp, Below.refl _ _⟩
  case round =>
    obtain ⟨k, b, hk, rfl, rfl, hb, hbel⟩ := hrel
    have HB := Lib.hid hb
    clear hb
    by_cases hlt : k < L.length
    · obtain ⟨t, ht⟩ : ∃ t, L[k]? = some t := ⟨L[k], List.getElem?_eq_getElem hlt⟩
      have htm := List.mem_of_getElem? ht
      have q0 := HQ.out k t ht
      rw [← hbel.cell (p := ⟨g, k, none⟩) hlt2] at q0
      have htk : L.take (k + 1) = L.take k ++ [t] := by rw [List.take_add_one, ht]; rfl
      have HIN := Lib.hid (show h.data.toList ∈ L.take k ∨ t = h.data.toList → h.data.toList ∈ L.take (k + 1) from fun e => by rw [htk]; rcases e with e | e <;> simp [e])
      have HOUT := Lib.hid (show h.data.toList ∈ L.take (k + 1) → h.data.toList ∈ L.take k ∨ t = h.data.toList from fun e => by rw [htk] at e; rcases List.mem_append.1 e with e | e; exact .inl e; exact .inr (List.mem_singleton.1 e).symm)
      by_cases hk0 : k = 0
      · subst hk0
        clear htk ht
        go_wp2_with fail
        go_quiet ((first | (go_at_call 61; exact quiet_left (HK2.out t htm _)) | (go_at_call 62; exact HK3.out t htm _ _)))
        cases b with
        | true =>
          go_wp2_with fail
          go_roundw
          case rel => exact ⟨0 + 1, true, by omega, by go_num, rfl, ⟨fun _ => HIN.out (.inl (HB.out.1 rfl)), fun _ => rfl⟩, below_drewN hbel _⟩
          case measure => simp [intOf]; omega
        | false =>
          by_cases he : t = h.data.toList
          · have hE : ((str t).toList == h.toList) = true := by rw [ls_eql]; simpa using he
            have HE := Lib.hid he
            clear he
            go_wp2_with fail
            go_roundw
            case rel => exact ⟨0 + 1, true, by omega, by go_num, rfl, ⟨fun _ => HIN.out (.inr HE.out), fun _ => rfl⟩, below_drewN hbel _⟩
            case measure => simp [intOf]; omega
          · have hE : ((str t).toList == h.toList) = false := by rw [ls_eql]; simpa using he
            have HE := Lib.hid he
            clear he
            go_wp2_with fail
            go_roundw
            case rel => exact ⟨0 + 1, false, by omega, by go_num, rfl, ⟨(fun e => by cases e), fun e => (HOUT.out e).elim (fun e => HB.out.2 e) (fun e => absurd e HE.out)⟩, below_drewN hbel _⟩
            case measure => simp [intOf]; omega
      · obtain ⟨j, rfl⟩ : ∃ j, k = j + 1 := ⟨k - 1, by omega⟩
        obtain ⟨t', ht'⟩ : ∃ t, L[j]? = some t := ⟨L[j], List.getElem?_eq_getElem (by omega)⟩
        have q1 := HQ.out j t' ht'
        rw [← hbel.cell (p := ⟨g, j, none⟩) hlt2] at q1
        have hbl := run_geq (str t') (str t) (by rw [str_bl]; exact HR.out.rise j t' t ht' ht)
        have e1 : IntKind.i64.wrap (j : Int) = (j : Int) := IntWalk.i64_in _ (by omega)
        have e2 : (0 : Int) < (j : Int) + 1 := by omega
        have e3 : decide ((0 : Int) < (j : Int) + 1) = true := by simp <;> omega
        clear htk ht ht' hk0
        go_wp2_with fail
        go_quiet ((first | (go_at_call 61; exact quiet_left (HK2.out t htm _)) | (go_at_call 62; exact HK3.out t htm _ _)))
        cases b with
        | true =>
          go_wp2_with fail
          go_roundw
          case rel => exact ⟨j + 1 + 1, true, by omega, by go_num, rfl, ⟨fun _ => HIN.out (.inl (HB.out.1 rfl)), fun _ => rfl⟩, below_drewN hbel _⟩
          case measure => simp [intOf]; omega
        | false =>
          by_cases he : t = h.data.toList
          · have hE : ((str t).toList == h.toList) = true := by rw [ls_eql]; simpa using he
            have HE := Lib.hid he
            clear he
            go_wp2_with fail
            go_roundw
            case rel => exact ⟨j + 1 + 1, true, by omega, by go_num, rfl, ⟨fun _ => HIN.out (.inr HE.out), fun _ => rfl⟩, below_drewN hbel _⟩
            case measure => simp [intOf]; omega
          · have hE : ((str t).toList == h.toList) = false := by rw [ls_eql]; simpa using he
            have HE := Lib.hid he
            clear he
            go_wp2_with fail
            go_roundw
            case rel => exact ⟨j + 1 + 1, false, by omega, by go_num, rfl, ⟨(fun e => by cases e), fun e => (HOUT.out e).elim (fun e => HB.out.2 e) (fun e => absurd e HE.out)⟩, below_drewN hbel _⟩
            case measure => simp [intOf]; omega
    · obtain rfl : k = L.length := by omega
      obtain ⟨a, ha⟩ : ∃ a, L[L.length - 1]? = some a := ⟨L[L.length - 1], List.getElem?_eq_getElem (by omega)⟩
      have q0 := HQ.out (L.length - 1) a ha
      rw [← hbel.cell (p := ⟨g, L.length - 1, none⟩) hlt2] at q0
      have HLE := Lib.hid hle
      have hpm : ((L.length - 1 : Nat) : Int) = (L.length : Int) - 1 := by omega
      generalize hll : L.length = ll at *
      obtain ⟨m, rfl⟩ : ∃ m, ll = m + 1 := ⟨ll - 1, by omega⟩
      simp only [Nat.add_sub_cancel] at q0 ha
      have hm1 : m ≤ 10000 := by have := HLE.out; omega
      have e1 : IntKind.i64.wrap (m : Int) = (m : Int) := IntWalk.i64_in _ (by omega)
      have HLL := Lib.hid hll
      clear hpm hll hle
      by_cases hho : holdsT s.data.toList h.data.toList
      · have HH := Lib.hid (fun w' => lholds_lit s h hl256 HHZ.out true (decide_eq_true hho) w')
        cases b with
        | true =>
          clear hho
          cases hX : (bytesLess h.toList (str a).toList || h.toList == (str a).toList) with
          | true =>
            have hgt := run_gtr h (str a) false (by rw [hX]; rfl)
            clear hX ha
            go_wp2_with (first | (go_at_call 62; with_reducible refine (HH.out _).mono ?_; rintro e w' ⟨rfl, hb'⟩) | (go_at_call 56; with_reducible refine (HKC.out _).mono ?_; rintro e w' ⟨rfl, rfl⟩))
            go_ret
            exact ⟨rfl, g2.trans ((hbel.trans (hb'.mono hbel.size)).mono g2.size)⟩
          | false =>
            have hgt := run_gtr h (str a) true (by rw [hX]; rfl)
            clear hX ha
            by_cases hmk : k0 < m + 1
            · have hd : decide ((k0 : Int) < (m : Int) + 1) = true := by simp; omega
              have hd2 : (k0 : Int) < (m : Int) + 1 := by omega
              go_wp2_with (first | (go_at_call 62; with_reducible refine (HH.out _).mono ?_; rintro e w' ⟨rfl, hb'⟩) | (go_at_call 56; with_reducible refine (HKC.out _).mono ?_; rintro e w' ⟨rfl, rfl⟩))
              go_ret
              exact ⟨rfl, g2.trans ((hbel.trans (hb'.mono hbel.size)).mono g2.size)⟩
            · have hd : decide ((k0 : Int) < (m : Int) + 1) = false := by simp; omega
              have hd2 : ¬ (k0 : Int) < (m : Int) + 1 := by omega
              go_wp2_with (first | (go_at_call 62; with_reducible refine (HH.out _).mono ?_; rintro e w' ⟨rfl, hb'⟩) | (go_at_call 56; with_reducible refine (HKC.out _).mono ?_; rintro e w' ⟨rfl, rfl⟩))
              go_ret
              exact ⟨rfl, g2.trans ((hbel.trans (hb'.mono hbel.size)).mono g2.size)⟩
        | false =>
          have hni : h.data.toList ∉ L := fun e => by
            have h2 := HB.out.2 (by rw [List.take_of_length_le (by rw [HLL.out]; exact Nat.le_refl _)]; exact e)
            cases h2
          obtain ⟨hlast, hmax⟩ := HR.out.last hho hni
          rw [HLL.out] at hlast
          have hal := hmax a (by rw [HLL.out]; exact ha)
          have hgt := run_gtr h (str a) true (by rw [sl_bl, sl_eql, less_asym _ _ hal, decide_eq_false (fun e => by rw [e, less_self] at hal; cases hal)]; rfl)
          have hd : decide ((k0 : Int) < (m : Int) + 1) = true := by simp; omega
          have hd2 : (k0 : Int) < (m : Int) + 1 := by omega
          clear hho hni hmax hal ha hlast
          go_wp2_with (first | (go_at_call 62; with_reducible refine (HH.out _).mono ?_; rintro e w' ⟨rfl, hb'⟩) | (go_at_call 56; with_reducible refine (HKC.out _).mono ?_; rintro e w' ⟨rfl, rfl⟩))
          go_ret
          exact ⟨rfl, g2.trans ((hbel.trans (hb'.mono hbel.size)).mono g2.size)⟩
      · have HH := Lib.hid (fun w' => lholds_lit s h hl256 HHZ.out false (decide_eq_false hho) w')
        clear hho ha
        go_wp2_with (go_at_call 62; with_reducible refine (HH.out _).mono ?_; rintro e w' ⟨rfl, hb'⟩)
        go_ret
        exact ⟨rfl, g2.trans ((hbel.trans (hb'.mono hbel.size)).mono g2.size)⟩
theorem rising_walk (s : ByteArray) (hs : s.size ≤ maxLen) (h : ByteArray) (hh : h.size ≤ maxLen) (x : Int) (_ : (Lit.int .i64 x).wf = true) (w : World) :
    Calls Try.prog 18 #[.string s, .string h, .int .i64 x] w fun e w' => e = .returned (.bool true) ∧ Below w.heap.size w w' := by
  by_cases q : isCube s.data.toList ∧ isHead h.data.toList s.size
  · exact rising_yes s h hs hh x w q.1 q.2
  · exact rising_not s h hs hh x w q
end Go.Proofs.Ytdiijannpfogdaa.Tn
