import Derived.Test.YtdiijannpfogdaaTo
import Derived.Deep.QuietTactic
import Derived.BigQuiet
namespace Go.Proofs.Ytdiijannpfogdaa.Tn
open Go.RowKit
attribute [local go_sem] cv cs wv
def allT (b : Int) : List UInt8 := if 1 ≤ b ∧ b ≤ 256 then List.replicate b.toNat 120 else []
theorem all_cub (b : Nat) (h1 : 1 ≤ b) (h2 : b ≤ 256) : Cub (allT b) b no no := by
  have e : allT b = txt b no no := by
    unfold allT
    rw [if_pos (by omega)]
    apply List.ext_getElem?
    intro i
    by_cases hi : i < b
    · rw [txt, up_get _ _ _ hi]; simp [hi, dig, no]
    · rw [List.getElem?_eq_none (by simp; omega), List.getElem?_eq_none (by simp [txt]; omega)]
  rw [e]
  exact Nrm.cub ⟨h2, fun _ _ => rfl, fun i h => by cases h⟩
theorem all_any (b : Int) (w : World) :
    Calls Try.prog 29 #[.int .i64 b] w fun e w' => ∃ n c o, Cub (allT b) n c o ∧ e = .returned (cv n c o) ∧ Below w.heap.size w w' := by
  by_cases h : 1 ≤ b ∧ b ≤ 256
  · obtain ⟨h1, h2⟩ := h
    obtain ⟨n, rfl⟩ := Int.eq_ofNat_of_zero_le (show 0 ≤ b by omega)
    refine Calls.mono (R := fun e w' => e = .returned (cv n no no) ∧ Below w.heap.size w w') ?_ fun e w' ⟨he, hb⟩ => ⟨n, no, no, all_cub n (by omega) (by omega), he, hb⟩
    unfold cv
    rw [cs_no]
    go_enter Try.func29, Try.ntmps29
    go_wp2
    refine bodyPost_ret (v := .agg #[.int .i64 n, .int .u64 0, .int .u64 0, .int .u64 0, .int .u64 0, .int .u64 0, .int .u64 0, .int .u64 0, .int .u64 0]) (by simp [results, Try.results29, go_sem]) rfl ⟨rfl, ?_⟩
    go_grown
  · have e1 : allT b = [] := by unfold allT; rw [if_neg h]
    rw [e1]
    refine Calls.mono (R := fun e w' => e = .returned (cv 0 no no) ∧ Below w.heap.size w w') ?_ fun e w' ⟨he, hb⟩ => ⟨0, no, no, nilCub, he, hb⟩
    rw [cv_zero]
    by_cases h1 : 1 ≤ b
    · have h2 : 256 < b := by omega
      clear h e1
      go_enter Try.func29, Try.ntmps29
      go_wp2
      refine bodyPost_ret (v := .agg #[.int .i64 0, .int .u64 0, .int .u64 0, .int .u64 0, .int .u64 0, .int .u64 0, .int .u64 0, .int .u64 0, .int .u64 0]) (by simp [results, Try.results29, go_sem]) rfl ⟨rfl, ?_⟩
      go_grown
    · clear h e1
      have h2 : b < 1 := by omega
      go_enter Try.func29, Try.ntmps29
      go_wp2
      refine bodyPost_ret (v := .agg #[.int .i64 0, .int .u64 0, .int .u64 0, .int .u64 0, .int .u64 0, .int .u64 0, .int .u64 0, .int .u64 0, .int .u64 0]) (by simp [results, Try.results29, go_sem]) rfl ⟨rfl, ?_⟩
      go_grown
def good (t h : List UInt8) (j : Nat) : Prop := (byt h j = 48 ∨ byt h j = 49) ∧ (byt t j = 120 ∨ byt t j = byt h j)
instance (t h : List UInt8) (j : Nat) : Decidable (good t h j) := by unfold good; infer_instance
def hasOk (t h : List UInt8) : Prop := (t ≠ [] ∧ t.length = h.length) ∧ ∀ j, j < t.length → good t h j
instance (t h : List UInt8) : Decidable (hasOk t h) := by unfold hasOk; infer_instance
theorem dig_cases (c o : Bool) (x : UInt8) (hx : x = 48 ∨ x = 49) (hs : o = true → c = true) : (dig c o = 120 ∨ dig c o = x) ↔ (c && (o != (x == 49))) = false := by
  cases c <;> cases o <;> rcases hx with rfl | rfl <;> simp_all [dig]
set_option maxHeartbeats 2000000 in
theorem has_loop {t : List UInt8} {n : Nat} {c o : Nat → Bool} (hC : Cub t n c o) (s : ByteArray) (h0 : 0 < n) (hl : s.size = n) (w : World) :
    Calls Try.prog 34 #[cv n c o, .string s] w fun e w' => e = .returned (.bool (decide (hasOk t s.data.toList))) ∧ Below w.heap.size w w' := by
  have hn : n ≤ 256 := hC.nrm.le
  subst hl
  have HC := Lib.hid hC
  clear hC
  have hz : ((s.size : Int) == 0) = false := beq_eq_false_iff_ne.2 (by omega)
  unfold cv cs wv
  go_enter Try.func34, Try.ntmps34
  go_wp2
  go_loopw [18] (fun i wr => ∃ k : Nat, k ≤ s.size ∧ i = .int .i64 k ∧ (∀ j, j < k → good t s.data.toList j) ∧ Blk wr w.heap.size 30 (cs s.size c o) ∧ Below w.heap.size w wr) (fun i _ => s.size - (intOf i).toNat)
  case atStart => exact ⟨0, Nat.zero_le _, rfl, fun j hj => by omega, Blk.new w 30 (cs s.size c o), by go_grown⟩
  case round =>
    obtain ⟨k, hk, rfl, hall, hb0, hbel⟩ := hrel
    have HL := Lib.hid hall
    clear hall
    by_cases hlt : k < s.size
    · have hlt' : k < 256 := by omega
      have hby : byt s.data.toList k = s[k] := byt_str s k hlt
      have hat := HC.out.at_ k hlt
      have hsub := HC.out.nrm.sub k
      by_cases hx : s[k] = 48 ∨ s[k] = 49
      · have hg : good t s.data.toList k ↔ (c k && (o k != (s[k] == 49))) = false := by
          unfold good
          rw [hby, hat, dig_cases _ _ _ hx hsub]
          exact ⟨fun h => h.2, fun h => ⟨hx, h⟩⟩
        have HG := Lib.hid hg
        have t3 : ((s[k].toNat : Int) == 49) = (s[k] == 49) := by
          rcases hx with hx | hx <;> rw [hx] <;> rfl
        have t4 : ((s[k].toNat : Int) != 48 && (s[k].toNat : Int) != 49) = false := by
          rcases hx with hx | hx <;> rw [hx] <;> rfl
        have tt : ((s[k].toNat : Int) != 48) = false ∨ (((s[k].toNat : Int) != 48) = true ∧ ((s[k].toNat : Int) != 49) = false) := by
          rcases hx with hx | hx <;> rw [hx] <;> simp
        clear hby hat hsub hx hg t4
        generalize hq : (s[k] == 49) = q at t3
        have HQ := Lib.hid hq
        clear hq
        by_cases hck : c k = true
        · by_cases hqo : (o k != q) = true
          · have hqe : (o k == q) = false := by simpa [bne] using hqo
            rcases tt with t1 | ⟨t1, t2⟩
            all_goals
              go_wp2
              go_quiet (first | (go_at_call 68; with_reducible exact quiet_left (at_care w.heap.size k _ c o _ _ hlt' (hb0.drewN _))) | (go_at_call 68; with_reducible exact quiet_left (at_ones w.heap.size k _ c o _ _ hlt' (hb0.drewN _))))
              go_wp2
              go_ret
              refine ⟨?_, below_drewN hbel _⟩
              rw [decide_eq_false]
              · rfl
              · intro H
                have h2 := HG.out.1 (H.2 k (by have := HC.out.hn; omega))
                rw [HQ.out, hck, hqo] at h2
                cases h2
          · have hqo' : (o k != q) = false := by simpa using hqo
            have hqe : (o k == q) = true := by simpa [bne] using hqo
            clear hqo
            rcases tt with t1 | ⟨t1, t2⟩
            all_goals
              go_wp2
              go_quiet (first | (go_at_call 68; with_reducible exact quiet_left (at_care w.heap.size k _ c o _ _ hlt' (hb0.drewN _))) | (go_at_call 68; with_reducible exact quiet_left (at_ones w.heap.size k _ c o _ _ hlt' (hb0.drewN _))))
              go_wp2
              go_roundw
              case rel =>
                refine ⟨k + 1, by omega, by go_num, fun j hj => ?_, hb0.drewN _, below_drewN hbel _⟩
                rcases Nat.lt_or_ge j k with hjk | hjk
                · exact HL.out j hjk
                · obtain rfl : j = k := by omega
                  exact HG.out.2 (by rw [HQ.out, hqo']; simp)
              case measure => simp [intOf]; omega
        · have hck' : c k = false := by simpa using hck
          have hA : ∀ m, Calls Try.prog 68 #[.pointer (some ⟨w.heap.size, 1, none⟩), .int .i64 (k : Int)] (wr.drewN m) fun e w'' => e = .returned (.bool false) ∧ wr.drewN m = w'' := fun m => by
            have := at_care w.heap.size k _ c o _ _ hlt' (hb0.drewN m)
            rw [hck'] at this
            exact this
          have HA := Lib.hid hA
          have HK := Lib.hid hck'
          clear hck hA hck'
          rcases tt with t1 | ⟨t1, t2⟩
          all_goals
            go_wp2
            go_quiet ((go_at_call 68; with_reducible exact quiet_left (HA.out _)))
            go_wp2
            go_roundw
            case rel =>
              refine ⟨k + 1, by omega, by go_num, fun j hj => ?_, hb0.drewN _, below_drewN hbel _⟩
              rcases Nat.lt_or_ge j k with hjk | hjk
              · exact HL.out j hjk
              · obtain rfl : j = k := by omega
                exact HG.out.2 (by rw [HK.out]; rfl)
            case measure => simp [intOf]; omega
      · have hg : ¬ good t s.data.toList k := fun H => hx (by have := H.1; rw [hby] at this; exact this)
        have HG := Lib.hid hg
        have t1 := ne_yes48 (b := s[k]) (fun e => hx (.inl e))
        have t2 := ne_yes49 (b := s[k]) (fun e => hx (.inr e))
        clear hby hat hsub hx hg
        go_wp2
        go_ret
        refine ⟨?_, hbel⟩
        rw [decide_eq_false]
        · rfl
        · exact fun H => HG.out (H.2 k (by have h5 := HC.out.hn; omega))
    · go_wp2
      go_ret
      refine ⟨?_, hbel⟩
      rw [decide_eq_true]
      · rfl
      · have hn2 := HC.out.hn
        refine ⟨⟨?_, by rw [len_s]; omega⟩, fun j hj => HL.out j (by omega)⟩
        rintro rfl
        rw [List.length_nil] at hn2; omega
theorem has_any {t : List UInt8} {n : Nat} {c o : Nat → Bool} (hC : Cub t n c o) (s : ByteArray) (w : World) :
    Calls Try.prog 34 #[cv n c o, .string s] w fun e w' => e = .returned (.bool (decide (hasOk t s.data.toList))) ∧ Below w.heap.size w w' := by
  by_cases h : 0 < n ∧ s.size = n
  · exact has_loop hC s h.1 h.2 w
  · have hd : decide (hasOk t s.data.toList) = false := decide_eq_false fun H => h (by
      have h1 := hC.hn
      have h2 := H.1.2
      rw [len_s] at h2
      refine ⟨?_, by omega⟩
      cases t with
      | nil => exact absurd rfl H.1.1
      | cons b l => simp at h1; omega)
    rw [hd]
    clear hd hC
    unfold cv cs wv
    by_cases h0 : n = 0
    · subst h0
      clear h
      go_enter Try.func34, Try.ntmps34
      go_wp2
      go_ret
      exact ⟨rfl, by go_grown⟩
    · have h1 : ((s.size : Int) != (n : Int)) = true := by simp; omega
      have h2 : ((n : Int) == 0) = false := beq_eq_false_iff_ne.2 (by omega)
      clear h h0
      go_enter Try.func34, Try.ntmps34
      go_wp2
      go_ret
      exact ⟨rfl, by go_grown⟩
end Go.Proofs.Ytdiijannpfogdaa.Tn
