/- RunRenders: the document's join. -/
import Derived.Test.YtmcijdpbjhcimaaDoorRq
namespace Go.Proofs.YtmcijdpbjhcimaaDoor.Rn
open Go.RowKit Go.Shelf Mm
theorem join_snoc (sep : List UInt8) (xs : List (List UInt8)) (y : List UInt8) : Lib.join (xs ++ [y]) sep = if xs = [] then y else Lib.join xs sep ++ sep ++ y := by
  cases xs with
  | nil => rw [if_pos rfl, List.nil_append, Lib.join_one]
  | cons a r =>
    rw [if_neg (by simp), List.cons_append, Lib.join_cons, Lib.join_cons]
    unfold Lib.joinTail
    rw [List.map_append, List.flatten_append]
    simp
theorem joinT_zero (sep : List UInt8) {l : List ByteArray} (h : 0 < l.length) : joinT sep (l.take 1) = bs l[0] := by
  cases l with
  | nil => simp at h
  | cons x l => simp [joinT, Lib.join_one]
theorem joinT_succ (sep : List UInt8) {l : List ByteArray} {k : Nat} (h : k < l.length) (h0 : 0 < k) : joinT sep (l.take (k + 1)) = joinT sep (l.take k) ++ sep ++ bs l[k] := by
  unfold joinT
  rw [List.take_succ_eq_append_getElem h, List.map_append, List.map_singleton, join_snoc, if_neg]
  intro e
  have h1 := congrArg List.length e
  rw [List.length_map, List.length_take, List.length_nil] at h1
  omega
theorem str_add (a : List UInt8) (s : ByteArray) : str a ++ s = str (a ++ bs s) := by
  refine str_eq ?_
  rw [bs_app, bs_str]
set_option maxRecDepth 100000 in
set_option maxHeartbeats 4000000 in
theorem rjoin_any (sep : ByteArray) (l : List ByteArray) (v : Value) (w : World) (hv : Sees w v (ss l)) (hs : sep.size ≤ 2) (hl : wL l ≤ 17592186044416) :
    Calls Tryd.prog 19 #[v, .string sep] w fun e w' => e = .returned (.string (str (joinT (bs sep) l))) ∧ w = w' := by
  obtain ⟨a, cap, rfl, hc, hm⟩ := sees_form hv
  unfold maxLen at hm
  have HV := Lib.hid hv
  have hss : (bs sep).length ≤ 2 := by rw [bs_len]; exact hs
  clear hv
  go_enter Tryd.func19, Tryd.ntmps19
  go_wp2_with fail
  go_loop [5, 6] (fun s i => ∃ k : Nat, k ≤ l.length ∧ i = .int .i64 (k : Int) ∧ s = .string (str (joinT (bs sep) (l.take k)))) (fun _ i => l.length - (intOf i).toNat)
  case atStart => exact ⟨0, Nat.zero_le _, rfl, rfl⟩
  case round =>
    obtain ⟨k, hk, rfl, rfl⟩ := hrel
    by_cases hlt : k < l.length
    · obtain ⟨g, off, rfl, hg, hq⟩ := sees_cells HV.out (by omega)
      have q0 := hq k hlt
      have h1 := wL_take_le l (k + 1)
      have hT : wL (l.take (k + 1)) = wL (l.take k) + (l[k].size + 20) := by rw [List.take_succ_eq_append_getElem hlt, wL_app, wL_cons, wL_nil]
      have hj := join_w (bs sep) hss (l.take k)
      rw [← str_size] at hj
      have hz : l[k].size + (str (joinT (bs sep) (l.take k))).size + 20 ≤ 17592186044416 := by omega
      by_cases h0 : k = 0
      · have HT := Lib.hid (show str (joinT (bs sep) (l.take (k + 1))) = (⟨#[]⟩ : ByteArray) ++ l[k] from by
          subst h0
          rw [joinT_zero _ hlt]
          exact (str_eq (by rw [bs_app]; rfl)).symm)
        have HT0 := Lib.hid (show str (joinT (bs sep) (l.take k)) = ⟨#[]⟩ from by subst h0; rfl)
        generalize l[k] = s at *
        have hk0 : ¬ 0 < k := by omega
        generalize hX : str (joinT (bs sep) (l.take k)) = X at *
        have HX := Lib.hid hX
        have H0 := Lib.hid h0
        clear h0 hT hj hq hX
        go_wp2_with fail
        go_round
        case rel => exact ⟨k + 1, by omega, by go_num, by rw [HT.out, ← HT0.out]⟩
        case measure => simp [intOf]; omega
      · have hk0 : 0 < k := by omega
        have HT := Lib.hid (show str (joinT (bs sep) (l.take (k + 1))) = str (joinT (bs sep) (l.take k)) ++ sep ++ l[k] from by
          rw [joinT_succ _ hlt hk0, str_add, str_add])
        generalize l[k] = s at *
        generalize str (joinT (bs sep) (l.take k)) = X at *
        clear h0 hT hj hq
        go_wp2_with fail
        go_round
        case rel => exact ⟨k + 1, by omega, by go_num, by rw [HT.out]⟩
        case measure => simp [intOf]; omega
    · obtain rfl : k = l.length := by omega
      go_wp2_with fail
      go_ret
      exact ⟨by simp, rfl⟩
end Go.Proofs.YtmcijdpbjhcimaaDoor.Rn
