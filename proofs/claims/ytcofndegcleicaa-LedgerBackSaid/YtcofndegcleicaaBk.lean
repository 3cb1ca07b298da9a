/- LedgerBack. -/
import Derived.Test.YtcofndegcleicaaFx
import Derived.Test.YtcofndegcleicaaEn
namespace Go.Proofs.Ytcofndegcleicaa.Lg
open Go.RowKit Mm
theorem four_n4 (d : List UInt8) (k : Nat) (h : k + 4 ≤ d.length) : four (n4 d k) = (d.drop k).take 4 := by
  unfold n4
  have hl : 4 ≤ (d.drop k).length := by simp; omega
  generalize d.drop k = x at *
  match x, hl with
  | a :: b :: c :: e :: r, _ => exact four_num a b c e
theorem head_back (d : List UInt8) (h16 : 16 ≤ d.length) (h0 : bt d 0 = 82) (h1 : bt d 1 = 76) (h3 : bt d 3 = 0) (hc : n4 d 12 = crc (d.take 12)) :
    head1 (bt d 2).toNat (n4 d 4) (n4 d 8) = d.take 16 := by
  have e0 : head0 (bt d 2).toNat (n4 d 4) (n4 d 8) = d.take 12 := by
    unfold head0
    rw [four_n4 d 4 (by omega), four_n4 d 8 (by omega), show (12 : Nat) = 4 + 4 + 4 from rfl, List.take_add, List.take_add]
    congr 2
    match d, h16 with
    | a :: b :: c :: e :: r, _ =>
      simp only [bt, List.getD_cons_zero, List.getD_cons_succ] at h0 h1 h3 ⊢
      subst h0 h1 h3
      simp
  unfold head1
  rw [e0, ← hc, four_n4 d 12 (by omega), show (16 : Nat) = 12 + 4 from rfl, List.take_add]
theorem rdT_len {d : List UInt8} (h : n4 d 8 + 20 ≤ d.length) : (rdT d).length = n4 d 8 := by unfold rdT; simp; omega
theorem enc_back (d : List UInt8) (h : rdE d = 0) : recOk ((bt d 2).toNat : Int) (n4 d 4 : Int) ∧ (rdT d).length ≤ 16384 ∧ n4 d 8 + 20 ≤ d.length ∧ enc (bt d 2).toNat (n4 d 4) (rdT d) = d.take (n4 d 8 + 20) := by
  unfold rdE at h
  split at h
  · simp at h
  · split at h
    · simp at h
    · split at h
      · simp at h
      · split at h
        · simp at h
        · rename_i h16 hs hl hcr
          obtain ⟨b0, b1, b3, hc, hr, hm⟩ := not_spoilt d hs
          have hcr : n4 d (16 + n4 d 8) = crc (d.take (16 + n4 d 8)) := Classical.byContradiction hcr
          have hl' : n4 d 8 + 20 ≤ d.length := by omega
          have hT := rdT_len hl'
          refine ⟨hr, by omega, hl', ?_⟩
          unfold enc
          rw [hT, head_back d (by omega) b0 b1 b3 hc]
          have e1 : d.take 16 ++ rdT d = d.take (16 + n4 d 8) := by unfold rdT; rw [List.take_add]
          rw [e1, ← hcr, four_n4 d _ (by omega), show n4 d 8 + 20 = 16 + n4 d 8 + 4 by omega]
          exact List.take_add.symm
set_option maxRecDepth 100000 in
set_option maxHeartbeats 2000000 in
theorem back_walk (v : Value) (l : List UInt8) (x : Int) (_ : (Lit.int .i64 x).wf = true) (w : World) (hS : Sees w v (bytesV l)) :
    Calls Try.prog 6 #[v, .int .i64 x] w fun e w' => e = .returned (.bool true) ∧ Below w.heap.size w w' := by
  have HR := Lib.hid (fun w' (h : Below w.heap.size w w') => read_any l v x w' (hS.below h))
  have HSW := Lib.hid hS
  obtain ⟨a0, cap0, hv, hN, hcap, hcm, hx⟩ := hS
  have hbl := bytesV_len l
  rw [hbl] at hv hcap
  subst hv
  unfold maxLen at hcm
  by_cases hl : 200000 < l.length
  · clear hN hx hbl HSW HR
    go_enter Try.func6, Try.ntmps6
    go_wp2_with fail
    refine (fixed_yes _).mono ?_
    rintro e w1 ⟨rfl, hb1⟩
    go_wp2_with fail
    go_ret
    exact ⟨rfl, hb1⟩
  · have hl' : l.length ≤ 200000 := by omega
    clear hl
    by_cases hok : 0 ≤ x ∧ x ≤ l.length ∧ rdE (l.drop x.toNat) = 0
    · obtain ⟨h0, h1, hE⟩ := hok
      obtain ⟨k, rfl⟩ := Int.eq_ofNat_of_zero_le h0
      have hk : k ≤ l.length := by omega
      rw [Int.toNat_natCast] at hE
      clear h0 h1
      obtain ⟨hr, hT, hlen, henc⟩ := enc_back _ hE
      have HE := fun w' => encode_any (n4 (l.drop k) 4 : Int) ((bt (l.drop k) 2).toNat : Int) (str (rdT (l.drop k))) w' (by rw [str_size]; unfold maxLen; omega)
      rw [str_list] at HE
      have e1 : encE ((bt (l.drop k) 2).toNat : Int) (n4 (l.drop k) 4 : Int) (rdT (l.drop k)) = 0 := by unfold encE; rw [if_neg (by omega), if_pos hr]
      have e2 : encT ((bt (l.drop k) 2).toNat : Int) (n4 (l.drop k) 4 : Int) (rdT (l.drop k)) = (l.drop k).take (n4 (l.drop k) 8 + 20) := by unfold encT; rw [if_pos e1, Int.toNat_natCast, Int.toNat_natCast]; exact henc
      rw [e1, e2] at HE
      have hrd := readV_ok (l := l) (k := k) hk hE
      have hd : (l.drop k).length = l.length - k := by simp
      rw [hd] at hlen
      obtain ⟨g, off, rfl, _, _⟩ : ∃ g off, a0 = some ⟨g, off, none⟩ ∧ g < w.heap.size ∧ ∀ j u, (bytesV l)[j]? = some u → w.cell? ⟨g, off + j, none⟩ = some u := by
        rcases hx with h0 | h0
        · rw [h0] at hbl; simp at hbl; omega
        · exact h0
      have hSd := sees_drop HSW.out (k := k) (by omega)
      rw [← hd] at hSd
      have hST := Lib.hid (sees_take hSd (k := n4 (l.drop k) 8 + 20) (by omega))
      have hTl : ((l.drop k).take (n4 (l.drop k) 8 + 20)).length = n4 (l.drop k) 8 + 20 := by simp; omega
      rw [hTl] at HE
      have h20 : 20 ≤ n4 (l.drop k) 8 + 20 := by omega
      generalize (l.drop k).take (n4 (l.drop k) 8 + 20) = T at *
      rw [show (k : Int) + (n4 (l.drop k) 8 : Int) + 20 = ((k + (n4 (l.drop k) 8 + 20) : Nat) : Int) by omega] at hrd
      generalize n4 (l.drop k) 8 + 20 = N at *
      generalize n4 (l.drop k) 4 = sq at *
      generalize (bt (l.drop k) 2).toNat = kd at *
      generalize str (rdT (l.drop k)) = tx at *
      have HR' := Lib.hid (fun w' (h : Below w.heap.size w w') => by have := HR.out w' h; rw [hrd] at this; exact this)
      have HEE := Lib.hid HE
      have hkc : ¬ cap0 = k := by omega
      have hx1 : (k : Int) + (N : Int) ≤ (l.length : Int) := by omega
      have hx2 : (k : Int) + (N : Int) - (k : Int) = (N : Int) := by omega
      have hx3 : k + N ≤ l.length := by omega
      clear h20 HE HR hSd hrd hTl e1 e2 henc hE hr hT HSW hN hx hbl hd
      go_enter Try.func6, Try.ntmps6
      go_wp2_with fail
      refine (fixed_yes _).mono ?_
      rintro e w1 ⟨rfl, hb1⟩
      go_wp2_with fail
      refine (HR'.out _ hb1).mono ?_
      rintro e w2 ⟨rfl, hb2⟩
      have g2 := bal (bnx hb1 hb2) (.cells #[.int .i64 (sq : Int), .int .i64 (kd : Int), .string tx] 27)
      go_wp2_with fail
      refine (HEE.out _).mono ?_
      rintro e w3 ⟨u, rfl, ho, hb3⟩
      have g3 := bnx g2 hb3
      have hSU := Lib.hid (Sees.of_own ho)
      have hSV := Lib.hid (hST.out.below g3)
      obtain ⟨a1, cap1, hv⟩ := own_len ho
      subst hv
      clear ho
      go_wp2_with fail
      refine (bytes_yes T _ _ _ hSV.out hSU.out).mono ?_
      rintro e w4 ⟨rfl, hb4⟩
      go_wp2_with fail
      go_ret
      exact ⟨rfl, bnx g3 hb4⟩
    · obtain ⟨E, hE0, hrd⟩ : ∃ E : Int, E ≠ 0 ∧ readV l x = .tuple #[.agg #[.int .i64 0, .int .i64 0, .string ⟨#[]⟩], .int .i64 0, .int .i64 E] := by
        unfold readV
        by_cases hx : x < 0 ∨ (l.length : Int) < x
        · rw [if_pos hx]
          exact ⟨1, by decide, rfl⟩
        · have h0 : rdE (l.drop x.toNat) ≠ 0 := fun h => hok ⟨by omega, by omega, h⟩
          rw [if_neg hx, if_neg h0]
          exact ⟨_, h0, rfl⟩
      have HR' := Lib.hid (fun w' (h : Below w.heap.size w w') => by have := HR.out w' h; rw [hrd] at this; exact this)
      have hq := rec_eql 0 0 ⟨#[]⟩
      have hE1 : (E != 0) = true := by simpa using hE0
      clear hok HR hrd HSW hN hx hbl
      go_enter Try.func6, Try.ntmps6
      go_wp2_with fail
      refine (fixed_yes _).mono ?_
      rintro e w1 ⟨rfl, hb1⟩
      go_wp2_with fail
      refine (HR'.out _ hb1).mono ?_
      rintro e w2 ⟨rfl, hb2⟩
      go_wp2_with fail
      go_ret
      exact ⟨rfl, bal (bnx hb1 hb2) _⟩
end Go.Proofs.Ytcofndegcleicaa.Lg
