/- The program's text of every character; its Quote. -/
import Derived.Test.YtcikhbbljhkheaaDoorQ1
namespace Go.Proofs.YtcikhbbljhkheaaDoor.Sn
open Go.RowKit Mm
set_option linter.unusedVariables false
set_option maxRecDepth 100000 in
set_option maxHeartbeats 4000000 in
theorem write_any (B n : Nat) (l : List UInt8) (v : Value) (c : Nat) (hok : okR c) (hn : n ≤ 50000) (w : World) (ho : w.ownsRow B 5 1 v n (l.map bv)) (hB : B ≤ w.heap.size) :
    Calls Tryd.prog 11 #[v, .int .i32 (c : Int)] w (AppR w B n l (runeP c)) := by
  by_cases h34 : c = 34
  · subst h34; exact write_34 B n l v (by omega) w ho hB
  by_cases h92 : c = 92
  · subst h92; exact write_92 B n l v (by omega) w ho hB
  by_cases h10 : c = 10
  · subst h10; exact write_10 B n l v (by omega) w ho hB
  by_cases h13 : c = 13
  · subst h13; exact write_13 B n l v (by omega) w ho hB
  by_cases h9 : c = 9
  · subst h9; exact write_9 B n l v (by omega) w ho hB
  have hE : escI c = -1 := by unfold escI; rw [if_neg h34, if_neg h92, if_neg h10, if_neg h13, if_neg h9]
  have hP : runeP c = if c < 32 ∨ c = 127 then looseP c else if unsB c = true then [92, 117, 123] ++ basedL c ++ [125] else Lib.encodeRune c := by
    unfold runeP; rw [if_neg h34, if_neg h92, if_neg h10, if_neg h13, if_neg h9]
  have HI := Lib.hid (idx_any c hok)
  rw [hE] at HI
  have hlt : c ≤ 1114111 := okR_le hok
  have HO := Lib.hid (fun w' (h : Below w.heap.size w w') => own_below ho h (Nat.le_refl _))
  have HN := Lib.hid hn
  have HU := Lib.hid (unseen_any c)
  have HE := Lib.hid hE
  have HK := Lib.hid hok
  have HOW := Lib.hid ho
  clear ho hE h34 h92 h10 h13 h9 hok hn
  by_cases hl : c < 32 ∨ c = 127
  · rw [if_pos hl] at hP
    have HP := Lib.hid hP
    have hw : IntKind.u8.wrap (c : Int) = (c : Int) := IntWalk.u8_in _ (by omega)
    have HC := Lib.hid (show c < 256 by omega)
    by_cases h32 : c < 32
    · have f0 : (c : Int) < 32 := by omega
      clear hP hl hlt h32
      go_enter Tryd.func11, Tryd.ntmps11
      go_wp2_with fail
      refine (HI.out _).mono ?_
      rintro e w1 ⟨rfl, hb1⟩
      have HB1 := Lib.hid hb1
      clear hb1
      go_wp2_with fail
      refine (byName_any B n l v c HC.out (by have := HN.out; omega) _ (HO.out _ HB1.out) (by have := HB1.out.size; omega)).mono ?_
      rintro e w2 ⟨v2, rfl, hr⟩
      go_wp2_with fail
      go_ret
      rw [HP.out]
      exact AppR.after HB1.out hB ⟨v2, rfl, hr⟩
    · obtain rfl : c = 127 := by omega
      clear hP hl hlt h32
      go_enter Tryd.func11, Tryd.ntmps11
      go_wp2_with fail
      refine (HI.out _).mono ?_
      rintro e w1 ⟨rfl, hb1⟩
      have HB1 := Lib.hid hb1
      clear hb1
      go_wp2_with fail
      refine (byName_any B n l v 127 HC.out (by have := HN.out; omega) _ (HO.out _ HB1.out) (by have := HB1.out.size; omega)).mono ?_
      rintro e w2 ⟨v2, rfl, hr⟩
      go_wp2_with fail
      go_ret
      rw [HP.out]
      exact AppR.after HB1.out hB ⟨v2, rfl, hr⟩
  · rw [if_neg hl] at hP
    have f0 : ¬ (c : Int) < 32 := by omega
    have f1 : ((c : Int) == 127) = false := by simp; omega
    cases hu : unsB c with
    | false =>
      rw [if_neg (by rw [hu]; simp)] at hP
      rw [hu] at HU
      have HP := Lib.hid hP
      have HC := Lib.hid hlt
      clear hP hl hlt hu
      go_enter Tryd.func11, Tryd.ntmps11
      go_wp2_with fail
      refine (HI.out _).mono ?_
      rintro e w1 ⟨rfl, hb1⟩
      have HB1 := Lib.hid hb1
      clear hb1
      go_wp2_with fail
      refine (HU.out _).mono ?_
      rintro e w' ⟨rfl, rfl⟩
      go_wp2_with fail
      refine (rune_any B n l v c HC.out (by have := HN.out; omega) _ (HO.out _ HB1.out) (by have := HB1.out.size; omega)).mono ?_
      rintro e w2 ⟨v2, rfl, hr⟩
      go_wp2_with fail
      go_ret
      rw [HP.out]
      exact AppR.after HB1.out hB ⟨v2, rfl, hr⟩
    | true =>
      rw [if_pos hu] at hP
      have hrg : (16 ≤ c ∧ c < 256) ∨ (4096 ≤ c ∧ c < 65536) := by
        have h1 := hu
        unfold unsB at h1
        rw [decide_eq_true_eq] at h1
        omega
      rcases hrg with h | h
      · exact write_uns2 B n l v c h hP HE.out HK.out hl hu HN.out w HOW.out hB
      · exact write_uns4 B n l v c h hP HE.out HK.out hl hu HN.out w HOW.out hB
theorem own_iter {w : World} {B s n k p : Nat} {e : TypeId} {v : Value} {xs : List Value} {t : ByteArray} (h : w.ownsRow B e s v n xs) (hk : w.heap[k]? = some (.stringIter t p)) (p' : Nat) : (w.iterAt k t p').ownsRow B e s v n xs := by
  refine ⟨h.1, ?_⟩
  rcases h.2 with h0 | ⟨g, cap, cur, hv, hb, hg, rest⟩
  · exact .inl h0
  · refine .inr ⟨g, cap, cur, hv, hb, ?_, rest⟩
    rw [Lib.iterAt_other w k g t p' (fun e => by subst e; rw [hk] at hg; cases hg)]
    exact hg
theorem others_iter {w w' : World} {e : TypeId} {k p : Nat} {t : ByteArray} (h : Lib.OthersKept e none w w') (hk : w.heap[k]? = some (.stringIter t p)) : w'.heap[k]? = some (.stringIter t p) :=
  h k _ hk (by simp) (by intro c fz e; cases e)
theorem iter_pos {w : World} {k p : Nat} {t : ByteArray} (hk : w.heap[k]? = some (.stringIter t p)) : w.iterPos k = p := by simp only [World.iterPos, hk]
/-- what the loop of Quote knows of the world -/
def QuW (w : World) (s : ByteArray) (p : Nat) (acc : List UInt8) (u : Value) (wr : World) : Prop :=
  wr.ownsRow w.heap.size 5 1 u (acc.length + 1) ((34 :: acc).map bv) ∧ wr.heap[w.heap.size + 1]? = some (.stringIter s p) ∧ Below w.heap.size w wr
theorem QuW.next {w wr : World} {s : ByteArray} {p : Nat} {acc : List UInt8} {u : Value} (h : QuW w s p acc u wr) (q : Nat) : QuW w s q acc u (wr.iterAt (w.heap.size + 1) s q) :=
  ⟨own_iter h.1 h.2.1 q, Lib.iterAt_heap wr (w.heap.size + 1) s p q h.2.1, Lib.below_iterAt h.2.2 (by omega) s q⟩
theorem QuW.below {w wr wx : World} {s : ByteArray} {p : Nat} {acc : List UInt8} {u : Value} (h : QuW w s p acc u wr) (hb : Below wr.heap.size wr wx) : QuW w s p acc u wx :=
  ⟨own_below h.1 hb (Nat.le_refl _), (hb.block _ (Array.getElem?_eq_some_iff.1 h.2.1).1).trans h.2.1, bnx h.2.2 hb⟩
theorem QuW.app {w wr wx : World} {s : ByteArray} {p : Nat} {acc bs : List UInt8} {u v : Value} (h : QuW w s p acc u wr) (hr : AppR wr w.heap.size (acc.length + 1) (34 :: acc) bs (.returned v) wx) : QuW w s p (acc ++ bs) v wx := by
  obtain ⟨a, b, c⟩ := hr.has
  refine ⟨?_, others_iter c h.2.1, h.2.2.trans b⟩
  rw [List.length_append, show acc.length + bs.length + 1 = acc.length + 1 + bs.length by omega]
  exact a
set_option maxRecDepth 100000 in
set_option maxHeartbeats 8000000 in
theorem quote_any (s : ByteArray) (w : World) (hT : Lib.Utf8Tabs 0 1 w) : Calls Tryd.prog 5 #[.string s] w (QuAns w s) := by
  by_cases hs : s.size ≤ 256
  · have HO := Lib.hid (fun t w' => qu_ok (w := w) (w' := w') (s := s) (t := t) hs)
    have HS := Lib.hid hs
    have HT := Lib.hid (fun w' (h : Below w.heap.size w w') => Utf8Tabs_below hT h)
    have hc : ¬ (256 : Int) < (s.size : Int) := by omega
    clear hs hT
    go_enter Tryd.func5, Tryd.ntmps5
    go_wp2
    go_loopw [4] (fun u wr => ∃ (p fuel : Nat) (acc : List UInt8), p ≤ s.size ∧ QuW w s p acc u wr ∧ acc ++ quoteFrom s fuel p = quoteFrom s s.size 0 ∧ s.size ≤ p + fuel ∧ acc.length ≤ 10 * p) (fun _ wr => s.size - wr.iterPos (w.heap.size + 1))
    case atStart =>
      refine ⟨0, s.size, [], by omega, ⟨?_, ?_, bal (bal (Below.refl _ _) _) _⟩, rfl, by omega, by simp⟩
      · exact (own_one w 5 #[.int .u8 34] (Nat.le_refl _)).alloc _
      · have := World.iter_heap (w.alloc (.cells #[.int .u8 34] 5)) s 0
        simpa using this
    case round =>
      obtain ⟨p, fuel, acc, hp, hq, hacc, hfu, hal⟩ := hrel
      have HQ := Lib.hid hq
      clear hq
      by_cases hlt : p < s.size
      · have hnx : ∀ ty, (Instr.next (.pointer (some ⟨w.heap.size + 1, 0, none⟩)) true ty).run Tryd.prog wr = _ := fun ty => Lib.run_next_any_at wr (w.heap.size + 1) s p ty HQ.out.2.1 hlt
        obtain ⟨f, rfl⟩ : ∃ f, fuel = f + 1 := ⟨fuel - 1, by omega⟩
        have hpl := piece_len s p hlt
        obtain ⟨hd1, hd2⟩ := dec_pos s p hlt
        have hst := quote_step hlt hacc
        have HF := Lib.hid (And.intro hst (And.intro hfu (And.intro hal (And.intro hpl (And.intro hd1 hd2)))))
        obtain ⟨d1, e1⟩ : ∃ d, (Utf8.decode s p).1 = d := ⟨_, rfl⟩
        obtain ⟨d2, e2⟩ : ∃ d, (Utf8.decode s p).2 = d := ⟨_, rfl⟩
        have HLO := Lib.hid (loose_any s p d1 e1 hlt)
        have HW1 := Lib.hid (HQ.out.next (p + d2))
        rw [e2] at HF
        rw [e1, e2] at hnx
        by_cases hd : Utf8.decode s p = (65533, 1)
        · have hpc : pieceP s p = looseP (s[p]'hlt).toNat := by unfold pieceP; rw [if_pos hd, get_in s p hlt]
          rw [show decide (Utf8.decode s p = (65533, 1)) = true from decide_eq_true hd] at HLO
          have HPC := Lib.hid hpc
          have hb256 : (s[p]'hlt).toNat < 256 := UInt8.toNat_lt _
          have HB256 := Lib.hid hb256
          clear hd hpc hst hfu hal hpl hd1 hd2 hacc e1 e2 hb256
          go_wp2_with fail
          refine (HLO.out _ (HT.out _ HW1.out.2.2)).mono ?_
          rintro e w2 ⟨rfl, hb2⟩
          have HW2 := Lib.hid (HW1.out.below hb2)
          clear hb2
          go_wp2_with fail
          refine (byName_any w.heap.size (acc.length + 1) (34 :: acc) _ (s[p]'hlt).toNat HB256.out (by have := HF.out.2.2.1; have := HS.out; omega) _ HW2.out.1 HW2.out.2.2.size).mono ?_
          rintro e w3 ⟨v3, rfl, hr⟩
          have HW3 := Lib.hid (HW2.out.app ⟨v3, rfl, hr⟩)
          clear hr
          go_wp2_with fail
          go_roundw
          case rel =>
            refine ⟨p + d2, f, acc ++ pieceP s p, HF.out.2.2.2.2.2, by rw [HPC.out]; exact HW3.out, HF.out.1, by have := HF.out.2.1; have := HF.out.2.2.2.2.1; omega, by have := HF.out.2.2.1; have := HF.out.2.2.2.1; have := HF.out.2.2.2.2.1; rw [List.length_append]; omega⟩
          case measure =>
            rw [iter_pos HW3.out.2.1, iter_pos HQ.out.2.1]
            have := HF.out.2.2.2.2.1
            omega
        · obtain ⟨hok, _, _, _⟩ := dec_bytes s p hlt hd
          have hpc : pieceP s p = runeP d1 := by unfold pieceP; rw [if_neg hd, e1]
          rw [show decide (Utf8.decode s p = (65533, 1)) = false from decide_eq_false hd] at HLO
          have HPC := Lib.hid hpc
          rw [e1] at hok
          have HOK := Lib.hid hok
          clear hd hpc hst hfu hal hpl hd1 hd2 hacc e1 e2 hok
          go_wp2_with fail
          refine (HLO.out _ (HT.out _ HW1.out.2.2)).mono ?_
          rintro e w2 ⟨rfl, hb2⟩
          have HW2 := Lib.hid (HW1.out.below hb2)
          clear hb2
          go_wp2_with fail
          refine (write_any w.heap.size (acc.length + 1) (34 :: acc) _ d1 HOK.out (by have := HF.out.2.2.1; have := HS.out; omega) _ HW2.out.1 HW2.out.2.2.size).mono ?_
          rintro e w3 ⟨v3, rfl, hr⟩
          have HW3 := Lib.hid (HW2.out.app ⟨v3, rfl, hr⟩)
          clear hr
          go_wp2_with fail
          go_roundw
          case rel =>
            refine ⟨p + d2, f, acc ++ pieceP s p, HF.out.2.2.2.2.2, by rw [HPC.out]; exact HW3.out, HF.out.1, by have := HF.out.2.1; have := HF.out.2.2.2.2.1; omega, by have := HF.out.2.2.1; have := HF.out.2.2.2.1; have := HF.out.2.2.2.2.1; rw [List.length_append]; omega⟩
          case measure =>
            rw [iter_pos HW3.out.2.1, iter_pos HQ.out.2.1]
            have := HF.out.2.2.2.2.1
            omega
      · have hnx : ∀ ty, (Instr.next (.pointer (some ⟨w.heap.size + 1, 0, none⟩)) true ty).run Tryd.prog wr = _ := fun ty => Lib.run_next_end_at wr (w.heap.size + 1) s p ty HQ.out.2.1 hlt
        rw [quote_end s fuel p hlt, List.append_nil] at hacc
        have HE := Lib.hid (show str ((34 :: acc) ++ [34]) = str (quoteL s) from by rw [hacc]; rfl)
        have HAL := Lib.hid hal
        have HP := Lib.hid hp
        clear hacc hal hfu hp
        go_wp2_with (at_builtin; refine app_bs [34] 1 HQ.out.1 rfl rfl rfl rfl rfl rfl (by have := HAL.out; have := HP.out; have := HS.out; omega) HQ.out.2.2.size ?_; intro v3 w3 hr3; have hcv := str_own hr3.has.1)
        go_ret2
        exact HO.out _ _ HE.out (HQ.out.2.2.trans hr3.has.2.1)
  · have HB := Lib.hid (qu_big (w := w) (w' := w) hs (Below.refl _ _))
    have hc : (256 : Int) < (s.size : Int) := by omega
    clear hs hT
    go_enter Tryd.func5, Tryd.ntmps5
    go_wp2
    go_ret2
    exact HB.out
end Go.Proofs.YtcikhbbljhkheaaDoor.Sn
