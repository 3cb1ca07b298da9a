/- TernZeros: the walk. -/
import Derived.Test.YtdiijannpfogdaaZr
import Derived.Deep.DeepCutAuto
import Derived.Deep.CutRange
namespace Go.Proofs.Ytdiijannpfogdaa.Tn
open Go.RowKit
attribute [local go_sem] cv cs wv
theorem all1_xz : ((str (allT 1)).toList == [120]) = true := by rw [ByteArray.toList_eq]; rfl
/-- what the great region keeps -/
def ZK (w : World) (n : Nat) (c o : Nat → Bool) (b5 b7 b8 b10 b12 b14 : Nat) (X : World) : Prop :=
  Mm.St w [(b14, 30, zc), (b12, 30, zc), (b10, 30, zc), (b8, 30, zc), (b7, 30, zc), (b5, 30, cs n c o)] [] X
abbrev ZS (w : World) (n : Nat) (c o : Nat → Bool) (b5 b7 b8 b10 b12 b14 : Nat) (X : World) : Prop :=
  (∀ i, X.cell? ⟨b5, i, none⟩ = (cs n c o)[i]?) ∧ (∀ i, X.cell? ⟨b7, i, none⟩ = zc[i]?) ∧ (∀ i, X.cell? ⟨b8, i, none⟩ = zc[i]?) ∧ (∀ i, X.cell? ⟨b10, i, none⟩ = zc[i]?) ∧ (∀ i, X.cell? ⟨b12, i, none⟩ = zc[i]?) ∧ (∀ i, X.cell? ⟨b14, i, none⟩ = zc[i]?) ∧ ZK w n c o b5 b7 b8 b10 b12 b14 X
theorem ZK.s {w X : World} {n : Nat} {c o : Nat → Bool} {b5 b7 b8 b10 b12 b14 : Nat} (h : ZK w n c o b5 b7 b8 b10 b12 b14 X) : ZS w n c o b5 b7 b8 b10 b12 b14 X :=
  ⟨(h.blks (b5, 30, cs n c o) (by simp)).cell, (h.blks (b7, 30, zc) (by simp)).cell, (h.blks (b8, 30, zc) (by simp)).cell, (h.blks (b10, 30, zc) (by simp)).cell, (h.blks (b12, 30, zc) (by simp)).cell, (h.blks (b14, 30, zc) (by simp)).cell, h⟩
theorem ZS.k {w X : World} {n : Nat} {c o : Nat → Bool} {b5 b7 b8 b10 b12 b14 : Nat} (h : ZS w n c o b5 b7 b8 b10 b12 b14 X) : ZK w n c o b5 b7 b8 b10 b12 b14 X := h.2.2.2.2.2.2
theorem ZK.d {w X : World} {n : Nat} {c o : Nat → Bool} {b5 b7 b8 b10 b12 b14 : Nat} (h : ZK w n c o b5 b7 b8 b10 b12 b14 X) : ZS w n c o b5 b7 b8 b10 b12 b14 X.drew := ZK.s (Mm.St.below h (Below.refl _ _).drew)
theorem ZS.b {w X Y : World} {n : Nat} {c o : Nat → Bool} {b5 b7 b8 b10 b12 b14 : Nat} (h : ZS w n c o b5 b7 b8 b10 b12 b14 X) (hb : Below X.heap.size X Y) : ZS w n c o b5 b7 b8 b10 b12 b14 Y := ZK.s (Mm.St.below h.k hb)
set_option maxRecDepth 100000 in
set_option maxHeartbeats 8000000 in
theorem zeros_walk (s : ByteArray) (hs : s.size ≤ maxLen) (h : ByteArray) (_ : h.size ≤ maxLen) (w : World) :
    Calls Try.prog 21 #[.string s, .string h] w fun e w' => e = .returned (.bool true) ∧ Below w.heap.size w w' := by
  obtain ⟨n, c, o, hC⟩ : ∃ n c o, Cub (cubeT s.data.toList) n c o := ⟨_, _, _, Cub.of _⟩
  have HC := Lib.hid hC
  have hax := all1_xz
  have hz0 := zne
  clear hC
  go_enter Try.func21, Try.ntmps21
  go_wp2_with fail
  refine (made_any s hs HC.out _).mono ?_
  rintro e w1 ⟨rfl, hb1⟩
  have h0 : Mm.St w [] [] w := ⟨fun p hp => by simp at hp, Below.refl _ _, fun p hp => by simp at hp⟩
  have HS1 := Lib.hid ((h0.below hb1).new 30 (cs n c o))
  clear hb1 h0
  go_wp2_with fail
  refine (all_any 1 _).mono ?_
  rintro e w2 ⟨n1, c1, o1, hC1, rfl, hb2⟩
  have HS2 := Lib.hid (HS1.out.below hb2)
  have HC1 := Lib.hid hC1
  clear hb2 hC1 HS1
  go_wp2_with fail
  refine (text_any (allT 1) n1 c1 o1 _ HC1.out).mono ?_
  rintro e w3 ⟨rfl, hb3⟩
  have HS3 := Lib.hid ((HS2.out.below hb3).new 30 zc)
  have c5 := (HS3.out.blks (w1.heap.size, 30, cs n c o) (by simp)).cell
  clear hb3 HS2
  go_wp2_with fail
  refine (ztext _).mono ?_
  rintro e w4 ⟨rfl, hb4⟩
  have HS4 := Lib.hid (HS3.out.below hb4)
  have c7 := (HS4.out.blks (w3.heap.size, 30, zc) (by simp)).cell
  clear hb4 HS3 c5
  go_wp2_with fail
  refine (zhas h _).mono ?_
  rintro e w5 ⟨rfl, hb5⟩
  have HS5 := Lib.hid (HS4.out.below hb5)
  have c7 := (HS5.out.blks (w3.heap.size, 30, zc) (by simp)).cell
  clear hb5 HS4
  go_wp2_with fail
  refine (zhas _ _).mono ?_
  rintro e w6 ⟨rfl, hb6⟩
  have HS6 := Lib.hid (HS5.out.below hb6)
  have c7 := (HS6.out.blks (w3.heap.size, 30, zc) (by simp)).cell
  have c5 := (HS6.out.blks (w1.heap.size, 30, cs n c o) (by simp)).cell
  clear hb6 HS5
  go_wp2_with fail
  refine (zwi1 HC.out _).mono ?_
  rintro e w7 ⟨rfl, hb7⟩
  have HS7 := Lib.hid (HS6.out.below hb7)
  have c7 := (HS7.out.blks (w3.heap.size, 30, zc) (by simp)).cell
  have c5 := (HS7.out.blks (w1.heap.size, 30, cs n c o) (by simp)).cell
  clear hb7 HS6
  go_wp2_with fail
  refine (zwi2 HC.out _).mono ?_
  rintro e w8 ⟨rfl, hb8⟩
  have HS8 := Lib.hid (HS7.out.below hb8)
  have c7 := (HS8.out.blks (w3.heap.size, 30, zc) (by simp)).cell
  have c5 := (HS8.out.blks (w1.heap.size, 30, cs n c o) (by simp)).cell
  clear hb8 HS7
  go_wp2_with fail
  refine (zmeet1 HC.out _).mono ?_
  rintro e w9 ⟨rfl, hb9⟩
  have HS9 := Lib.hid ((HS8.out.below hb9).new 30 zc)
  have c7 := (HS9.out.blks (w3.heap.size, 30, zc) (by simp)).cell
  have c5 := (HS9.out.blks (w1.heap.size, 30, cs n c o) (by simp)).cell
  clear hb9 HS8
  go_wp2_with fail
  refine (zmeet2 HC.out _).mono ?_
  rintro e w10 ⟨rfl, hb10⟩
  have HS10 := Lib.hid ((HS9.out.below hb10).new 30 zc)
  have c7 := (HS10.out.blks (w3.heap.size, 30, zc) (by simp)).cell
  have c5 := (HS10.out.blks (w1.heap.size, 30, cs n c o) (by simp)).cell
  clear hb10 HS9
  go_wp2_with fail
  refine (zbef1 HC.out _).mono ?_
  rintro e w11 ⟨rfl, hb11⟩
  have HS11 := Lib.hid ((HS10.out.below hb11).new 30 zc)
  have c7 := (HS11.out.blks (w3.heap.size, 30, zc) (by simp)).cell
  have c5 := (HS11.out.blks (w1.heap.size, 30, cs n c o) (by simp)).cell
  clear hb11 HS10
  go_wp2_with fail
  refine (zbef2 HC.out _).mono ?_
  rintro e w12 ⟨rfl, hb12⟩
  have HS12 := Lib.hid ((HS11.out.below hb12).new 30 zc)
  clear hb12 HS11 c5 c7
  go_upto_region 11 with fail
  have hk : ZK w n c o w1.heap.size w3.heap.size w9.heap.size w10.heap.size w11.heap.size w12.heap.size (w12.alloc (.cells zc 30)) := HS12.out
  go_cut [121] from 20 to 173 (fun s121 wx => s121 = .bool false ∧ ZK w n c o w1.heap.size w3.heap.size w9.heap.size w10.heap.size w11.heap.size w12.heap.size wx)
  case first =>
    have KW1 := Lib.hid (fun w' => zwr1 HC.out w')
    have KW2 := Lib.hid (fun w' => zwr2 HC.out w')
    simp only [cv, cs, wv] at KW1 KW2
    go_region_held3 (fun w' => (∀ i, w'.cell? ⟨w1.heap.size, i, none⟩ = (cs n c o)[i]?) ∧ (∀ i, w'.cell? ⟨w3.heap.size, i, none⟩ = zc[i]?) ∧ (∀ i, w'.cell? ⟨w9.heap.size, i, none⟩ = zc[i]?) ∧ (∀ i, w'.cell? ⟨w10.heap.size, i, none⟩ = zc[i]?) ∧ (∀ i, w'.cell? ⟨w11.heap.size, i, none⟩ = zc[i]?) ∧ (∀ i, w'.cell? ⟨w12.heap.size, i, none⟩ = zc[i]?) ∧ ZK w n c o w1.heap.size w3.heap.size w9.heap.size w10.heap.size w11.heap.size w12.heap.size w')
      (with_reducible (first | assumption | exact ZK.d hk | exact hK2))
      (first | (go_at_call 31; with_reducible refine (KW1.out _).mono ?_; rintro e w' ⟨rfl, hb'⟩; have hK2 := ZS.b (by assumption) hb') | (go_at_call 31; with_reducible refine (KW2.out _).mono ?_; rintro e w' ⟨rfl, hb'⟩; have hK2 := ZS.b (by assumption) hb'))
    have hk3 : ZK w n c o w1.heap.size w3.heap.size w9.heap.size w10.heap.size w11.heap.size w12.heap.size w' := ZS.k (by assumption)
    go_wp2_with fail
    go_meet
    exact ⟨rfl, hk3⟩
  case rest =>
    obtain ⟨rfl, hk3⟩ := hcut
    have d5 := (hk3.blks (w1.heap.size, 30, cs n c o) (by simp)).cell
    have d7 := (hk3.blks (w3.heap.size, 30, zc) (by simp)).cell
    have HK3 := Lib.hid hk3
    have ZH1 := Lib.hid (fun w' => zhull1 HC.out _ _ (one_sees HC.out w'))
    have ZH2 := Lib.hid (fun w' => zhull2 HC.out _ _ (zone_sees w'))
    simp only [cv, cs, wv] at ZH1 ZH2
    clear hk3 hk HS12
    go_wp2_with fail
    refine (ZH1.out _).mono ?_
    rintro e w13 ⟨rfl, hb13⟩
    have hb13' : Below (wc.alloc (.cells (cs n c o) 30)).heap.size (wc.alloc (.cells (cs n c o) 30)) w13 := hb13
    have hs13 := (Mm.St.below (HK3.out.alloc (.cells (cs n c o) 30)) hb13').new 30 zc
    have d5 := (hs13.blks (w1.heap.size, 30, cs n c o) (by simp)).cell
    have d7 := (hs13.blks (w3.heap.size, 30, zc) (by simp)).cell
    have HS13 := Lib.hid hs13
    clear HK3 hb13 hb13' hs13 ZH1
    go_wp2_with fail
    have zh2 := ZH2.out (w13.alloc (.cells zc 30))
    simp only [World.size_alloc] at zh2
    refine zh2.mono ?_
    clear zh2
    rintro e w14 ⟨rfl, hb14⟩
    have hb14' : Below ((w13.alloc (.cells zc 30)).alloc (.cells zc 30)).heap.size ((w13.alloc (.cells zc 30)).alloc (.cells zc 30)) w14 := by simpa using hb14
    have hs14 := (Mm.St.below (HS13.out.alloc (.cells zc 30)) hb14').new 30 zc
    have HS14 := Lib.hid hs14
    clear HS13 hb14 hb14' hs14 ZH2 d5 d7
    go_upto_region 15 with fail
    have e16 := (HS14.out.blks (w13.heap.size, 30, zc) (by simp)).cell
    have e18 := (HS14.out.blks (w14.heap.size, 30, zc) (by simp)).cell
    have e7 := (HS14.out.blks (w3.heap.size, 30, zc) (by simp)).cell
    go_wp2_with (go_at_call 40; refine (num_any _ _).mono ?_; rintro e w' ⟨rfl, rfl⟩)
    refine (zsome _).mono ?_
    rintro e w15 ⟨a15, c15, rfl, hb15⟩
    have hb15' : Below (w14.alloc (.cells zc 30)).heap.size (w14.alloc (.cells zc 30)) w15 := by simpa using hb15
    have HS15 := Lib.hid (HS14.out.below hb15')
    clear hb15 hb15' HS14 e16 e18 e7
    go_upto_region 17 with fail
    have e5 := (HS15.out.blks (w1.heap.size, 30, cs n c o) (by simp)).cell
    have e7 := (HS15.out.blks (w3.heap.size, 30, zc) (by simp)).cell
    have ZS1 := Lib.hid (fun w' => zsplit1 HC.out w')
    have ZS2 := Lib.hid (fun w' => zsplit2 HC.out w')
    simp only [cv, cs, wv] at ZS1 ZS2
    go_wp2_with fail
    refine (ZS1.out _).mono ?_
    rintro e w16 ⟨v16, rfl, ho16, hb16⟩
    have HS16 := Lib.hid (HS15.out.below hb16)
    have hx16 := own_below ho16 ((Below.refl w16.heap.size w16).alloc (Nat.le_refl _) (.cells (srow [[]]).toArray 9)) (Nat.le_refl _)
    have HT1 := Lib.hid (texts_yes (L := [[]]) (fun x hx => ⟨0, no, no, by rw [List.mem_singleton.1 hx]; exact nilCub⟩) (w16.alloc (.cells (srow [[]]).toArray 9)) v16 (.slice (some ⟨w16.heap.size, 0, none⟩) 1 1) _ _ (by decide) hx16 (own_new w16 9 (srow [[]]) 1 rfl (by decide) (by decide) (Nat.le_refl _)))
    clear HS15 hb16 ho16 hx16 e5 e7 ZS1
    go_wp2_with fail
    refine HT1.out.mono ?_
    rintro e w17 ⟨rfl, hb17⟩
    have HS17 := Lib.hid ((HS16.out.alloc (.cells (srow [[]]).toArray 9)).below hb17)
    have e5 := (HS17.out.blks (w1.heap.size, 30, cs n c o) (by simp)).cell
    have e7 := (HS17.out.blks (w3.heap.size, 30, zc) (by simp)).cell
    clear HT1 HS16 hb17
    go_wp2_with fail
    refine (ZS2.out _).mono ?_
    rintro e w18 ⟨v18, rfl, ho18, hb18⟩
    have HS18 := Lib.hid (HS17.out.below hb18)
    have hx18 := own_below ho18 ((Below.refl w18.heap.size w18).alloc (Nat.le_refl _) (.cells (srow [cubeT s.data.toList]).toArray 9)) (Nat.le_refl _)
    have HT2 := Lib.hid (texts_yes (L := [cubeT s.data.toList]) (fun x hx => ⟨n, c, o, by rw [List.mem_singleton.1 hx]; exact HC.out⟩) (w18.alloc (.cells (srow [cubeT s.data.toList]).toArray 9)) v18 (.slice (some ⟨w18.heap.size, 0, none⟩) 1 1) _ _ (by simp) hx18 (own_new w18 9 (srow [cubeT s.data.toList]) 1 rfl (by decide) (by decide) (Nat.le_refl _)))
    clear HS17 hb18 ho18 hx18 e5 e7 ZS2
    go_wp2_with fail
    refine (rcube_any s _ hs).mono ?_
    rintro e w' ⟨rfl, rfl⟩
    go_wp2_with fail
    refine HT2.out.mono ?_
    rintro e w19 ⟨rfl, hb19⟩
    have hbz := (Mm.St.below (HS18.out.alloc (.cells (srow [cubeT s.data.toList]).toArray 9)) hb19).bel
    clear HT2 HS18 hb19
    go_wp2_with fail
    go_ret
    exact ⟨rfl, hbz⟩
end Go.Proofs.Ytdiijannpfogdaa.Tn
