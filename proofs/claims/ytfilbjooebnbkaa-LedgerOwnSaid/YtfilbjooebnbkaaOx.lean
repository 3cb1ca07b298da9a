/- LedgerOwn: the walk. -/
import Derived.Test.YtfilbjooebnbkaaOw
import Derived.Deep.RegionHeld3
namespace Go.Proofs.Ytfilbjooebnbkaa.Lg
open Go.RowKit Mm Law
set_option linter.unusedVariables false
set_option maxRecDepth 100000 in
set_option maxHeartbeats 64000000 in
theorem own_walk_a (v : Value) (l : List Ent) (hN : l.length ≤ 30) (hM : ∀ x ∈ l, x.2.size ≤ maxLen ∧ (Lit.int .i64 x.1).wf = true) (w : World) (hS : SeesS w v 2 l.length (esC l)) :
    Calls Try.prog 3 #[v] w fun e w' => e = .returned (.bool true) ∧ Below w.heap.size w w' := by
  have HF := Lib.hid fixed_yes
  obtain ⟨a0, cap0, rfl, hcap, hcm⟩ := hS.form
  have HX := Lib.hid hS
  have HM := Lib.hid hM
  unfold maxLen at hcm
  clear hS hM
  go_enter Try.func3, Try.ntmps3
  go_wp2_with fail
  refine (HF.out _).mono ?_
  rintro e w1 ⟨rfl, hb1⟩
  have HB1 := Lib.hid hb1
  clear hb1
  go_wp2
  go_loopw [4, 5, 6, 7, 8] (fun a b c d i wr => ∃ (k : Nat) (rows ws : List Rw) (R : List Rc), k ≤ l.length ∧ i = .int .i64 (k : Int) ∧ R.length = 3 * k ∧ Cont rows R ∧ Cont ws R ∧ (∀ p ∈ R, okP p) ∧ Own1 w1 rows ws R R a b c d wr) (fun _ _ _ _ i _ => l.length - (intOf i).toNat)
  case atStart => exact ⟨0, [], [], [], Nat.zero_le _, rfl, rfl, rfl, rfl, by simp, Own1.new w1⟩
  case round =>
    obtain ⟨k, rows, ws, R, hk, rfl, hR, hc1, hc2, hok, hst⟩ := hrel
    have HST := Lib.hid hst
    clear hst
    by_cases hlt : k < l.length
    · have hl1 : (k : Int) < (l.length : Int) := by omega
      have hl2 : (k : Int) < 30 := by omega
      obtain ⟨g, off, rfl, hg, hq⟩ := (HX.out.at (by omega)).2
      have hkl : k < l.length := by omega
      have hcell := (esC_at l k l[k] (by simp [hkl]))
      have q1 := hq (k * 2 + 1) _ hcell.2
      have hsz := (HM.out l[k] (by simp)).1
      generalize l[k] = en at *
      obtain ⟨eq, et⟩ := en
      simp only at q1 hsz
      rw [← HB1.out.cell (p := ⟨g, off + (k * 2 + 1), none⟩) hg] at q1
      have hg1 : g < w1.heap.size := Nat.lt_of_lt_of_le hg HB1.out.size
      rw [← HST.out.bel.cell (p := ⟨g, off + (k * 2 + 1), none⟩) hg1, ← Nat.add_assoc] at q1
      clear hq hcell
      by_cases hbig : 100 < et.size
      · have hbi : (100 : Int) < (et.size : Int) := by omega
        go_upto_region 12 with fail
        have hT : (et.extract 0 100).size ≤ 100 := by rw [ByteArray.size_extract]; omega
        generalize et.extract 0 100 = T at *
        clear q1 hbig hbi hsz hl1 hl2
        go_wp2
        go_loopw [4, 5, 6, 7, 10] (fun a b c d j wx => ∃ (m : Nat) (rows' ws' : List Rw) (R' : List Rc), m ≤ 3 ∧ j = .int .i64 (m : Int) ∧ R'.length = 3 * k + m ∧ Cont rows' R' ∧ Cont ws' R' ∧ (∀ p ∈ R', okP p) ∧ Own1 w1 rows' ws' R' R' a b c d wx) (fun _ _ _ _ j _ => 3 - (intOf j).toNat)
        case atStart => exact ⟨0, rows, ws, R, by omega, rfl, hR, hc1, hc2, hok, HST.out⟩
        case round =>
          obtain ⟨m, rows', ws', R', hm, rfl, hR', hc1', hc2', hok', hst'⟩ := hrel
          have HST' := Lib.hid hst'
          clear hst'
          by_cases hm3 : m < 3
          · have HPK := Lib.hid (show okP ((k : Int) + 1, T) from ⟨by simp only; omega, by simp only; omega, hT⟩)
            have hm3' : (m : Int) < 3 := by omega
            obtain ⟨rk, hrd⟩ := read_one ((k : Int) + 1, T) HPK.out
            have HEN := Lib.hid (fun w' => encode_any ((k : Int) + 1) 1 T w' (by have := HPK.out.2.2; unfold maxLen; simp only at this; omega))
            have HREN := Lib.hid (fun w' => rencode_any ((k : Int) + 1) 1 T w' (by have := HPK.out.2.2; unfold maxLen; simp only at this; omega))
            have he := enc_one ((k : Int) + 1, T) HPK.out
            simp only at he
            rw [he.1, he.2] at HEN HREN
            have HRD := Lib.hid (fun v' w' (h : Sees w' v' (bytesV (encB ((k : Int) + 1, T)))) => read_any (encB ((k : Int) + 1, T)) v' 0 w' h)
            rw [hrd] at HRD
            clear he hrd
            go_upto_region 16 with fail
            have HBX := Lib.hid (BoxR.new wr ((k : Int) + 1, T))
            have HSA := Lib.hid (HST'.out.below HBX.out.2)
            go_wp2_with fail
            refine (HEN.out _).mono ?_
            rintro e w2 ⟨v1, rfl, ho1, hb2⟩
            obtain ⟨a1, cap1, rfl⟩ := own_len ho1
            have HO1 := Lib.hid ho1
            have HBX2 := Lib.hid (HBX.out.go hb2)
            have HSA2 := Lib.hid (HSA.out.below hb2)
            clear ho1 hb2
            have e0 := HBX2.out.1.cell 0
            have e1 := HBX2.out.1.cell 1
            have e2 := HBX2.out.1.cell 2
            go_wp2_with fail
            refine (HREN.out _).mono ?_
            rintro e w3 ⟨v2, rfl, ho2, hb3⟩
            obtain ⟨a2, cap2, rfl⟩ := own_len ho2
            have HO2 := Lib.hid ho2
            have HBX3 := Lib.hid (HBX2.out.go hb3)
            have HSA3 := Lib.hid (HSA2.out.below hb3)
            have HO13 := Lib.hid (own_below HO1.out hb3 (Nat.le_refl _))
            clear ho2 hb3 e0 e1 e2
            go_wp2_with fail
            refine (HRD.out _ _ (Sees.of_own HO13.out)).mono ?_
            rintro e w4 ⟨rfl, hb4⟩
            have HBX4 := Lib.hid (HBX3.out.go hb4)
            have HSA4 := Lib.hid (HSA3.out.below hb4)
            have HO14 := Lib.hid (own_below HO13.out hb4 (Nat.le_refl _))
            have HO24 := Lib.hid (own_below HO2.out hb4 (Nat.le_refl _))
            clear hb4
            go_upto_region 21 with fail
            have HBY := Lib.hid (BoxR.new w4 ((k : Int) + 1, T))
            have hb45 : Below w4.heap.size w4 (w4.alloc (.cells #[.int .i64 ((k : Int) + 1), .int .i64 1, .string T] 29)) := bal (Below.refl _ _) _
            have HX5 := Lib.hid (HBX4.out.go hb45).1
            have HSA5 := Lib.hid (HSA4.out.below hb45)
            have HO15 := Lib.hid (own_below HO14.out hb45 (Nat.le_refl _))
            have HO25 := Lib.hid (own_below HO24.out hb45 (Nat.le_refl _))
            have HG4 := Lib.hid hb45.size
            clear hb45
            generalize w4.alloc (.cells #[.int .i64 ((k : Int) + 1), .int .i64 1, .string T] 29) = w5 at *
            have HLEN := Lib.hid (show rows'.length ≤ 1000 ∧ ws'.length ≤ 1000 ∧ R'.length ≤ 1000 from ⟨by rw [hc1'.len]; omega, by rw [hc2'.len]; omega, by omega⟩)
            have HLE := Lib.hid (show w1.heap.size ≤ w2.heap.size ∧ w1.heap.size ≤ (wr.alloc (.cells #[.int .i64 ((k : Int) + 1), .int .i64 1, .string T] 29)).heap.size from ⟨HSA2.out.bel.size, HSA.out.bel.size⟩)
            go_wp2_with (at_builtin; refine app_bb _ rfl HSA5.out.oa rfl rfl rfl rfl (by have := HLEN.out; omega) HSA5.out.bel.size ?_; intro a' w6 ho6 hk6; refine Hid.out ?_)
            refine Lib.hid ?_
            have hb5 := bal (Below.refl w5.heap.size w5) (.cells #[(.slice a1 (encB ((k : Int) + 1, T)).length cap1)] 30)
            have HSA6 := Lib.hid ((HSA5.out.below hb5).addA (q := ⟨(.slice a1 (encB ((k : Int) + 1, T)).length cap1), (encB ((k : Int) + 1, T)).length, bytesV (encB ((k : Int) + 1, T))⟩) (own_keeps ((own_weak HO15.out HLE.out.2).alloc (.cells #[(.slice a1 (encB ((k : Int) + 1, T)).length cap1)] 30)) hk6 (apart_ty (HO15.out.alloc (.cells #[(.slice a1 (encB ((k : Int) + 1, T)).length cap1)] 30)) (HSA5.out.oa.alloc (.cells #[(.slice a1 (encB ((k : Int) + 1, T)).length cap1)] 30)) (by decide))) (fun i r hr => apart_new (HSA.out.fr.1 i r hr) HO15.out (Nat.le_refl _)) ho6 hk6)
            have HX6 := Lib.hid (blk_keeps (HX5.out.alloc (.cells #[(.slice a1 (encB ((k : Int) + 1, T)).length cap1)] 30)) (HSA5.out.oa.alloc (.cells #[(.slice a1 (encB ((k : Int) + 1, T)).length cap1)] 30)) hk6 (by decide))
            have HY6 := Lib.hid (blk_keeps (HBY.out.1.alloc (.cells #[(.slice a1 (encB ((k : Int) + 1, T)).length cap1)] 30)) (HSA5.out.oa.alloc (.cells #[(.slice a1 (encB ((k : Int) + 1, T)).length cap1)] 30)) hk6 (by decide))
            have HO26 := Lib.hid (own_keeps (HO25.out.alloc (.cells #[(.slice a1 (encB ((k : Int) + 1, T)).length cap1)] 30)) hk6 (apart_ty (HO25.out.alloc (.cells #[(.slice a1 (encB ((k : Int) + 1, T)).length cap1)] 30)) (HSA5.out.oa.alloc (.cells #[(.slice a1 (encB ((k : Int) + 1, T)).length cap1)] 30)) (by decide)))
            clear ho6 hk6 hb5
            go_wp2_with (at_builtin; refine app_bb _ rfl HSA6.out.ob rfl rfl rfl rfl (by have := HLEN.out; omega) HSA6.out.bel.size ?_; intro b' w7 ho7 hk7; refine Hid.out ?_)
            refine Lib.hid ?_
            have hb6 := bal (Below.refl w6.heap.size w6) (.cells #[(.slice a2 (encB ((k : Int) + 1, T)).length cap2)] 30)
            have HSA7 := Lib.hid ((HSA6.out.below hb6).addB (q := ⟨(.slice a2 (encB ((k : Int) + 1, T)).length cap2), (encB ((k : Int) + 1, T)).length, bytesV (encB ((k : Int) + 1, T))⟩) (own_keeps ((own_weak HO26.out HLE.out.1).alloc (.cells #[(.slice a2 (encB ((k : Int) + 1, T)).length cap2)] 30)) hk7 (apart_ty (HO26.out.alloc (.cells #[(.slice a2 (encB ((k : Int) + 1, T)).length cap2)] 30)) (HSA6.out.ob.alloc (.cells #[(.slice a2 (encB ((k : Int) + 1, T)).length cap2)] 30)) (by decide))) (fun i r hr => apart_new (HSA2.out.fw.1 i r hr) HO26.out (Nat.le_refl _)) ho7 hk7)
            have HX7 := Lib.hid (blk_keeps (HX6.out.alloc (.cells #[(.slice a2 (encB ((k : Int) + 1, T)).length cap2)] 30)) (HSA6.out.ob.alloc (.cells #[(.slice a2 (encB ((k : Int) + 1, T)).length cap2)] 30)) hk7 (by decide))
            have HY7 := Lib.hid (blk_keeps (HY6.out.alloc (.cells #[(.slice a2 (encB ((k : Int) + 1, T)).length cap2)] 30)) (HSA6.out.ob.alloc (.cells #[(.slice a2 (encB ((k : Int) + 1, T)).length cap2)] 30)) hk7 (by decide))
            clear ho7 hk7 hb6
            have e0 := HY7.out.cell 0
            have e1 := HY7.out.cell 1
            have e2 := HY7.out.cell 2
            go_wp2_with (at_builtin; refine app_rc ((k : Int) + 1, T) HSA7.out.oc rfl rfl rfl rfl (by have := HLEN.out; omega) HSA7.out.bel.size ?_; intro c' w8 ho8 hk8; refine Hid.out ?_)
            refine Lib.hid ?_
            have hb7 := bal (Below.refl w7.heap.size w7) (.cells #[.int .i64 ((k : Int) + 1), .int .i64 1, .string T] 29)
            have HSA8 := Lib.hid ((HSA7.out.below hb7).addC (p := ((k : Int) + 1, T)) ho8 hk8)
            have HX8 := Lib.hid ((HX7.out.alloc (.cells #[.int .i64 ((k : Int) + 1), .int .i64 1, .string T] 29)).grown hk8.by (fun e => by have h1 := (own_ty HST'.out.oc e.symm).2.1; omega))
            clear ho8 hk8 hb7 e0 e1 e2
            have e0 := HX8.out.cell 0
            have e1 := HX8.out.cell 1
            have e2 := HX8.out.cell 2
            go_wp2_with (at_builtin; refine app_rc ((k : Int) + 1, T) HSA8.out.od rfl rfl rfl rfl (by have := HLEN.out; omega) HSA8.out.bel.size ?_; intro d' w9 ho9 hk9)
            have hb8 := bal (Below.refl w8.heap.size w8) (.cells #[.int .i64 ((k : Int) + 1), .int .i64 1, .string T] 29)
            have HSA9 := Lib.hid ((HSA8.out.below hb8).addD (p := ((k : Int) + 1, T)) ho9 hk9)
            clear ho9 hk9 hb8 e0 e1 e2
            go_roundw
            case rel => exact ⟨m + 1, _, _, R' ++ [((k : Int) + 1, T)], by omega, by go_num, by rw [List.length_append, hR']; simp; omega, hc1'.snoc _ ((k : Int) + 1, T), hc2'.snoc _ ((k : Int) + 1, T), fun p hp => by
              rcases List.mem_append.1 hp with h | h
              · exact hok' p h
              · obtain rfl := List.mem_singleton.1 h
                exact HPK.out, HSA9.out⟩
            case measure => simp [intOf]; omega
          · have hm3' : ¬ (m : Int) < 3 := by omega
            obtain rfl : m = 3 := by omega
            go_wp2
            exact ⟨⟨k + 1, rows', ws', R', by omega, by go_num, by omega, hc1', hc2', hok', HST'.out⟩, by simp [intOf]; omega⟩
      · have hbi : ¬ (100 : Int) < (et.size : Int) := by omega
        have hT : et.size ≤ 100 := by omega
        go_upto_region 12 with fail
        generalize et = T at *
        clear q1 hbig hbi hsz hl1 hl2
        go_wp2
        go_loopw [4, 5, 6, 7, 10] (fun a b c d j wx => ∃ (m : Nat) (rows' ws' : List Rw) (R' : List Rc), m ≤ 3 ∧ j = .int .i64 (m : Int) ∧ R'.length = 3 * k + m ∧ Cont rows' R' ∧ Cont ws' R' ∧ (∀ p ∈ R', okP p) ∧ Own1 w1 rows' ws' R' R' a b c d wx) (fun _ _ _ _ j _ => 3 - (intOf j).toNat)
        case atStart => exact ⟨0, rows, ws, R, by omega, rfl, hR, hc1, hc2, hok, HST.out⟩
        case round =>
          obtain ⟨m, rows', ws', R', hm, rfl, hR', hc1', hc2', hok', hst'⟩ := hrel
          have HST' := Lib.hid hst'
          clear hst'
          by_cases hm3 : m < 3
          · have HPK := Lib.hid (show okP ((k : Int) + 1, T) from ⟨by simp only; omega, by simp only; omega, hT⟩)
            have hm3' : (m : Int) < 3 := by omega
            obtain ⟨rk, hrd⟩ := read_one ((k : Int) + 1, T) HPK.out
            have HEN := Lib.hid (fun w' => encode_any ((k : Int) + 1) 1 T w' (by have := HPK.out.2.2; unfold maxLen; simp only at this; omega))
            have HREN := Lib.hid (fun w' => rencode_any ((k : Int) + 1) 1 T w' (by have := HPK.out.2.2; unfold maxLen; simp only at this; omega))
            have he := enc_one ((k : Int) + 1, T) HPK.out
            simp only at he
            rw [he.1, he.2] at HEN HREN
            have HRD := Lib.hid (fun v' w' (h : Sees w' v' (bytesV (encB ((k : Int) + 1, T)))) => read_any (encB ((k : Int) + 1, T)) v' 0 w' h)
            rw [hrd] at HRD
            clear he hrd
            go_upto_region 16 with fail
            have HBX := Lib.hid (BoxR.new wr ((k : Int) + 1, T))
            have HSA := Lib.hid (HST'.out.below HBX.out.2)
            go_wp2_with fail
            refine (HEN.out _).mono ?_
            rintro e w2 ⟨v1, rfl, ho1, hb2⟩
            obtain ⟨a1, cap1, rfl⟩ := own_len ho1
            have HO1 := Lib.hid ho1
            have HBX2 := Lib.hid (HBX.out.go hb2)
            have HSA2 := Lib.hid (HSA.out.below hb2)
            clear ho1 hb2
            have e0 := HBX2.out.1.cell 0
            have e1 := HBX2.out.1.cell 1
            have e2 := HBX2.out.1.cell 2
            go_wp2_with fail
            refine (HREN.out _).mono ?_
            rintro e w3 ⟨v2, rfl, ho2, hb3⟩
            obtain ⟨a2, cap2, rfl⟩ := own_len ho2
            have HO2 := Lib.hid ho2
            have HBX3 := Lib.hid (HBX2.out.go hb3)
            have HSA3 := Lib.hid (HSA2.out.below hb3)
            have HO13 := Lib.hid (own_below HO1.out hb3 (Nat.le_refl _))
            clear ho2 hb3 e0 e1 e2
            go_wp2_with fail
            refine (HRD.out _ _ (Sees.of_own HO13.out)).mono ?_
            rintro e w4 ⟨rfl, hb4⟩
            have HBX4 := Lib.hid (HBX3.out.go hb4)
            have HSA4 := Lib.hid (HSA3.out.below hb4)
            have HO14 := Lib.hid (own_below HO13.out hb4 (Nat.le_refl _))
            have HO24 := Lib.hid (own_below HO2.out hb4 (Nat.le_refl _))
            clear hb4
            go_upto_region 21 with fail
            have HBY := Lib.hid (BoxR.new w4 ((k : Int) + 1, T))
            have hb45 : Below w4.heap.size w4 (w4.alloc (.cells #[.int .i64 ((k : Int) + 1), .int .i64 1, .string T] 29)) := bal (Below.refl _ _) _
            have HX5 := Lib.hid (HBX4.out.go hb45).1
            have HSA5 := Lib.hid (HSA4.out.below hb45)
            have HO15 := Lib.hid (own_below HO14.out hb45 (Nat.le_refl _))
            have HO25 := Lib.hid (own_below HO24.out hb45 (Nat.le_refl _))
            have HG4 := Lib.hid hb45.size
            clear hb45
            generalize w4.alloc (.cells #[.int .i64 ((k : Int) + 1), .int .i64 1, .string T] 29) = w5 at *
            have HLEN := Lib.hid (show rows'.length ≤ 1000 ∧ ws'.length ≤ 1000 ∧ R'.length ≤ 1000 from ⟨by rw [hc1'.len]; omega, by rw [hc2'.len]; omega, by omega⟩)
            have HLE := Lib.hid (show w1.heap.size ≤ w2.heap.size ∧ w1.heap.size ≤ (wr.alloc (.cells #[.int .i64 ((k : Int) + 1), .int .i64 1, .string T] 29)).heap.size from ⟨HSA2.out.bel.size, HSA.out.bel.size⟩)
            go_wp2_with (at_builtin; refine app_bb _ rfl HSA5.out.oa rfl rfl rfl rfl (by have := HLEN.out; omega) HSA5.out.bel.size ?_; intro a' w6 ho6 hk6; refine Hid.out ?_)
            refine Lib.hid ?_
            have hb5 := bal (Below.refl w5.heap.size w5) (.cells #[(.slice a1 (encB ((k : Int) + 1, T)).length cap1)] 30)
            have HSA6 := Lib.hid ((HSA5.out.below hb5).addA (q := ⟨(.slice a1 (encB ((k : Int) + 1, T)).length cap1), (encB ((k : Int) + 1, T)).length, bytesV (encB ((k : Int) + 1, T))⟩) (own_keeps ((own_weak HO15.out HLE.out.2).alloc (.cells #[(.slice a1 (encB ((k : Int) + 1, T)).length cap1)] 30)) hk6 (apart_ty (HO15.out.alloc (.cells #[(.slice a1 (encB ((k : Int) + 1, T)).length cap1)] 30)) (HSA5.out.oa.alloc (.cells #[(.slice a1 (encB ((k : Int) + 1, T)).length cap1)] 30)) (by decide))) (fun i r hr => apart_new (HSA.out.fr.1 i r hr) HO15.out (Nat.le_refl _)) ho6 hk6)
            have HX6 := Lib.hid (blk_keeps (HX5.out.alloc (.cells #[(.slice a1 (encB ((k : Int) + 1, T)).length cap1)] 30)) (HSA5.out.oa.alloc (.cells #[(.slice a1 (encB ((k : Int) + 1, T)).length cap1)] 30)) hk6 (by decide))
            have HY6 := Lib.hid (blk_keeps (HBY.out.1.alloc (.cells #[(.slice a1 (encB ((k : Int) + 1, T)).length cap1)] 30)) (HSA5.out.oa.alloc (.cells #[(.slice a1 (encB ((k : Int) + 1, T)).length cap1)] 30)) hk6 (by decide))
            have HO26 := Lib.hid (own_keeps (HO25.out.alloc (.cells #[(.slice a1 (encB ((k : Int) + 1, T)).length cap1)] 30)) hk6 (apart_ty (HO25.out.alloc (.cells #[(.slice a1 (encB ((k : Int) + 1, T)).length cap1)] 30)) (HSA5.out.oa.alloc (.cells #[(.slice a1 (encB ((k : Int) + 1, T)).length cap1)] 30)) (by decide)))
            clear ho6 hk6 hb5
            go_wp2_with (at_builtin; refine app_bb _ rfl HSA6.out.ob rfl rfl rfl rfl (by have := HLEN.out; omega) HSA6.out.bel.size ?_; intro b' w7 ho7 hk7; refine Hid.out ?_)
            refine Lib.hid ?_
            have hb6 := bal (Below.refl w6.heap.size w6) (.cells #[(.slice a2 (encB ((k : Int) + 1, T)).length cap2)] 30)
            have HSA7 := Lib.hid ((HSA6.out.below hb6).addB (q := ⟨(.slice a2 (encB ((k : Int) + 1, T)).length cap2), (encB ((k : Int) + 1, T)).length, bytesV (encB ((k : Int) + 1, T))⟩) (own_keeps ((own_weak HO26.out HLE.out.1).alloc (.cells #[(.slice a2 (encB ((k : Int) + 1, T)).length cap2)] 30)) hk7 (apart_ty (HO26.out.alloc (.cells #[(.slice a2 (encB ((k : Int) + 1, T)).length cap2)] 30)) (HSA6.out.ob.alloc (.cells #[(.slice a2 (encB ((k : Int) + 1, T)).length cap2)] 30)) (by decide))) (fun i r hr => apart_new (HSA2.out.fw.1 i r hr) HO26.out (Nat.le_refl _)) ho7 hk7)
            have HX7 := Lib.hid (blk_keeps (HX6.out.alloc (.cells #[(.slice a2 (encB ((k : Int) + 1, T)).length cap2)] 30)) (HSA6.out.ob.alloc (.cells #[(.slice a2 (encB ((k : Int) + 1, T)).length cap2)] 30)) hk7 (by decide))
            have HY7 := Lib.hid (blk_keeps (HY6.out.alloc (.cells #[(.slice a2 (encB ((k : Int) + 1, T)).length cap2)] 30)) (HSA6.out.ob.alloc (.cells #[(.slice a2 (encB ((k : Int) + 1, T)).length cap2)] 30)) hk7 (by decide))
            clear ho7 hk7 hb6
            have e0 := HY7.out.cell 0
            have e1 := HY7.out.cell 1
            have e2 := HY7.out.cell 2
            go_wp2_with (at_builtin; refine app_rc ((k : Int) + 1, T) HSA7.out.oc rfl rfl rfl rfl (by have := HLEN.out; omega) HSA7.out.bel.size ?_; intro c' w8 ho8 hk8; refine Hid.out ?_)
            refine Lib.hid ?_
            have hb7 := bal (Below.refl w7.heap.size w7) (.cells #[.int .i64 ((k : Int) + 1), .int .i64 1, .string T] 29)
            have HSA8 := Lib.hid ((HSA7.out.below hb7).addC (p := ((k : Int) + 1, T)) ho8 hk8)
            have HX8 := Lib.hid ((HX7.out.alloc (.cells #[.int .i64 ((k : Int) + 1), .int .i64 1, .string T] 29)).grown hk8.by (fun e => by have h1 := (own_ty HST'.out.oc e.symm).2.1; omega))
            clear ho8 hk8 hb7 e0 e1 e2
            have e0 := HX8.out.cell 0
            have e1 := HX8.out.cell 1
            have e2 := HX8.out.cell 2
            go_wp2_with (at_builtin; refine app_rc ((k : Int) + 1, T) HSA8.out.od rfl rfl rfl rfl (by have := HLEN.out; omega) HSA8.out.bel.size ?_; intro d' w9 ho9 hk9)
            have hb8 := bal (Below.refl w8.heap.size w8) (.cells #[.int .i64 ((k : Int) + 1), .int .i64 1, .string T] 29)
            have HSA9 := Lib.hid ((HSA8.out.below hb8).addD (p := ((k : Int) + 1, T)) ho9 hk9)
            clear ho9 hk9 hb8 e0 e1 e2
            go_roundw
            case rel => exact ⟨m + 1, _, _, R' ++ [((k : Int) + 1, T)], by omega, by go_num, by rw [List.length_append, hR']; simp; omega, hc1'.snoc _ ((k : Int) + 1, T), hc2'.snoc _ ((k : Int) + 1, T), fun p hp => by
              rcases List.mem_append.1 hp with h | h
              · exact hok' p h
              · obtain rfl := List.mem_singleton.1 h
                exact HPK.out, HSA9.out⟩
            case measure => simp [intOf]; omega
          · have hm3' : ¬ (m : Int) < 3 := by omega
            obtain rfl : m = 3 := by omega
            go_wp2
            exact ⟨⟨k + 1, rows', ws', R', by omega, by go_num, by omega, hc1', hc2', hok', HST'.out⟩, by simp [intOf]; omega⟩
    · have hl1 : ¬ (k : Int) < (l.length : Int) := by omega
      clear hlt
      obtain ⟨pa, ca, rfl⟩ := own_len HST.out.oa
      obtain ⟨pb, cb, rfl⟩ := own_len HST.out.ob
      obtain ⟨pc, cc, rfl⟩ := own_len HST.out.oc
      obtain ⟨pd, cd, rfl⟩ := own_len HST.out.od
      have HC1 := Lib.hid hc1
      have HC2 := Lib.hid hc2
      have HOK := Lib.hid hok
      have HRL := Lib.hid (show R.length ≤ 90 from by omega)
      clear hc1 hc2 hok hR
      have hr90 : rows.length ≤ 90 := by rw [HC1.out.len]; exact HRL.out
      go_wp2
      go_loopw [19] (fun i wx => ∃ j : Nat, j ≤ rows.length ∧ i = .int .i64 (j : Int) ∧ Own1 w1 rows ws R R (.slice pa rows.length ca) (.slice pb ws.length cb) (.slice pc R.length cc) (.slice pd R.length cd) wx) (fun i _ => rows.length - (intOf i).toNat)
      case atStart => exact ⟨0, Nat.zero_le _, rfl, HST.out⟩
      case round =>
        obtain ⟨j, hj, rfl, hst2⟩ := hrel
        have HS2 := Lib.hid hst2
        clear hst2
        by_cases hjl : j < rows.length
        · have HJL := Lib.hid hjl
          have hjR : j < R.length := by rw [← HC1.out.len]; exact hjl
          have hjW : j < ws.length := by rw [HC2.out.len]; exact hjR
          obtain ⟨va, vb, hlk⟩ := HS2.out.look HC1.out HC2.out (List.getElem?_eq_getElem hjR)
          generalize R[j] = p at *
          obtain ⟨⟨ga, rfl, x1, la⟩, ⟨gb, rfl, x2, lb⟩, ⟨gc, rfl, x3, x4, x5, lc⟩, ⟨gd, rfl, x6, x7, x8, ld⟩, sa, sb⟩ := hlk
          have HBY := Lib.hid (fun w' (h : Below wr.heap.size wr w') => bytes_yes (encB p) va vb w' (sa.below h) (sb.below h))
          have hnq := rec_neq p.1 1 p.2
          obtain ⟨p1, p2⟩ := p
          simp only at x3 x5 x6 x8 hnq
          have hK0 : wr.drew.cell? ⟨ga, j, none⟩ = some va ∧ wr.drew.cell? ⟨gb, j, none⟩ = some vb ∧ wr.drew.cell? ⟨gc, j * 3, none⟩ = some (.int .i64 p1) ∧ wr.drew.cell? ⟨gc, j * 3 + 1, none⟩ = some (.int .i64 1) ∧ wr.drew.cell? ⟨gc, j * 3 + 2, none⟩ = some (.string p2) ∧ wr.drew.cell? ⟨gd, j * 3, none⟩ = some (.int .i64 p1) ∧ wr.drew.cell? ⟨gd, j * 3 + 1, none⟩ = some (.int .i64 1) ∧ wr.drew.cell? ⟨gd, j * 3 + 2, none⟩ = some (.string p2) ∧ Below wr.heap.size wr wr.drew := ⟨x1, x2, x3, x4, x5, x6, x7, x8, (Below.refl _ _).drew⟩
          clear sa sb
          go_upto_region 28 with fail
          go_region_held3 (fun w' => w'.cell? ⟨ga, j, none⟩ = some va ∧ w'.cell? ⟨gb, j, none⟩ = some vb ∧ w'.cell? ⟨gc, j * 3, none⟩ = some (.int .i64 p1) ∧ w'.cell? ⟨gc, j * 3 + 1, none⟩ = some (.int .i64 1) ∧ w'.cell? ⟨gc, j * 3 + 2, none⟩ = some (.string p2) ∧ w'.cell? ⟨gd, j * 3, none⟩ = some (.int .i64 p1) ∧ w'.cell? ⟨gd, j * 3 + 1, none⟩ = some (.int .i64 1) ∧ w'.cell? ⟨gd, j * 3 + 2, none⟩ = some (.string p2) ∧ Below wr.heap.size wr w')
            (with_reducible (first | assumption | exact hK0 | exact hK1 | fail))
            (first | (go_at_call 8; (with_reducible refine (HBY.out _ ((Below.refl _ _).drew)).mono ?_); rintro e w2 ⟨rfl, hb2⟩; have hb3 := bnx (Below.drew (Below.refl wr.heap.size wr)) hb2; have hK1 : w2.cell? ⟨ga, j, none⟩ = some va ∧ w2.cell? ⟨gb, j, none⟩ = some vb ∧ w2.cell? ⟨gc, j * 3, none⟩ = some (.int .i64 p1) ∧ w2.cell? ⟨gc, j * 3 + 1, none⟩ = some (.int .i64 1) ∧ w2.cell? ⟨gc, j * 3 + 2, none⟩ = some (.string p2) ∧ w2.cell? ⟨gd, j * 3, none⟩ = some (.int .i64 p1) ∧ w2.cell? ⟨gd, j * 3 + 1, none⟩ = some (.int .i64 1) ∧ w2.cell? ⟨gd, j * 3 + 2, none⟩ = some (.string p2) ∧ Below wr.heap.size wr w2 := ⟨(hb3.cell (p := ⟨ga, j, none⟩) la).trans x1, (hb3.cell (p := ⟨gb, j, none⟩) lb).trans x2, (hb3.cell (p := ⟨gc, j * 3, none⟩) lc).trans x3, (hb3.cell (p := ⟨gc, j * 3 + 1, none⟩) lc).trans x4, (hb3.cell (p := ⟨gc, j * 3 + 2, none⟩) lc).trans x5, (hb3.cell (p := ⟨gd, j * 3, none⟩) ld).trans x6, (hb3.cell (p := ⟨gd, j * 3 + 1, none⟩) ld).trans x7, (hb3.cell (p := ⟨gd, j * 3 + 2, none⟩) ld).trans x8, hb3⟩) | fail)
          go_wp2_with fail
          go_roundw
          case rel => exact ⟨j + 1, HJL.out, by have := HJL.out; have := HC1.out.len; have := HRL.out; go_num, HS2.out.below hb3⟩
          case measure => have := HJL.out; have := HC1.out.len; have := HRL.out; simp [intOf]; omega
        · have hjl' : ¬ (j : Int) < (rows.length : Int) := by omega
          have HS3 := Lib.hid HS2.out.to3
          have HBN := Lib.hid (HC1.out.bnd HOK.out)
          have HR90 := Lib.hid (show rows.length ≤ 90 from by rw [HC1.out.len]; exact HRL.out)

          clear HS2 hjl hj
          go_wp2
          go_loopw [20] (fun i wx => ∃ (q : Nat) (rs : List Rw), q ≤ rows.length ∧ i = .int .i64 (q : Int) ∧ rs.length = rows.length ∧ Bnd rs ∧ Full rs q ∧ Own3 w1 rs R (.slice pa rows.length ca) (.slice pc R.length cc) (.slice pd R.length cd) wx) (fun i _ => rows.length - (intOf i).toNat)
          case atStart => exact ⟨0, rows, Nat.zero_le _, rfl, rfl, HBN.out, fun j r h _ => absurd h (by omega), HS3.out⟩
          case round =>
            obtain ⟨q, rs, hq, rfl, hrs, hbn, hfu, hst3⟩ := hrel
            have HS4 := Lib.hid hst3
            have HBN2 := Lib.hid hbn
            have HFU := Lib.hid hfu
            have HRS := Lib.hid hrs
            clear hst3 hbn hfu
            by_cases hql : q < rows.length
            · have HQL := Lib.hid hql
              have hqr : q < rs.length := by omega
              obtain ⟨r, hr⟩ : ∃ r, rs[q]? = some r := ⟨_, List.getElem?_eq_getElem hqr⟩
              have hrb := HBN2.out q r hr
              obtain ⟨rv, rn, rx⟩ := r
              simp only at hrb
              obtain ⟨gr, cr, hrv, hgB, hgr⟩ := own_form (HS4.out.fr.1 q _ hr) hrb.1
              simp only at hrv
              subst hrv
              have HR0 := Lib.hid hr
              have HWR := Lib.hid (wrap_one q (by have := HR90.out; omega))
              have hr90 := HR90.out
              have hrb2 := hrb.2
              have hbq := bv_num (show 1 + q < 256 from by have := HR90.out; omega)
              rw [show (((1 + q : Nat)) : Int) = 1 + (q : Int) from by omega] at hbq
              have HBQ := Lib.hid hbq
              have HRB := Lib.hid hrb
              obtain ⟨ga, hpa, _, _⟩ := own_cellAt (by have := HS4.out.oa; rw [hrs] at this; exact this) (by omega)
              subst hpa
              clear hr hrb hbq hrs
              go_wp2
              go_loopw [21] (fun i wx => ∃ (m : Nat) (rt : List Rw) (xs : List Value), m ≤ rn ∧ i = .int .i64 (m : Int) ∧ rt.length = rows.length ∧ Bnd rt ∧ Full rt q ∧ rt[q]? = some ⟨.slice (some ⟨gr, 0, none⟩) rn cr, rn, xs⟩ ∧ xs.take m = List.replicate m (.int .u8 (1 + (q : Int))) ∧ Own3 w1 rt R (.slice (some ⟨ga, 0, none⟩) rows.length ca) (.slice pc R.length cc) (.slice pd R.length cd) wx) (fun i _ => rn - (intOf i).toNat)
              case atStart => exact ⟨0, rs, rx, Nat.zero_le _, rfl, HRS.out, HBN2.out, HFU.out, HR0.out, rfl, HS4.out⟩
              case round =>
                obtain ⟨m, rt, xs, hm, rfl, hrt, hbt, hft, hri, htk, hst5⟩ := hrel
                have HS5 := Lib.hid hst5
                have HBT := Lib.hid hbt
                have HFT := Lib.hid hft
                have HRI := Lib.hid hri
                have HTK := Lib.hid htk
                have HRT := Lib.hid hrt
                obtain ⟨ga', hpa, hca, _⟩ := own_cellAt (by have := HS5.out.oa; rw [hrt] at this; exact this) (show 0 < rows.length by omega)
                obtain rfl : ga = ga' := by simpa using hpa
                have x1 := hca q (.slice (some ⟨gr, 0, none⟩) rn cr) (by rw [List.getElem?_map, hri]; rfl)
                have hro := HS5.out.fr.1 q _ hri
                simp only at hro
                have hxl := own_xs hro
                by_cases hmn : m < rn
                · have HMN := Lib.hid hmn
                  have z1 := own_frz hro m
                  obtain ⟨y1, hy1⟩ : ∃ y, wr.cell? ⟨gr, m, none⟩ = some y := by
                    obtain ⟨g', hg', hc', _⟩ := own_cellAt hro (by omega)
                    cases hg'
                    exact ⟨_, hc' m xs[m] (List.getElem?_eq_getElem (by omega))⟩
                  have HPUT := Lib.hid (HS5.out.put hri m (.int .u8 (1 + (q : Int))))
                  have HXL := Lib.hid hxl
                  clear hpa hca hro hst5 hbt hft hri htk hxl hrt
                  go_wp2
                  refine ⟨⟨m + 1, rt.set q ⟨.slice (some ⟨gr, 0, none⟩) rn cr, rn, xs.set m (.int .u8 (1 + (q : Int)))⟩, xs.set m (.int .u8 (1 + (q : Int))), HMN.out, by have := HMN.out; have := HRB.out; go_num, by rw [List.length_set]; exact HRT.out, HBT.out.set HRI.out _, HFT.out.set _, ?_, rep_set (by have := HXL.out; have := HMN.out; omega) HTK.out, HPUT.out⟩, by have := HMN.out; have := HRB.out; simp [intOf]; omega⟩
                  rw [List.getElem?_set_self (by have := HRT.out; omega)]
                · obtain rfl : m = rn := by omega
                  have hfull : Full rt (q + 1) := by
                    intro j r hj hr
                    by_cases e : j = q
                    · subst e
                      obtain rfl := Option.some.inj (hr.symm.trans hri)
                      simp only
                      rw [HBQ.out, ← htk, ← hxl, List.take_length]
                    · exact hft j r (by omega) hr
                  have HFULL := Lib.hid hfull
                  clear hpa hca hro hst5 hbt hft hri htk hxl hfull hrt
                  go_wp2
                  exact ⟨⟨q + 1, rt, HQL.out, by have := HQL.out; have := HR90.out; go_num, HRT.out, HBT.out, HFULL.out, HS5.out⟩, by have := HQL.out; have := HR90.out; simp [intOf]; omega⟩
            · obtain rfl : q = rows.length := by omega
              have hqf : ¬ ((rows.length : Nat) : Int) < ((rows.length : Nat) : Int) := by omega
              have hforms : ∀ (j : Nat) (r : Rw), rs[j]? = some r → ∃ g cap, r.v = .slice (some ⟨g, 0, none⟩) r.n cap := fun j r hr => by
                obtain ⟨g, cap, hv, _, _⟩ := own_form (HS4.out.fr.1 j r hr) (HBN2.out j r hr).1
                exact ⟨g, cap, hv⟩
              have hlens : ∀ (j : Nat) (r : Rw), rs[j]? = some r → r.xs.length = r.n := fun j r hr => own_xs (HS4.out.fr.1 j r hr)
              have HFORM := Lib.hid hforms
              have HLENS := Lib.hid hlens
              have HT4 := Lib.hid HS4.out.to4
              clear hql hq hforms hlens HS4 hrs
              go_wp2
              go_loopw [22, 23] (fun mm i wx => ∃ (q : Nat) (mores : List Rw), q ≤ rows.length ∧ i = .int .i64 (q : Int) ∧ Own4 w1 rs mores q R (.slice pa rows.length ca) (.slice pc R.length cc) (.slice pd R.length cd) mm wx) (fun _ i _ => rows.length - (intOf i).toNat)
              case atStart => exact ⟨0, [], Nat.zero_le _, rfl, HT4.out⟩
              case round =>
                obtain ⟨q, mores, hq, rfl, hst4⟩ := hrel
                have HS5 := Lib.hid hst4
                clear hst4
                by_cases hql : q < rows.length
                · have HQL := Lib.hid hql
                  have hqr : q < rs.length := by rw [HRS.out]; exact hql
                  obtain ⟨r, hr⟩ : ∃ r, rs[q]? = some r := ⟨_, List.getElem?_eq_getElem hqr⟩
                  have hrb := HBN2.out q r hr
                  have HRL2 := Lib.hid (HLENS.out q r hr)
                  have HRV := Lib.hid (HFORM.out q r hr)
                  have HR0 := Lib.hid hr
                  obtain ⟨gr, cr, hrv⟩ := HRV.out
                  obtain ⟨ga, hpa, hca, _⟩ := own_cellAt (by have := HS5.out.oa; rw [HRS.out] at this; exact this) (show 0 < rows.length by omega)
                  have x1 := hca q r.v (by rw [List.getElem?_map, hr]; rfl)
                  have HO5 := Lib.hid (HS5.out.to5 hr)
                  have hbq := bv_num (show 255 - q < 256 from by omega)
                  rw [show (((255 - q : Nat)) : Int) = 255 - (q : Int) from by omega] at hbq
                  have HBQ := Lib.hid hbq
                  have hrb2 := hrb.2
                  rw [hrv] at x1 HO5
                  subst hpa
                  clear hr hrb hbq hca
                  go_wp2
                  go_loopw [24, 25] (fun u i wx => ∃ k : Nat, k ≤ 64 ∧ i = .int .i64 (k : Int) ∧ Own5 w1 rs mores q R (.slice (some ⟨ga, 0, none⟩) rows.length ca) (.slice pc R.length cc) (.slice pd R.length cd) u22 r k u wx) (fun _ i _ => 64 - (intOf i).toNat)
                  case atStart => exact ⟨0, by omega, rfl, HO5.out⟩
                  case round =>
                    obtain ⟨n, hn, rfl, hst5⟩ := hrel
                    have HS6 := Lib.hid hst5
                    clear hst5
                    by_cases hn64 : n < 64
                    · have hn64' : (n : Int) < 64 := by omega
                      go_wp2_with (at_builtin; refine app_u8k (.int .u8 (255 - (q : Int))) rfl HS6.out.ou rfl rfl rfl rfl (by omega) HS6.out.bel.size ?_; intro u' w6 ho6 hk6)
                      have HS7 := Lib.hid ((HS6.out.below (bal (Below.refl _ _) (.cells #[.int .u8 (255 - (q : Int))] 5))).step HR0.out HRL2.out HRV.out (by rw [List.replicate_succ', ← List.append_assoc, HBQ.out]; rw [HBQ.out] at ho6; exact ho6) hk6)
                      clear ho6 hk6
                      go_roundw
                      case rel => exact ⟨n + 1, by omega, by go_num, HS7.out⟩
                      case measure => simp [intOf]; omega
                    · obtain rfl : n = 64 := by omega
                      obtain ⟨pu, cu, rfl⟩ := own_len HS6.out.ou
                      have hml := HS6.out.ml
                      have HML := Lib.hid hml
                      clear hml
                      go_wp2_with (at_builtin; refine app_bb _ rfl HS6.out.om rfl rfl rfl rfl (by have := HML.out; omega) HS6.out.bel.size ?_; intro m' w7 ho7 hk7)
                      have HS8 := Lib.hid ((HS6.out.below (bal (Below.refl _ _) (.cells #[.slice pu (r.n + 64) cu] 30))).to4 HR0.out ho7 hk7)
                      clear ho7 hk7
                      go_roundw
                      case rel => exact ⟨q + 1, _, HQL.out, by go_num, HS8.out⟩
                      case measure => have := HQL.out; simp [intOf]; omega
                · obtain rfl : q = rows.length := by omega
                  have hqf2 : ¬ ((rows.length : Nat) : Int) < ((rows.length : Nat) : Int) := by omega
                  obtain ⟨pm, cm, rfl⟩ := own_len HS5.out.om
                  have HML := Lib.hid HS5.out.ml
                  have hml90 : mores.length ≤ 90 := by rw [HML.out]; exact hr90
                  clear hql hq
                  go_wp2
                  go_loopw [26] (fun i wx => ∃ q : Nat, q ≤ mores.length ∧ i = .int .i64 (q : Int) ∧ Own4 w1 rs mores rows.length R (.slice pa rows.length ca) (.slice pc R.length cc) (.slice pd R.length cd) (.slice pm mores.length cm) wx) (fun i _ => mores.length - (intOf i).toNat)
                  case atStart => exact ⟨0, Nat.zero_le _, rfl, HS5.out⟩
                  case round =>
                    obtain ⟨q, hq, rfl, hst6⟩ := hrel
                    have HS6 := Lib.hid hst6
                    clear hst6
                    by_cases hqm : q < mores.length
                    · have HQM := Lib.hid hqm
                      have hqrows : q < rows.length := by rw [← HML.out]; exact hqm
                      obtain ⟨r, hr⟩ : ∃ r, rs[q]? = some r := ⟨_, List.getElem?_eq_getElem (by rw [HRS.out]; exact hqrows)⟩
                      obtain ⟨s, hs⟩ : ∃ s, mores[q]? = some s := ⟨_, List.getElem?_eq_getElem hqm⟩
                      have hrb := HBN2.out q r hr
                      obtain ⟨gr, cr, hrv⟩ := HFORM.out q r hr
                      have hrl := HLENS.out q r hr
                      obtain ⟨ho, hsn, hsx⟩ := HS6.out.fm q r s hqrows hr hs
                      have hfs := HS6.out.fs q r hqrows hr
                      have hxs := HFU.out q r hqrows hr
                      obtain ⟨ga, hpa, hca, _⟩ := own_cellAt (by have := HS6.out.oa; rw [HRS.out] at this; exact this) (show 0 < rows.length by omega)
                      obtain ⟨gm, hpm, hcm2, _⟩ := own_cellAt HS6.out.om (show 0 < mores.length by omega)
                      have x1 := hca q r.v (by rw [List.getElem?_map, hr]; rfl)
                      have x2 := hcm2 q s.v (by rw [List.getElem?_map, hs]; rfl)
                      obtain ⟨gs, cs, hsv, _, _⟩ := own_form ho (by omega)
                      have hob : q < R.length := by rw [← HC1.out.len]; exact hqrows
                      obtain ⟨gc, hpc, hcc, _⟩ := own_cellAt HS6.out.oc (show 0 < R.length by omega)
                      obtain ⟨gd, hpd, hcd, _⟩ := own_cellAt HS6.out.od (show 0 < R.length by omega)
                      obtain ⟨y1, y2, y3⟩ := recC_at R q R[q] (List.getElem?_eq_getElem hob)
                      have z1 := hcc _ _ y1
                      have z2 := hcc _ _ y2
                      have z3 := hcc _ _ y3
                      have z4 := hcd _ _ y1
                      have z5 := hcd _ _ y2
                      have z6 := hcd _ _ y3
                      have hnq := rec_neq R[q].1 1 R[q].2
                      generalize R[q] = p at *
                      obtain ⟨p1, p2⟩ := p
                      simp only at z1 z3 z4 z6 hnq
                      have b1 := bv_num (show 1 + q < 256 from by omega)
                      have b2 := bv_num (show 255 - q < 256 from by omega)
                      rw [show (((1 + q : Nat)) : Int) = 1 + (q : Int) from by omega] at b1
                      rw [show (((255 - q : Nat)) : Int) = 255 - (q : Int) from by omega] at b2
                      rw [hrv] at x1 hfs
                      rw [hsv] at x2 ho
                      have HC5 := Lib.hid (show ∀ k, k < r.n → wr.cell? ⟨gr, k, none⟩ = some (.int .u8 (1 + (q : Int))) from fun k hk => sees_cells hfs hrl hrb.1 k _ (by rw [hxs, List.getElem?_replicate_of_lt hk, b1]))
                      have HC6 := Lib.hid (show ∀ k, k < r.n → wr.cell? ⟨gs, k, none⟩ = some (.int .u8 (1 + (q : Int))) from fun k hk => by
                        obtain ⟨g', hg', hc', _⟩ := own_cellAt ho (by omega)
                        cases hg'
                        refine hc' k _ ?_
                        rw [hsx, List.getElem?_append_left (by omega), hxs, List.getElem?_replicate_of_lt hk, b1])
                      have HC7 := Lib.hid (show ∀ k, r.n ≤ k → k < r.n + 64 → wr.cell? ⟨gs, k, none⟩ = some (.int .u8 (255 - (q : Int))) from fun k hk hk2 => by
                        obtain ⟨g', hg', hc', _⟩ := own_cellAt ho (by omega)
                        cases hg'
                        refine hc' k _ ?_
                        rw [hsx, List.getElem?_append_right (by omega), List.getElem?_replicate_of_lt (by omega), b2])
                      rw [hsn] at x2
                      have hrb2 := hrb.2
                      subst hpa hpm hpc hpd
                      clear hr hs hrb hrl ho hsn hsx hfs hxs hca hcm2 hcc hcd y1 y2 y3 b1 b2
                      generalize r.n = rn at *
                      go_wp2
                      go_loopw [27] (fun i wx => ∃ k : Nat, k ≤ rn + 64 ∧ i = .int .i64 (k : Int) ∧ wx = wr) (fun i _ => rn + 64 - (intOf i).toNat)
                      case atStart => exact ⟨0, Nat.zero_le _, rfl, rfl⟩
                      case round =>
                        obtain ⟨k, hk, rfl, rfl⟩ := hrel
                        by_cases hkr : k < rn
                        · have c1 := HC5.out k hkr
                          have c2 := HC6.out k hkr
                          have HK := Lib.hid hkr
                          go_wp2
                          exact ⟨⟨k + 1, by have := HK.out; omega, by go_num, by first | rfl | trivial⟩, by have := HK.out; simp [intOf]; omega⟩
                        · by_cases hk64 : k < rn + 64
                          · have c3 := HC7.out k (by omega) hk64
                            have HK := Lib.hid hk64
                            have hk64' : (k : Int) < (rn : Int) + 64 := by omega
                            go_wp2
                            exact ⟨⟨k + 1, by have := HK.out; omega, by go_num, by first | rfl | trivial⟩, by have := HK.out; simp [intOf]; omega⟩
                          · obtain rfl : k = rn + 64 := by omega
                            have HSX := Lib.hid (HS6.out)
                            go_upto_region 57 with fail
                            go_quiet (fail)
                            go_wp2
                            exact ⟨⟨q + 1, HQM.out, by go_num, HSX.out.below (below_drewN (Below.refl _ _) _)⟩, by have := HQM.out; simp [intOf]; omega⟩
                    · have hqf3 : ¬ (q : Int) < (mores.length : Int) := by omega
                      have HBB := Lib.hid (bnx HB1.out HS6.out.bel)
                      clear hqm
                      go_wp2
                      go_ret
                      exact ⟨rfl, HBB.out⟩
end Go.Proofs.Ytfilbjooebnbkaa.Lg
