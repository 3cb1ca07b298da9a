/- The program's text of a character that is written by its number. -/
import Derived.Test.YtcikhbbljhkheaaDoorQz
namespace Go.Proofs.YtcikhbbljhkheaaDoor.Sn
open Go.RowKit Mm
set_option linter.unusedVariables false
def Has (w : World) (B n : Nat) (l bs : List UInt8) (u : Value) (w' : World) : Prop := w'.ownsRow B 5 1 u (n + bs.length) ((l ++ bs).map bv) ∧ Below B w w' ∧ Lib.OthersKept 5 none w w'
theorem AppR.has {w w' : World} {B n : Nat} {l bs : List UInt8} {u : Value} (h : AppR w B n l bs (.returned u) w') : Has w B n l bs u w' := by
  obtain ⟨v', he, ho⟩ := h
  obtain rfl := Ending.returned.inj he
  exact ho
theorem Has.refl {w : World} {B n : Nat} {l : List UInt8} {u : Value} (h : w.ownsRow B 5 1 u n (l.map bv)) : Has w B n l [] u w := ⟨by rw [List.append_nil]; exact h, Below.refl _ _, Lib.OthersKept.refl _ _ _⟩
theorem Has.app {w w1 w2 : World} {B n : Nat} {l bs cs : List UInt8} {u v : Value} (h1 : Has w B n l bs u w1) (h2 : AppR w1 B (n + bs.length) (l ++ bs) cs (.returned v) w2) : Has w B n l (bs ++ cs) v w2 := by
  obtain ⟨a, b, c⟩ := h2.has
  exact ⟨by rw [List.length_append, ← Nat.add_assoc, ← List.append_assoc]; exact a, h1.2.1.trans b, h1.2.2.trans c⟩
theorem Has.app_r {w w' : World} {B n : Nat} {l bs : List UInt8} {u : Value} (h : Has w B n l bs u w') : AppR w B n l bs (.returned u) w' := ⟨u, rfl, h⟩
theorem and_15i (x : Nat) (h : x < 2147483648) : bits .and .i32 (x : Int) 15 = ((x % 16 : Nat) : Int) := by
  have hx : x &&& 15 < 2 ^ 4 := Nat.and_lt_two_pow _ (by omega)
  show IntKind.i32.wrap ((BitVec.ofInt 32 (x : Int) &&& BitVec.ofInt 32 (15 : Int)).toNat : Int) = _
  have e1 : (BitVec.ofInt 32 (x : Int)).toNat = x := by rw [BitVec.toNat_ofInt]; omega
  have e2 : (BitVec.ofInt 32 (15 : Int)).toNat = 15 := by decide
  rw [BitVec.toNat_and, e1, e2, show x &&& 15 = x % 16 from Nat.and_two_pow_sub_one_eq_mod x 4]
  exact IntWalk.i32_in _ (by omega)
theorem and_div (c d : Nat) (D : Int) (hD : D = (d : Int)) (h : c < 2147483648) : bits .and .i32 ((c : Int) / D) 15 = ((c / d % 16 : Nat) : Int) := by
  subst hD
  rw [show (c : Int) / (d : Int) = ((c / d : Nat) : Int) from (Int.natCast_ediv c d).symm]
  exact and_15i _ (Nat.lt_of_le_of_lt (Nat.div_le_self _ _) h)

theorem based_2 (c : Nat) (h : 16 ≤ c ∧ c < 256) : basedL c = [hx (c / 16 % 16), hx (c % 16)] := by
  rw [based_ge (by omega), based_lt (by omega), show c / 16 % 16 = c / 16 by omega]
  rfl
set_option maxRecDepth 100000 in
set_option maxHeartbeats 8000000 in
theorem write_uns2 (B n : Nat) (l : List UInt8) (v : Value) (c : Nat) (hr : 16 ≤ c ∧ c < 256) (hP : runeP c = [92, 117, 123] ++ basedL c ++ [125]) (hE : escI c = -1) (hok : okR c) (hl : ¬ (c < 32 ∨ c = 127)) (hu : unsB c = true) (hn : n ≤ 50000) (w : World) (ho : w.ownsRow B 5 1 v n (l.map bv)) (hB : B ≤ w.heap.size) :
    Calls Tryd.prog 11 #[v, .int .i32 (c : Int)] w (AppR w B n l (runeP c)) := by
  have HI := Lib.hid (idx_any c hok)
  rw [hE] at HI
  have HO := Lib.hid (fun w' (h : Below w.heap.size w w') => own_below ho h (Nat.le_refl _))
  have HN := Lib.hid hn
  have HU := Lib.hid (unseen_any c)
  rw [hu] at HU
  rw [based_2 c hr] at hP
  have HP := Lib.hid hP
  have f0 : ¬ (c : Int) < 32 := by omega
  have f1 : ((c : Int) == 127) = false := by simp; omega
  have z0 : (((c : Int) / 1048576) == 0) = true := by rw [beq_iff_eq]; omega
  have z1 : (((c : Int) / 65536) == 0) = true := by rw [beq_iff_eq]; omega
  have z2 : (((c : Int) / 4096) == 0) = true := by rw [beq_iff_eq]; omega
  have z3 : (((c : Int) / 256) == 0) = true := by rw [beq_iff_eq]; omega
  have z4 : (((c : Int) / 16) == 0) = false := by rw [beq_eq_false_iff_ne]; omega
  have HA := Lib.hid (fun (d : Nat) (D : Int) (hD : D = (d : Int)) => and_div c d D hD (by omega))
  have HA0 := Lib.hid (and_15i c (by omega))
  clear ho hE hok hl hu hn hP hr
  go_enter Tryd.func11, Tryd.ntmps11
  go_wp2_with fail
  refine (HI.out _).mono ?_
  rintro e w1 ⟨rfl, hb1⟩
  have HB1 := Lib.hid hb1
  clear hb1
  go_wp2_with fail
  refine (HU.out _).mono ?_
  rintro e w' ⟨rfl, rfl⟩
  go_wp2_with (at_builtin; refine app_lit [92, 117, 123] (HO.out _ HB1.out) rfl rfl rfl rfl (by have := HN.out; simp; omega) (by have := HB1.out.size; omega) ?_; intro v2 w2 hr2)
  have HR2 := Lib.hid hr2
  have HB2 := Lib.hid (show B ≤ w2.heap.size from by obtain ⟨_, _, _, hbb, _⟩ := hr2; exact Nat.le_trans (Nat.le_trans hB HB1.out.size) hbb.size)
  clear hr2
  go_loopw [6] (fun i wr => (i = .int .i64 20 ∨ i = .int .i64 16 ∨ i = .int .i64 12 ∨ i = .int .i64 8 ∨ i = .int .i64 4) ∧ wr = w2) (fun i _ => (intOf i + 4).toNat)
  case atStart => exact ⟨.inl rfl, rfl⟩
  case round =>
    obtain ⟨hkk, rfl⟩ := hrel
    rcases hkk with rfl | rfl | rfl | rfl | rfl
    · go_wp2
      exact ⟨⟨.inr (.inl rfl), trivial⟩, by simp [intOf]⟩
    · go_wp2
      exact ⟨⟨.inr (.inr (.inl rfl)), trivial⟩, by simp [intOf]⟩
    · go_wp2
      exact ⟨⟨.inr (.inr (.inr (.inl rfl))), trivial⟩, by simp [intOf]⟩
    · go_wp2
      exact ⟨⟨.inr (.inr (.inr (.inr (rfl)))), trivial⟩, by simp [intOf]⟩
    · go_wp2
      go_loopw [0, 6] (fun u i wr' => ∃ k : Nat, k ≤ 2 ∧ i = .int .i64 (4 - 4 * (k : Int)) ∧ Has wr B (n + 3) (l ++ [92, 117, 123]) ([hx (c / 16 % 16), hx (c % 16)].take k) u wr') (fun _ i _ => (intOf i + 4).toNat)
      case atStart => exact ⟨0, by omega, rfl, Has.refl HR2.out.has.1⟩
      case round =>
        obtain ⟨k, hk, rfl, hh⟩ := hrel
        have HH := Lib.hid hh
        clear hh
        have hkk : k = 0 ∨ k = 1 ∨ k = 2 := by omega
        rcases hkk with h | h | h <;> subst h
        · have ha := HA.out 16 16 rfl
          obtain ⟨d, hd⟩ : ∃ d, c / 16 % 16 = d := ⟨_, rfl⟩
          have hd16 : d < 16 := by omega
          rw [hd] at ha
          have hx0 := hex_lit d hd16 (d : Int) rfl
          obtain ⟨x, hx1⟩ : ∃ x, hx d = x := ⟨_, rfl⟩
          rw [hx1] at hx0
          have hi : ((d : Int) < 16) := by omega
          have HX := Lib.hid (show hx (c / 16 % 16) = x from by rw [hd]; exact hx1)
          have hx2 : ∀ hk, (hexS[d]'hk) = x := fun hk => hx0 hk
          clear hx1 hd hd16 hx0
          go_wp2_with (at_builtin; refine app_bs [x] 1 HH.out.1 rfl rfl rfl rfl rfl rfl (by have := HN.out; simp; omega) (Nat.le_trans HB2.out HH.out.2.1.size) ?_; intro v3 w3 hr3)
          have HH3 := Lib.hid (HH.out.app hr3)
          clear hr3

          go_roundw
          case rel =>
            refine ⟨1, by omega, by go_num, ?_⟩
            rw [show [hx (c / 16 % 16), hx (c % 16)].take 1 = [hx (c / 16 % 16), hx (c % 16)].take 0 ++ [x] from by rw [← HX.out]; rfl]
            exact HH3.out
          case measure => simp [intOf]
        · have ha := HA0.out
          obtain ⟨d, hd⟩ : ∃ d, c % 16 = d := ⟨_, rfl⟩
          have hd16 : d < 16 := by omega
          rw [hd] at ha
          have hx0 := hex_lit d hd16 (d : Int) rfl
          obtain ⟨x, hx1⟩ : ∃ x, hx d = x := ⟨_, rfl⟩
          rw [hx1] at hx0
          have hi : ((d : Int) < 16) := by omega
          have HX := Lib.hid (show hx (c % 16) = x from by rw [hd]; exact hx1)
          have hx2 : ∀ hk, (hexS[d]'hk) = x := fun hk => hx0 hk
          clear hx1 hd hd16 hx0
          go_wp2_with (at_builtin; refine app_bs [x] 1 HH.out.1 rfl rfl rfl rfl rfl rfl (by have := HN.out; simp; omega) (Nat.le_trans HB2.out HH.out.2.1.size) ?_; intro v3 w3 hr3)
          have HH3 := Lib.hid (HH.out.app hr3)
          clear hr3

          go_roundw
          case rel =>
            refine ⟨2, by omega, by go_num, ?_⟩
            rw [show [hx (c / 16 % 16), hx (c % 16)].take 2 = [hx (c / 16 % 16), hx (c % 16)].take 1 ++ [x] from by rw [← HX.out]; rfl]
            exact HH3.out
          case measure => simp [intOf]
        · go_wp2_with (at_builtin; refine app_bs [125] 1 HH.out.1 rfl rfl rfl rfl rfl rfl (by have := HN.out; simp; omega) (Nat.le_trans HB2.out HH.out.2.1.size) ?_; intro v3 w3 hr3)
          go_ret
          have h4 := (HH.out.app hr3).app_r
          have h5 := AppR.then HR2.out h4
          rw [HP.out]
          exact h5.after HB1.out hB
theorem based_4 (c : Nat) (h : 4096 ≤ c ∧ c < 65536) : basedL c = [hx (c / 4096 % 16), hx (c / 256 % 16), hx (c / 16 % 16), hx (c % 16)] := by
  rw [based_ge (by omega), based_ge (by omega), based_ge (by omega), based_lt (by omega), show c / 16 / 16 / 16 = c / 4096 % 16 by omega, show c / 16 / 16 % 16 = c / 256 % 16 by omega]
  rfl
set_option maxRecDepth 100000 in
set_option maxHeartbeats 8000000 in
theorem write_uns4 (B n : Nat) (l : List UInt8) (v : Value) (c : Nat) (hr : 4096 ≤ c ∧ c < 65536) (hP : runeP c = [92, 117, 123] ++ basedL c ++ [125]) (hE : escI c = -1) (hok : okR c) (hl : ¬ (c < 32 ∨ c = 127)) (hu : unsB c = true) (hn : n ≤ 50000) (w : World) (ho : w.ownsRow B 5 1 v n (l.map bv)) (hB : B ≤ w.heap.size) :
    Calls Tryd.prog 11 #[v, .int .i32 (c : Int)] w (AppR w B n l (runeP c)) := by
  have HI := Lib.hid (idx_any c hok)
  rw [hE] at HI
  have HO := Lib.hid (fun w' (h : Below w.heap.size w w') => own_below ho h (Nat.le_refl _))
  have HN := Lib.hid hn
  have HU := Lib.hid (unseen_any c)
  rw [hu] at HU
  rw [based_4 c hr] at hP
  have HP := Lib.hid hP
  have f0 : ¬ (c : Int) < 32 := by omega
  have f1 : ((c : Int) == 127) = false := by simp; omega
  have z0 : (((c : Int) / 1048576) == 0) = true := by rw [beq_iff_eq]; omega
  have z1 : (((c : Int) / 65536) == 0) = true := by rw [beq_iff_eq]; omega
  have z2 : (((c : Int) / 4096) == 0) = false := by rw [beq_eq_false_iff_ne]; omega
  have HA := Lib.hid (fun (d : Nat) (D : Int) (hD : D = (d : Int)) => and_div c d D hD (by omega))
  have HA0 := Lib.hid (and_15i c (by omega))
  clear ho hE hok hl hu hn hP hr
  go_enter Tryd.func11, Tryd.ntmps11
  go_wp2_with fail
  refine (HI.out _).mono ?_
  rintro e w1 ⟨rfl, hb1⟩
  have HB1 := Lib.hid hb1
  clear hb1
  go_wp2_with fail
  refine (HU.out _).mono ?_
  rintro e w' ⟨rfl, rfl⟩
  go_wp2_with (at_builtin; refine app_lit [92, 117, 123] (HO.out _ HB1.out) rfl rfl rfl rfl (by have := HN.out; simp; omega) (by have := HB1.out.size; omega) ?_; intro v2 w2 hr2)
  have HR2 := Lib.hid hr2
  have HB2 := Lib.hid (show B ≤ w2.heap.size from by obtain ⟨_, _, _, hbb, _⟩ := hr2; exact Nat.le_trans (Nat.le_trans hB HB1.out.size) hbb.size)
  clear hr2
  go_loopw [6] (fun i wr => (i = .int .i64 20 ∨ i = .int .i64 16 ∨ i = .int .i64 12) ∧ wr = w2) (fun i _ => (intOf i + 4).toNat)
  case atStart => exact ⟨.inl rfl, rfl⟩
  case round =>
    obtain ⟨hkk, rfl⟩ := hrel
    rcases hkk with rfl | rfl | rfl
    · go_wp2
      exact ⟨⟨.inr (.inl rfl), trivial⟩, by simp [intOf]⟩
    · go_wp2
      exact ⟨⟨.inr (.inr (rfl)), trivial⟩, by simp [intOf]⟩
    · go_wp2
      go_loopw [0, 6] (fun u i wr' => ∃ k : Nat, k ≤ 4 ∧ i = .int .i64 (12 - 4 * (k : Int)) ∧ Has wr B (n + 3) (l ++ [92, 117, 123]) ([hx (c / 4096 % 16), hx (c / 256 % 16), hx (c / 16 % 16), hx (c % 16)].take k) u wr') (fun _ i _ => (intOf i + 4).toNat)
      case atStart => exact ⟨0, by omega, rfl, Has.refl HR2.out.has.1⟩
      case round =>
        obtain ⟨k, hk, rfl, hh⟩ := hrel
        have HH := Lib.hid hh
        clear hh
        have hkk : k = 0 ∨ k = 1 ∨ k = 2 ∨ k = 3 ∨ k = 4 := by omega
        rcases hkk with h | h | h | h | h <;> subst h
        · have ha := HA.out 4096 4096 rfl
          obtain ⟨d, hd⟩ : ∃ d, c / 4096 % 16 = d := ⟨_, rfl⟩
          have hd16 : d < 16 := by omega
          rw [hd] at ha
          have hx0 := hex_lit d hd16 (d : Int) rfl
          obtain ⟨x, hx1⟩ : ∃ x, hx d = x := ⟨_, rfl⟩
          rw [hx1] at hx0
          have hi : ((d : Int) < 16) := by omega
          have HX := Lib.hid (show hx (c / 4096 % 16) = x from by rw [hd]; exact hx1)
          have hx2 : ∀ hk, (hexS[d]'hk) = x := fun hk => hx0 hk
          clear hx1 hd hd16 hx0
          go_wp2_with (at_builtin; refine app_bs [x] 1 HH.out.1 rfl rfl rfl rfl rfl rfl (by have := HN.out; simp; omega) (Nat.le_trans HB2.out HH.out.2.1.size) ?_; intro v3 w3 hr3)
          have HH3 := Lib.hid (HH.out.app hr3)
          clear hr3

          go_roundw
          case rel =>
            refine ⟨1, by omega, by go_num, ?_⟩
            rw [show [hx (c / 4096 % 16), hx (c / 256 % 16), hx (c / 16 % 16), hx (c % 16)].take 1 = [hx (c / 4096 % 16), hx (c / 256 % 16), hx (c / 16 % 16), hx (c % 16)].take 0 ++ [x] from by rw [← HX.out]; rfl]
            exact HH3.out
          case measure => simp [intOf]
        · have ha := HA.out 256 256 rfl
          obtain ⟨d, hd⟩ : ∃ d, c / 256 % 16 = d := ⟨_, rfl⟩
          have hd16 : d < 16 := by omega
          rw [hd] at ha
          have hx0 := hex_lit d hd16 (d : Int) rfl
          obtain ⟨x, hx1⟩ : ∃ x, hx d = x := ⟨_, rfl⟩
          rw [hx1] at hx0
          have hi : ((d : Int) < 16) := by omega
          have HX := Lib.hid (show hx (c / 256 % 16) = x from by rw [hd]; exact hx1)
          have hx2 : ∀ hk, (hexS[d]'hk) = x := fun hk => hx0 hk
          clear hx1 hd hd16 hx0
          go_wp2_with (at_builtin; refine app_bs [x] 1 HH.out.1 rfl rfl rfl rfl rfl rfl (by have := HN.out; simp; omega) (Nat.le_trans HB2.out HH.out.2.1.size) ?_; intro v3 w3 hr3)
          have HH3 := Lib.hid (HH.out.app hr3)
          clear hr3

          go_roundw
          case rel =>
            refine ⟨2, by omega, by go_num, ?_⟩
            rw [show [hx (c / 4096 % 16), hx (c / 256 % 16), hx (c / 16 % 16), hx (c % 16)].take 2 = [hx (c / 4096 % 16), hx (c / 256 % 16), hx (c / 16 % 16), hx (c % 16)].take 1 ++ [x] from by rw [← HX.out]; rfl]
            exact HH3.out
          case measure => simp [intOf]
        · have ha := HA.out 16 16 rfl
          obtain ⟨d, hd⟩ : ∃ d, c / 16 % 16 = d := ⟨_, rfl⟩
          have hd16 : d < 16 := by omega
          rw [hd] at ha
          have hx0 := hex_lit d hd16 (d : Int) rfl
          obtain ⟨x, hx1⟩ : ∃ x, hx d = x := ⟨_, rfl⟩
          rw [hx1] at hx0
          have hi : ((d : Int) < 16) := by omega
          have HX := Lib.hid (show hx (c / 16 % 16) = x from by rw [hd]; exact hx1)
          have hx2 : ∀ hk, (hexS[d]'hk) = x := fun hk => hx0 hk
          clear hx1 hd hd16 hx0
          go_wp2_with (at_builtin; refine app_bs [x] 1 HH.out.1 rfl rfl rfl rfl rfl rfl (by have := HN.out; simp; omega) (Nat.le_trans HB2.out HH.out.2.1.size) ?_; intro v3 w3 hr3)
          have HH3 := Lib.hid (HH.out.app hr3)
          clear hr3

          go_roundw
          case rel =>
            refine ⟨3, by omega, by go_num, ?_⟩
            rw [show [hx (c / 4096 % 16), hx (c / 256 % 16), hx (c / 16 % 16), hx (c % 16)].take 3 = [hx (c / 4096 % 16), hx (c / 256 % 16), hx (c / 16 % 16), hx (c % 16)].take 2 ++ [x] from by rw [← HX.out]; rfl]
            exact HH3.out
          case measure => simp [intOf]
        · have ha := HA0.out
          obtain ⟨d, hd⟩ : ∃ d, c % 16 = d := ⟨_, rfl⟩
          have hd16 : d < 16 := by omega
          rw [hd] at ha
          have hx0 := hex_lit d hd16 (d : Int) rfl
          obtain ⟨x, hx1⟩ : ∃ x, hx d = x := ⟨_, rfl⟩
          rw [hx1] at hx0
          have hi : ((d : Int) < 16) := by omega
          have HX := Lib.hid (show hx (c % 16) = x from by rw [hd]; exact hx1)
          have hx2 : ∀ hk, (hexS[d]'hk) = x := fun hk => hx0 hk
          clear hx1 hd hd16 hx0
          go_wp2_with (at_builtin; refine app_bs [x] 1 HH.out.1 rfl rfl rfl rfl rfl rfl (by have := HN.out; simp; omega) (Nat.le_trans HB2.out HH.out.2.1.size) ?_; intro v3 w3 hr3)
          have HH3 := Lib.hid (HH.out.app hr3)
          clear hr3

          go_roundw
          case rel =>
            refine ⟨4, by omega, by go_num, ?_⟩
            rw [show [hx (c / 4096 % 16), hx (c / 256 % 16), hx (c / 16 % 16), hx (c % 16)].take 4 = [hx (c / 4096 % 16), hx (c / 256 % 16), hx (c / 16 % 16), hx (c % 16)].take 3 ++ [x] from by rw [← HX.out]; rfl]
            exact HH3.out
          case measure => simp [intOf]
        · go_wp2_with (at_builtin; refine app_bs [125] 1 HH.out.1 rfl rfl rfl rfl rfl rfl (by have := HN.out; simp; omega) (Nat.le_trans HB2.out HH.out.2.1.size) ?_; intro v3 w3 hr3)
          go_ret
          have h4 := (HH.out.app hr3).app_r
          have h5 := AppR.then HR2.out h4
          rw [HP.out]
          exact h5.after HB1.out hB
end Go.Proofs.YtcikhbbljhkheaaDoor.Sn
