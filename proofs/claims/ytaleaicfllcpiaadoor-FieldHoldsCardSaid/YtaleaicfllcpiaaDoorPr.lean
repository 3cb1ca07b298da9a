/- prefix and cover. -/
import Derived.Test.YtaleaicfllcpiaaDoorBi
import Derived.Test.YtaleaicfllcpiaaDoorShelf
namespace Go.Proofs.YtaleaicfllcpiaaDoor.Fl
open Go.RowKit Mm Law
set_option linter.unusedVariables false
set_option linter.unusedSimpArgs false
set_option linter.unusedSectionVars false
theorem rep_x (n : Nat) : Lib.repeatL [120] n = List.replicate n (120 : UInt8) := by
  induction n with
  | zero => rfl
  | succ n ih => rw [List.replicate_succ, ← ih]; first | rfl | simp [Lib.repeatL]
theorem rep_any (n : Nat) (hn : n ≤ 1000) (w : World) : Calls Tryd.prog 51 #[.string ⟨#[120]⟩, .int .i64 (n : Int)] w fun e w' => e = .returned (.string (str (List.replicate n 120))) ∧ Below w.heap.size w w' := by
  have h := Tryd.strings_Repeat ⟨#[120]⟩ n w (by omega) (by show 1 * n ≤ _; omega)
  rw [show (⟨#[120]⟩ : ByteArray).data.toList = [120] from rfl, rep_x] at h
  exact h
theorem str_app (a b : List UInt8) : str a ++ str b = str (a ++ b) := by
  apply ByteArray.ext
  rw [← Array.toList_inj]
  simp [str, ByteArray.data_append]
set_option maxRecDepth 100000 in
set_option maxHeartbeats 1000000 in
theorem prefix_any (v b n : Nat) (hv : v < 4294967296) (hb : b ≤ 32) (hn : n ≤ b) (w : World) :
    Calls Tryd.prog 99 #[.int .i64 (v : Int), .int .i64 (b : Int), .int .i64 (n : Int)] w fun e w' => e = .returned (.string (str (preT b (v, b - n)))) ∧ Below w.heap.size w w' := by
  have HB := Lib.hid (fun w => binary_any v b n hv hb hn w)
  have HR := Lib.hid (fun w => rep_any (b - n) (by omega) w)
  have HS := Lib.hid (show str (preT b (v, b - n)) = str (hiB v b n) ++ str (List.replicate (b - n) 120) from by rw [str_app]; unfold preT; simp only; rw [show b - (b - n) = n by omega])
  have hl1 : (str (hiB v b n)).size = n := by rw [str_size, hiB_len]
  have hl2 : (str (List.replicate (b - n) (120 : UInt8))).size = b - n := by rw [str_size, List.length_replicate]
  have hbn : (b : Int) - (n : Int) = ((b - n : Nat) : Int) := by omega
  generalize str (hiB v b n) = s1 at *
  generalize str (List.replicate (b - n) (120 : UInt8)) = s2 at *
  generalize b - n = m at *
  go_enter Tryd.func99, Tryd.ntmps99
  go_wp2_with fail
  refine (HB.out _).mono ?_
  rintro e w1 ⟨rfl, hb1⟩
  go_wp2_with fail
  refine (HR.out _).mono ?_
  rintro e w2 ⟨rfl, hb2⟩
  go_wp2_with fail
  go_ret
  exact ⟨by rw [HS.out]; rfl, bnx hb1 hb2⟩
theorem and_i64 (x y : Nat) (h : x < 8589934592) (k : y < 8589934592) : bits .and .i64 (x : Int) (y : Int) = ((x &&& y : Nat) : Int) := by
  have hx : x &&& y < 2 ^ 33 := Nat.and_lt_two_pow _ (by omega)
  show IntKind.i64.wrap ((BitVec.ofInt 64 (x : Int) &&& BitVec.ofInt 64 (y : Int)).toNat : Int) = _
  have e1 : (BitVec.ofInt 64 (x : Int)).toNat = x := by rw [BitVec.toNat_ofInt]; omega
  have e2 : (BitVec.ofInt 64 (y : Int)).toNat = y := by rw [BitVec.toNat_ofInt]; omega
  rw [BitVec.toNat_and, e1, e2]
  exact IntWalk.i64_in _ (by omega)
theorem and_top (x n : Nat) (h : x < 8589934592) (hn : n ≤ 33) : bits .and .i64 (x : Int) (topN n : Int) = ((x % 2 ^ n : Nat) : Int) := by
  have h1 : topN n < 8589934592 := by
    have h2 := pow_33 hn
    have h3 : (2 : Nat) ^ 33 = 8589934592 := by decide
    have h4 := topN_pos n
    unfold topN
    omega
  rw [and_i64 _ _ h h1]
  unfold topN
  rw [Nat.and_two_pow_sub_one_eq_mod]
def sC (T : List (List UInt8)) : List Value := T.map fun t => .string (str t)
theorem info_str : (Tryd.prog.info? 9).map (fun i => (i.zero, i.size, i.bytes)) = some (some (.string ⟨#[]⟩), 1, 16) := by kernel_rfl
theorem app_str {B : Nat} {v : Value} {m : Nat} {L : List (List UInt8)} {w : World} (t : List UInt8) {ops : Array Oper} {rest : List Oper} {op : Oper} {a : Act} {Q : Exit → Act → World → Prop} {s x : Operand}
    (hown : w.ownsRow B 9 1 v m (sC L)) (hgd : op.guard = none) (ho : op.op = .call { callee := .builtin .append, args := #[s, x], argTypes := #[53, 53] })
    (hs : a.eval s = v) (hx : a.eval x = .slice (some ⟨w.heap.size, 0, none⟩) 1 1) (hn : (m + 1) * 16 ≤ 140737488355328) (hB : B ≤ w.heap.size)
    (h : ∀ v' w', w'.ownsRow B 9 1 v' (m + 1) (sC (L ++ [t])) → Below B w w' → wpList Tryd.prog ops Q rest (a.put op.dst v') w') : wpList Tryd.prog ops Q (op :: rest) a (w.alloc (.cells #[.string (str t)] 9)) := by
  obtain ⟨i0, hi, hz0, hz1, hz2⟩ := info_parts info_str
  refine wpList_append_own _ hgd s x 53 ho B 9 i0 _ 1 16 Tryd.underlying53 hi hz0 hz1 hz2 rfl (by decide) v m _ hs (hown.alloc _) ⟨w.heap.size, 0, none⟩ 1 1 [.string (str t)] hx rfl (cells_new _ #[.string (str t)] _)
    (by simp [Value.oneCell']) (by simp only [maxLen]; omega) (by omega) (by simp; omega) ?_
  intro v' w1 hown' hg _
  have h1 : Below B w (w.alloc (.cells #[.string (str t)] 9)) := (Below.refl _ _).alloc hB _
  exact h v' w1 (by unfold sC at hown' ⊢; rw [List.map_append]; exact hown') (h1.grown hg (by simp; omega) (fun k hk => (hown.lt k hk).1))
theorem fr_step {b x e f : Nat} : (f < b ∧ okB x e (f + 1) → fr b x e f = fr b x e (f + 1)) ∧ (¬ (f < b ∧ okB x e (f + 1)) → fr b x e f = f) :=
  ⟨fun h => fr_yes h.1 h.2, fun h => fr_no h⟩
set_option maxRecDepth 100000 in
set_option maxHeartbeats 4000000 in
theorem cover_any (b x0 e : Nat) (hi : Int) (hb : b ≤ 32) (hx0 : x0 ≤ 4294967296) (he : e ≤ 2 ^ b) (hhi : hi + 1 = (e : Int)) (w : World) :
    Calls Tryd.prog 79 #[.int .i64 (b : Int), .int .i64 (x0 : Int), .int .i64 hi] w fun r w' => ∃ u, r = .returned u ∧ w'.ownsRow w.heap.size 9 1 u (gre b x0 e).length (sC ((gre b x0 e).map (preT b))) ∧ Below w.heap.size w w' := by
  have he32 : e ≤ 4294967296 := by
    have h2 := pow_33 hb
    have h3 : (2 : Nat) ^ 32 = 4294967296 := by decide
    omega
  have HHI := Lib.hid hhi
  have hhi0 : -1 ≤ hi := by omega
  have hhi1 : hi < 4294967296 := by omega
  have HE := Lib.hid he
  clear hhi he
  go_enter Tryd.func79, Tryd.ntmps79
  go_wp2
  go_loopw [7, 1] (fun u lo wr => ∃ (pre : List (Nat × Nat)) (x : Nat), lo = .int .i64 x ∧ gre b x0 e = pre ++ gre b x e ∧ x ≤ 4294967296 ∧ pre.length ≤ x ∧ wr.ownsRow w.heap.size 9 1 u pre.length (sC (pre.map (preT b))) ∧ Below w.heap.size w wr) (fun _ lo _ => e - (intOf lo).toNat)
  case atStart => exact ⟨[], x0, rfl, rfl, hx0, Nat.zero_le _, World.ownsRow_nil _ _ _ _, Below.refl _ _⟩
  case round =>
    obtain ⟨pre, x, rfl, hgr, hx, hpl, hown, hbel⟩ := hrel
    have HG := Lib.hid hgr
    have HO := Lib.hid hown
    obtain ⟨wo, rfl⟩ : ∃ wo : World, wo = wr := ⟨_, rfl⟩
    clear hgr hown
    by_cases hxe : x < e
    · have hle : (x : Int) ≤ hi := by have := HHI.out; omega
      have HXE := Lib.hid hxe
      clear hxe
      go_wp2
      have HSP := Lib.hid (fr_spec (b := b) (x := x) (e := e) b 0 (by omega) (by omega) (okB_zero HXE.out))
      go_loopw [8] (fun u wr => ∃ f : Nat, f ≤ b ∧ u = .int .i64 (f : Int) ∧ fr b x e 0 = fr b x e f ∧ wo = wr) (fun u _ => b - (intOf u).toNat)
      case atStart => exact ⟨0, Nat.zero_le _, rfl, rfl, rfl⟩
      case round =>
        obtain ⟨f, hf, rfl, hfr, rfl⟩ := hrel
        have HFR := Lib.hid hfr
        clear hfr
        go_upto_region 4 with fail
        go_cut [31] (fun s31 wx => s31 = .bool (decide (f < b ∧ okB x e (f + 1))) ∧ wo = wx)
        case first =>
          by_cases hfb : f < b
          · have htop := fun w => top_any (f + 1) (by omega) w
            simp only [Int.natCast_add, Int.cast_ofNat_Int] at htop
            have HT := Lib.hid htop
            have hand := and_top x (f + 1) (by omega) (by omega)
            have htl : topN (f + 1) + 1 = 2 ^ (f + 1) := by have := topN_pos (f + 1); unfold topN; omega
            have htb : topN (f + 1) ≤ 8589934592 := by
              have h2 := pow_33 (show f + 1 ≤ 33 by omega)
              have h3 : (2 : Nat) ^ 33 = 8589934592 := by decide
              omega
            by_cases hm : x % 2 ^ (f + 1) = 0
            · rw [hm] at hand
              by_cases hfit : x + 2 ^ (f + 1) ≤ e
              · have HD := Lib.hid (decide_eq_true (show f < b ∧ okB x e (f + 1) from ⟨hfb, hm, hfit⟩))
                have hle2 : (x : Int) + (topN (f + 1) : Int) ≤ hi := by have := HHI.out; omega
                clear htop hm hfit htl
                generalize topN (f + 1) = T at *
                go_wp2_with (go_at_call 39; refine (HT.out _).mono ?_; rintro r w' ⟨rfl, rfl⟩)
                go_meet
                exact ⟨by rw [HD.out], rfl⟩
              · have HD := Lib.hid (decide_eq_false (show ¬ (f < b ∧ okB x e (f + 1)) from fun h => hfit h.2.2))
                have hle2 : hi < (x : Int) + (topN (f + 1) : Int) := by have := HHI.out; omega
                clear htop hm hfit htl
                generalize topN (f + 1) = T at *
                go_wp2_with (go_at_call 39; refine (HT.out _).mono ?_; rintro r w' ⟨rfl, rfl⟩)
                go_meet
                exact ⟨by first | (rw [HD.out]; done) | (rw [HD.out, decide_eq_false (by omega)]), rfl⟩
            · have HD := Lib.hid (decide_eq_false (show ¬ (f < b ∧ okB x e (f + 1)) from fun h => hm h.2.1))
              have hne : (((x % 2 ^ (f + 1) : Nat) : Int) == 0) = false := by rw [beq_eq_false_iff_ne]; omega
              clear htop hm htl
              generalize topN (f + 1) = T at *
              generalize x % 2 ^ (f + 1) = M at *
              go_wp2_with (go_at_call 39; refine (HT.out _).mono ?_; rintro r w' ⟨rfl, rfl⟩)
              go_meet
              exact ⟨by rw [HD.out], rfl⟩
          · have HD := Lib.hid (decide_eq_false (show ¬ (f < b ∧ okB x e (f + 1)) from fun h => hfb h.1))
            have hbf : b ≤ f := by omega
            clear hfb
            go_wp2_with fail
            go_meet
            exact ⟨by rw [HD.out], rfl⟩
        case rest =>
          obtain ⟨rfl, rfl⟩ := hcut
          by_cases hok : f < b ∧ okB x e (f + 1)
          · rw [decide_eq_true hok]
            have HS := Lib.hid ((fr_step (b := b) (x := x) (e := e) (f := f)).1 hok)
            obtain ⟨hfb, hok2⟩ := hok
            clear hok2
            go_wp2
            go_roundw
            case rel => exact ⟨f + 1, by omega, by go_num, by rw [HFR.out]; exact HS.out, by first | rfl | trivial⟩
            case measure => simp [intOf]; omega
          · rw [decide_eq_false hok]
            have HS := Lib.hid (show fr b x e 0 = f from by rw [HFR.out]; exact (fr_step (b := b) (x := x) (e := e) (f := f)).2 hok)
            clear hok
            have hsp := HSP.out
            rw [HS.out] at hsp
            obtain ⟨⟨_, hfe⟩, _, _, _⟩ := hsp
            have hx32 : x < 4294967296 := by have := topN_pos f; omega
            have hbf : (b : Int) - (f : Int) = ((b - f : Nat) : Int) := by omega
            have hp := fun w => prefix_any x b (b - f) hx32 hb (by omega) w
            rw [show b - (b - f) = f by omega] at hp
            have HP := Lib.hid hp
            have HGN := Lib.hid (show gre b x e = (x, f) :: gre b (x + 2 ^ f) e from by rw [gre_yes HXE.out, HS.out])
            have hpw := pow_bd f (by omega)
            have HPW := Lib.hid (show (x : Int) + (2 : Int) ^ f = ((x + 2 ^ f : Nat) : Int) from by rw [pow_int]; omega)
            have hp1 := topN_pos f
            have HFE := Lib.hid hfe
            obtain ⟨p0, p1⟩ := hpw
            clear hp hfe
            generalize b - f = m at *
            go_upto_region 7 with (first | (go_at_call 99; refine (HP.out _).mono ?_; rintro r w1 ⟨rfl, hb1⟩) | (at_builtin; refine app_str (preT b (x, f)) (own_below HO.out hb1 (Nat.le_refl _)) rfl rfl rfl rfl (by omega) (by have := hbel.size; have := hb1.size; omega) ?_; intro v1 w2 hown2 hb2))
            go_wp2
            go_roundw
            case rel => exact ⟨pre ++ [(x, f)], x + 2 ^ f, by rw [HPW.out], by rw [HG.out, HGN.out]; simp, by have := HFE.out; omega, by rw [List.length_append]; simp; omega, by rw [List.length_append, List.map_append]; exact hown2, (bnx hbel hb1).trans hb2⟩
            case measure =>
              have := HXE.out
              have := topN_pos f
              rw [HPW.out]
              simp only [intOf, Int.toNat_natCast]
              omega
    · have hgt : hi < (x : Int) := by have := HHI.out; omega
      have HN := Lib.hid (show gre b x0 e = pre from by rw [HG.out, gre_no (by omega), List.append_nil])
      clear hxe
      go_wp2
      go_ret
      exact ⟨_, rfl, by rw [HN.out]; exact HO.out, hbel⟩
end Go.Proofs.YtaleaicfllcpiaaDoor.Fl
