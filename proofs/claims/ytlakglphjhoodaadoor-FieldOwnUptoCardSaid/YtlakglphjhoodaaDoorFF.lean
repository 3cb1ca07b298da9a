/- Merged for FieldOwn -/
import Derived.Test.YtlakglphjhoodaaDoorFC
import Derived.Test.YtlakglphjhoodaaDoorShelf
import Derived.Maps.AppendAt
import Derived.Test.YtlakglphjhoodaaDoorSs
namespace Go.Proofs.YtlakglphjhoodaaDoor.Fl
open Go.RowKit Mm Law
set_option linter.unusedVariables false
set_option linter.unusedSimpArgs false
set_option linter.unusedSectionVars false
theorem rep_x (n : Nat) : Lib.repeatL [120] n = List.replicate n (120 : UInt8) := by
  induction n with
  | zero => rfl
  | succ n ih => rw [List.replicate_succ, ← ih]; first | rfl | simp [Lib.repeatL]
theorem rep_any (n : Nat) (hn : n ≤ 1000) (w : World) : Calls Tryd.prog 30 #[.string ⟨#[120]⟩, .int .i64 (n : Int)] w fun e w' => e = .returned (.string (str (List.replicate n 120))) ∧ Below w.heap.size w w' := by
  have h := Tryd.strings_Repeat ⟨#[120]⟩ n w (by omega) (by show 1 * n ≤ _; omega)
  rw [show (⟨#[120]⟩ : ByteArray).data.toList = [120] from rfl, rep_x] at h
  exact h
theorem str_app (a b : List UInt8) : str a ++ str b = str (a ++ b) := by
  apply ByteArray.ext
  rw [← Array.toList_inj]
  simp [str, ByteArray.data_append]
set_option maxRecDepth 100000 in
set_option maxHeartbeats 1000000 in
theorem prefix_any (v b n : Nat) (hv : v < 4294967296) (hb : b ≤ 32) (hn : n ≤ b) (w : World) :
    Calls Tryd.prog 39 #[.int .i64 (v : Int), .int .i64 (b : Int), .int .i64 (n : Int)] w fun e w' => e = .returned (.string (str (preT b (v, b - n)))) ∧ Below w.heap.size w w' := by
  have HB := Lib.hid (fun w => binary_any v b n hv hb hn w)
  have HR := Lib.hid (fun w => rep_any (b - n) (by omega) w)
  have HS := Lib.hid (show str (preT b (v, b - n)) = str (hiB v b n) ++ str (List.replicate (b - n) 120) from by rw [str_app]; unfold preT; simp only; rw [show b - (b - n) = n by omega])
  have hl1 : (str (hiB v b n)).size = n := by rw [str_size, hiB_len]
  have hl2 : (str (List.replicate (b - n) (120 : UInt8))).size = b - n := by rw [str_size, List.length_replicate]
  have hbn : (b : Int) - (n : Int) = ((b - n : Nat) : Int) := by omega
  generalize str (hiB v b n) = s1 at *
  generalize str (List.replicate (b - n) (120 : UInt8)) = s2 at *
  generalize b - n = m at *
  go_enter Tryd.func39, Tryd.ntmps39
  go_wp2_with fail
  refine (HB.out _).mono ?_
  rintro e w1 ⟨rfl, hb1⟩
  go_wp2_with fail
  refine (HR.out _).mono ?_
  rintro e w2 ⟨rfl, hb2⟩
  go_wp2_with fail
  go_ret
  exact ⟨by rw [HS.out]; rfl, bnx hb1 hb2⟩
theorem and_i64 (x y : Nat) (h : x < 8589934592) (k : y < 8589934592) : bits .and .i64 (x : Int) (y : Int) = ((x &&& y : Nat) : Int) := by
  have hx : x &&& y < 2 ^ 33 := Nat.and_lt_two_pow _ (by omega)
  show IntKind.i64.wrap ((BitVec.ofInt 64 (x : Int) &&& BitVec.ofInt 64 (y : Int)).toNat : Int) = _
  have e1 : (BitVec.ofInt 64 (x : Int)).toNat = x := by rw [BitVec.toNat_ofInt]; omega
  have e2 : (BitVec.ofInt 64 (y : Int)).toNat = y := by rw [BitVec.toNat_ofInt]; omega
  rw [BitVec.toNat_and, e1, e2]
  exact IntWalk.i64_in _ (by omega)
theorem and_top (x n : Nat) (h : x < 8589934592) (hn : n ≤ 33) : bits .and .i64 (x : Int) (topN n : Int) = ((x % 2 ^ n : Nat) : Int) := by
  have h1 : topN n < 8589934592 := by
    have h2 := pow_33 hn
    have h3 : (2 : Nat) ^ 33 = 8589934592 := by decide
    have h4 := topN_pos n
    unfold topN
    omega
  rw [and_i64 _ _ h h1]
  unfold topN
  rw [Nat.and_two_pow_sub_one_eq_mod]
def sC (T : List (List UInt8)) : List Value := T.map fun t => .string (str t)
theorem info_str : (Tryd.prog.info? 9).map (fun i => (i.zero, i.size, i.bytes)) = some (some (.string ⟨#[]⟩), 1, 16) := by kernel_rfl
theorem app_str {B : Nat} {v : Value} {m : Nat} {L : List (List UInt8)} {w : World} (t : List UInt8) {ops : Array Oper} {rest : List Oper} {op : Oper} {a : Act} {Q : Exit → Act → World → Prop} {s x : Operand}
    (hown : w.ownsRow B 9 1 v m (sC L)) (hgd : op.guard = none) (ho : op.op = .call { callee := .builtin .append, args := #[s, x], argTypes := #[31, 31] })
    (hs : a.eval s = v) (hx : a.eval x = .slice (some ⟨w.heap.size, 0, none⟩) 1 1) (hn : (m + 1) * 16 ≤ 140737488355328) (hB : B ≤ w.heap.size)
    (h : ∀ v' w', w'.ownsRow B 9 1 v' (m + 1) (sC (L ++ [t])) → Below B w w' → wpList Tryd.prog ops Q rest (a.put op.dst v') w') : wpList Tryd.prog ops Q (op :: rest) a (w.alloc (.cells #[.string (str t)] 9)) := by
  obtain ⟨i0, hi, hz0, hz1, hz2⟩ := info_parts info_str
  refine wpList_append_own _ hgd s x 31 ho B 9 i0 _ 1 16 Tryd.underlying31 hi hz0 hz1 hz2 rfl (by decide) v m _ hs (hown.alloc _) ⟨w.heap.size, 0, none⟩ 1 1 [.string (str t)] hx rfl (cells_new _ #[.string (str t)] _)
    (by simp [Value.oneCell']) (by simp only [maxLen]; omega) (by omega) (by simp; omega) ?_
  intro v' w1 hown' hg _
  have h1 : Below B w (w.alloc (.cells #[.string (str t)] 9)) := (Below.refl _ _).alloc hB _
  exact h v' w1 (by unfold sC at hown' ⊢; rw [List.map_append]; exact hown') (h1.grown hg (by simp; omega) (fun k hk => (hown.lt k hk).1))
theorem fr_step {b x e f : Nat} : (f < b ∧ okB x e (f + 1) → fr b x e f = fr b x e (f + 1)) ∧ (¬ (f < b ∧ okB x e (f + 1)) → fr b x e f = f) :=
  ⟨fun h => fr_yes h.1 h.2, fun h => fr_no h⟩
set_option maxRecDepth 100000 in
set_option maxHeartbeats 4000000 in
theorem cover_any (b x0 e : Nat) (hi : Int) (hb : b ≤ 32) (hx0 : x0 ≤ 4294967296) (he : e ≤ 2 ^ b) (hhi : hi + 1 = (e : Int)) (w : World) :
    Calls Tryd.prog 26 #[.int .i64 (b : Int), .int .i64 (x0 : Int), .int .i64 hi] w fun r w' => ∃ u, r = .returned u ∧ w'.ownsRow w.heap.size 9 1 u (gre b x0 e).length (sC ((gre b x0 e).map (preT b))) ∧ Below w.heap.size w w' := by
  have he32 : e ≤ 4294967296 := by
    have h2 := pow_33 hb
    have h3 : (2 : Nat) ^ 32 = 4294967296 := by decide
    omega
  have HHI := Lib.hid hhi
  have hhi0 : -1 ≤ hi := by omega
  have hhi1 : hi < 4294967296 := by omega
  have HE := Lib.hid he
  clear hhi he
  go_enter Tryd.func26, Tryd.ntmps26
  go_wp2
  go_loopw [7, 1] (fun u lo wr => ∃ (pre : List (Nat × Nat)) (x : Nat), lo = .int .i64 x ∧ gre b x0 e = pre ++ gre b x e ∧ x ≤ 4294967296 ∧ pre.length ≤ x ∧ wr.ownsRow w.heap.size 9 1 u pre.length (sC (pre.map (preT b))) ∧ Below w.heap.size w wr) (fun _ lo _ => e - (intOf lo).toNat)
  case atStart => exact ⟨[], x0, rfl, rfl, hx0, Nat.zero_le _, World.ownsRow_nil _ _ _ _, Below.refl _ _⟩
  case round =>
    obtain ⟨pre, x, rfl, hgr, hx, hpl, hown, hbel⟩ := hrel
    have HG := Lib.hid hgr
    have HO := Lib.hid hown
    obtain ⟨wo, rfl⟩ : ∃ wo : World, wo = wr := ⟨_, rfl⟩
    clear hgr hown
    by_cases hxe : x < e
    · have hle : (x : Int) ≤ hi := by have := HHI.out; omega
      have HXE := Lib.hid hxe
      clear hxe
      go_wp2
      have HSP := Lib.hid (fr_spec (b := b) (x := x) (e := e) b 0 (by omega) (by omega) (okB_zero HXE.out))
      go_loopw [8] (fun u wr => ∃ f : Nat, f ≤ b ∧ u = .int .i64 (f : Int) ∧ fr b x e 0 = fr b x e f ∧ wo = wr) (fun u _ => b - (intOf u).toNat)
      case atStart => exact ⟨0, Nat.zero_le _, rfl, rfl, rfl⟩
      case round =>
        obtain ⟨f, hf, rfl, hfr, rfl⟩ := hrel
        have HFR := Lib.hid hfr
        clear hfr
        go_upto_region 4 with fail
        go_cut [31] (fun s31 wx => s31 = .bool (decide (f < b ∧ okB x e (f + 1))) ∧ wo = wx)
        case first =>
          by_cases hfb : f < b
          · have htop := fun w => top_any (f + 1) (by omega) w
            simp only [Int.natCast_add, Int.cast_ofNat_Int] at htop
            have HT := Lib.hid htop
            have hand := and_top x (f + 1) (by omega) (by omega)
            have htl : topN (f + 1) + 1 = 2 ^ (f + 1) := by have := topN_pos (f + 1); unfold topN; omega
            have htb : topN (f + 1) ≤ 8589934592 := by
              have h2 := pow_33 (show f + 1 ≤ 33 by omega)
              have h3 : (2 : Nat) ^ 33 = 8589934592 := by decide
              omega
            by_cases hm : x % 2 ^ (f + 1) = 0
            · rw [hm] at hand
              by_cases hfit : x + 2 ^ (f + 1) ≤ e
              · have HD := Lib.hid (decide_eq_true (show f < b ∧ okB x e (f + 1) from ⟨hfb, hm, hfit⟩))
                have hle2 : (x : Int) + (topN (f + 1) : Int) ≤ hi := by have := HHI.out; omega
                clear htop hm hfit htl
                generalize topN (f + 1) = T at *
                go_wp2_with (go_at_call 25; refine (HT.out _).mono ?_; rintro r w' ⟨rfl, rfl⟩)
                go_meet
                exact ⟨by rw [HD.out], rfl⟩
              · have HD := Lib.hid (decide_eq_false (show ¬ (f < b ∧ okB x e (f + 1)) from fun h => hfit h.2.2))
                have hle2 : hi < (x : Int) + (topN (f + 1) : Int) := by have := HHI.out; omega
                clear htop hm hfit htl
                generalize topN (f + 1) = T at *
                go_wp2_with (go_at_call 25; refine (HT.out _).mono ?_; rintro r w' ⟨rfl, rfl⟩)
                go_meet
                exact ⟨by first | (rw [HD.out]; done) | (rw [HD.out, decide_eq_false (by omega)]), rfl⟩
            · have HD := Lib.hid (decide_eq_false (show ¬ (f < b ∧ okB x e (f + 1)) from fun h => hm h.2.1))
              have hne : (((x % 2 ^ (f + 1) : Nat) : Int) == 0) = false := by rw [beq_eq_false_iff_ne]; omega
              clear htop hm htl
              generalize topN (f + 1) = T at *
              generalize x % 2 ^ (f + 1) = M at *
              go_wp2_with (go_at_call 25; refine (HT.out _).mono ?_; rintro r w' ⟨rfl, rfl⟩)
              go_meet
              exact ⟨by rw [HD.out], rfl⟩
          · have HD := Lib.hid (decide_eq_false (show ¬ (f < b ∧ okB x e (f + 1)) from fun h => hfb h.1))
            have hbf : b ≤ f := by omega
            clear hfb
            go_wp2_with fail
            go_meet
            exact ⟨by rw [HD.out], rfl⟩
        case rest =>
          obtain ⟨rfl, rfl⟩ := hcut
          by_cases hok : f < b ∧ okB x e (f + 1)
          · rw [decide_eq_true hok]
            have HS := Lib.hid ((fr_step (b := b) (x := x) (e := e) (f := f)).1 hok)
            obtain ⟨hfb, hok2⟩ := hok
            clear hok2
            go_wp2
            go_roundw
            case rel => exact ⟨f + 1, by omega, by go_num, by rw [HFR.out]; exact HS.out, by first | rfl | trivial⟩
            case measure => simp [intOf]; omega
          · rw [decide_eq_false hok]
            have HS := Lib.hid (show fr b x e 0 = f from by rw [HFR.out]; exact (fr_step (b := b) (x := x) (e := e) (f := f)).2 hok)
            clear hok
            have hsp := HSP.out
            rw [HS.out] at hsp
            obtain ⟨⟨_, hfe⟩, _, _, _⟩ := hsp
            have hx32 : x < 4294967296 := by have := topN_pos f; omega
            have hbf : (b : Int) - (f : Int) = ((b - f : Nat) : Int) := by omega
            have hp := fun w => prefix_any x b (b - f) hx32 hb (by omega) w
            rw [show b - (b - f) = f by omega] at hp
            have HP := Lib.hid hp
            have HGN := Lib.hid (show gre b x e = (x, f) :: gre b (x + 2 ^ f) e from by rw [gre_yes HXE.out, HS.out])
            have hpw := pow_bd f (by omega)
            have HPW := Lib.hid (show (x : Int) + (2 : Int) ^ f = ((x + 2 ^ f : Nat) : Int) from by rw [pow_int]; omega)
            have hp1 := topN_pos f
            have HFE := Lib.hid hfe
            obtain ⟨p0, p1⟩ := hpw
            clear hp hfe
            generalize b - f = m at *
            go_upto_region 7 with (first | (go_at_call 39; refine (HP.out _).mono ?_; rintro r w1 ⟨rfl, hb1⟩) | (at_builtin; refine app_str (preT b (x, f)) (own_below HO.out hb1 (Nat.le_refl _)) rfl rfl rfl rfl (by omega) (by have := hbel.size; have := hb1.size; omega) ?_; intro v1 w2 hown2 hb2))
            go_wp2
            go_roundw
            case rel => exact ⟨pre ++ [(x, f)], x + 2 ^ f, by rw [HPW.out], by rw [HG.out, HGN.out]; simp, by have := HFE.out; omega, by rw [List.length_append]; simp; omega, by rw [List.length_append, List.map_append]; exact hown2, (bnx hbel hb1).trans hb2⟩
            case measure =>
              have := HXE.out
              have := topN_pos f
              rw [HPW.out]
              simp only [intOf, Int.toNat_natCast]
              omega
    · have hgt : hi < (x : Int) := by have := HHI.out; omega
      have HN := Lib.hid (show gre b x0 e = pre from by rw [HG.out, gre_no (by omega), List.append_nil])
      clear hxe
      go_wp2
      go_ret
      exact ⟨_, rfl, by rw [HN.out]; exact HO.out, hbel⟩
end Go.Proofs.YtlakglphjhoodaaDoor.Fl

namespace Go.Proofs.YtlakglphjhoodaaDoor.Fl
open Go.RowKit Mm Law
theorem hal_one {k x lo e : Nat} (h : lo ≤ x ∧ x + 2 ^ k ≤ e) : hal k x lo e = [(x, k)] := by
  cases k with
  | zero => unfold hal; rw [if_pos h]
  | succ k => unfold hal; rw [if_pos h]
theorem hal_none {k x lo e : Nat} (h : ¬ (lo ≤ x ∧ x + 2 ^ k ≤ e)) (h2 : e ≤ x ∨ x + 2 ^ k ≤ lo) : hal k x lo e = [] := by
  cases k with
  | zero => unfold hal; rw [if_neg h]
  | succ k => unfold hal; rw [if_neg h, if_pos h2]
theorem hal_two {k x lo e : Nat} (h : ¬ (lo ≤ x ∧ x + 2 ^ k ≤ e)) (h2 : ¬ (e ≤ x ∨ x + 2 ^ k ≤ lo)) : ∃ j, k = j + 1 ∧ hal k x lo e = hal j x lo e ++ hal j (x + 2 ^ j) lo e := by
  cases k with
  | zero => simp at h h2; omega
  | succ k => exact ⟨k, rfl, by conv => lhs; unfold hal
                                rw [if_neg h, if_neg h2]⟩
theorem hal_len (lo e : Nat) : ∀ k x, (hal k x lo e).length ≤ 2 ^ k := by
  intro k
  induction k with
  | zero => intro x; unfold hal; split <;> simp
  | succ k ih =>
    intro x
    have h1 := ih x
    have h2 := ih (x + 2 ^ k)
    have h3 := topN_pos k
    have h4 : 2 ^ (k + 1) = 2 ^ k + 2 ^ k := by rw [Nat.pow_succ]; omega
    unfold hal
    split
    · simp; omega
    · split
      · simp
      · rw [List.length_append]; omega
theorem app_strs {B : Nat} {v : Value} {m : Nat} {L : List (List UInt8)} {w : World} (t : List UInt8) {ops : Array Oper} {rest : List Oper} {op : Oper} {a : Act} {Q : Exit → Act → World → Prop} {s x : Operand}
    (hown : w.ownsRow B 9 1 v m (sC L)) (hgd : op.guard = none) (ho : op.op = .call { callee := .builtin .append, args := #[s, x], argTypes := #[31, 31] })
    (hs : a.eval s = v) (hx : a.eval x = .slice (some ⟨w.heap.size, 0, none⟩) 1 1) (hn : (m + 1) * 16 ≤ 140737488355328) (hB : B ≤ w.heap.size)
    (h : ∀ v' w', w'.ownsRow B 9 1 v' (m + 1) (sC (L ++ [t])) → Below B w w' → (w.alloc (.cells #[.string (str t)] 9)).grownBy w' v.ownBlock → (v'.ownBlock = v.ownBlock ∨ v'.ownBlock = some (w.heap.size + 1)) → wpList Tryd.prog ops Q rest (a.put op.dst v') w') : wpList Tryd.prog ops Q (op :: rest) a (w.alloc (.cells #[.string (str t)] 9)) := by
  obtain ⟨i0, hi, hz0, hz1, hz2⟩ := info_parts info_str
  refine wpList_append_own_at _ hgd s x 31 ho B 9 i0 _ 1 16 Tryd.underlying31 hi hz0 hz1 hz2 rfl (by decide) v m _ hs (hown.alloc _) ⟨w.heap.size, 0, none⟩ 1 1 [.string (str t)] hx rfl (cells_new _ #[.string (str t)] _)
    (by simp [Value.oneCell']) (by simp only [maxLen]; omega) (by omega) (by simp; omega) ?_
  intro v' w1 hown' hg _ hat
  have h1 : Below B w (w.alloc (.cells #[.string (str t)] 9)) := (Below.refl _ _).alloc hB _
  exact h v' w1 (by unfold sC at hown' ⊢; rw [List.map_append]; exact hown') (h1.grown hg (by simp; omega) (fun k hk => (hown.lt k hk).1)) hg (by simpa using hat)
theorem sC_at (T : List (List UInt8)) (j : Nat) (t : List UInt8) (h : T[j]? = some t) : (sC T)[j]? = some (.string (str t)) := by
  unfold sC; rw [List.getElem?_map, h]; rfl
end Go.Proofs.YtlakglphjhoodaaDoor.Fl

namespace Go.Proofs.YtlakglphjhoodaaDoor.Fl
open Go.RowKit Mm Law
def cvE (b lo hi : Int) : Int := if b < 1 ∨ 32 < b then 1 else if lo < 0 ∨ (topN b.toNat : Int) < lo ∨ hi < 0 ∨ (topN b.toNat : Int) < hi then 42 else if hi < lo then 43 else 0
def cvT (b lo hi : Int) : List (List UInt8) := if cvE b lo hi = 0 then (gre b.toNat lo.toNat (hi.toNat + 1)).map (preT b.toNat) else []
def CovAns (w : World) (b lo hi : Int) (r : Ending) (w' : World) : Prop := ∃ u, r = .returned (.tuple #[u, .int .i64 (cvE b lo hi)]) ∧ w'.ownsRow w.heap.size 9 1 u (cvT b lo hi).length (sC (cvT b lo hi)) ∧ Below w.heap.size w w'
theorem cov_err {w : World} {b lo hi E : Int} (h : cvE b lo hi = E) (h0 : E ≠ 0) {w' : World} (hb : Below w.heap.size w w') : CovAns w b lo hi (.returned (.tuple #[.slice none 0 0, .int .i64 E])) w' := by
  have hT : cvT b lo hi = [] := by unfold cvT; rw [h, if_neg h0]
  refine ⟨_, by rw [h], ?_, hb⟩
  rw [hT]
  exact World.ownsRow_nil _ _ _ _
theorem rcov_ok (b lo hi : Nat) (h1 : 1 ≤ b) (h2 : b ≤ 32) (hl : lo ≤ hi) (hh : hi ≤ topN b) : cvE b lo hi = 0 ∧ cvT b lo hi = (gre b lo (hi + 1)).map (preT b) := by
  have hE : cvE b lo hi = 0 := by
    unfold cvE
    rw [if_neg (by omega), if_neg (by rw [Int.toNat_natCast]; omega), if_neg (by omega)]
  refine ⟨hE, ?_⟩
  unfold cvT
  rw [if_pos hE]
  simp only [Int.toNat_natCast]
theorem top_lt (b : Nat) (h : b ≤ 32) : topN b + 1 = 2 ^ b ∧ 2 ^ b ≤ 4294967296 := by
  have h2 := pow_33 h
  have h3 : (2 : Nat) ^ 32 = 4294967296 := by decide
  have h4 := topN_pos b
  unfold topN
  omega
set_option maxRecDepth 100000 in
set_option maxHeartbeats 4000000 in
theorem cov_walk (b lo hi : Int) (wb : (Lit.int .i64 b).wf = true) (wl : (Lit.int .i64 lo).wf = true) (wh : (Lit.int .i64 hi).wf = true) (w : World) :
    Calls Tryd.prog 15 #[.int .i64 b, .int .i64 lo, .int .i64 hi] w (CovAns w b lo hi) := by
  by_cases hb : b < 1 ∨ 32 < b
  · have HE := Lib.hid (show cvE b lo hi = 1 from by unfold cvE; rw [if_pos hb])
    have hb' : b < 1 ∨ (1 ≤ b ∧ 32 < b) := by omega
    clear hb
    rcases hb' with hb | ⟨hb0, hb⟩
    all_goals
      go_enter Tryd.func15, Tryd.ntmps15
      go_wp2
      refine bodyPost_ret (v := .tuple #[.slice none 0 0, .int .i64 1]) (by simp [results, Tryd.results15, go_sem]) rfl (cov_err HE.out (by decide) (Below.refl _ _))
  · obtain ⟨B, rfl⟩ := Int.eq_ofNat_of_zero_le (show 0 ≤ b by omega)
    have b1 : 1 ≤ B := by omega
    have b2 : B ≤ 32 := by omega
    have hT := fun w => top_any B (by omega) w
    obtain ⟨ht1, ht2⟩ := top_lt B b2
    have HT := Lib.hid hT
    have i1 : 1 ≤ (B : Int) := by omega
    have i2 : (B : Int) ≤ 32 := by omega
    by_cases hv : lo < 0 ∨ (topN B : Int) < lo ∨ hi < 0 ∨ (topN B : Int) < hi
    · have HE := Lib.hid (show cvE B lo hi = 42 from by unfold cvE; rw [if_neg hb, if_pos (by rw [Int.toNat_natCast]; exact hv)])
      have hv' : lo < 0 ∨ (0 ≤ lo ∧ (topN B : Int) < lo) ∨ (0 ≤ lo ∧ lo ≤ (topN B : Int) ∧ hi < 0) ∨ (0 ≤ lo ∧ lo ≤ (topN B : Int) ∧ 0 ≤ hi ∧ (topN B : Int) < hi) := by omega
      clear hv hb hT ht1
      generalize topN B = T at *
      rcases hv' with h1 | ⟨h1, h2⟩ | ⟨h1, h2, h3⟩ | ⟨h1, h2, h3, h4⟩
      all_goals
        go_enter Tryd.func15, Tryd.ntmps15
        go_wp2_with (go_at_call 25; refine (HT.out _).mono ?_; rintro r w' ⟨rfl, rfl⟩)
        refine bodyPost_ret (v := .tuple #[.slice none 0 0, .int .i64 42]) (by simp [results, Tryd.results15, go_sem]) rfl (cov_err HE.out (by decide) (Below.refl _ _))
    · obtain ⟨L, rfl⟩ := Int.eq_ofNat_of_zero_le (show 0 ≤ lo by omega)
      obtain ⟨I, rfl⟩ := Int.eq_ofNat_of_zero_le (show 0 ≤ hi by omega)
      have l1 : (L : Int) ≤ (topN B : Int) := by omega
      have l2 : (I : Int) ≤ (topN B : Int) := by omega
      by_cases hr : I < L
      · have HE := Lib.hid (show cvE B L I = 43 from by unfold cvE; rw [if_neg hb, if_neg (by rw [Int.toNat_natCast]; exact hv), if_pos (by omega)])
        clear hv hb hT ht1
        generalize topN B = T at *
        go_enter Tryd.func15, Tryd.ntmps15
        go_wp2_with (go_at_call 25; refine (HT.out _).mono ?_; rintro r w' ⟨rfl, rfl⟩)
        refine bodyPost_ret (v := .tuple #[.slice none 0 0, .int .i64 43]) (by simp [results, Tryd.results15, go_sem]) rfl (cov_err HE.out (by decide) (Below.refl _ _))
      · obtain ⟨hE, hTT⟩ := rcov_ok B L I b1 b2 (by omega) (by omega)
        have HE := Lib.hid hE
        have HTT := Lib.hid hTT
        have HC := Lib.hid (fun w => cover_any B L (I + 1) (I : Int) b2 (by omega) (by omega) (by omega) w)
        have hLI : L ≤ I := by omega
        clear hv hb hT ht1 hE hTT hr
        generalize topN B = T at *
        go_enter Tryd.func15, Tryd.ntmps15
        go_wp2_with (first | (go_at_call 25; refine (HT.out _).mono ?_; rintro r w' ⟨rfl, rfl⟩) | (go_at_call 26; refine (HC.out _).mono ?_; rintro r w1 ⟨u, rfl, ho, hb1⟩))
        refine bodyPost_ret (v := .tuple #[u, .int .i64 0]) (by simp [results, Tryd.results15, go_sem]) rfl ⟨u, by rw [HE.out], by rw [HTT.out, List.length_map]; exact ho, hb1⟩
end Go.Proofs.YtlakglphjhoodaaDoor.Fl

namespace Go.Proofs.YtlakglphjhoodaaDoor.Fl
open Go.RowKit Mm Law
set_option maxRecDepth 100000 in
set_option maxHeartbeats 2000000 in
theorem same_yes (T : List (List UInt8)) (v u : Value) (w : World) (hv : SeesS w v 1 T.length (sC T)) (hu : SeesS w u 1 T.length (sC T)) :
    Calls Tryd.prog 11 #[v, u] w fun e w' => e = .returned (.bool true) ∧ Below w.heap.size w w' := by
  obtain ⟨a0, cap0, rfl, hcap, hcm⟩ := hv.form
  obtain ⟨a1, cap1, rfl, hcap1, hcm1⟩ := hu.form
  have HX := Lib.hid hv
  have HX1 := Lib.hid hu
  unfold maxLen at hcm hcm1
  have hne : ((T.length : Int) != (T.length : Int)) = false := by simp
  clear hv hu
  go_enter Tryd.func11, Tryd.ntmps11
  go_wp2
  go_loopw [5] (fun i wr => ∃ k : Nat, k ≤ T.length ∧ i = .int .i64 k ∧ Below w.heap.size w wr) (fun i _ => T.length - (intOf i).toNat)
  case atStart => exact ⟨0, Nat.zero_le _, rfl, Below.refl _ _⟩
  case round =>
    obtain ⟨k, hk, rfl, hbel⟩ := hrel
    by_cases hlt : k < T.length
    · obtain ⟨_, g, off, rfl, hg, hq⟩ := HX.out.at (by omega)
      obtain ⟨_, g1, off1, rfl, hg1, hq1⟩ := HX1.out.at (by omega)
      have kat := sC_at T k T[k] (by simp [hlt])
      have q0 := hq _ _ kat
      have p0 := hq1 _ _ kat
      rw [← hbel.cell (p := ⟨g, off + k, none⟩) hg] at q0
      rw [← hbel.cell (p := ⟨g1, off1 + k, none⟩) hg1] at p0
      generalize str T[k] = z at *
      have hzz : (z.toList != z.toList) = false := by simp
      have hx1 : (k : Int) < (T.length : Int) := by omega
      have hx0 : (0 : Int) ≤ (k : Int) := by omega
      clear hq hq1 kat
      go_wp2
      go_quiet (fail)
      go_wp2
      go_roundw
      case rel => exact ⟨k + 1, by omega, by go_num, below_drewN hbel _⟩
      case measure => simp [intOf]; omega
    · go_wp2
      go_ret
      exact ⟨rfl, hbel⟩
def knownT : List (List UInt8) := [[48, 48, 49, 49], [48, 49, 120, 120], [49, 48, 48, 120]]
theorem known_cv : cvE 4 3 9 = 0 ∧ cvT 4 3 9 = knownT := by
  obtain ⟨a, b⟩ := rcov_ok 4 3 9 (by decide) (by decide) (by decide) (by decide)
  refine ⟨a, ?_⟩
  rw [show cvT 4 3 9 = _ from b, ← hal_top 4 3 10 (by decide)]
  decide
theorem new_strs (w : World) (T : List (List UInt8)) (h : T.length ≤ 1000) (n : Nat) (hn : n = T.length) : SeesS (w.alloc (.cells (sC T).toArray 9)) (.slice (some ⟨w.heap.size, 0, none⟩) n n) 1 T.length (sC T) := by
  subst hn
  refine ⟨_, _, rfl, (fun h => by cases h), Nat.le_refl _, by unfold maxLen; omega, by simp [sC], .inr ⟨w.heap.size, 0, rfl, by simp, fun j u hj => ?_⟩⟩
  rw [Nat.zero_add, cell_of_row _ w.heap.size j _ 9 (0, 0) (heap_alloc_new w _), ← Array.getElem?_toList]
  exact hj
set_option maxRecDepth 100000 in
set_option maxHeartbeats 1000000 in
theorem known_yes (w : World) : Calls Tryd.prog 13 #[] w fun e w' => e = .returned (.bool true) ∧ Below w.heap.size w w' := by
  have hc := fun w => cov_walk 4 3 9 rfl rfl rfl w
  unfold CovAns at hc
  rw [known_cv.1, known_cv.2] at hc
  have HC := Lib.hid hc
  clear hc
  go_enter Tryd.func13, Tryd.ntmps13
  go_wp2_with fail
  refine (HC.out _).mono ?_
  rintro e w1 ⟨u, rfl, ho, hb1⟩
  have HO := Lib.hid (SeesS.of_own ho)
  clear ho
  go_wp2_with fail
  refine (num_any _ _ (by decide)).mono ?_
  rintro e w' ⟨rfl, rfl⟩
  go_wp2_with fail
  refine (same_yes knownT _ _ _ (HO.out.below ((Below.refl _ _).alloc (Nat.le_refl _) _)) (new_strs w1 knownT (by decide) 3 rfl)).mono ?_
  rintro e w2 ⟨rfl, hb2⟩
  go_wp2_with fail
  go_ret
  exact ⟨rfl, bnx (bal hb1 _) hb2⟩
theorem cvE_form (b lo hi : Int) : -9223372036854775808 ≤ cvE b lo hi ∧ cvE b lo hi ≤ 9223372036854775807 := by
  unfold cvE
  split
  · decide
  · split
    · decide
    · split <;> decide
end Go.Proofs.YtlakglphjhoodaaDoor.Fl
