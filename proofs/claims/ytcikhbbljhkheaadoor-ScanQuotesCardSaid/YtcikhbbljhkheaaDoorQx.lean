/- The program's pieces of Quote: a byte by its number. -/
import Derived.Test.YtcikhbbljhkheaaDoorQw
import Derived.Test.YtcikhbbljhkheaaDoorShelf
import Derived.Lib.AppendStr
import Derived.Lib.OwnKind
import Derived.Deep.RegionHeld3
import Derived.Deep.AppendLies
import Derived.Stop.FmtQuoteTie
namespace Go.Proofs.YtcikhbbljhkheaaDoor.Sn
open Go.RowKit Mm
set_option linter.unusedVariables false
def AppR (w : World) (B n : Nat) (l bs : List UInt8) (e : Ending) (w' : World) : Prop :=
  ∃ v', e = .returned v' ∧ w'.ownsRow B 5 1 v' (n + bs.length) ((l ++ bs).map bv) ∧ Below B w w' ∧ Lib.OthersKept 5 none w w'
theorem app_bs {B : Nat} {v : Value} {n : Nat} {l : List UInt8} {w : World} (bs : List UInt8) (k : Nat) {cs : Array Value} {ops : Array Oper} {rest : List Oper} {o : Oper} {a : Act} {Q : Exit → Act → World → Prop} {s x : Operand}
    (hown : w.ownsRow B 5 1 v n (l.map bv)) (hcs : cs.toList = bs.map bv) (hk : bs.length = k) (hgd : o.guard = none) (ho : o.op = .call { callee := .builtin .append, args := #[s, x], argTypes := #[31, 31] })
    (hs : a.eval s = v) (hx : a.eval x = .slice (some ⟨w.heap.size, 0, none⟩) k k) (hn : n + k ≤ 1000000) (hB : B ≤ w.heap.size)
    (h : ∀ v' w', AppR w B n l bs (.returned v') w' → wpList Tryd.prog ops Q rest (a.put o.dst v') w') : wpList Tryd.prog ops Q (o :: rest) a (w.alloc (.cells cs 5)) := by
  obtain ⟨i0, hi, hz0, hz1, hz2⟩ := info_parts info_u8
  subst hk
  refine wpList_append_own _ hgd s x 31 ho B 5 i0 (.int .u8 0) 1 1 Tryd.underlying31 hi hz0 hz1 hz2 rfl (by decide) v n _ hs (hown.alloc _) ⟨w.heap.size, 0, none⟩ bs.length bs.length (bs.map bv) hx (by simp) (by
      intro j u hj
      rw [add_off, World.cell?_alloc_new, ← Array.getElem?_toList, hcs, hj])
    (by intro u hu; obtain ⟨b, _, rfl⟩ := List.mem_map.1 hu; rfl) (by simp only [maxLen]; omega) (by omega) (by simp; omega) ?_
  intro v' w1 hown' hg _
  refine h v' w1 ⟨v', rfl, by rw [List.map_append]; exact hown', ?_, ?_⟩
  · have h1 : Below B w (w.alloc (.cells cs 5)) := (Below.refl _ _).alloc hB _
    exact h1.grown hg (by simp; omega) (fun k hk => (hown.lt k hk).1)
  · exact ((Lib.OthersKept.refl _ none w).alloc _).grown hg (Lib.ownsRow_kind (hown.alloc _))
theorem and_15 (x : Nat) (h : x < 256) : bits .and .u8 (x : Int) 15 = ((x % 16 : Nat) : Int) := by
  have hx : x &&& 15 < 2 ^ 8 := Nat.and_lt_two_pow _ (by omega)
  show IntKind.u8.wrap ((BitVec.ofInt 8 (x : Int) &&& BitVec.ofInt 8 (15 : Int)).toNat : Int) = _
  have e1 : (BitVec.ofInt 8 (x : Int)).toNat = x := by rw [BitVec.toNat_ofInt]; omega
  have e2 : (BitVec.ofInt 8 (15 : Int)).toNat = 15 := by decide
  rw [BitVec.toNat_and, e1, e2, show x &&& 15 = x % 16 from Nat.and_two_pow_sub_one_eq_mod x 4]
  exact IntWalk.u8_in _ (by omega)
set_option maxRecDepth 100000 in
theorem step_app_bs {B : Nat} {v : Value} {n : Nat} {l : List UInt8} {w : World} (bs : List UInt8) (k : Nat) {cs : Array Value} {ops : Array Oper} {o : Oper} {a : Act} {K : Act → World → Prop} {Q : Exit → Act → World → Prop} {E : Prop} (s x : Operand)
    (hown : w.ownsRow B 5 1 v n (l.map bv)) (hcs : cs.toList = bs.map bv) (hk : bs.length = k) (hgd : o.guard = none) (ho : o.op = .call { callee := .builtin .append, args := #[s, x], argTypes := #[31, 31] })
    (hs : a.eval s = v) (hx : a.eval x = .slice (some ⟨w.heap.size, 0, none⟩) k k) (hn : n + k ≤ 1000000) (hk0 : 0 < k) (hB : B ≤ w.heap.size)
    (h : ∀ v' w', AppR w B n l bs (.returned v') w' → K (a.put o.dst v') w') :
    if Region.wanted o (yielded ops a.tmps) = true then Oper.wp Tryd.prog o a (w.alloc (.cells cs 5)).drew K Q else E := by
  obtain ⟨i0, hi, hz0, hz1, hz2⟩ := info_parts info_u8
  subst hk
  have hown2 : (w.alloc (.cells cs 5)).drew.ownsRow B 5 1 v n (l.map bv) := hown.alloc _
  refine step_append_lies _ hgd s x 31 ho B 5 i0 (.int .u8 0) 1 1 Tryd.underlying31 hi hz0 hz1 hz2 rfl (by decide) v n _ hs hown2 ⟨w.heap.size, 0, none⟩ bs.length bs.length (bs.map bv) hx (by simp) (by
      intro j u hj
      show (w.alloc (.cells cs 5)).cell? _ = _
      rw [add_off, World.cell?_alloc_new, ← Array.getElem?_toList, hcs, hj])
    (by intro u hu; obtain ⟨b, _, rfl⟩ := List.mem_map.1 hu; rfl) hk0 (by simp only [maxLen]; omega) (by omega) (by show B ≤ (w.alloc _).heap.size; simp; omega) _ rfl ?_
  intro g cap w1 hown' hg _ _
  refine h _ w1 ⟨_, rfl, by rw [List.map_append]; exact hown', ?_, ?_⟩
  · have h1 : Below B w (w.alloc (.cells cs 5)).drew := ((Below.refl _ _).alloc hB _).drew
    exact h1.grown hg (by show B ≤ (w.alloc _).heap.size; simp; omega) (fun k hk => (hown.lt k hk).1)
  · exact (((Lib.OthersKept.refl _ none w).alloc _).drew).grown hg (Lib.ownsRow_kind hown2)
theorem hex_lit (n : Nat) (h : n < 16) (i : Int) (hi : i = (n : Int)) : ∀ hk, (hexS[i.toNat]'hk) = hx n := by
  subst hi
  intro hk
  show hexS[n] = hx n
  rw [get_in hexS n hk, hex_get n h]
set_option maxRecDepth 100000 in
set_option maxHeartbeats 4000000 in
theorem byName_any (B n : Nat) (l : List UInt8) (v : Value) (c : Nat) (hc : c < 256) (hn : n ≤ 100000) (w : World) (ho : w.ownsRow B 5 1 v n (l.map bv)) (hB : B ≤ w.heap.size) :
    Calls Tryd.prog 10 #[v, .int .u8 (c : Int)] w (AppR w B n l (looseP c)) := by
  have HO := Lib.hid ho
  have ha := and_15 c hc
  have mixed : Tryd.prog.follows Departure.mixedOrders = true := by kernel_rfl
  have hl1 := hex_lit (c / 16) (by omega) ((c : Int) / 16) (by omega)
  have hl2 := hex_lit (c % 16) (by omega) ((c : Int) % 16) (by omega)
  have HP := Lib.hid (show looseP c = [92, 120, hx (c / 16), hx (c % 16)] from rfl)
  generalize hx (c / 16) = d1 at *
  generalize hx (c % 16) = d2 at *
  generalize looseP c = lp at *
  have i0 : (0 : Int) ≤ (c : Int) / 16 := by omega
  have i1 : (c : Int) / 16 < 16 := by omega
  have i2 : (0 : Int) ≤ (c : Int) % 16 := by omega
  have i3 : (c : Int) % 16 < 16 := by omega
  clear ho
  go_enter Tryd.func10, Tryd.ntmps10
  go_wp2_with fail
  go_region_held3 (fun _ => True)
    (trivial)
    (first | (refine step_app_bs lp 4 (.tmp 5) (.tmp 12) HO.out ?hcs (by rw [HP.out]; rfl) ?gd ?gc ?gs ?gx (by omega) (by decide) hB ?_; (case gd => rfl); (case gc => rfl); (case gs => rfl); (case gx => rfl); (case hcs => rw [HP.out]; rfl); intro v4 w4 hr4) | fail)
  all_goals (go_wp2_with fail)
  all_goals go_ret
  all_goals exact hr4
set_option maxRecDepth 100000 in
set_option maxHeartbeats 4000000 in
theorem unseen_any (n : Nat) (w : World) : Calls Tryd.prog 20 #[.int .i32 (n : Int)] w fun e w' => e = .returned (.bool (unsB n)) ∧ w = w' := by
  have hb : ((n : Int) == 65279) = decide (n = 65279) := by rw [Bool.eq_iff_iff, beq_iff_eq, decide_eq_true_eq]; omega
  go_enter Tryd.func20, Tryd.ntmps20
  go_wp2
  all_goals go_ret
  all_goals refine ⟨?_, rfl⟩
  all_goals refine congrArg Ending.returned ?_
  all_goals unfold unsB
  all_goals refine congrArg Value.bool ?_
  all_goals rw [Bool.eq_iff_iff]
  all_goals simp only [decide_eq_true_eq, true_iff, Bool.false_eq_true, false_iff]
  all_goals omega
set_option maxRecDepth 100000 in
set_option maxHeartbeats 4000000 in
theorem loose_any (s : ByteArray) (p c : Nat) (hc : (Utf8.decode s p).1 = c) (hp : p < s.size) (w : World) (hT : Lib.Utf8Tabs 0 1 w) :
    Calls Tryd.prog 9 #[.string s, .int .i64 (p : Int), .int .i32 (c : Int)] w fun e w' => e = .returned (.bool (decide (Utf8.decode s p = (65533, 1)))) ∧ Below w.heap.size w w' := by
  by_cases h : c = 65533
  · have hcc : (Utf8.decode s p).1 = 65533 := hc.trans h
    clear hc
    subst h
    have hx := Tryd.utf8_DecodeRuneInString (s.extract p s.size) w hT
    have hsz : (s.extract p s.size).size = s.size - p := by simp [ByteArray.size_extract]
    have hd : Lib.decodeGo (s.extract p s.size) = Utf8.decode s p := by
      unfold Lib.decodeGo
      rw [if_neg (by rw [hsz]; omega), Go.Extern.FmtText.decode_extract]
    rw [hd] at hx
    obtain ⟨k, hk⟩ : ∃ k, Utf8.decode s p = (65533, k) := ⟨(Utf8.decode s p).2, Prod.ext hcc rfl⟩
    have hdd : decide (Utf8.decode s p = (65533, 1)) = ((k : Int) == 1) := by
      rw [hk, Bool.eq_iff_iff, decide_eq_true_eq, beq_iff_eq, Prod.mk.injEq]
      omega
    rw [hk] at hx
    rw [hdd]
    have HX := Lib.hid hx
    have hi : (p : Int) ≤ (s.size : Int) := by omega
    clear hx hT hd hk hdd hsz
    go_enter Tryd.func9, Tryd.ntmps9
    go_wp2_with fail
    refine HX.out.mono ?_
    rintro e w1 ⟨rfl, hb1⟩
    go_wp2_with fail
    go_ret
    exact ⟨rfl, hb1⟩
  · have hd : decide (Utf8.decode s p = (65533, 1)) = false := by
      apply decide_eq_false
      intro e
      rw [e] at hc
      exact h hc.symm
    have f0 : ((c : Int) == 65533) = false := by simp; omega
    have f1 : ¬ (c : Int) = 65533 := by omega
    rw [hd]
    clear hT hd
    go_enter Tryd.func9, Tryd.ntmps9
    go_wp2
    go_ret
    exact ⟨rfl, Below.refl _ _⟩
end Go.Proofs.YtcikhbbljhkheaaDoor.Sn
