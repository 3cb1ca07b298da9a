/- Merged for FieldOwn -/
import Derived.Test.YtlakglphjhoodaaDoorFH
import Derived.Deep.RegionHeld3
import Derived.Deep.AppendLies
import Derived.Deep.DeepCutAuto
namespace Go.Proofs.YtlakglphjhoodaaDoor.Fl
open Go.RowKit Mm Law
set_option linter.unusedSimpArgs false
set_option linter.unusedSectionVars false
set_option linter.unusedVariables false
theorem eq_no {a c : Int} (h : ¬ a = c) : (a == c) = false := by simpa using h
end Go.Proofs.YtlakglphjhoodaaDoor.Fl

namespace Go.Proofs.YtlakglphjhoodaaDoor.Fl
open Go.RowKit Mm Law
set_option linter.unusedVariables false
theorem eq_yes {a c : Int} (h : a = c) : (a == c) = true := by simpa using h
open Classical in
noncomputable def tstE (T : Tst) (l : List Fld) : Int := if h : idxF l T.nm < l.length then fitE T (l[idxF l T.nm].2).toNat else 41
def TstAns (w : World) (T : Tst) (l : List Fld) (e : Ending) (w' : World) : Prop := e = .returned (.int .i64 (tstE T l)) ∧ Below w.heap.size w w'
theorem tst_no {T : Tst} {l : List Fld} (h : ¬ idxF l T.nm < l.length) : tstE T l = 41 := by unfold tstE; rw [dif_neg h]
theorem tst_yes {T : Tst} {l : List Fld} {k b : Nat} (hk : k < l.length) (hi : idxF l T.nm = k) (hb : l[k].2 = (b : Int)) : tstE T l = fitE T b := by
  subst hi
  unfold tstE
  rw [dif_pos hk, hb]; rfl
end Go.Proofs.YtlakglphjhoodaaDoor.Fl

namespace Go.Proofs.YtlakglphjhoodaaDoor.Fl
open Go.RowKit Mm Law
set_option linter.unusedVariables false
theorem fit_zero {T : Tst} {b : Nat} (h : fitE T b = 0) : ¬ badForm T ∧ ¬ badUse T ∧ ¬ badVal T b ∧ ¬ badPre T b ∧ ¬ badRng T ∧ ¬ badPat T b := by
  unfold fitE at h
  by_cases h1 : badForm T
  · rw [if_pos h1] at h; exact absurd h (by decide)
  rw [if_neg h1] at h
  by_cases h2 : badUse T
  · rw [if_pos h2] at h; exact absurd h (by decide)
  rw [if_neg h2] at h
  by_cases h3 : badVal T b
  · rw [if_pos h3] at h; exact absurd h (by decide)
  rw [if_neg h3] at h
  by_cases h4 : badPre T b
  · rw [if_pos h4] at h; exact absurd h (by decide)
  rw [if_neg h4] at h
  by_cases h5 : badRng T
  · rw [if_pos h5] at h; exact absurd h (by decide)
  rw [if_neg h5] at h
  by_cases h6 : badPat T b
  · rw [if_pos h6] at h; exact absurd h (by decide)
  exact ⟨h1, h2, h3, h4, h5, h6⟩
inductive Good (b : Nat) : Tst → Prop
  | num (nm : ByteArray) (op : Int) (lo : Nat) (h1 : 1 ≤ op) (h2 : op ≤ 6) (hlo : lo ≤ topN b) : Good b ⟨nm, op, 1, lo, 0, 0, ⟨#[]⟩⟩
  | pre (nm : ByteArray) (op : Int) (lo ln : Nat) (h1 : op = 1 ∨ op = 2) (hlo : lo ≤ topN b) (hln : ln ≤ b) (hp : lo % 2 ^ (b - ln) = 0) : Good b ⟨nm, op, 2, lo, 0, ln, ⟨#[]⟩⟩
  | rng (nm : ByteArray) (op : Int) (lo hi : Nat) (h1 : op = 1 ∨ op = 2) (hlo : lo ≤ hi) (hhi : hi ≤ topN b) : Good b ⟨nm, op, 3, lo, hi, 0, ⟨#[]⟩⟩
  | pat (nm : ByteArray) (op : Int) (pt : ByteArray) (h1 : op = 1 ∨ op = 2) (hs : pt.size = b) (hd : ∀ x ∈ pt.data.toList, x ∈ dShow) : Good b ⟨nm, op, 4, 0, 0, 0, pt⟩
theorem good_of {T : Tst} {b : Nat} (h : fitE T b = 0) : Good b T := by
  obtain ⟨h1, h2, h3, h4, h5, h6⟩ := fit_zero h
  obtain ⟨nm, op, fo, lo, hi, ln, pt⟩ := T
  unfold badForm at h1
  unfold badUse at h2
  unfold badVal at h3
  unfold badPre at h4
  unfold badRng at h5
  unfold badPat at h6
  simp only at h1 h2 h3 h4 h5 h6
  obtain ⟨lo, rfl⟩ := Int.eq_ofNat_of_zero_le (show 0 ≤ lo by omega)
  obtain ⟨hi, rfl⟩ := Int.eq_ofNat_of_zero_le (show 0 ≤ hi by omega)
  obtain ⟨ln, rfl⟩ := Int.eq_ofNat_of_zero_le (show 0 ≤ ln by omega)
  have hf : fo = 1 ∨ fo = 2 ∨ fo = 3 ∨ fo = 4 := by omega
  rcases hf with rfl | rfl | rfl | rfl
  · obtain ⟨rfl, rfl, rfl⟩ : hi = 0 ∧ ln = 0 ∧ pt = ⟨#[]⟩ := by simpa using h2
    exact .num nm op lo (by omega) (by omega) (by omega)
  · obtain ⟨rfl, rfl⟩ : hi = 0 ∧ pt = ⟨#[]⟩ := by simpa using h2
    have hp : lo % 2 ^ (b - ln) = 0 := by simpa using h4
    exact .pre nm op lo ln (by omega) (by omega) (by omega) hp
  · obtain ⟨rfl, rfl⟩ : ln = 0 ∧ pt = ⟨#[]⟩ := by simpa using h2
    exact .rng nm op lo hi (by omega) (by omega) (by omega)
  · obtain ⟨rfl, rfl, rfl⟩ : lo = 0 ∧ hi = 0 ∧ ln = 0 := by simpa using h2
    have h7 : pt.size = b ∧ ∀ x ∈ pt.data.toList, x ∈ dShow := Classical.byContradiction fun h => h6 ⟨rfl, h⟩
    exact .pat nm op pt (by omega) h7.1 h7.2
noncomputable def oneT (T : Tst) (b : Nat) : List UInt8 := if T.fo = 4 then T.pt.data.toList else if T.fo = 2 then preT b (T.lo.toNat, b - T.ln.toNat) else preT b (T.lo.toNat, 0)
def othT (c : List UInt8) : List (List UInt8) := Tn.partsT (List.replicate c.length 120) c c.length
noncomputable def valT (T : Tst) (b : Nat) : List (List UInt8) :=
  if T.op = 3 then (gre b 0 T.lo.toNat).map (preT b)
  else if T.op = 4 then (gre b 0 (T.lo.toNat + 1)).map (preT b)
  else if T.op = 5 then (gre b (T.lo.toNat + 1) (2 ^ b)).map (preT b)
  else if T.op = 6 then (gre b T.lo.toNat (2 ^ b)).map (preT b)
  else if T.fo = 3 then (if T.op = 1 then (gre b T.lo.toNat (T.hi.toNat + 1)).map (preT b) else (gre b 0 T.lo.toNat).map (preT b) ++ (gre b (T.hi.toNat + 1) (2 ^ b)).map (preT b))
  else if T.op = 1 then [oneT T b] else othT (oneT T b)
def StrRow (w : World) (L : List (List UInt8)) (e : Ending) (w' : World) : Prop := ∃ u, e = .returned u ∧ w'.ownsRow w.heap.size 9 1 u L.length (sC L) ∧ Below w.heap.size w w'
theorem cov_at (b x0 e : Nat) (x1 hi : Int) (hb : b ≤ 32) (hx0 : x0 ≤ 4294967296) (he : e ≤ 2 ^ b) (h1 : x1 = (x0 : Int)) (hhi : hi + 1 = (e : Int)) (w : World) :
    Calls Tryd.prog 26 #[.int .i64 (b : Int), .int .i64 x1, .int .i64 hi] w (StrRow w ((gre b x0 e).map (preT b))) := by
  subst h1
  have h := cover_any b x0 e hi hb hx0 he hhi w
  unfold StrRow
  rw [List.length_map]
  exact h
set_option maxRecDepth 100000 in
set_option maxHeartbeats 4000000 in
theorem one_num (nm : ByteArray) (op : Int) (lo b : Nat) (hb : b ≤ 32) (hlo : lo ≤ topN b) (w : World) :
    Calls Tryd.prog 58 #[.agg #[.string nm, .int .i64 op, .int .i64 1, .int .i64 (lo : Int), .int .i64 0, .int .i64 0, .string ⟨#[]⟩], .int .i64 (b : Int)] w fun e w' => e = .returned (.string (str (preT b (lo, 0)))) ∧ Below w.heap.size w w' := by
  have htb := top_lt b hb
  have HP := Lib.hid (fun w => prefix_any lo b b (by omega) hb (Nat.le_refl _) w)
  rw [Nat.sub_self] at HP
  clear htb
  go_enter Tryd.func58, Tryd.ntmps58
  go_wp2_with fail
  refine (HP.out _).mono ?_
  rintro e w1 ⟨rfl, hb1⟩
  go_wp2_with fail
  go_ret
  exact ⟨rfl, bnx (bal (Below.refl _ _) _) hb1⟩
set_option maxRecDepth 100000 in
set_option maxHeartbeats 4000000 in
theorem one_pre (nm : ByteArray) (op : Int) (lo ln b : Nat) (hb : b ≤ 32) (hlo : lo ≤ topN b) (hln : ln ≤ b) (w : World) :
    Calls Tryd.prog 58 #[.agg #[.string nm, .int .i64 op, .int .i64 2, .int .i64 (lo : Int), .int .i64 0, .int .i64 (ln : Int), .string ⟨#[]⟩], .int .i64 (b : Int)] w fun e w' => e = .returned (.string (str (preT b (lo, b - ln)))) ∧ Below w.heap.size w w' := by
  have htb := top_lt b hb
  have HP := Lib.hid (fun w => prefix_any lo b ln (by omega) hb hln w)
  clear htb
  go_enter Tryd.func58, Tryd.ntmps58
  go_wp2_with fail
  refine (HP.out _).mono ?_
  rintro e w1 ⟨rfl, hb1⟩
  go_wp2_with fail
  go_ret
  exact ⟨rfl, bnx (bal (Below.refl _ _) _) hb1⟩
set_option maxRecDepth 100000 in
set_option maxHeartbeats 4000000 in
theorem one_pat (nm : ByteArray) (op : Int) (pt : ByteArray) (b : Nat) (w : World) :
    Calls Tryd.prog 58 #[.agg #[.string nm, .int .i64 op, .int .i64 4, .int .i64 0, .int .i64 0, .int .i64 0, .string pt], .int .i64 (b : Int)] w fun e w' => e = .returned (.string pt) ∧ Below w.heap.size w w' := by
  go_enter Tryd.func58, Tryd.ntmps58
  go_wp2_with fail
  go_ret
  exact ⟨rfl, bal (Below.refl _ _) _⟩
theorem one_any (T : Tst) (b : Nat) (hb : b ≤ 32) (h : Good b T) (h3 : T.fo ≠ 3) (w : World) :
    Calls Tryd.prog 58 #[T.val, .int .i64 (b : Int)] w fun e w' => e = .returned (.string (str (oneT T b))) ∧ Below w.heap.size w w' := by
  cases h with
  | num nm op lo h1 h2 hlo => exact one_num nm op lo b hb hlo w
  | pre nm op lo ln h1 hlo hln hp => exact one_pre nm op lo ln b hb hlo hln w
  | rng nm op lo hi h1 hlo hhi => exact absurd rfl h3
  | pat nm op pt h1 hs hd => exact one_pat nm op pt b w
end Go.Proofs.YtlakglphjhoodaaDoor.Fl

namespace Go.Proofs.YtlakglphjhoodaaDoor.Fl
open Go.RowKit Mm Law
set_option linter.unusedVariables false
theorem row_append {B By : Nat} {v vy : Value} {n m : Nat} {L M : List (List UInt8)} {w : World} (ty : TypeId) (hown : w.ownsRow B 9 1 v n (sC L)) (hy : w.ownsRow By 9 1 vy m (sC M)) (hn : (n + m) * 16 ≤ 140737488355328) (hB : B ≤ w.heap.size) :
    ∃ v' w', (Builtin.append_ #[31, 31] ty #[v, vy]).run Tryd.prog w = .ok v' w' ∧ w'.ownsRow B 9 1 v' (n + m) (sC (L ++ M)) ∧ Below B w w' := by
  obtain ⟨i0, hi, hz0, hz1, hz2⟩ := info_parts info_str
  have e : sC (L ++ M) = sC L ++ sC M := by simp [sC]
  rcases hy.2 with ⟨rfl, h0⟩ | ⟨g, cap, cur, rfl, hb, hg, hc, hm, _, _⟩
  · have hr := run_append_owned_none (P := Tryd.prog) (w := w) B 31 ty 9 i0 1 Tryd.underlying31 hi v n _ hown
    refine ⟨v, w, hr, ?_, Below.refl _ _⟩
    have hM : M = [] := by have := hy.1; rw [h0] at this; unfold sC at this; rw [List.length_map] at this; exact List.length_eq_zero_iff.1 (by omega)
    subst hM
    subst h0
    rw [List.append_nil]
    exact hown
  · obtain ⟨v', w', hr, h2, h3, _, _⟩ := run_append_own_at (P := Tryd.prog) w B 31 ty 9 i0 _ 1 16 Tryd.underlying31 hi hz0 hz1 hz2 rfl (by decide) v n _ hown ⟨g, 0, none⟩ m cap (sC M) (by have := hy.1; omega)
      (hy.cells (g := g) rfl) (fun u hu => by unfold sC at hu; obtain ⟨x, _, rfl⟩ := List.mem_map.1 hu; rfl) (by simp only [maxLen]; omega) (by omega) hB
    exact ⟨v', w', hr, by rw [e]; exact h2, (Below.refl B w).grown h3 hB (fun k hk => (hown.lt k hk).1)⟩
theorem step_app_row {B By : Nat} {v vy : Value} {n m : Nat} {L M : List (List UInt8)} {w : World} {ops : Array Oper} {o : Oper} {a : Act} {K : Act → World → Prop} {Q : Exit → Act → World → Prop} {E : Prop} (s x : Operand)
    (hown : w.ownsRow B 9 1 v n (sC L)) (hy : w.ownsRow By 9 1 vy m (sC M)) (hgd : o.guard = none) (ho : o.op = .call { callee := .builtin .append, args := #[s, x], argTypes := #[31, 31] })
    (hs : a.eval s = v) (hx : a.eval x = vy) (hn : (n + m) * 16 ≤ 140737488355328) (hB : B ≤ w.heap.size)
    (h : ∀ v' w', w'.ownsRow B 9 1 v' (n + m) (sC (L ++ M)) → Below B w w' → K (a.put o.dst v') w') :
    if Region.wanted o (yielded ops a.tmps) = true then Oper.wp Tryd.prog o a w K Q else E := by
  have hw : Region.wanted o (yielded ops a.tmps) = true := by simp [Region.wanted, hgd]
  rw [if_pos hw]
  obtain ⟨v', w', hr, h1, h2⟩ := row_append (w := w) o.type hown hy hn hB
  unfold Oper.wp execOp
  simp only [ho, resolve, invoke, builtin, Sem.run_bind, Sem.run_pure, Result.andThen_ok, List.map_toArray, List.map_cons, List.map_nil, hs, hx, hr]
  exact h v' w' h1 h2
theorem gre_len {b x e : Nat} (hb : b ≤ 32) (he : e ≤ 2 ^ b) : ((gre b x e).map (preT b)).length ≤ 4294967296 := by
  rw [List.length_map, ← hal_top b x e he]
  exact Nat.le_trans (hal_len x e b 0) (top_lt b hb).2
abbrev EiS (w : World) (cs : Array Value) (w' : World) : Prop := Blk w' w.heap.size 51 cs ∧ Below w.heap.size w w'
theorem EiS.go {w w1 w2 : World} {cs : Array Value} (h : EiS w cs w1) (hb : Below w1.heap.size w1 w2) : EiS w cs w2 := ⟨h.1.below hb h.1.lt, bnx h.2 hb⟩
theorem EiS.new (w : World) (cs : Array Value) : EiS w cs (w.alloc (.cells cs 51)) := ⟨Blk.new _ _ _, bal (Below.refl _ _) _⟩
theorem own_base {w : World} {B B' : Nat} {e : TypeId} {s : Nat} {v : Value} {n : Nat} {xs : List Value} (h : w.ownsRow B e s v n xs) (hb : B' ≤ B) : w.ownsRow B' e s v n xs :=
  ⟨h.1, h.2.imp id (fun ⟨g, cap, cur, hv, hbg, r⟩ => ⟨g, cap, cur, hv, Nat.le_trans hb hbg, r⟩)⟩
theorem str_row {w w1 : World} {L : List (List UInt8)} {v : Value} {w2 : World} (hb : Below w.heap.size w w1) (ho : w2.ownsRow w1.heap.size 9 1 v L.length (sC L)) (hb2 : Below w1.heap.size w1 w2) : StrRow w L (.returned v) w2 :=
  ⟨v, rfl, own_base ho hb.size, bnx hb hb2⟩
set_option maxRecDepth 100000 in
set_option maxHeartbeats 8000000 in
theorem either_rng (nm : ByteArray) (lo hi b : Nat) (hb : b ≤ 32) (hlo : lo ≤ hi) (hhi : hi ≤ topN b) (w : World) :
    Calls Tryd.prog 45 #[.agg #[.string nm, .int .i64 1, .int .i64 3, .int .i64 (lo : Int), .int .i64 (hi : Int), .int .i64 0, .string ⟨#[]⟩], .int .i64 (b : Int)] w (StrRow w ((gre b lo (hi + 1)).map (preT b))) := by
  have htb := top_lt b hb
  have HC := Lib.hid (fun w => cov_at b lo (hi + 1) (lo : Int) (hi : Int) hb (by omega) (by omega) rfl (by omega) w)
  clear htb
  go_enter Tryd.func45, Tryd.ntmps45
  go_wp2_with fail
  refine (HC.out _).mono ?_
  rintro e w1 ⟨v1, rfl, ho1, hb1⟩
  go_wp2_with fail
  go_ret
  exact str_row (bal (Below.refl _ _) _) ho1 hb1
set_option maxRecDepth 100000 in
set_option maxHeartbeats 8000000 in
theorem either_nrng (nm : ByteArray) (lo hi b : Nat) (hb : b ≤ 32) (hlo : lo ≤ hi) (hhi : hi ≤ topN b) (w : World) :
    Calls Tryd.prog 45 #[.agg #[.string nm, .int .i64 2, .int .i64 3, .int .i64 (lo : Int), .int .i64 (hi : Int), .int .i64 0, .string ⟨#[]⟩], .int .i64 (b : Int)] w (StrRow w ((gre b 0 lo).map (preT b) ++ (gre b (hi + 1) (2 ^ b)).map (preT b))) := by
  have htb := top_lt b hb
  have H1 := Lib.hid (fun w => cov_at b 0 lo (0 : Int) ((lo : Int) - 1) hb (by omega) (by omega) rfl (by omega) w)
  have H2 := Lib.hid (fun w => cov_at b (hi + 1) (2 ^ b) ((hi : Int) + 1) (topN b : Int) hb (by omega) (Nat.le_refl _) (by omega) (by omega) w)
  have HT := Lib.hid (fun w => (top_any b (by omega) w).mono (fun _ _ x => And.intro x.1 x.2.symm))
  have l1 := gre_len (b := b) (x := 0) (e := lo) hb (by omega)
  have l2 := gre_len (b := b) (x := hi + 1) (e := 2 ^ b) hb (Nat.le_refl _)
  have hw1 : IntKind.i64.wrap ((lo : Int) - 1) = (lo : Int) - 1 := IntWalk.i64_in _ (by omega)
  have hw2 : IntKind.i64.wrap ((hi : Int) + 1) = (hi : Int) + 1 := IntWalk.i64_in _ (by omega)
  generalize (gre b 0 lo).map (preT b) = L1 at *
  generalize (gre b (hi + 1) (2 ^ b)).map (preT b) = L2 at *
  clear htb
  go_enter Tryd.func45, Tryd.ntmps45
  go_wp2_with fail
  have hN := EiS.new w #[.string nm, .int .i64 2, .int .i64 3, .int .i64 (lo : Int), .int .i64 (hi : Int), .int .i64 0, .string ⟨#[]⟩]
  generalize hW : World.alloc w _ = W at *
  have hD : EiS w #[.string nm, .int .i64 2, .int .i64 3, .int .i64 (lo : Int), .int .i64 (hi : Int), .int .i64 0, .string ⟨#[]⟩] W.drew := ⟨hN.1.drew, hN.2.drew⟩
  have hK0 : W.drew.cell? ⟨w.heap.size, 3, none⟩ = some (.int .i64 (lo : Int)) ∧ W.drew.cell? ⟨w.heap.size, 4, none⟩ = some (.int .i64 (hi : Int)) ∧ Below w.heap.size w W.drew := ⟨hD.1.cell 3, hD.1.cell 4, hD.2⟩
  clear hW hN
  go_region_held3 (fun w' => w'.cell? ⟨w.heap.size, 3, none⟩ = some (.int .i64 (lo : Int)) ∧ w'.cell? ⟨w.heap.size, 4, none⟩ = some (.int .i64 (hi : Int)) ∧ Below w.heap.size w w')
    (with_reducible (first | assumption | exact hK0 | exact hK1 | exact hK3 | exact hK4 | fail))
    (first | (go_at_call 26; (with_reducible refine (H1.out _).mono ?_); rintro e w1 ⟨v1, rfl, ho1, hb1⟩; have hD1 := EiS.go hD hb1; have hK1 : w1.cell? ⟨w.heap.size, 3, none⟩ = some (.int .i64 (lo : Int)) ∧ w1.cell? ⟨w.heap.size, 4, none⟩ = some (.int .i64 (hi : Int)) ∧ Below w.heap.size w w1 := ⟨hD1.1.cell 3, hD1.1.cell 4, hD1.2⟩) | (go_at_call 25; refine (HT.out _).mono ?_; rintro e w2 ⟨rfl, rfl⟩) | (go_at_call 26; (with_reducible refine (H2.out _).mono ?_); rintro e w3 ⟨v3, rfl, ho3, hb3⟩; have hD3 := EiS.go hD1 hb3; have ho1' := own_below ho1 hb3 (Nat.le_refl _); have hK3 : w3.cell? ⟨w.heap.size, 3, none⟩ = some (.int .i64 (lo : Int)) ∧ w3.cell? ⟨w.heap.size, 4, none⟩ = some (.int .i64 (hi : Int)) ∧ Below w.heap.size w w3 := ⟨hD3.1.cell 3, hD3.1.cell 4, hD3.2⟩) | (refine step_app_row (.tmp 27) (.tmp 34) ho1' ho3 ?gd ?gc ?gs ?gx (by omega) (Nat.le_trans hb1.size hb3.size) ?_; (case gd => rfl); (case gc => rfl); (case gs => rfl); (case gx => rfl); intro v4 w4 hown4 hb4; have hK4 : w4.cell? ⟨w.heap.size, 3, none⟩ = some (.int .i64 (lo : Int)) ∧ w4.cell? ⟨w.heap.size, 4, none⟩ = some (.int .i64 (hi : Int)) ∧ Below w.heap.size w w4 := ⟨(hD3.1.below hb4 hD.1.lt).cell 3, (hD3.1.below hb4 hD.1.lt).cell 4, hD3.2.trans (hb4.mono hD.2.size)⟩) | fail)
  go_wp2_with fail
  go_ret
  exact ⟨v4, rfl, by rw [List.length_append]; exact own_base hown4 hD.2.size, hK4.2.2⟩
end Go.Proofs.YtlakglphjhoodaaDoor.Fl
