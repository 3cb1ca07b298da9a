/- Texts of one kind, put together: Nf, Ng. -/
import Derived.Test.YtlbkacabcfeaiaaZNA
import Derived.Test.YtlbkacabcfeaiaaZKC
/- Patterns: the reference's relations: either of two. -/
namespace Go.Proofs.Ytlbkacabcfeaiaa.Tl
open Go.RowKit Mm
set_option linter.unusedVariables false
set_option maxRecDepth 100000 in
set_option maxHeartbeats 16000000 in
theorem either_any (n : Nat) (hn : n ≤ 301) (w : World) (A B : Nat) (Ra Rb : Nat → Nat → Prop) (va vb : Value) (hA : MR w A n Ra va) (hB : MR w B n Rb vb) :
    Calls Try.prog 38 #[va, vb] w fun e w' => ∃ v, e = .returned v ∧ MR w' w.heap.size n (fun i j => Ra i j ∨ Rb i j) v ∧ Below w.heap.size w w' := by
  obtain ⟨la, ⟨ga, rfl, _, ha, _⟩, hra⟩ := hA
  obtain ⟨lb, ⟨gb, rfl, _, hb, _⟩, hrb⟩ := hB
  have hnn : n * n ≤ 301 * 301 := Nat.mul_le_mul hn hn
  have x1 := Blk.new w 79 #[.int .i64 (n : Int), .slice (some ⟨ga, 0, none⟩) (n * n) (n * n)]
  have x2 := Blk.new (w.alloc (.cells #[.int .i64 (n : Int), .slice (some ⟨ga, 0, none⟩) (n * n) (n * n)] 79)) 79 #[.int .i64 (n : Int), .slice (some ⟨gb, 0, none⟩) (n * n) (n * n)]
  have x3 := Blk.new ((w.alloc (.cells #[.int .i64 (n : Int), .slice (some ⟨ga, 0, none⟩) (n * n) (n * n)] 79)).alloc (.cells #[.int .i64 (n : Int), .slice (some ⟨gb, 0, none⟩) (n * n) (n * n)] 79)) 79 #[.int .i64 0, .slice none 0 0]
  have hbel := bal (bal (bal (Below.refl w.heap.size w) (.cells #[.int .i64 (n : Int), .slice (some ⟨ga, 0, none⟩) (n * n) (n * n)] 79)) (.cells #[.int .i64 (n : Int), .slice (some ⟨gb, 0, none⟩) (n * n) (n * n)] 79)) (.cells #[.int .i64 0, .slice none 0 0] 79)
  have y1 := (x1.alloc (.cells #[.int .i64 (n : Int), .slice (some ⟨gb, 0, none⟩) (n * n) (n * n)] 79)).alloc (.cells #[.int .i64 0, .slice none 0 0] 79)
  have y2 := x2.alloc (.cells #[.int .i64 0, .slice none 0 0] 79)
  have ya := ((ha.alloc (.cells #[.int .i64 (n : Int), .slice (some ⟨ga, 0, none⟩) (n * n) (n * n)] 79)).alloc (.cells #[.int .i64 (n : Int), .slice (some ⟨gb, 0, none⟩) (n * n) (n * n)] 79)).alloc (.cells #[.int .i64 0, .slice none 0 0] 79)
  have yb := ((hb.alloc (.cells #[.int .i64 (n : Int), .slice (some ⟨ga, 0, none⟩) (n * n) (n * n)] 79)).alloc (.cells #[.int .i64 (n : Int), .slice (some ⟨gb, 0, none⟩) (n * n) (n * n)] 79)).alloc (.cells #[.int .i64 0, .slice none 0 0] 79)
  simp only [World.size_alloc] at x2 x3 y2
  have HST := Lib.hid (fun W1 l0 v1 => En.start (w := w) (W1 := W1) (l0 := l0) (v1 := v1) ya yb y1 y2 x3 (by omega) hbel)
  have HE := Lib.hid (empty_any n hn (((w.alloc (.cells #[.int .i64 (n : Int), .slice (some ⟨ga, 0, none⟩) (n * n) (n * n)] 79)).alloc (.cells #[.int .i64 (n : Int), .slice (some ⟨gb, 0, none⟩) (n * n) (n * n)] 79)).alloc (.cells #[.int .i64 0, .slice none 0 0] 79)))
  have c0 := y1.cell 0
  have c1 := y1.cell 1
  have HRA := Lib.hid hra
  have HRB := Lib.hid hrb
  clear x1 x2 x3 y1 y2 ya yb hbel ha hb hra hrb
  go_enter Try.func38, Try.ntmps38
  go_wp2_with fail
  refine HE.out.mono ?_
  rintro e w1 ⟨v1, rfl, hm1, hb1⟩
  obtain ⟨g, rfl, hgl, hen⟩ := HST.out w1 _ _ hm1 hb1
  have HEN := Lib.hid hen
  clear hm1 hb1 hen HST HE c0 c1
  have hl0 : (List.replicate (n * n) false).length = n * n := by simp
  generalize List.replicate (n * n) false = l0 at *
  have hla := HRA.out.1
  have hlb := HRB.out.1
  have HFIN := Lib.hid (show ∀ l : List Bool, l.length = n * n → (∀ x, x < n * n → l[x]? = some ((la.getD x false) || (lb.getD x false))) → Rl n l (fun i j => Ra i j ∨ Rb i j) from fun l hl hx => ⟨hl, fun i j hi hj => by
    obtain ⟨a, ha1, ha2⟩ := HRA.out.2 i j hi hj
    obtain ⟨b, hb1, hb2⟩ := HRB.out.2 i j hi hj
    refine ⟨a || b, ?_, by rw [Bool.or_eq_true, ha2, hb2]⟩
    rw [hx _ (idx_lt hi hj), List.getD_eq_getElem?_getD, List.getD_eq_getElem?_getD, ha1, hb1]
    rfl⟩)
  obtain ⟨m, hm⟩ : ∃ m, m = n * n := ⟨_, rfl⟩
  rw [← hm] at hnn hl0 hla hlb HFIN
  have HM := Lib.hid hm
  clear hm
  go_wp2_with fail
  go_loopw [6] (fun iv wr => ∃ (k : Nat) (l : List Bool), k ≤ m ∧ iv = .int .i64 (k : Int) ∧ En w wr n ga gb g w.heap.size (w.heap.size + 1) w1.heap.size (w.heap.size + 1 + 1) la lb l ∧ l.length = m ∧ ∀ x, x < k → l[x]? = some ((la.getD x false) || (lb.getD x false))) (fun iv _ => m - (intOf iv).toNat)
  case atStart => exact ⟨0, l0, Nat.zero_le _, rfl, HEN.out, hl0, fun x hx => by omega⟩
  case round =>
    clear HEN
    obtain ⟨k, l, hk, rfl, hen, hll, hlx⟩ := hrel
    have HEN := Lib.hid hen
    have HLX := Lib.hid hlx
    have cxr : wr.cell? ⟨w1.heap.size, 1, none⟩ = some (.slice (some ⟨g, 0, none⟩) (n * n) (n * n)) := hen.xr.cell 1
    rw [← HM.out] at cxr
    by_cases hlt : k < m
    · obtain ⟨ba, hba⟩ : ∃ b, la[k]? = some b := ⟨_, List.getElem?_eq_getElem (by omega)⟩
      obtain ⟨bb, hbb⟩ : ∃ b, lb[k]? = some b := ⟨_, List.getElem?_eq_getElem (by omega)⟩
      obtain ⟨bc, hbc⟩ : ∃ b, l[k]? = some b := ⟨_, List.getElem?_eq_getElem (by omega)⟩
      have HST := Lib.hid (show ∀ x, x < k + 1 → (l.set k (ba || bb))[x]? = some ((la.getD x false) || (lb.getD x false)) from fun x hx => by
        by_cases he : k = x
        · subst he
          rw [List.getElem?_set, if_pos rfl, if_pos (by omega), List.getD_eq_getElem?_getD, List.getD_eq_getElem?_getD, hba, hbb]
          rfl
        · rw [List.getElem?_set, if_neg he]
          exact HLX.out x (by omega))
      have i0 : (0 : Int) ≤ (k : Int) := by omega
      have i1 : (k : Int) < (m : Int) := by omega
      have hwk : IntKind.i64.wrap (k : Int) = (k : Int) := IntWalk.i64_in _ (by omega)
      go_upto_region 5 with fail
      refine still_tail 15 mixed (by kernel_rfl) fun W hW => ?_
      simp only [List.take_succ_cons, List.take_zero, List.drop_succ_cons, List.drop_zero]
      have hW2 := hen.drew
      rw [← hW.out] at hW2
      have HW2 := Lib.hid hW2
      have ca : W.cell? ⟨ga, k, none⟩ = some (.bool ba) := (hW2.a.cell _).trans (blA_get hba)
      have cb : W.cell? ⟨gb, k, none⟩ = some (.bool bb) := (hW2.b.cell _).trans (blA_get hbb)
      have cc : W.cell? ⟨g, k, none⟩ = some (.bool bc) := (hW2.r.cell _).trans (blA_get hbc)
      have fc := hW2.r.frozen k
      have cxa : W.cell? ⟨w.heap.size, 1, none⟩ = some (.slice (some ⟨ga, 0, none⟩) (n * n) (n * n)) := hW2.xa.cell 1
      have cxb : W.cell? ⟨w.heap.size + 1, 1, none⟩ = some (.slice (some ⟨gb, 0, none⟩) (n * n) (n * n)) := hW2.xb.cell 1
      have cxq : W.cell? ⟨w1.heap.size, 1, none⟩ = some (.slice (some ⟨g, 0, none⟩) (n * n) (n * n)) := hW2.xr.cell 1
      rw [← HM.out] at cxa cxb cxq
      clear hen hlx hba hbb hbc cxr hW2
      cases ba with
      | true =>
        repeat still_step
        refine wpStill_nil ?_
        go_wp2_with fail
        go_roundw
        case rel => exact ⟨k + 1, _, by omega, by go_num, HW2.out.set k true, by rw [List.length_set]; exact hll, HST.out⟩
        case measure => simp [intOf]; omega
      | false =>
        repeat still_step
        refine wpStill_nil ?_
        go_wp2_with fail
        go_roundw
        case rel => exact ⟨k + 1, _, by omega, by go_num, HW2.out.set k bb, by rw [List.length_set]; exact hll, HST.out⟩
        case measure => simp [intOf]; omega
    · obtain rfl : k = m := by omega
      have HD := Lib.hid (HEN.out.done (HFIN.out l hll HLX.out))
      have d0 : wr.cell? ⟨w1.heap.size, 0, none⟩ = some (.int .i64 (n : Int)) := hen.xr.cell 0
      have d2 : wr.cell? ⟨w.heap.size + 1 + 1, 0, none⟩ = some (.int .i64 0) := hen.xt.cell 0
      have d3 : wr.cell? ⟨w.heap.size + 1 + 1, 1, none⟩ = some (.slice none 0 0) := hen.xt.cell 1
      have e2 := hen.xt.frozen 0
      have e3 := hen.xt.frozen 1
      have HZ := Lib.hid ((hen.xt.set_ 0 (.int .i64 (n : Int))).set_ 1 (.slice (some ⟨g, 0, none⟩) (n * n) (n * n)))
      rw [← HM.out] at HZ HD
      clear hen hlx
      go_wp2_with fail
      have z0 : ((wr.setCell ⟨w.heap.size + 1 + 1, 0, none⟩ (.int .i64 (n : Int))).setCell ⟨w.heap.size + 1 + 1, 1, none⟩ (.slice (some ⟨g, 0, none⟩) k k)).cell? ⟨w.heap.size + 1 + 1, 0, none⟩ = some (.int .i64 (n : Int)) := HZ.out.cell 0
      have z1 : ((wr.setCell ⟨w.heap.size + 1 + 1, 0, none⟩ (.int .i64 (n : Int))).setCell ⟨w.heap.size + 1 + 1, 1, none⟩ (.slice (some ⟨g, 0, none⟩) k k)).cell? ⟨w.heap.size + 1 + 1, 1, none⟩ = some (.slice (some ⟨g, 0, none⟩) k k) := HZ.out.cell 1
      refine bodyPost_ret (v := .agg #[.int .i64 (n : Int), .slice (some ⟨g, 0, none⟩) k k]) (by simp [results, Try.results38, go_sem, z0, z1]) rfl ?_
      exact ⟨_, rfl, HD.out.1, HD.out.2⟩
end Go.Proofs.Ytlbkacabcfeaiaa.Tl
/- Patterns: the reference's relation of a tree over names: leaves. -/
namespace Go.Proofs.Ytlbkacabcfeaiaa.Tl
open Go.RowKit Mm
set_option linter.unusedVariables false
/-- nodes that stand -/
structure NG (w : World) (B : Nat) (nv : Value) (N : List Nd) : Prop where
  row : w.ownsRow B 92 4 nv N.length (ndC N)
  kid : ∀ d ∈ N, Fz w 3 1 d.kv d.kids.length (iv d.kids)
  len : N.length ≤ 2000
theorem NG.below {w w' : World} {B : Nat} {nv : Value} {N : List Nd} (h : NG w B nv N) (hb : Below w.heap.size w w') : NG w' B nv N :=
  ⟨own_below h.row hb (Nat.le_refl _), fun d hd => Fz.fr (h.kid d hd) (Fr.below hb), h.len⟩
theorem nd_at {w : World} {B : Nat} {nv : Value} {N : List Nd} {k : Nat} {d : Nd} (h : NG w B nv N) (hd : N[k]? = some d) : ∃ g c, nv = .slice (some ⟨g, 0, none⟩) N.length c ∧ g < w.heap.size ∧ ∀ X, Below w.heap.size w X → X.cell? ⟨g, k * 4, none⟩ = some (.int .i64 (d.kind : Int)) ∧ X.cell? ⟨g, k * 4 + 1, none⟩ = some (.string d.name) ∧ X.cell? ⟨g, k * 4 + 2, none⟩ = some (.bool d.no) ∧ X.cell? ⟨g, k * 4 + 3, none⟩ = some d.kv := by
  have hk := (List.getElem?_eq_some_iff.1 hd).1
  obtain ⟨g, c, hv, _, _, hg, hc⟩ := own_at h.row (by omega)
  obtain ⟨h0, h1, h3, h4⟩ := ndC_get hd
  exact ⟨g, c, hv, hg, fun X hb => ⟨(Below.cell hb (p := ⟨g, k * 4, none⟩) hg).trans (hc _ _ h0), (Below.cell hb (p := ⟨g, k * 4 + 1, none⟩) hg).trans (hc _ _ h1), (Below.cell hb (p := ⟨g, k * 4 + 2, none⟩) hg).trans (hc _ _ h3), (Below.cell hb (p := ⟨g, k * 4 + 3, none⟩) hg).trans (hc _ _ h4)⟩⟩
/-- what the call holds behind its first steps -/
structure Ld (w : World) (nv : Value) (r : Nat) (d : Nd) (X : World) : Prop where
  bel : Below w.heap.size w X
  bp : Blk X w.heap.size 28 #[nv, .int .i64 (r : Int)]
  bt : Blk X (w.heap.size + 1) 79 #[.int .i64 0, .slice none 0 0]
  bx : Blk X (w.heap.size + 1 + 1) 92 #[.int .i64 (d.kind : Int), .string d.name, .bool d.no, d.kv]
theorem Ld.start (w : World) (nv : Value) (r : Nat) (d : Nd) : Ld w nv r d (((w.alloc (.cells #[nv, .int .i64 (r : Int)] 28)).alloc (.cells #[.int .i64 0, .slice none 0 0] 79)).alloc (.cells #[.int .i64 (d.kind : Int), .string d.name, .bool d.no, d.kv] 92)) := by
  have h1 := Blk.new w 28 #[nv, .int .i64 (r : Int)]
  have h2 := Blk.new (w.alloc (.cells #[nv, .int .i64 (r : Int)] 28)) 79 #[.int .i64 0, .slice none 0 0]
  have h3 := Blk.new ((w.alloc (.cells #[nv, .int .i64 (r : Int)] 28)).alloc (.cells #[.int .i64 0, .slice none 0 0] 79)) 92 #[.int .i64 (d.kind : Int), .string d.name, .bool d.no, d.kv]
  have h4 := (h1.alloc (.cells #[.int .i64 0, .slice none 0 0] 79)).alloc (.cells #[.int .i64 (d.kind : Int), .string d.name, .bool d.no, d.kv] 92)
  have h5 := h2.alloc (.cells #[.int .i64 (d.kind : Int), .string d.name, .bool d.no, d.kv] 92)
  simp only [World.size_alloc] at h5 h3
  exact ⟨bal (bal (bal (Below.refl _ w) _) _) _, h4, h5, h3⟩
theorem Ld.on {w X Y : World} {nv : Value} {r : Nat} {d : Nd} (h : Ld w nv r d X) (hb : Below X.heap.size X Y) : Ld w nv r d Y :=
  ⟨bnx h.bel hb, h.bp.below hb h.bp.lt, h.bt.below hb h.bt.lt, h.bx.below hb h.bx.lt⟩
theorem Ld.put {w X : World} {nv : Value} {r : Nat} {d : Nd} {z i : Nat} {u : Value} (h : Ld w nv r d X) (hz : w.heap.size + 1 + 1 < z) : Ld w nv r d (X.setCell ⟨z, i, none⟩ u) :=
  ⟨h.bel.grown (only_set _ _ _ _) h.bel.size (fun y hy => by cases hy; omega), h.bp.far (p := ⟨z, i, none⟩) (show w.heap.size ≠ z by omega) _, h.bt.far (p := ⟨z, i, none⟩) (show w.heap.size + 1 ≠ z by omega) _, h.bx.far (p := ⟨z, i, none⟩) (show w.heap.size + 1 + 1 ≠ z by omega) _⟩
theorem MR.put {X : World} {B n b : Nat} {R : Nat → Nat → Prop} {v x y : Value} {cs : Array Value} (h : MR X B n R v) (hb : Blk X b 79 cs) : MR ((X.setCell ⟨b, 0, none⟩ x).setCell ⟨b, 1, none⟩ y) B n R v := by
  obtain ⟨l, ⟨g, h1, h2, h3, h4⟩, hr⟩ := h
  have hne := blk_ty h3 hb (by decide)
  exact ⟨l, ⟨g, h1, h2, (h3.far (p := ⟨b, 0, none⟩) hne _).far (p := ⟨b, 1, none⟩) hne _, h4⟩, hr⟩
/-- the relation of a tree over names -/
def LeadC (names : List ByteArray) (t : T) : Prop := ∀ (w : World) (B : Nat) (nv lv : Value) (N : List Nd) (k r : Nat), NG w B nv N → Den N k t → Sees w lv (names.map Value.string) →
  Calls Try.prog 23 #[.agg #[nv, .int .i64 (r : Int)], .int .i64 (k : Int), lv] w fun e w' => ∃ v, e = .returned v ∧ MR w' w.heap.size (names.length + 1) (Mt (names.map (·.data.toList)) t) v ∧ Below w.heap.size w w'
/-- the leaf's rounds -/
theorem leaf_rl {ns : List (List UInt8)} {tx : List UInt8} {nn po dn : Bool} {l : List Bool} {k n : Nat} {x : List UInt8} (hx : ns[k]? = some x) (hn : n = ns.length + 1) (h : Rl n l (fun i j => i < k ∧ Mt ns (.leaf tx nn po dn) i j)) : Rl n (l.set (k * n + (k + 1)) (lkB (.leaf tx nn po dn) x)) (fun i j => i < k + 1 ∧ Mt ns (.leaf tx nn po dn) i j) := by
  have hk := (List.getElem?_eq_some_iff.1 hx).1
  refine (h.set (a := k) (c := k + 1) (by omega) (by omega) _).iff fun i j _ _ => ?_
  by_cases he : i = k ∧ j = k + 1
  · rw [if_pos he]
    obtain ⟨rfl, rfl⟩ := he
    simp only [Mt]
    constructor
    · exact fun h => ⟨Nat.lt_succ_self _, trivial, x, hx, h⟩
    · rintro ⟨_, _, y, hy, h⟩
      rw [hx] at hy
      cases hy
      exact h
  · rw [if_neg he]
    simp only [Mt]
    constructor
    · rintro ⟨h1, h2⟩
      exact ⟨by omega, h2⟩
    · rintro ⟨h1, h2, h3⟩
      refine ⟨?_, h2, h3⟩
      rcases Nat.lt_succ_iff_lt_or_eq.1 h1 with h | rfl
      · exact h
      · exact absurd ⟨rfl, h2⟩ he
theorem wrap_small {x : Int} (h0 : 0 ≤ x) (h1 : x ≤ 1000000) : wrap64 x = x := by unfold wrap64; omega
abbrev HdL (b g nn bn gl o : Nat) (v0 v1 v2 v3 : Value) (s : ByteArray) (W : World) : Prop := W.cell? ⟨b, 1, none⟩ = some (.slice (some ⟨g, 0, none⟩) nn nn) ∧ W.cell? ⟨bn, 0, none⟩ = some v0 ∧ W.cell? ⟨bn, 1, none⟩ = some v1 ∧ W.cell? ⟨bn, 2, none⟩ = some v2 ∧ W.cell? ⟨bn, 3, none⟩ = some v3 ∧ W.cell? ⟨gl, o, none⟩ = some (.string s)
theorem HdL.on {b g nn bn gl o : Nat} {v0 v1 v2 v3 : Value} {s : ByteArray} {X Y : World} (h : HdL b g nn bn gl o v0 v1 v2 v3 s X) (hb : Below X.heap.size X Y) (h1 : b < X.heap.size) (h2 : bn < X.heap.size) (h3 : gl < X.heap.size) : HdL b g nn bn gl o v0 v1 v2 v3 s Y :=
  ⟨(Below.cell hb (p := ⟨b, 1, none⟩) h1).trans h.1, (Below.cell hb (p := ⟨bn, 0, none⟩) h2).trans h.2.1, (Below.cell hb (p := ⟨bn, 1, none⟩) h2).trans h.2.2.1, (Below.cell hb (p := ⟨bn, 2, none⟩) h2).trans h.2.2.2.1, (Below.cell hb (p := ⟨bn, 3, none⟩) h2).trans h.2.2.2.2.1, (Below.cell hb (p := ⟨gl, o, none⟩) h3).trans h.2.2.2.2.2⟩
set_option maxRecDepth 100000 in
set_option maxHeartbeats 16000000 in
theorem lead_leaf (names : List ByteArray) (hnl : names.length ≤ 300) (hns : ∀ s ∈ names, s.size ≤ 80) (tx : List UInt8) (nn po dn : Bool) (htx : tx.length ≤ 100000) : LeadC names (.leaf tx nn po dn) := by
  intro w B nv lv N k r hN hden hlv
  have hlen := hN.len
  have hkl := hden.lt
  obtain ⟨d, hd⟩ : ∃ d, N[k]? = some d := ⟨_, List.getElem?_eq_getElem hkl⟩
  have hkd : d.kind = 1 ∨ d.kind = 2 ∨ d.kind = 3 := by
    cases hden with
    | any k e h1 h2 => rw [h1] at hd; cases hd; exact .inl h2
    | nam k e po h1 h2 =>
      rw [h1] at hd; cases hd
      cases po <;> simp_all
  obtain ⟨g, c, hnv, hg, hc⟩ := nd_at hN hd
  obtain ⟨ak, ck0, hkv, _⟩ := Fz.form (hN.kid d (List.mem_of_getElem? hd))
  have hA2 := bal (bal (Below.refl w.heap.size w) (.cells #[nv, .int .i64 (r : Int)] 28)) (.cells #[.int .i64 0, .slice none 0 0] 79)
  obtain ⟨p0, p1, p2, p3⟩ := hc _ hA2
  have c0 := ((Blk.new w 28 #[nv, .int .i64 (r : Int)]).alloc (.cells #[.int .i64 0, .slice none 0 0] 79)).cell 0
  have HLD := Lib.hid (Ld.start w nv r d)
  have HTK := Lib.hid (fun (nm : ByteArray) (hs : nm.size ≤ 80) (X : World) => rtakes_any hden hd nm htx (by omega) ⟨ak, _, ck0, hkv⟩ X)
  have HSE := Lib.hid hlv
  have hwk : IntKind.i64.wrap (k : Int) = (k : Int) := IntWalk.i64_in _ (by omega)
  have i0 : (0 : Int) ≤ (k : Int) := by omega
  have i1 : (k : Int) < (N.length : Int) := by omega
  obtain ⟨al, cl, hlv2, _⟩ := hlv
  rw [List.length_map] at hlv2
  subst hlv2
  subst hnv
  obtain ⟨n, hn⟩ : ∃ n, n = names.length + 1 := ⟨_, rfl⟩
  have hnI : (names.length : Int) + 1 = (n : Int) := by omega
  have HNE := Lib.hid hn
  have k4 : ((d.kind : Int) == 4) = false := beq_eq_false_iff_ne.2 (by omega)
  have k5 : ((d.kind : Int) == 5) = false := beq_eq_false_iff_ne.2 (by omega)
  have k6 : ((d.kind : Int) == 6) = false := beq_eq_false_iff_ne.2 (by omega)
  have k7 : ((d.kind : Int) == 7) = false := beq_eq_false_iff_ne.2 (by omega)
  have k8 : ((d.kind : Int) == 8) = false := beq_eq_false_iff_ne.2 (by omega)
  have l4 : ¬ (d.kind : Int) = 4 := by omega
  have l5 : ¬ (d.kind : Int) = 5 := by omega
  have l6 : ¬ (d.kind : Int) = 6 := by omega
  have l7 : ¬ (d.kind : Int) = 7 := by omega
  have l8 : ¬ (d.kind : Int) = 8 := by omega
  have HEMP := Lib.hid (fun (X : World) => empty_any n (by omega) X)
  rw [← hn]
  have HKV := Lib.hid hkv
  rw [hkv] at p3
  rw [hkv] at HLD
  have hn301 : n ≤ 301 := by omega
  clear hN hden hd hc hA2 hkd hn hkv
  go_enter Try.func23, Try.ntmps23
  go_wp2_with fail
  clear p0 p1 p2 p3 c0
  generalize World.alloc (World.alloc (World.alloc w _) _) _ = V at *
  refine (HEMP.out V).mono ?_
  rintro e w1 ⟨v1, rfl, ⟨g1, rfl, hg1, hbg1, hll1⟩, hb1⟩
  have HLD1 := Lib.hid ((HLD.out.on hb1).on ((Below.refl _ w1).alloc (Nat.le_refl _) (.cells #[.int .i64 (n : Int), .slice (some ⟨g1, 0, none⟩) (n * n) (n * n)] 79)))
  have HB16 := Lib.hid (Blk.new w1 79 #[.int .i64 (n : Int), .slice (some ⟨g1, 0, none⟩) (n * n) (n * n)])
  have HG1 := Lib.hid (hbg1.alloc (.cells #[.int .i64 (n : Int), .slice (some ⟨g1, 0, none⟩) (n * n) (n * n)] 79))
  have hw1 : w.heap.size + 1 + 1 < g1 ∧ g1 < w1.heap.size ∧ w.heap.size + 1 + 1 < w1.heap.size := by
    have h1 := HLD.out.bx.lt
    have h2 := hbg1.lt
    have h3 := hb1.size
    omega
  have HRL := Lib.hid (show Rl n (List.replicate (n * n) false) (fun i j => i < 0 ∧ Mt (names.map (·.data.toList)) (.leaf tx nn po dn) i j) from (Rl.none n).iff (fun i j _ _ => by simp))
  clear hbg1 hll1 hb1 HLD HEMP
  generalize List.replicate (n * n) false = l0 at *
  go_wp2_with fail
  go_loopw [17] (fun iv wr => ∃ (m : Nat) (l : List Bool), m ≤ names.length ∧ iv = .int .i64 (m : Int) ∧ Ld w (.slice (some ⟨g, 0, none⟩) N.length c) r d wr ∧ Blk wr w1.heap.size 79 #[.int .i64 (n : Int), .slice (some ⟨g1, 0, none⟩) (n * n) (n * n)] ∧ Blk wr g1 4 (blA l) ∧ Rl n l (fun i j => i < m ∧ Mt (names.map (·.data.toList)) (.leaf tx nn po dn) i j)) (fun iv _ => names.length - (intOf iv).toNat)
  case atStart => exact ⟨0, l0, Nat.zero_le _, rfl, by have h := HLD1.out; exact h, HB16.out, HG1.out, HRL.out⟩
  case round =>
    clear HLD1 HB16 HG1 HRL k4 k5 k6 k7 k8 l4 l5 l6 l7 l8
    obtain ⟨m, l, hm, rfl, hld, hb16, hbg, hrl⟩ := hrel
    have hse := HSE.out.below hld.bel
    by_cases hlt : m < names.length
    · obtain ⟨gl, off, rfl, hgl, hsc⟩ : ∃ gl off, al = some ⟨gl, off, none⟩ ∧ gl < wr.heap.size ∧ ∀ j u, (names.map Value.string)[j]? = some u → wr.cell? ⟨gl, off + j, none⟩ = some u := by
        obtain ⟨a', cap', hv, _, _, _, hx⟩ := hse
        simp only [Value.slice.injEq] at hv
        obtain ⟨rfl, _, rfl⟩ := hv
        rcases hx with hx | ⟨gl, off, ha, h1, h2⟩
        · have : names = [] := List.map_eq_nil_iff.1 hx
          rw [this] at hlt
          simp at hlt
        · exact ⟨gl, off, ha, h1, h2⟩
      have cnm := hsc m (.string names[m]) (by simp [hlt])
      have hnm := hns names[m] (List.getElem_mem hlt)
      have hxs : (names.map (·.data.toList))[m]? = some names[m].data.toList := by simp [hlt]
      have hne := HNE.out
      have hnat : (names.map (·.data.toList)).length = names.length := List.length_map _
      have HST := Lib.hid (leaf_rl hxs (by omega) hrl)
      have hidx := idx_lt (n := n) (i := m) (j := m + 1) (by omega) (by omega)
      obtain ⟨bo, hbo, _⟩ := hrl.2 m (m + 1) (by omega) (by omega)
      have hmn : m * n ≤ 301 * 301 := Nat.mul_le_mul (by omega) hn301
      have hnn : n * n ≤ 301 * 301 := Nat.mul_le_mul hn301 hn301
      have hmul : (m : Int) * (n : Int) = ((m * n : Nat) : Int) := by push_cast; rfl
      have HT1 := Lib.hid (HTK.out names[m] hnm)
      have hS0 : HdL w1.heap.size g1 (n * n) (w.heap.size + 1 + 1) gl (off + m) (.int .i64 (d.kind : Int)) (.string d.name) (.bool d.no) d.kv names[m] wr.drew := ⟨hb16.cell 1, hld.bx.cell 0, hld.bx.cell 1, hld.bx.cell 2, hld.bx.cell 3, cnm⟩
      have HLD := Lib.hid (hld.on (Below.refl _ wr).drew)
      have HBG := Lib.hid hbg.drew
      have HB16 := Lib.hid hb16.drew
      have hb16l : w1.heap.size < wr.drew.heap.size := hb16.lt
      have hbxl : w.heap.size + 1 + 1 < wr.drew.heap.size := hld.bx.lt
      have hgll : gl < wr.drew.heap.size := hgl
      have hbgl : g1 < wr.drew.heap.size := hbg.lt
      rw [HKV.out] at hS0 HT1
      clear hse hsc cnm hxs hnat hrl hld hb16 hbg hgl hnm hne
      generalize lkB (.leaf tx nn po dn) names[m].data.toList = bv1 at *
      generalize names[m] = s1 at *
      generalize hq : m * n = q at *
      generalize hnnq : n * n = nq at *
      have HNQ := Lib.hid hnnq
      have HQ := Lib.hid hq
      clear hnnq hq
      have m0 : (0 : Int) ≤ (m : Int) := by omega
      have m1 : (m : Int) < (names.length : Int) := by omega
      have hwm : IntKind.i64.wrap (m : Int) = (m : Int) := IntWalk.i64_in _ (by omega)
      obtain ⟨p, hp⟩ : ∃ p, p = q + m + 1 := ⟨_, rfl⟩
      have j0 : (0 : Int) ≤ (p : Int) := by omega
      have j1 : (p : Int) < (nq : Int) := by omega
      have hwp : IntKind.i64.wrap (p : Int) = (p : Int) := IntWalk.i64_in _ (by omega)
      have HPQ := Lib.hid hp
      have hpI : (q : Int) + (m : Int) + 1 = (p : Int) := by omega
      obtain ⟨w1a, w2a⟩ : IntKind.i64.wrap (q : Int) = (q : Int) ∧ IntKind.i64.wrap ((q : Int) + (m : Int)) = (q : Int) + (m : Int) := ⟨IntWalk.i64_in _ (by omega), IntWalk.i64_in _ (by omega)⟩
      clear hp
      go_upto_region 31 with fail
      refine wp_region_last 15 (fun w' => HdL w1.heap.size g1 nq (w.heap.size + 1 + 1) gl (off + m) (.int .i64 (d.kind : Int)) (.string d.name) (.bool d.no) (.slice ak d.kids.length ck0) s1 w') mixed ?_
      generalize wr.drew = w5 at *
      refine wpLast_take (i := 0) (oi := { dst := some 117, op := Op.fieldAddr 79 (Operand.tmp 16) 1, type := 0, pos := "pattern.go:419", after := #[], guard := none }) (v := ?_) rfl (by kernel_rfl) (by kernel_rfl) (by kernel_rfl) (by kernel_rfl) (fun _ _ _ h => h) (Or.inl ⟨by rfl, ?_⟩) (by assumption) ?_
      rotate_left
      · intro w hSw
        try dsimp only at hSw
        go_simp
        try with_reducible rfl
      try simp only [Act.put, List.setIfInBounds_toArray, List.set_cons_zero, List.set_cons_succ]
      refine wpLast_take (i := 1) (oi := { dst := some 118, op := Op.load 77 (Operand.tmp 117), type := 77, pos := "pattern.go:419", after := #[{ on := 0, ground := Ground.data }], guard := none }) (v := ?_) rfl (by kernel_rfl) (by kernel_rfl) (by kernel_rfl) (by kernel_rfl) (fun _ _ _ h => h) (Or.inl ⟨by rfl, ?_⟩) (by assumption) ?_
      rotate_left
      · intro w hSw
        try dsimp only at hSw
        go_simp
        try with_reducible rfl
      try simp only [Act.put, List.setIfInBounds_toArray, List.set_cons_zero, List.set_cons_succ]
      refine wpLast_take (i := 2) (oi := { dst := some 119, op := Op.move (Operand.tmp 17), type := 3, pos := "pattern.go:419", after := #[], guard := none }) (v := ?_) rfl (by kernel_rfl) (by kernel_rfl) (by kernel_rfl) (by kernel_rfl) (fun _ _ _ h => h) (Or.inl ⟨by rfl, ?_⟩) (by assumption) ?_
      rotate_left
      · intro w hSw
        try dsimp only at hSw
        go_simp
        try with_reducible rfl
      try simp only [Act.put, List.setIfInBounds_toArray, List.set_cons_zero, List.set_cons_succ]
      refine wpLast_take (i := 3) (oi := { dst := some 120, op := Op.move (Operand.tmp 7), type := 3, pos := "pattern.go:419", after := #[], guard := none }) (v := ?_) rfl (by kernel_rfl) (by kernel_rfl) (by kernel_rfl) (by kernel_rfl) (fun _ _ _ h => h) (Or.inl ⟨by rfl, ?_⟩) (by assumption) ?_
      rotate_left
      · intro w hSw
        try dsimp only at hSw
        go_simp
        try with_reducible rfl
      try simp only [Act.put, List.setIfInBounds_toArray, List.set_cons_zero, List.set_cons_succ]
      refine wpLast_take (i := 4) (oi := { dst := some 121, op := Op.binOp BinOp.mul 3 (Operand.tmp 119) (Operand.tmp 120) 3, type := 3, pos := "pattern.go:419", after := #[{ on := 2, ground := Ground.data }, { on := 3, ground := Ground.data }], guard := none }) (v := ?_) rfl (by kernel_rfl) (by kernel_rfl) (by kernel_rfl) (by kernel_rfl) (fun _ _ _ h => h) (Or.inl ⟨by rfl, ?_⟩) (by assumption) ?_
      rotate_left
      · intro w hSw
        try dsimp only at hSw
        go_simp
        try with_reducible rfl
      try simp only [Act.put, List.setIfInBounds_toArray, List.set_cons_zero, List.set_cons_succ]
      refine wpLast_take (i := 5) (oi := { dst := some 122, op := Op.move (Operand.tmp 17), type := 3, pos := "pattern.go:419", after := #[], guard := none }) (v := ?_) rfl (by kernel_rfl) (by kernel_rfl) (by kernel_rfl) (by kernel_rfl) (fun _ _ _ h => h) (Or.inl ⟨by rfl, ?_⟩) (by assumption) ?_
      rotate_left
      · intro w hSw
        try dsimp only at hSw
        go_simp
        try with_reducible rfl
      try simp only [Act.put, List.setIfInBounds_toArray, List.set_cons_zero, List.set_cons_succ]
      refine wpLast_take (i := 6) (oi := { dst := some 123, op := Op.binOp BinOp.add 3 (Operand.tmp 121) (Operand.tmp 122) 3, type := 3, pos := "pattern.go:419", after := #[{ on := 4, ground := Ground.data }, { on := 5, ground := Ground.data }], guard := none }) (v := ?_) rfl (by kernel_rfl) (by kernel_rfl) (by kernel_rfl) (by kernel_rfl) (fun _ _ _ h => h) (Or.inl ⟨by rfl, ?_⟩) (by assumption) ?_
      rotate_left
      · intro w hSw
        try dsimp only at hSw
        go_simp
        try with_reducible rfl
      try simp only [Act.put, List.setIfInBounds_toArray, List.set_cons_zero, List.set_cons_succ]
      refine wpLast_take (i := 7) (oi := { dst := some 124, op := Op.binOp BinOp.add 3 (Operand.tmp 123) (Operand.const (Value.int IntKind.i64 1)) 3, type := 3, pos := "pattern.go:419", after := #[{ on := 6, ground := Ground.data }], guard := none }) (v := ?_) rfl (by kernel_rfl) (by kernel_rfl) (by kernel_rfl) (by kernel_rfl) (fun _ _ _ h => h) (Or.inl ⟨by rfl, ?_⟩) (by assumption) ?_
      rotate_left
      · intro w hSw
        try dsimp only at hSw
        go_simp
        try with_reducible rfl
      try simp only [Act.put, List.setIfInBounds_toArray, List.set_cons_zero, List.set_cons_succ]
      refine wpLast_take (i := 8) (oi := { dst := some 125, op := Op.load 92 (Operand.tmp 8), type := 92, pos := "pattern.go:419", after := #[], guard := none }) (v := ?_) rfl (by kernel_rfl) (by kernel_rfl) (by kernel_rfl) (by kernel_rfl) (fun _ _ _ h => h) (Or.inl ⟨by rfl, ?_⟩) (by assumption) ?_
      rotate_left
      · intro w hSw
        try dsimp only at hSw
        go_simp
        try with_reducible rfl
      try simp only [Act.put, List.setIfInBounds_toArray, List.set_cons_zero, List.set_cons_succ]
      refine wpLast_take (i := 9) (oi := { dst := some 126, op := Op.move (Operand.tmp 2), type := 35, pos := "pattern.go:419", after := #[], guard := none }) (v := ?_) rfl (by kernel_rfl) (by kernel_rfl) (by kernel_rfl) (by kernel_rfl) (fun _ _ _ h => h) (Or.inl ⟨by rfl, ?_⟩) (by assumption) ?_
      rotate_left
      · intro w hSw
        try dsimp only at hSw
        go_simp
        try with_reducible rfl
      try simp only [Act.put, List.setIfInBounds_toArray, List.set_cons_zero, List.set_cons_succ]
      refine wpLast_take (i := 10) (oi := { dst := some 127, op := Op.move (Operand.tmp 17), type := 3, pos := "pattern.go:419", after := #[], guard := none }) (v := ?_) rfl (by kernel_rfl) (by kernel_rfl) (by kernel_rfl) (by kernel_rfl) (fun _ _ _ h => h) (Or.inl ⟨by rfl, ?_⟩) (by assumption) ?_
      rotate_left
      · intro w hSw
        try dsimp only at hSw
        go_simp
        try with_reducible rfl
      try simp only [Act.put, List.setIfInBounds_toArray, List.set_cons_zero, List.set_cons_succ]
      refine wpLast_take (i := 11) (oi := { dst := some 128, op := Op.indexAddr 35 (Operand.tmp 126) (Operand.tmp 127), type := 0, pos := "pattern.go:419", after := #[{ on := 9, ground := Ground.data }, { on := 10, ground := Ground.data }], guard := none }) (v := ?_) rfl (by kernel_rfl) (by kernel_rfl) (by kernel_rfl) (by kernel_rfl) (fun _ _ _ h => h) (Or.inl ⟨by rfl, ?_⟩) (by assumption) ?_
      rotate_left
      · intro w hSw
        try dsimp only at hSw
        go_simp
        try with_reducible rfl
      try simp only [Act.put, List.setIfInBounds_toArray, List.set_cons_zero, List.set_cons_succ]
      refine wpLast_take (i := 12) (oi := { dst := some 129, op := Op.load 9 (Operand.tmp 128), type := 9, pos := "pattern.go:419", after := #[{ on := 11, ground := Ground.data }], guard := none }) (v := ?_) rfl (by kernel_rfl) (by kernel_rfl) (by kernel_rfl) (by kernel_rfl) (fun _ _ _ h => h) (Or.inl ⟨by rfl, ?_⟩) (by assumption) ?_
      rotate_left
      · intro w hSw
        try dsimp only at hSw
        go_simp
        try with_reducible rfl
      try simp only [Act.put, List.setIfInBounds_toArray, List.set_cons_zero, List.set_cons_succ]
      refine wpLast_ready (rs := [13]) (by kernel_rfl) (by simp) ?_
      refine EachLast.cons (o := { dst := some 130, op := Op.call { callee := Callee.value (Operand.func 40), args := #[Operand.tmp 125, Operand.tmp 129], argTypes := #[92, 9] }, type := 4, pos := "pattern.go:419", after := #[{ on := 8, ground := Ground.data }, { on := 12, ground := Ground.data }], guard := none }) rfl (fun K hK => ?_) EachLast.nil
      go_simp
      refine (HT1.out w5).mono ?_
      rintro e w6 ⟨rfl, hb6⟩
      have hS6 := hS0.on hb6 hb16l hbxl hgll
      have hbg6 := HBG.out.below hb6 hbgl
      have HBG6 := Lib.hid hbg6
      have HLD6 := Lib.hid (HLD.out.on hb6)
      have HB166 := Lib.hid (HB16.out.below hb6 hb16l)
      have cg6 : w6.cell? ⟨g1, p, none⟩ = some (.bool bo) := (hbg6.cell _).trans (blA_get (by rw [HPQ.out]; exact hbo))
      have fg6 := hbg6.frozen p
      clear hb6 hbg6
      refine hK.out _ _ (fun _ => hS6) ?_
      try simp only [Act.put, List.setIfInBounds_toArray, List.set_cons_zero, List.set_cons_succ]
      refine wpLast_ready (rs := [14]) (by kernel_rfl) (by simp) ?_
      refine EachLast.cons (o := { dst := some 131, op := Op.indexAddr 77 (Operand.tmp 118) (Operand.tmp 124), type := 0, pos := "pattern.go:419", after := #[{ on := 1, ground := Ground.data }, { on := 7, ground := Ground.data }, { on := 0, ground := Ground.phase }, { on := 1, ground := Ground.phase }, { on := 2, ground := Ground.phase }, { on := 3, ground := Ground.phase }, { on := 4, ground := Ground.phase }, { on := 5, ground := Ground.phase }, { on := 6, ground := Ground.phase }, { on := 7, ground := Ground.phase }, { on := 8, ground := Ground.phase }, { on := 9, ground := Ground.phase }, { on := 10, ground := Ground.phase }, { on := 11, ground := Ground.phase }, { on := 12, ground := Ground.phase }, { on := 13, ground := Ground.phase }], guard := none }) rfl (fun K hK => ?_) EachLast.nil
      go_simp
      refine hK.out _ _ (fun _ => hS6) ?_
      try simp only [Act.put, List.setIfInBounds_toArray, List.set_cons_zero, List.set_cons_succ]
      refine wpLast_ready (rs := [15]) (by kernel_rfl) (by simp) ?_
      refine EachLast.cons (o := { dst := none, op := Op.store 4 (Operand.tmp 131) (Operand.tmp 130), type := 0, pos := "pattern.go:419", after := #[{ on := 14, ground := Ground.data }, { on := 13, ground := Ground.data }, { on := 13, ground := Ground.chain }, { on := 0, ground := Ground.phase }, { on := 1, ground := Ground.phase }, { on := 2, ground := Ground.phase }, { on := 3, ground := Ground.phase }, { on := 4, ground := Ground.phase }, { on := 5, ground := Ground.phase }, { on := 6, ground := Ground.phase }, { on := 7, ground := Ground.phase }, { on := 8, ground := Ground.phase }, { on := 9, ground := Ground.phase }, { on := 10, ground := Ground.phase }, { on := 11, ground := Ground.phase }, { on := 12, ground := Ground.phase }, { on := 13, ground := Ground.phase }], guard := none }) rfl (fun K hK => ?_) EachLast.nil
      go_simp
      refine hK.out _ _ (fun h => absurd rfl h) ?_
      try simp only [Act.put, List.setIfInBounds_toArray, List.set_cons_zero, List.set_cons_succ]
      refine wpLast_done (by kernel_rfl) ?_ _
      go_wp2_with fail
      go_roundw
      case rel => exact ⟨m + 1, l.set p bv1, by omega, by go_num, HLD6.out.put hw1.1, HB166.out.far (p := ⟨g1, p, none⟩) (show w1.heap.size ≠ g1 by omega) _, by rw [← blA_set]; exact HBG6.out.set_ p (.bool bv1), by rw [HPQ.out]; exact HST.out⟩
      case measure => simp [intOf]; omega
    · obtain rfl : m = names.length := by omega
      have hne := HNE.out
      have HRF := Lib.hid (show Rl n l (Mt (names.map (·.data.toList)) (.leaf tx nn po dn)) from hrl.iff (fun i j hi hj => ⟨fun h => h.2, fun h => ⟨by simp only [Mt] at h; have := h.1; omega, h⟩⟩))
      have d0 : wr.cell? ⟨w1.heap.size, 0, none⟩ = some (.int .i64 (n : Int)) := hb16.cell 0
      have d1 : wr.cell? ⟨w1.heap.size, 1, none⟩ = some (.slice (some ⟨g1, 0, none⟩) (n * n) (n * n)) := hb16.cell 1
      have d2 : wr.cell? ⟨w.heap.size + 1, 0, none⟩ = some (.int .i64 0) := hld.bt.cell 0
      have d3 : wr.cell? ⟨w.heap.size + 1, 1, none⟩ = some (.slice none 0 0) := hld.bt.cell 1
      have e2 := hld.bt.frozen 0
      have e3 := hld.bt.frozen 1
      have HZ := Lib.hid ((hld.bt.set_ 0 (.int .i64 (n : Int))).set_ 1 (.slice (some ⟨g1, 0, none⟩) (n * n) (n * n)))
      have HMR := Lib.hid (MR.put (x := .int .i64 (n : Int)) (y := .slice (some ⟨g1, 0, none⟩) (n * n) (n * n)) (show MR wr w.heap.size n (Mt (names.map (·.data.toList)) (.leaf tx nn po dn)) (.agg #[.int .i64 (n : Int), .slice (some ⟨g1, 0, none⟩) (n * n) (n * n)]) from ⟨l, ⟨g1, rfl, by omega, hbg, HRF.out.1⟩, HRF.out⟩) hld.bt)
      have HBL := Lib.hid (hld.bel.grown (gtrans (only_set wr (w.heap.size + 1) 0 (.int .i64 (n : Int))) (only_set _ (w.heap.size + 1) 1 (.slice (some ⟨g1, 0, none⟩) (n * n) (n * n)))) hld.bel.size (fun z hz => by cases hz; omega))
      clear hld hb16 hbg hrl hse hne
      go_wp2_with fail
      have z0 : ((wr.setCell ⟨w.heap.size + 1, 0, none⟩ (.int .i64 (n : Int))).setCell ⟨w.heap.size + 1, 1, none⟩ (.slice (some ⟨g1, 0, none⟩) (n * n) (n * n))).cell? ⟨w.heap.size + 1, 0, none⟩ = some (.int .i64 (n : Int)) := HZ.out.cell 0
      have z1 : ((wr.setCell ⟨w.heap.size + 1, 0, none⟩ (.int .i64 (n : Int))).setCell ⟨w.heap.size + 1, 1, none⟩ (.slice (some ⟨g1, 0, none⟩) (n * n) (n * n))).cell? ⟨w.heap.size + 1, 1, none⟩ = some (.slice (some ⟨g1, 0, none⟩) (n * n) (n * n)) := HZ.out.cell 1
      refine bodyPost_ret (v := .agg #[.int .i64 (n : Int), .slice (some ⟨g1, 0, none⟩) (n * n) (n * n)]) (by simp [results, Try.results23, go_sem, z0, z1]) rfl ?_
      exact ⟨_, rfl, HMR.out, HBL.out⟩
end Go.Proofs.Ytlbkacabcfeaiaa.Tl
