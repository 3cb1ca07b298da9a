/- Patterns: the reference lays lists flat and joins them. -/
import Derived.Test.YtlbkacabcfeaiaaKd
namespace Go.Proofs.Ytlbkacabcfeaiaa.Tl
open Go.RowKit Mm
set_option linter.unusedVariables false
/-- a list of nodes denotes a list of trees -/
def DenL (N : List Nd) (ks : List Nat) (ts : List T) : Prop := ks.length = ts.length ∧ ∀ (i j : Nat) (t : T), ks[i]? = some j → ts[i]? = some t → Den N j t
theorem DenL.nil (N : List Nd) : DenL N [] [] := ⟨rfl, fun i j t h => by simp at h⟩
theorem DenL.one {N : List Nd} {k : Nat} {t : T} (h : Den N k t) : DenL N [k] [t] := by
  refine ⟨rfl, fun i j u h1 h2 => ?_⟩
  cases i with
  | zero =>
    simp only [List.getElem?_cons_zero, Option.some.injEq] at h1 h2
    subst h1 h2
    exact h
  | succ i => simp at h1
theorem DenL.app {N : List Nd} {ks js : List Nat} {ts us : List T} (h : DenL N ks ts) (k : DenL N js us) : DenL N (ks ++ js) (ts ++ us) := by
  refine ⟨by rw [List.length_append, List.length_append, h.1, k.1], fun i j t h1 h2 => ?_⟩
  rcases Nat.lt_or_ge i ks.length with hi | hi
  · rw [List.getElem?_append_left hi] at h1
    rw [List.getElem?_append_left (by rw [← h.1]; exact hi)] at h2
    exact h.2 i j t h1 h2
  · rw [List.getElem?_append_right hi] at h1
    rw [List.getElem?_append_right (by rw [← h.1]; exact hi), ← h.1] at h2
    exact k.2 _ j t h1 h2
theorem DenL.more {N M : List Nd} {ks : List Nat} {ts : List T} (h : DenL N ks ts) : DenL (N ++ M) ks ts := ⟨h.1, fun i j t h1 h2 => (h.2 i j t h1 h2).more⟩
def inK (kd : Nat) (t : T) : List T := if kd = 4 then inSeq t else inAlt t
def mkK (kd : Nat) (l : List T) : T := if kd = 4 then mkSeq l else mkAlt l
def kidL (N : List Nd) (kd k : Nat) : List Nat := match N[k]? with
  | some d => if d.kind = kd then d.kids else [k]
  | none => [k]
def laidL (N : List Nd) (kd : Nat) (ks : List Nat) : List Nat := ks.flatMap (kidL N kd)
theorem sufK_lt (c : UInt8) : 6 ≤ sufK c := by unfold sufK; split <;> (try split) <;> omega
theorem den_kids {N : List Nd} {kd k : Nat} {t : T} (hkd : kd = 4 ∨ kd = 5) (h : Den N k t) : DenL N (kidL N kd k) (inK kd t) := by
  have h0 := h
  unfold kidL inK
  cases h with
  | any k d h1 h2 =>
    rw [h1]
    simp only
    rw [if_neg (by omega)]
    rcases hkd with rfl | rfl
    · rw [if_pos rfl]; exact .one h0
    · rw [if_neg (by decide)]; exact .one h0
  | nam k d po h1 h2 =>
    rw [h1]
    simp only
    have : d.kind = 2 ∨ d.kind = 3 := by cases po <;> simp_all
    rw [if_neg (by omega)]
    rcases hkd with rfl | rfl
    · rw [if_pos rfl]; exact .one h0
    · rw [if_neg (by decide)]; exact .one h0
  | seq k d l h1 h2 h3 h4 =>
    rw [h1]
    simp only
    rcases hkd with rfl | rfl
    · rw [if_pos rfl, if_pos h2]; exact ⟨h3, h4⟩
    · rw [if_neg (by omega), if_neg (by decide)]; exact .one h0
  | alt k d l h1 h2 h3 h4 =>
    rw [h1]
    simp only
    rcases hkd with rfl | rfl
    · rw [if_pos rfl, if_neg (by omega)]; exact .one h0
    · rw [if_pos h2, if_neg (by decide)]; exact ⟨h3, h4⟩
  | suf k d j t c h1 h2 h3 h4 h5 =>
    rw [h1]
    simp only
    have := sufK_lt c
    rw [if_neg (by omega)]
    rcases hkd with rfl | rfl
    · rw [if_pos rfl]; exact .one h0
    · rw [if_neg (by decide)]; exact .one h0
theorem den_laid {N : List Nd} {kd : Nat} (hkd : kd = 4 ∨ kd = 5) : ∀ {ks : List Nat} {ts : List T}, DenL N ks ts → DenL N (laidL N kd ks) (ts.flatMap (inK kd))
  | [], [], _ => .nil N
  | [], t :: ts, h => by have := h.1; simp at this
  | k :: ks, [], h => by have := h.1; simp at this
  | k :: ks, t :: ts, h => by
    have h1 := den_kids hkd (h.2 0 k t rfl rfl)
    have h2 : DenL N ks ts := ⟨by have := h.1; simpa using this, fun i j u hi hj => h.2 (i + 1) j u hi hj⟩
    have h3 := den_laid hkd h2
    unfold laidL at *
    rw [List.flatMap_cons, List.flatMap_cons]
    exact h1.app h3
theorem inK_bd (kd : Nat) (t : T) : bdL (inK kd t) ≤ bd t := by
  unfold inK
  split
  · exact bd_inSeq t
  · exact bd_inAlt t
theorem laid_len {N : List Nd} {kd : Nat} (hkd : kd = 4 ∨ kd = 5) {ks : List Nat} {ts : List T} (h : DenL N ks ts) : (laidL N kd ks).length * 8 ≤ bdL ts := by
  have h1 := (den_laid hkd h).1
  have h2 := bdL_len (ts.flatMap (inK kd))
  have h3 := bd_flat (inK kd) (inK_bd kd) ts
  omega
theorem laid_step {N : List Nd} {kd : Nat} {ks : List Nat} {k : Nat} (h : k < ks.length) : laidL N kd (ks.take (k + 1)) = laidL N kd (ks.take k) ++ kidL N kd ks[k] := by
  unfold laidL
  rw [List.take_succ_eq_append_getElem h, List.flatMap_append]
  simp
theorem laid_pre {N : List Nd} {kd : Nat} (ks : List Nat) (k : Nat) : (laidL N kd (ks.take k)).length ≤ (laidL N kd ks).length := by
  unfold laidL
  conv => rhs; rw [← List.take_append_drop k ks]
  rw [List.flatMap_append, List.length_append]
  omega
theorem iv_app (a b : List Nat) : iv (a ++ b) = iv a ++ iv b := List.map_append
theorem iv_one (a : List Nat) : ∀ u ∈ iv a, u.oneCell' = true := by
  intro u hu
  unfold iv at hu
  obtain ⟨n, _, rfl⟩ := List.mem_map.1 hu
  rfl
theorem iv_get {l : List Nat} {k : Nat} (h : k < l.length) : (iv l)[k]? = some (.int .i64 (l[k] : Int)) := by simp [iv, h]
abbrev Hd6 (g gl k n gn : Nat) (nv v0 v1 v2 v3 : Value) (W : World) : Prop := W.cell? ⟨g, 5, none⟩ = some nv ∧ W.cell? ⟨gl, k, none⟩ = some (.int .i64 (n : Int)) ∧ W.cell? ⟨gn, n * 4, none⟩ = some v0 ∧ W.cell? ⟨gn, n * 4 + 1, none⟩ = some v1 ∧ W.cell? ⟨gn, n * 4 + 2, none⟩ = some v2 ∧ W.cell? ⟨gn, n * 4 + 3, none⟩ = some v3
set_option maxRecDepth 100000 in
set_option maxHeartbeats 8000000 in
theorem laid_any {W X : World} {g : Nat} {s : ByteArray} {pos it deep : Nat} {bad : Int} {N : List Nd} {nv : Value} (h : Rf W g s pos it deep bad N nv X) (kd : Nat) (hkd : kd = 4 ∨ kd = 5) (lv : Value) (ks : List Nat) (ts : List T) (hl : Fz X 3 1 lv ks.length (iv ks)) (hd : DenL N ks ts) (hb : bdL ts ≤ 50000) (hN : N.length ≤ 100000) :
    Calls Try.prog 44 #[.pointer (some ⟨g, 0, none⟩), .int .i64 (kd : Int), lv] X fun e w' => ∃ v', e = .returned v' ∧ w'.ownsRow X.heap.size 3 1 v' (laidL N kd ks).length (iv (laidL N kd ks)) ∧ Below X.heap.size X w' := by
  have hlen := laid_len hkd hd
  have hpre := laid_pre (N := N) (kd := kd) ks
  obtain ⟨a0, cap, rfl, hcap, hcm⟩ := Fz.form hl
  unfold maxLen at hcm
  have HC := Lib.hid (fun h : 0 < ks.length => Fz.cells hl h)
  have HH := Lib.hid h
  have hkl := bdL_len ts
  have hdl := hd.1
  have HD := Lib.hid hd
  have HP := Lib.hid hpre
  obtain ⟨an, cn, rfl⟩ := own_len h.row
  clear h hl hd hpre
  go_enter Try.func44, Try.ntmps44
  go_wp2_with fail
  go_loopw [7, 8] (fun o i wr => ∃ k : Nat, k ≤ ks.length ∧ i = .int .i64 (k : Int) ∧ wr.ownsRow X.heap.size 3 1 o (laidL N kd (ks.take k)).length (iv (laidL N kd (ks.take k))) ∧ Below X.heap.size X wr) (fun _ i _ => ks.length - (intOf i).toNat)
  case atStart => exact ⟨0, Nat.zero_le _, rfl, World.ownsRow_nil _ _ _ _, Below.refl _ _⟩
  case round =>
    obtain ⟨k, hk, rfl, hrow, hbel⟩ := hrel
    have hpk := HP.out k
    by_cases hlt : k < ks.length
    · obtain ⟨gl, rfl, hgl, hcl⟩ := HC.out (by omega)
      have hkt : k < ts.length := by omega
      clear hdl
      have hdk := HD.out.2 k ks[k] ts[k] (List.getElem?_eq_getElem hlt) (List.getElem?_eq_getElem hkt)
      have hnk := hdk.lt
      obtain ⟨gn, cn2, hnv, _, _, hgnw, hnc⟩ := own_at (HH.out.below hbel).row (by omega)
      cases hnv
      obtain ⟨d, hdd⟩ : ∃ d, N[ks[k]]? = some d := ⟨_, List.getElem?_eq_getElem hnk⟩
      have hdm : d ∈ N := List.mem_of_getElem? hdd
      obtain ⟨hn0, hn1, hn2, hn3⟩ := ndC_get hdd
      have p0 := hnc _ _ hn0
      have p1 := hnc _ _ hn1
      have p2 := hnc _ _ hn2
      have p3 := hnc _ _ hn3
      have PL := Lib.hid (hcl k _ (iv_get hlt))
      have pl : wr.cell? ⟨gl, k, none⟩ = some (.int .i64 (ks[k] : Int)) := (Below.cell hbel (p := ⟨gl, k, none⟩) hgl).trans (hcl k _ (iv_get hlt))
      have hkidd := (HH.out.below hbel).kid d hdm
      have pg := Blk.f5 (HH.out.below hbel).blk
      have HS := Lib.hid (laid_step (N := N) (kd := kd) hlt)
      have hkl2 : kidL N kd ks[k] = if d.kind = kd then d.kids else [ks[k]] := by unfold kidL; rw [hdd]
      have hnext := HP.out (k + 1)
      rw [HS.out, List.length_append, hkl2] at hnext
      rw [hkl2] at HS
      generalize ks[k] = n at *
      generalize laidL N kd (ks.take k) = L at *
      have HR := Lib.hid hrow
      have HB := Lib.hid hbel
      clear hrow hnc hcl hn0 hn1 hn2 hn3 hdk hkl2
      have i0 : (0 : Int) ≤ (n : Int) := by omega
      have i1 : (n : Int) < (N.length : Int) := by omega
      have i2 : (0 : Int) ≤ (k : Int) := by omega
      have i3 : (k : Int) < (ks.length : Int) := by omega
      have hgw := (HH.out.below HB.out).blk.lt
      have hglw := Nat.lt_of_lt_of_le hgl HB.out.size
      have hS0 : Hd6 g gl k n gn (.slice (some ⟨gn, 0, none⟩) N.length cn) (.int .i64 (d.kind : Int)) (.string d.name) (.bool d.no) d.kv wr.drew := ⟨pg, pl, p0, p1, p2, p3⟩
      have HBD := Lib.hid HB.out.drew
      have HRD := Lib.hid (show wr.drew.ownsRow _ _ _ _ _ _ from HR.out)
      have HKD := Lib.hid (Fz.fr hkidd (Fr.below (Below.refl _ wr).drew))
      have hkvf := Fz.form hkidd
      obtain ⟨ak, ck, hkv, _⟩ := hkvf
      rw [hkv] at HKD hS0
      have hwid : IntKind.i64.wrap (n : Int) = (n : Int) := IntWalk.i64_in _ (by omega)
      have hwik : IntKind.i64.wrap (k : Int) = (k : Int) := IntWalk.i64_in _ (by omega)
      clear pg pl p0 p1 p2 p3 hkidd hkv
      go_wp2_with fail
      go_upto_region 5 with fail
      refine wp_region_last 11 (fun w' => Hd6 g gl k n gn (.slice (some ⟨gn, 0, none⟩) N.length cn) (.int .i64 (d.kind : Int)) (.string d.name) (.bool d.no) (.slice ak d.kids.length ck) w') mixed ?_
      have hgn5 : gn < wr.drew.heap.size := hgnw
      have hgw5 : g < wr.drew.heap.size := hgw
      have hgl5 : gl < wr.drew.heap.size := hglw
      clear HR HB
      generalize wr.drew = w5 at *
      refine wpLast_take (i := 0) (oi := { dst := some 16, op := Op.move (Operand.tmp 0), type := 65, pos := "pattern.go:186", after := #[], guard := none }) (v := ?_) rfl (by kernel_rfl) (by kernel_rfl) (by kernel_rfl) (by kernel_rfl) (fun _ _ _ h => h) (Or.inl ⟨by rfl, ?_⟩) (by assumption) ?_
      rotate_left
      · intro w hSw
        try dsimp only at hSw
        go_simp
        try with_reducible rfl
      try simp only [Act.put, List.setIfInBounds_toArray, List.set_cons_zero, List.set_cons_succ]
      refine wpLast_take (i := 1) (oi := { dst := some 17, op := Op.nilCheck (Operand.tmp 16), type := 0, pos := "pattern.go:186", after := #[{ on := 0, ground := Ground.data }], guard := none }) (v := ?_) rfl (by kernel_rfl) (by kernel_rfl) (by kernel_rfl) (by kernel_rfl) (fun _ _ _ h => h) (Or.inl ⟨by rfl, ?_⟩) (by assumption) ?_
      rotate_left
      · intro w hSw
        try dsimp only at hSw
        go_simp
        try with_reducible rfl
      try simp only [Act.put, List.setIfInBounds_toArray, List.set_cons_zero, List.set_cons_succ]
      refine wpLast_take (i := 2) (oi := { dst := some 18, op := Op.fieldAddr 67 (Operand.tmp 17) 5, type := 0, pos := "pattern.go:186", after := #[{ on := 1, ground := Ground.data }], guard := none }) (v := ?_) rfl (by kernel_rfl) (by kernel_rfl) (by kernel_rfl) (by kernel_rfl) (fun _ _ _ h => h) (Or.inl ⟨by rfl, ?_⟩) (by assumption) ?_
      rotate_left
      · intro w hSw
        try dsimp only at hSw
        go_simp
        try with_reducible rfl
      try simp only [Act.put, List.setIfInBounds_toArray, List.set_cons_zero, List.set_cons_succ]
      refine wpLast_take (i := 3) (oi := { dst := some 19, op := Op.load 26 (Operand.tmp 18), type := 26, pos := "pattern.go:186", after := #[{ on := 2, ground := Ground.data }], guard := none }) (v := ?_) rfl (by kernel_rfl) (by kernel_rfl) (by kernel_rfl) (by kernel_rfl) (fun _ _ _ h => h) (Or.inl ⟨by rfl, ?_⟩) (by assumption) ?_
      rotate_left
      · intro w hSw
        try dsimp only at hSw
        go_simp
        try with_reducible rfl
      try simp only [Act.put, List.setIfInBounds_toArray, List.set_cons_zero, List.set_cons_succ]
      refine wpLast_take (i := 4) (oi := { dst := some 20, op := Op.move (Operand.tmp 2), type := 72, pos := "pattern.go:186", after := #[], guard := none }) (v := ?_) rfl (by kernel_rfl) (by kernel_rfl) (by kernel_rfl) (by kernel_rfl) (fun _ _ _ h => h) (Or.inl ⟨by rfl, ?_⟩) (by assumption) ?_
      rotate_left
      · intro w hSw
        try dsimp only at hSw
        go_simp
        try with_reducible rfl
      try simp only [Act.put, List.setIfInBounds_toArray, List.set_cons_zero, List.set_cons_succ]
      refine wpLast_take (i := 5) (oi := { dst := some 21, op := Op.move (Operand.tmp 8), type := 3, pos := "pattern.go:186", after := #[], guard := none }) (v := ?_) rfl (by kernel_rfl) (by kernel_rfl) (by kernel_rfl) (by kernel_rfl) (fun _ _ _ h => h) (Or.inl ⟨by rfl, ?_⟩) (by assumption) ?_
      rotate_left
      · intro w hSw
        try dsimp only at hSw
        go_simp
        try with_reducible rfl
      try simp only [Act.put, List.setIfInBounds_toArray, List.set_cons_zero, List.set_cons_succ]
      refine wpLast_take (i := 6) (oi := { dst := some 22, op := Op.indexAddr 72 (Operand.tmp 20) (Operand.tmp 21), type := 0, pos := "pattern.go:186", after := #[{ on := 4, ground := Ground.data }, { on := 5, ground := Ground.data }], guard := none }) (v := ?_) rfl (by kernel_rfl) (by kernel_rfl) (by kernel_rfl) (by kernel_rfl) (fun _ _ _ h => h) (Or.inl ⟨by rfl, ?_⟩) (by assumption) ?_
      rotate_left
      · intro w hSw
        try dsimp only at hSw
        go_simp
        try with_reducible rfl
      try simp only [Act.put, List.setIfInBounds_toArray, List.set_cons_zero, List.set_cons_succ]
      refine wpLast_take (i := 7) (oi := { dst := some 23, op := Op.load 3 (Operand.tmp 22), type := 3, pos := "pattern.go:186", after := #[{ on := 6, ground := Ground.data }], guard := none }) (v := ?_) rfl (by kernel_rfl) (by kernel_rfl) (by kernel_rfl) (by kernel_rfl) (fun _ _ _ h => h) (Or.inl ⟨by rfl, ?_⟩) (by assumption) ?_
      rotate_left
      · intro w hSw
        try dsimp only at hSw
        go_simp
        try with_reducible rfl
      try simp only [Act.put, List.setIfInBounds_toArray, List.set_cons_zero, List.set_cons_succ]
      refine wpLast_take (i := 8) (oi := { dst := some 24, op := Op.indexAddr 26 (Operand.tmp 19) (Operand.tmp 23), type := 0, pos := "pattern.go:186", after := #[{ on := 3, ground := Ground.data }, { on := 7, ground := Ground.data }], guard := none }) (v := ?_) rfl (by kernel_rfl) (by kernel_rfl) (by kernel_rfl) (by kernel_rfl) (fun _ _ _ h => h) (Or.inl ⟨by rfl, ?_⟩) (by assumption) ?_
      rotate_left
      · intro w hSw
        try dsimp only at hSw
        go_simp
        try with_reducible rfl
      try simp only [Act.put, List.setIfInBounds_toArray, List.set_cons_zero, List.set_cons_succ]
      refine wpLast_take (i := 9) (oi := { dst := some 25, op := Op.load 92 (Operand.tmp 24), type := 92, pos := "pattern.go:186", after := #[{ on := 8, ground := Ground.data }], guard := none }) (v := ?_) rfl (by kernel_rfl) (by kernel_rfl) (by kernel_rfl) (by kernel_rfl) (fun _ _ _ h => h) (Or.inl ⟨by rfl, ?_⟩) (by assumption) ?_
      rotate_left
      · intro w hSw
        try dsimp only at hSw
        go_simp
        try with_reducible rfl
      try simp only [Act.put, List.setIfInBounds_toArray, List.set_cons_zero, List.set_cons_succ]
      have hA : Below w5.heap.size w5 (w5.alloc (.cells #[.int .i64 0, .string ⟨#[]⟩, .bool false, .slice none 0 0] 92)) := (Below.refl _ w5).alloc (Nat.le_refl _) _
      have hS1 : Hd6 g gl k n gn (.slice (some ⟨gn, 0, none⟩) N.length cn) (.int .i64 (d.kind : Int)) (.string d.name) (.bool d.no) (.slice ak d.kids.length ck) (w5.alloc (.cells #[.int .i64 0, .string ⟨#[]⟩, .bool false, .slice none 0 0] 92)) := ⟨(hA.cell (p := ⟨g, 5, none⟩) hgw5).trans hS0.1, (hA.cell (p := ⟨gl, k, none⟩) hgl5).trans hS0.2.1, (hA.cell (p := ⟨gn, n * 4, none⟩) hgn5).trans hS0.2.2.1, (hA.cell (p := ⟨gn, n * 4 + 1, none⟩) hgn5).trans hS0.2.2.2.1, (hA.cell (p := ⟨gn, n * 4 + 2, none⟩) hgn5).trans hS0.2.2.2.2.1, (hA.cell (p := ⟨gn, n * 4 + 3, none⟩) hgn5).trans hS0.2.2.2.2.2⟩
      refine wpLast_ready (rs := [10]) (by kernel_rfl) (by simp) ?_
      refine EachLast.cons (o := { dst := some 9, op := Op.alloc 92, type := 0, pos := "pattern.go:186", after := #[], guard := none }) rfl (fun K hK => ?_) EachLast.nil
      go_simp
      refine hK.out _ _ (fun _ => hS1) ?_
      try simp only [Act.put, List.setIfInBounds_toArray, List.set_cons_zero, List.set_cons_succ]
      refine wpLast_ready (rs := [11]) (by kernel_rfl) (by simp) ?_
      refine EachLast.cons (o := { dst := none, op := Op.store 92 (Operand.tmp 9) (Operand.tmp 25), type := 0, pos := "pattern.go:186", after := #[{ on := 10, ground := Ground.data }, { on := 9, ground := Ground.data }, { on := 0, ground := Ground.phase }, { on := 1, ground := Ground.phase }, { on := 2, ground := Ground.phase }, { on := 3, ground := Ground.phase }, { on := 4, ground := Ground.phase }, { on := 5, ground := Ground.phase }, { on := 6, ground := Ground.phase }, { on := 7, ground := Ground.phase }, { on := 8, ground := Ground.phase }, { on := 9, ground := Ground.phase }, { on := 10, ground := Ground.phase }], guard := none }) rfl (fun K hK => ?_) EachLast.nil
      go_simp
      refine hK.out _ _ (fun h => absurd rfl h) ?_
      try simp only [Act.put, List.setIfInBounds_toArray, List.set_cons_zero, List.set_cons_succ]
      refine wpLast_done (by kernel_rfl) ?_ _
      have hB6 : Below X.heap.size X (w5.alloc (.cells #[.int .i64 (d.kind : Int), .string d.name, .bool d.no, .slice ak d.kids.length ck] 92)) := HBD.out.alloc HBD.out.size _
      have HB6 := Lib.hid hB6
      have HR6 := Lib.hid (HRD.out.alloc (.cells #[.int .i64 (d.kind : Int), .string d.name, .bool d.no, .slice ak d.kids.length ck] 92))
      have HK6 := Lib.hid (Fz.fr HKD.out (Fr.below (X := w5) (Y := w5.alloc (.cells #[.int .i64 (d.kind : Int), .string d.name, .bool d.no, .slice ak d.kids.length ck] 92)) ((Below.refl _ w5).alloc (Nat.le_refl _) _)))
      have c60 := (Blk.new w5 92 #[.int .i64 (d.kind : Int), .string d.name, .bool d.no, .slice ak d.kids.length ck]).cell 0
      have c63 := (Blk.new w5 92 #[.int .i64 (d.kind : Int), .string d.name, .bool d.no, .slice ak d.kids.length ck]).cell 3
      obtain ⟨a7, c7, rfl⟩ := own_len HRD.out
      clear hB6 HBD HRD HKD hS0 hS1 hA
      generalize hw6 : w5.alloc (.cells #[.int .i64 (d.kind : Int), .string d.name, .bool d.no, .slice ak d.kids.length ck] 92) = w6 at *
      clear hw6
      generalize w5.heap.size = q5 at *
      by_cases hkq : d.kind = kd
      · rw [if_pos hkq] at hnext HS
        have hkI : (d.kind : Int) = (kd : Int) := by omega
        have HKQ := Lib.hid hkq
        clear hkq
        go_wp2_with (at_builtin; refine app_sees 72 Try.underlying72 info_int rfl HR6.out (Fz.toSees HK6.out) rfl rfl rfl rfl (iv_one _) (by rw [iv_len]; simp only [maxLen]; omega) (by rw [iv_len]; omega) HB6.out.size ?_; intro v8 w8 ho8 hg8)
        go_roundw
        case rel => exact ⟨k + 1, by omega, by go_num, by rw [HS.out, List.length_append, iv_app]; rw [iv_len] at ho8; exact ho8, HB6.out.grown hg8 HB6.out.size (fun z hz => (HR6.out.lt z hz).1)⟩
        case measure => simp [intOf]; omega
      · rw [if_neg hkq] at hnext HS
        have hkI : ¬ (d.kind : Int) = (kd : Int) := by omega
        clear hkq
        have pl6 : w6.cell? ⟨gl, k, none⟩ = some (.int .i64 (n : Int)) := (Below.cell HB6.out (p := ⟨gl, k, none⟩) hgl).trans PL.out
        go_wp2_with (at_builtin; refine app_int (k := n) rfl HR6.out rfl rfl rfl rfl (by simp) (by omega) HB6.out.size ?_; intro v8 w8 ho8 hk8)
        go_roundw
        case rel => exact ⟨k + 1, by omega, by go_num, by rw [HS.out]; exact ho8, (HB6.out.alloc HB6.out.size _).grown hk8.by (by simp; have := HB6.out.size; omega) (fun z hz => (HR6.out.lt z hz).1)⟩
        case measure => simp [intOf]; omega
    · obtain rfl : k = ks.length := by omega
      rw [List.take_length] at hrow
      have HR := Lib.hid hrow
      have HB := Lib.hid hbel
      clear hrow hbel
      go_wp2_with fail
      go_ret
      exact ⟨_, rfl, HR.out, HB.out⟩
end Go.Proofs.Ytlbkacabcfeaiaa.Tl
