/- Patterns: the reference's reader: its nodes. -/
import Derived.Test.YtlbkacabcfeaiaaKb
import Derived.Test.YtlbkacabcfeaiaaRw
import Derived.Test.YtlbkacabcfeaiaaEo
namespace Go.Proofs.Ytlbkacabcfeaiaa.Tl
open Go.RowKit Mm
set_option linter.unusedVariables false
structure Nd where
  kind : Nat
  name : ByteArray
  no : Bool
  kv : Value
  kids : List Nat
def ndV (d : Nd) : List Value := [.int .i64 (d.kind : Int), .string d.name, .bool d.no, d.kv]
def ndC (N : List Nd) : List Value := N.flatMap ndV
theorem ndC_cons (d : Nd) (N : List Nd) : ndC (d :: N) = .int .i64 (d.kind : Int) :: .string d.name :: .bool d.no :: d.kv :: ndC N := rfl
theorem ndC_snoc (N : List Nd) (d : Nd) : ndC (N ++ [d]) = ndC N ++ ndV d := by simp [ndC]
theorem ndC_get {N : List Nd} {i : Nat} {d : Nd} (h : N[i]? = some d) : (ndC N)[i * 4]? = some (.int .i64 (d.kind : Int)) ∧ (ndC N)[i * 4 + 1]? = some (.string d.name) ∧ (ndC N)[i * 4 + 2]? = some (.bool d.no) ∧ (ndC N)[i * 4 + 3]? = some d.kv := by
  induction N generalizing i with
  | nil => simp at h
  | cons x c ih =>
    cases i with
    | zero =>
      simp only [List.getElem?_cons_zero, Option.some.injEq] at h
      subst h
      exact ⟨rfl, rfl, rfl, rfl⟩
    | succ i =>
      rw [List.getElem?_cons_succ] at h
      obtain ⟨h0, h1, h2, h3⟩ := ih h
      rw [ndC_cons, show (i + 1) * 4 = i * 4 + 4 from by omega]
      exact ⟨h0, h1, h2, h3⟩
theorem info_node : (Try.prog.info? 92).map (fun i => (i.zero, i.size, i.bytes)) = some (some (.agg #[.int .i64 0, .string ⟨#[]⟩, .bool false, .slice none 0 0]), 4, 56) := by kernel_rfl
/-- rows of numbers stay -/
def Fr (X Y : World) : Prop := X.heap.size ≤ Y.heap.size ∧ ∀ (g : Nat) (cur : Array Value), X.heap[g]? = some (Obj.cells cur 3 (0, 0)) → Y.heap[g]? = some (Obj.cells cur 3 (0, 0))
section
variable {X Y Z : World}
theorem Fr.refl (X : World) : Fr X X := ⟨Nat.le_refl _, fun _ _ h => h⟩
theorem Fr.trans (h : Fr X Y) (k : Fr Y Z) : Fr X Z := ⟨Nat.le_trans h.1 k.1, fun g c hg => k.2 g c (h.2 g c hg)⟩
theorem Fr.below (h : Below X.heap.size X Y) : Fr X Y := ⟨h.size, fun g c hg => (h.block g (Array.getElem?_eq_some_iff.1 hg).1).trans hg⟩
theorem Fr.by {row : Option Nat} (h : X.grownBy Y row) (hr : ∀ g, row = some g → ∀ c, X.heap[g]? ≠ some (.cells c 3 (0, 0))) : Fr X Y :=
  ⟨h.size, fun g c hg => (h.block g (Array.getElem?_eq_some_iff.1 hg).1 (fun e => hr g e.symm c hg)).trans hg⟩
theorem Fr.blk {g : Nat} {cs : Array Value} (h : X.grownBy Y (some g)) (hb : Blk X g 67 cs) : Fr X Y :=
  Fr.by h (fun k hk c e => by
    cases hk
    unfold Blk at hb
    rw [hb] at e
    cases e)
theorem Fr.row {B n : Nat} {v : Value} {xs : List Value} (h : X.grownBy Y v.ownBlock) (hb : X.ownsRow B 92 4 v n xs) : Fr X Y :=
  Fr.by h (fun k hk c e => by
    obtain ⟨_, _, cur, h2⟩ := own_ty hb hk
    rw [h2] at e
    cases e)
theorem Fz.fr {v : Value} {n : Nat} {xs : List Value} (h : Fz X 3 1 v n xs) (hf : Fr X Y) : Fz Y 3 1 v n xs := by
  obtain ⟨a, cap, rfl, hc, hm, hl, hx⟩ := h
  refine ⟨a, cap, rfl, hc, hm, hl, hx.imp id ?_⟩
  rintro ⟨g, cur, rfl, hg, hx⟩
  exact ⟨g, cur, rfl, hf.2 g cur hg, hx⟩
theorem own_fr {B n : Nat} {v : Value} {xs : List Value} (h : X.ownsRow B 3 1 v n xs) (hf : Fr X Y) : Y.ownsRow B 3 1 v n xs := by
  refine ⟨h.1, ?_⟩
  rcases h.2 with h0 | ⟨g, cap, cur, hv, hbg, hg, rest⟩
  · exact .inl h0
  · exact .inr ⟨g, cap, cur, hv, hbg, hf.2 g cur hg, rest⟩
end
/-- the reference's reader, its nodes -/
structure Rf (W : World) (g : Nat) (s : ByteArray) (pos it deep : Nat) (bad : Int) (N : List Nd) (nv : Value) (X : World) : Prop where
  lt : g < W.heap.size
  bel : W.grownBy X (some g)
  blk : Blk X g 67 (rfC s pos it deep bad nv)
  row : X.ownsRow W.heap.size 92 4 nv N.length (ndC N)
  kid : ∀ d ∈ N, Fz X 3 1 d.kv d.kids.length (iv d.kids)
section
variable {W X Y : World} {g : Nat} {s : ByteArray} {pos it deep : Nat} {bad : Int} {N : List Nd} {nv : Value}
theorem Rf.ap (h : Rf W g s pos it deep bad N nv X) : some g ≠ nv.ownBlock := blk_apart h.blk h.row (by decide)
theorem Rf.below (h : Rf W g s pos it deep bad N nv X) (hb : Below X.heap.size X Y) : Rf W g s pos it deep bad N nv Y := by
  have hl := h.bel.size
  refine ⟨h.lt, ⟨hb.os.trans h.bel.os, hb.tape.trans h.bel.tape, hb.output.trans h.bel.output, Nat.le_trans hl hb.size, fun k hk hne => (hb.block k (Nat.lt_of_lt_of_le hk hl)).trans (h.bel.block k hk hne)⟩, h.blk.below hb h.blk.lt, own_below h.row hb (Nat.le_refl _), fun d hd => Fz.fr (h.kid d hd) (Fr.below hb)⟩
/-- the reader's own cells turn -/
theorem Rf.put {pos' it' deep' : Nat} {bad' : Int} (h : Rf W g s pos it deep bad N nv X) (hg : X.grownBy Y (some g)) (hb : Blk Y g 67 (rfC s pos' it' deep' bad' nv)) : Rf W g s pos' it' deep' bad' N nv Y ∧ Fr X Y := by
  have hf := Fr.blk hg h.blk
  exact ⟨⟨h.lt, gtrans h.bel hg, hb, own_put h.row hg h.lt, fun d hd => Fz.fr (h.kid d hd) hf⟩, hf⟩
/-- one more node behind the others -/
theorem Rf.more {d : Nd} {v' : Value} {cs : Array Value} (h : Rf W g s pos it deep bad N nv X) (ho : Y.ownsRow W.heap.size 92 4 v' (N.length + 1) (ndC N ++ ndV d)) (hk : Keeps (X.alloc (.cells cs 92)) nv v' Y) :
    Blk Y g 67 (rfC s pos it deep bad nv) ∧ (Fz X 3 1 d.kv d.kids.length (iv d.kids) → Rf W g s pos it deep bad (N ++ [d]) v' (Y.setCell ⟨g, 5, none⟩ v') ∧ Fr X (Y.setCell ⟨g, 5, none⟩ v')) := by
  have hA : Below X.heap.size X (X.alloc (.cells cs 92)) := (Below.refl _ X).alloc (Nat.le_refl _) _
  have h1 := h.below hA
  have hg := hk.by
  have hb : Blk Y g 67 (rfC s pos it deep bad nv) := h1.blk.grown hg h1.ap
  refine ⟨hb, fun hkid => ?_⟩
  have f1 : Fr X Y := (Fr.below hA).trans (Fr.row hg h1.row)
  have f2 : Fr Y (Y.setCell ⟨g, 5, none⟩ v') := Fr.blk (only_set _ _ _ _) hb
  have f3 := f1.trans f2
  refine ⟨⟨h.lt, ?_, Blk.s5 hb v', ?_, ?_⟩, f3⟩
  · refine gtrans ?_ (only_set Y g 5 v')
    have hl := h1.bel.size
    refine ⟨hg.os.trans h1.bel.os, hg.tape.trans h1.bel.tape, hg.output.trans h1.bel.output, Nat.le_trans hl hg.size, fun k hk hne => (hg.block k (Nat.lt_of_lt_of_le hk hl) (fun e => ?_)).trans (h1.bel.block k hk hne)⟩
    have := (h1.row.lt k e.symm).1
    omega
  · rw [List.length_append, ndC_snoc]
    exact own_put ho (only_set _ _ _ _) h.lt
  · intro e he
    rcases List.mem_append.1 he with he | he
    · exact Fz.fr (h.kid e he) f3
    · rw [List.mem_singleton] at he
      subst he
      exact Fz.fr hkid f3
end
abbrev HdN (g b : Nat) (nv v0 v1 v2 v3 : Value) (W : World) : Prop := W.cell? ⟨g, 5, none⟩ = some nv ∧ W.cell? ⟨b, 0, none⟩ = some v0 ∧ W.cell? ⟨b, 1, none⟩ = some v1 ∧ W.cell? ⟨b, 2, none⟩ = some v2 ∧ W.cell? ⟨b, 3, none⟩ = some v3
theorem HdN.of {X : World} {g b : Nat} {s : ByteArray} {pos it deep : Nat} {bad : Int} {nv v0 v1 v2 v3 : Value} {t t' : TypeId} (h : Blk X g t (rfC s pos it deep bad nv)) (h2 : Blk X b t' #[v0, v1, v2, v3]) : HdN g b nv v0 v1 v2 v3 X := ⟨Blk.f5 h, h2.cell 0, h2.cell 1, h2.cell 2, h2.cell 3⟩
set_option maxRecDepth 100000 in
set_option maxHeartbeats 8000000 in
theorem node_any {W X : World} {g : Nat} {s : ByteArray} {pos it deep : Nat} {bad : Int} {N : List Nd} {nv : Value} (h : Rf W g s pos it deep bad N nv X) (d : Nd) (hkid : Fz X 3 1 d.kv d.kids.length (iv d.kids)) (hN : N.length ≤ 100000) :
    Calls Try.prog 45 #[.pointer (some ⟨g, 0, none⟩), .agg #[.int .i64 (d.kind : Int), .string d.name, .bool d.no, d.kv]] X fun e w' => e = .returned (.int .i64 (N.length : Int)) ∧ (∃ nv', Rf W g s pos it deep bad (N ++ [d]) nv' w') ∧ Fr X w' := by
  have hb0 : Below X.heap.size X (X.alloc (.cells #[.int .i64 (d.kind : Int), .string d.name, .bool d.no, d.kv] 92)) := (Below.refl _ X).alloc (Nat.le_refl _) _
  have HB := Blk.new X 92 #[.int .i64 (d.kind : Int), .string d.name, .bool d.no, d.kv]
  have h0 := (h.below hb0).below (Below.refl _ _).drew
  have HF := Lib.hid ((Fr.below hb0).trans (Fr.below (Below.refl _ _).drew))
  have HK := Lib.hid (Fz.fr hkid HF.out)
  have hS0 := HdN.of h0.blk HB.drew
  have HBX := Lib.hid HB.drew
  have HNE := Lib.hid (Ne.symm (row_ne h.row))
  obtain ⟨an, cn, rfl⟩ := own_len h0.row
  have h1c : ∀ u ∈ ndV d, u.oneCell' = true := by
    intro u hu
    obtain ⟨a, cap, e, _⟩ := hkid
    unfold ndV at hu
    simp only [List.mem_cons, List.not_mem_nil, or_false] at hu
    rcases hu with rfl | rfl | rfl | rfl
    · rfl
    · rfl
    · rfl
    · rw [e]; rfl
  have H1C := Lib.hid h1c
  have H0 := Lib.hid h0
  have hgl := Nat.lt_of_lt_of_le h.lt h.bel.size
  have hws := h0.bel.size
  have hgx := h0.blk.lt
  have hbx := HB.drew.lt
  obtain ⟨kd, nm, no, kv, kids⟩ := d
  dsimp only at hS0 hbx
  clear h hkid hb0 HB h0 h1c
  go_enter Try.func45, Try.ntmps45
  go_wp2_with fail
  refine wp_region_last 10 (fun w' => HdN g X.heap.size (.slice an N.length cn) (.int .i64 (kd : Int)) (.string nm) (.bool no) kv w') mixed ?_
  generalize World.drew _ = X1 at *
  refine wpLast_take (i := 0) (oi := { dst := some 5, op := Op.move (Operand.tmp 0), type := 65, pos := "pattern.go:66", after := #[], guard := none }) (v := ?_) rfl (by kernel_rfl) (by kernel_rfl) (by kernel_rfl) (by kernel_rfl) (fun _ _ _ h => h) (Or.inl ⟨by rfl, ?_⟩) (by assumption) ?_
  rotate_left
  · intro w hSw
    try dsimp only at hSw
    go_simp
    try with_reducible rfl
  try simp only [Act.put, List.setIfInBounds_toArray, List.set_cons_zero, List.set_cons_succ]
  refine wpLast_take (i := 1) (oi := { dst := some 6, op := Op.move (Operand.tmp 0), type := 65, pos := "pattern.go:66", after := #[], guard := none }) (v := ?_) rfl (by kernel_rfl) (by kernel_rfl) (by kernel_rfl) (by kernel_rfl) (fun _ _ _ h => h) (Or.inl ⟨by rfl, ?_⟩) (by assumption) ?_
  rotate_left
  · intro w hSw
    try dsimp only at hSw
    go_simp
    try with_reducible rfl
  try simp only [Act.put, List.setIfInBounds_toArray, List.set_cons_zero, List.set_cons_succ]
  refine wpLast_take (i := 2) (oi := { dst := some 7, op := Op.nilCheck (Operand.tmp 6), type := 0, pos := "pattern.go:66", after := #[{ on := 1, ground := Ground.data }], guard := none }) (v := ?_) rfl (by kernel_rfl) (by kernel_rfl) (by kernel_rfl) (by kernel_rfl) (fun _ _ _ h => h) (Or.inl ⟨by rfl, ?_⟩) (by assumption) ?_
  rotate_left
  · intro w hSw
    try dsimp only at hSw
    go_simp
    try with_reducible rfl
  try simp only [Act.put, List.setIfInBounds_toArray, List.set_cons_zero, List.set_cons_succ]
  refine wpLast_take (i := 3) (oi := { dst := some 8, op := Op.fieldAddr 67 (Operand.tmp 7) 5, type := 0, pos := "pattern.go:66", after := #[{ on := 2, ground := Ground.data }], guard := none }) (v := ?_) rfl (by kernel_rfl) (by kernel_rfl) (by kernel_rfl) (by kernel_rfl) (fun _ _ _ h => h) (Or.inl ⟨by rfl, ?_⟩) (by assumption) ?_
  rotate_left
  · intro w hSw
    try dsimp only at hSw
    go_simp
    try with_reducible rfl
  try simp only [Act.put, List.setIfInBounds_toArray, List.set_cons_zero, List.set_cons_succ]
  refine wpLast_take (i := 4) (oi := { dst := some 9, op := Op.load 26 (Operand.tmp 8), type := 26, pos := "pattern.go:66", after := #[{ on := 3, ground := Ground.data }], guard := none }) (v := ?_) rfl (by kernel_rfl) (by kernel_rfl) (by kernel_rfl) (by kernel_rfl) (fun _ _ _ h => h) (Or.inl ⟨by rfl, ?_⟩) (by assumption) ?_
  rotate_left
  · intro w hSw
    try dsimp only at hSw
    go_simp
    try with_reducible rfl
  try simp only [Act.put, List.setIfInBounds_toArray, List.set_cons_zero, List.set_cons_succ]
  refine wpLast_take (i := 5) (oi := { dst := some 10, op := Op.load 92 (Operand.tmp 3), type := 92, pos := "pattern.go:66", after := #[], guard := none }) (v := ?_) rfl (by kernel_rfl) (by kernel_rfl) (by kernel_rfl) (by kernel_rfl) (fun _ _ _ h => h) (Or.inl ⟨by rfl, ?_⟩) (by assumption) ?_
  rotate_left
  · intro w hSw
    try dsimp only at hSw
    go_simp
    try with_reducible rfl
  try simp only [Act.put, List.setIfInBounds_toArray, List.set_cons_zero, List.set_cons_succ]
  refine wpLast_ready (rs := [6]) (by kernel_rfl) (by simp) ?_
  refine EachLast.cons (o := { dst := some 11, op := Op.buildSlice 26 1 #[(0, Operand.tmp 10)], type := 26, pos := "pattern.go:66", after := #[{ on := 5, ground := Ground.data }], guard := none }) rfl (fun K hK => ?_) EachLast.nil
  go_simp
  have hA : Below X1.heap.size X1 (X1.alloc (.cells #[.int .i64 (kd : Int), .string nm, .bool no, kv] 92)) := (Below.refl _ X1).alloc (Nat.le_refl _) _
  have hS1 : HdN g X.heap.size (.slice an N.length cn) (.int .i64 (kd : Int)) (.string nm) (.bool no) kv (X1.alloc (.cells #[.int .i64 (kd : Int), .string nm, .bool no, kv] 92)) := ⟨(hA.cell (p := ⟨g, 5, none⟩) hgx).trans hS0.1, (hA.cell (p := ⟨X.heap.size, 0, none⟩) hbx).trans hS0.2.1, (hA.cell (p := ⟨X.heap.size, 1, none⟩) hbx).trans hS0.2.2.1, (hA.cell (p := ⟨X.heap.size, 2, none⟩) hbx).trans hS0.2.2.2.1, (hA.cell (p := ⟨X.heap.size, 3, none⟩) hbx).trans hS0.2.2.2.2⟩
  refine hK.out _ _ (fun _ => hS1) ?_
  try simp only [Act.put, List.setIfInBounds_toArray, List.set_cons_zero, List.set_cons_succ]
  refine wpLast_ready (rs := [7]) (by kernel_rfl) (by simp) ?_
  refine EachLast.cons (o := { dst := some 12, op := Op.call { callee := Callee.builtin Builtin.append, args := #[Operand.tmp 9, Operand.tmp 11], argTypes := #[26, 26] }, type := 26, pos := "pattern.go:66", after := #[{ on := 4, ground := Ground.data }, { on := 6, ground := Ground.data }], guard := none }) rfl (fun K hK => ?_) EachLast.nil
  refine step_keep (w := X1) (ndV ⟨kd, nm, no, kv, kids⟩) (.tmp 9) (.tmp 11) Try.underlying26 info_node rfl (by decide) H1C.out rfl H0.out.row ?gd ?go ?gs ?gx (by simp only [maxLen]; omega) (by omega) hws ?_
  case gd => rfl
  case go => rfl
  case gs => rfl
  case gx => rfl
  intro v' Y ho hk
  obtain ⟨hbY, hfin⟩ := H0.out.more ho hk
  have hBY := (HBX.out.alloc _).grown hk.by HNE.out
  have hS9 := HdN.of hbY hBY
  have f5 := hbY.frozen 5
  obtain ⟨a9, c9, rfl⟩ := own_len ho
  obtain ⟨hR, hFr⟩ := hfin HK.out
  have HR := Lib.hid hR
  have HFr := Lib.hid hFr
  have q5 := Blk.f5 hR.blk
  clear hfin hR hFr
  refine hK.out _ _ (fun _ => hS9) ?_
  try simp only [Act.put, List.setIfInBounds_toArray, List.set_cons_zero, List.set_cons_succ]
  refine wpLast_ready (rs := [8]) (by kernel_rfl) (by simp) ?_
  refine EachLast.cons (o := { dst := some 13, op := Op.nilCheck (Operand.tmp 5), type := 0, pos := "pattern.go:66", after := #[{ on := 0, ground := Ground.data }, { on := 0, ground := Ground.phase }, { on := 1, ground := Ground.phase }, { on := 2, ground := Ground.phase }, { on := 3, ground := Ground.phase }, { on := 4, ground := Ground.phase }, { on := 5, ground := Ground.phase }, { on := 6, ground := Ground.phase }, { on := 7, ground := Ground.phase }], guard := none }) rfl (fun K hK => ?_) EachLast.nil
  go_simp
  refine hK.out _ _ (fun _ => hS9) ?_
  try simp only [Act.put, List.setIfInBounds_toArray, List.set_cons_zero, List.set_cons_succ]
  refine wpLast_ready (rs := [9]) (by kernel_rfl) (by simp) ?_
  refine EachLast.cons (o := { dst := some 14, op := Op.fieldAddr 67 (Operand.tmp 13) 5, type := 0, pos := "pattern.go:66", after := #[{ on := 8, ground := Ground.data }, { on := 0, ground := Ground.phase }, { on := 1, ground := Ground.phase }, { on := 2, ground := Ground.phase }, { on := 3, ground := Ground.phase }, { on := 4, ground := Ground.phase }, { on := 5, ground := Ground.phase }, { on := 6, ground := Ground.phase }, { on := 7, ground := Ground.phase }], guard := none }) rfl (fun K hK => ?_) EachLast.nil
  go_simp
  refine hK.out _ _ (fun _ => hS9) ?_
  try simp only [Act.put, List.setIfInBounds_toArray, List.set_cons_zero, List.set_cons_succ]
  refine wpLast_ready (rs := [10]) (by kernel_rfl) (by simp) ?_
  refine EachLast.cons (o := { dst := none, op := Op.store 26 (Operand.tmp 14) (Operand.tmp 12), type := 0, pos := "pattern.go:66", after := #[{ on := 9, ground := Ground.data }, { on := 7, ground := Ground.data }, { on := 7, ground := Ground.chain }, { on := 0, ground := Ground.phase }, { on := 1, ground := Ground.phase }, { on := 2, ground := Ground.phase }, { on := 3, ground := Ground.phase }, { on := 4, ground := Ground.phase }, { on := 5, ground := Ground.phase }, { on := 6, ground := Ground.phase }, { on := 7, ground := Ground.phase }], guard := none }) rfl (fun K hK => ?_) EachLast.nil
  go_simp
  refine hK.out _ _ (fun h => absurd rfl h) ?_
  try simp only [Act.put, List.setIfInBounds_toArray, List.set_cons_zero, List.set_cons_succ]
  refine wpLast_done (by kernel_rfl) ?_ _
  go_wp2_with fail
  go_ret
  exact ⟨rfl, ⟨_, HR.out⟩, HF.out.trans HFr.out⟩
end Go.Proofs.Ytlbkacabcfeaiaa.Tl
