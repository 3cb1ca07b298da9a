/- Texts of one kind, put together: Nh, Ni, Nj. -/
import Derived.Test.YtlbkacabcfeaiaaZNB
import Derived.Test.YtlbkacabcfeaiaaZKD
/- Patterns: the reference's relation of a tree over names: sequences and choices. Printed by mklead.py. -/
namespace Go.Proofs.Ytlbkacabcfeaiaa.Tl
open Go.RowKit Mm
set_option linter.unusedVariables false
/-- a relation in a variable -/
def Bx (w : World) (n b : Nat) (R : Nat → Nat → Prop) (X : World) : Prop := ∃ g, Blk X b 79 #[.int .i64 (n : Int), .slice (some ⟨g, 0, none⟩) (n * n) (n * n)] ∧ MR X w.heap.size n R (.agg #[.int .i64 (n : Int), .slice (some ⟨g, 0, none⟩) (n * n) (n * n)])
theorem Bx.on {w X Y : World} {n b : Nat} {R : Nat → Nat → Prop} (h : Bx w n b R X) (hb : Below X.heap.size X Y) : Bx w n b R Y := by
  obtain ⟨g, h1, h2⟩ := h
  exact ⟨g, h1.below hb h1.lt, h2.below hb⟩
theorem Bx.lt {w X : World} {n b : Nat} {R : Nat → Nat → Prop} (h : Bx w n b R X) : b < X.heap.size := by
  obtain ⟨g, h1, _⟩ := h
  exact h1.lt
theorem Bx.iff {w X : World} {n b : Nat} {R R' : Nat → Nat → Prop} (h : Bx w n b R X) (hr : ∀ i j, R i j ↔ R' i j) : Bx w n b R' X := by
  obtain ⟨g, h1, h2⟩ := h
  exact ⟨g, h1, h2.iff fun i j _ _ => hr i j⟩
/-- another relation into that variable -/
theorem Bx.into {w X : World} {n b g : Nat} {R R' : Nat → Nat → Prop} (h : Bx w n b R X) (h2 : MR X w.heap.size n R' (.agg #[.int .i64 (n : Int), .slice (some ⟨g, 0, none⟩) (n * n) (n * n)])) : Bx w n b R' ((X.setCell ⟨b, 0, none⟩ (.int .i64 (n : Int))).setCell ⟨b, 1, none⟩ (.slice (some ⟨g, 0, none⟩) (n * n) (n * n))) := by
  obtain ⟨g0, h1, _⟩ := h
  exact ⟨g, (h1.set_ 0 _).set_ 1 _, MR.put h2 h1⟩
theorem MR.form {X : World} {B n : Nat} {R : Nat → Nat → Prop} {v : Value} (h : MR X B n R v) : ∃ g, v = .agg #[.int .i64 (n : Int), .slice (some ⟨g, 0, none⟩) (n * n) (n * n)] := by
  obtain ⟨l, ⟨g, h1, _⟩, _⟩ := h
  exact ⟨g, h1⟩
theorem mtS_app (ns : List (List UInt8)) : ∀ (a b : List T) (i j : Nat), MtS ns (a ++ b) i j ↔ ∃ m, MtS ns a i m ∧ MtS ns b m j
  | [], b, i, j => by simp only [List.nil_append, MtS]; exact ⟨fun h => ⟨i, rfl, h⟩, fun ⟨m, h1, h2⟩ => by rw [h1]; exact h2⟩
  | t :: a, b, i, j => by
    simp only [List.cons_append, MtS]
    constructor
    · rintro ⟨m, h1, h2⟩
      obtain ⟨m2, h3, h4⟩ := (mtS_app ns a b m j).1 h2
      exact ⟨m2, ⟨m, h1, h3⟩, h4⟩
    · rintro ⟨m2, ⟨m, h1, h3⟩, h4⟩
      exact ⟨m, h1, (mtS_app ns a b m j).2 ⟨m2, h3, h4⟩⟩
theorem mtA_app (ns : List (List UInt8)) : ∀ (a b : List T) (i j : Nat), MtA ns (a ++ b) i j ↔ (MtA ns a i j ∨ MtA ns b i j)
  | [], b, i, j => by simp only [List.nil_append, MtA, false_or]
  | t :: a, b, i, j => by
    simp only [List.cons_append, MtA]
    rw [mtA_app ns a b i j, or_assoc]
theorem mtS_step {ns : List (List UInt8)} {l : List T} {m : Nat} (h : m < l.length) (i j : Nat) : (∃ c, i ≤ c ∧ c ≤ j ∧ MtS ns (l.take m) i c ∧ Mt ns l[m] c j) ↔ MtS ns (l.take (m + 1)) i j := by
  rw [List.take_succ_eq_append_getElem h, mtS_app]
  constructor
  · rintro ⟨c, _, _, h1, h2⟩
    exact ⟨c, h1, by simp only [MtS]; exact ⟨j, h2, rfl⟩⟩
  · rintro ⟨c, h1, h2⟩
    simp only [MtS] at h2
    obtain ⟨j', h3, rfl⟩ := h2
    exact ⟨c, (mtS_le ns _ _ _ h1).1, (mt_le ns _ _ _ h3).1, h1, h3⟩
theorem mtA_step {ns : List (List UInt8)} {l : List T} {m : Nat} (h : m < l.length) (i j : Nat) : (MtA ns (l.take m) i j ∨ Mt ns l[m] i j) ↔ MtA ns (l.take (m + 1)) i j := by
  rw [List.take_succ_eq_append_getElem h, mtA_app]
  simp only [MtA, or_false]
/-- one kid of a node -/
theorem kid_at {X : World} {B : Nat} {nv : Value} {N : List Nd} {k : Nat} {d : Nd} {i : Nat} (h : NG X B nv N) (hd : N[k]? = some d) (hi : i < d.kids.length) : ∃ g c, d.kv = .slice (some ⟨g, 0, none⟩) d.kids.length c ∧ g < X.heap.size ∧ X.cell? ⟨g, i, none⟩ = some (.int .i64 (d.kids[i] : Int)) := by
  have hf := h.kid d (List.mem_of_getElem? hd)
  obtain ⟨a, c, hv, _⟩ := Fz.form hf
  rw [hv] at hf
  obtain ⟨g, rfl, hg, hc⟩ := Fz.cells hf (by omega)
  exact ⟨g, c, hv, hg, hc i _ (iv_get hi)⟩
abbrev HdK (b gk i j : Nat) (nv : Value) (r : Nat) (kv : Value) (W : World) : Prop := W.cell? ⟨b, 0, none⟩ = some nv ∧ W.cell? ⟨b, 1, none⟩ = some (.int .i64 (r : Int)) ∧ W.cell? ⟨b + 1 + 1, 3, none⟩ = some kv ∧ W.cell? ⟨gk, i, none⟩ = some (.int .i64 (j : Int))
theorem HdK.on {b gk i j : Nat} {nv : Value} {r : Nat} {kv : Value} {X Y : World} (h : HdK b gk i j nv r kv X) (hb : Below X.heap.size X Y) (h1 : b + 1 + 1 < X.heap.size) (h2 : gk < X.heap.size) : HdK b gk i j nv r kv Y :=
  ⟨(Below.cell hb (p := ⟨b, 0, none⟩) (show b < X.heap.size by omega)).trans h.1, (Below.cell hb (p := ⟨b, 1, none⟩) (show b < X.heap.size by omega)).trans h.2.1, (Below.cell hb (p := ⟨b + 1 + 1, 3, none⟩) h1).trans h.2.2.1, (Below.cell hb (p := ⟨gk, i, none⟩) h2).trans h.2.2.2⟩
set_option maxRecDepth 100000 in
set_option maxHeartbeats 16000000 in
theorem lead_seq (names : List ByteArray) (hnl : names.length ≤ 300) {l : List T} (hll : l.length ≤ 20000) (hall : ∀ t ∈ l, LeadC names t) : LeadC names (.seq l) := by
  intro w B nv lv N k r hN hden hlv
  have hlen := hN.len
  have hkl := hden.lt
  obtain ⟨d, hd, hkd, hkids, hdj⟩ : ∃ d, N[k]? = some d ∧ d.kind = 4 ∧ d.kids.length = l.length ∧ ∀ (i j : Nat) (t : T), d.kids[i]? = some j → l[i]? = some t → Den N j t := by
    cases hden with
    | seq k d l h1 h2 h3 h4 => exact ⟨d, h1, h2, h3, h4⟩
  obtain ⟨g, c, hnv, hg, hc⟩ := nd_at hN hd
  obtain ⟨ak, ck0, hkv, _⟩ := Fz.form (hN.kid d (List.mem_of_getElem? hd))
  rw [hkids] at hkv
  have hA2 := bal (bal (Below.refl w.heap.size w) (.cells #[nv, .int .i64 (r : Int)] 28)) (.cells #[.int .i64 0, .slice none 0 0] 79)
  obtain ⟨p0, p1, p2, p3⟩ := hc _ hA2
  have c0 := ((Blk.new w 28 #[nv, .int .i64 (r : Int)]).alloc (.cells #[.int .i64 0, .slice none 0 0] 79)).cell 0
  have HLD := Lib.hid (Ld.start w nv r d)
  have HSE := Lib.hid hlv
  have HNG := Lib.hid hN
  have hwk : IntKind.i64.wrap (k : Int) = (k : Int) := IntWalk.i64_in _ (by omega)
  have i0 : (0 : Int) ≤ (k : Int) := by omega
  have i1 : (k : Int) < (N.length : Int) := by omega
  obtain ⟨al, cl, hlv2, _⟩ := hlv
  rw [List.length_map] at hlv2
  subst hlv2
  obtain ⟨n, hn⟩ : ∃ n, n = names.length + 1 := ⟨_, rfl⟩
  have hnI : (names.length : Int) + 1 = (n : Int) := by omega
  have hn301 : n ≤ 301 := by omega
  have HKC := Lib.hid (show ∀ (X : World) (m : Nat) (h : m < l.length), NG X B nv N → ∃ gk ck j, d.kv = .slice (some ⟨gk, 0, none⟩) l.length ck ∧ gk < X.heap.size ∧ X.cell? ⟨gk, m, none⟩ = some (.int .i64 ((j : Nat) : Int)) ∧ Den N j l[m] from fun X m h hX => by
    obtain ⟨gk, ck, h1, h2, h3⟩ := kid_at hX hd (i := m) (by omega)
    rw [hkids] at h1
    exact ⟨gk, ck, _, h1, h2, h3, hdj m _ _ (List.getElem?_eq_getElem (by omega)) (List.getElem?_eq_getElem h)⟩)
  have HMt := Lib.hid (show Mt (names.map (·.data.toList)) (.seq l) = MtS (names.map (·.data.toList)) (l.take l.length) from by rw [List.take_length]; simp only [Mt])
  have hkI : (d.kind : Int) = 4 := by omega
  have HW := Lib.hid (fun t (ht : t ∈ l) => hall t ht)
  have H0 := Lib.hid (fun (X : World) => stay_any n hn301 X)
  rw [← hn]
  have HWn := Lib.hid (show ∀ t ∈ l, ∀ (w : World) (nv : Value) (k r : Nat), NG w B nv N → Den N k t → Sees w (.slice al names.length cl) (names.map Value.string) → Calls Try.prog 23 #[.agg #[nv, .int .i64 (r : Int)], .int .i64 (k : Int), .slice al names.length cl] w fun e w' => ∃ v, e = .returned v ∧ MR w' w.heap.size n (Mt (names.map (·.data.toList)) t) v ∧ Below w.heap.size w w' from fun t ht w nv k r h1 h2 h3 => by rw [hn]; exact hall t ht w B nv _ N k r h1 h2 h3)
  have HKV := Lib.hid hkv
  rw [hkv] at p3
  rw [hkI] at p0
  have HNV := Lib.hid hnv
  have HLD2 := Lib.hid (show Ld w nv r d (((w.alloc (.cells #[.slice (some ⟨g, 0, none⟩) N.length c, .int .i64 (r : Int)] 28)).alloc (.cells #[.int .i64 0, .slice none 0 0] 79)).alloc (.cells #[.int .i64 4, .string d.name, .bool d.no, .slice ak l.length ck0] 92)) from by have h := HLD.out; rw [hkI, hkv] at h; rw [← hnv]; exact h)
  clear hN hden hd hc hA2 hkd hn hkv hall hdj hkids HLD HW
  rw [hnv]
  rw [hnv] at p0 p1 p2 p3 c0
  clear hnv
  go_enter Try.func23, Try.ntmps23
  go_wp2_with fail
  clear p0 p1 p2 p3 c0
  generalize World.alloc (World.alloc (World.alloc w _) _) _ = V at *
  refine (H0.out V).mono ?_
  rintro e w1 ⟨v1, rfl, hmr1, hb1⟩
  obtain ⟨g1, rfl⟩ := hmr1.form
  have hA1 := (Below.refl _ w1).alloc (Nat.le_refl _) (.cells #[.int .i64 (n : Int), .slice (some ⟨g1, 0, none⟩) (n * n) (n * n)] 79)
  have HLD1 := Lib.hid ((HLD2.out.on hb1).on hA1)
  have HBX := Lib.hid (show Bx w n w1.heap.size (MtS (names.map (·.data.toList)) (l.take 0)) (w1.alloc (.cells #[.int .i64 (n : Int), .slice (some ⟨g1, 0, none⟩) (n * n) (n * n)] 79)) from ⟨g1, Blk.new w1 _ _, ((hmr1.mono HLD2.out.bel.size).below hA1).iff (fun i j _ _ => by simp [MtS])⟩)
  have hw1 : w.heap.size + 1 + 1 < w1.heap.size := by
    have h1 := HLD2.out.bx.lt
    have h3 := hb1.size
    omega
  clear hmr1 hb1 hA1 HLD2 H0
  go_wp2_with fail
  go_loopw [10] (fun iv wr => ∃ m : Nat, m ≤ l.length ∧ iv = .int .i64 (m : Int) ∧ Ld w nv r d wr ∧ Bx w n w1.heap.size (MtS (names.map (·.data.toList)) (l.take m)) wr) (fun iv _ => l.length - (intOf iv).toNat)
  case atStart => exact ⟨0, Nat.zero_le _, rfl, by have h := HLD1.out; exact h, HBX.out⟩
  case round =>
    clear HLD1 HBX
    obtain ⟨m, hm, rfl, hld, hbx⟩ := hrel
    have hx3 : wr.cell? ⟨w.heap.size + 1 + 1, 3, none⟩ = some (.slice ak l.length ck0) := by have h := hld.bx.cell 3; rw [show (#[Value.int .i64 (d.kind : Int), .string d.name, .bool d.no, d.kv] : Array Value)[3]? = some d.kv from rfl, HKV.out] at h; exact h
    by_cases hlt : m < l.length
    · have HNGr := Lib.hid (HNG.out.below hld.bel)
      obtain ⟨gk, ck, j, hkv2, hgk, hkc, hdj⟩ := HKC.out wr m hlt HNGr.out
      rw [hkv2] at HKV
      obtain ⟨rfl, rfl⟩ : ak = some ⟨gk, 0, none⟩ ∧ ck = ck0 := by have h := HKV.out; simp only [Value.slice.injEq] at h; exact ⟨h.1.symm, h.2.2⟩
      have HL := Lib.hid (fun (X : World) (h1 : NG X B nv N) (h3 : Sees X (.slice al names.length cl) (names.map Value.string)) => HWn.out l[m] (List.getElem_mem hlt) X nv j r h1 hdj h3)
      have HST := Lib.hid (mtS_step (ns := names.map (·.data.toList)) hlt)
      have HSEr := Lib.hid (HSE.out.below hld.bel)
      have m0 : (0 : Int) ≤ (m : Int) := by omega
      have m1 : (m : Int) < (l.length : Int) := by omega
      have hwm : IntKind.i64.wrap (m : Int) = (m : Int) := IntWalk.i64_in _ (by omega)
      have hS0 : HdK w.heap.size gk m j nv r (.slice (some ⟨gk, 0, none⟩) l.length ck) wr.drew := ⟨hld.bp.cell 0, hld.bp.cell 1, hx3, hkc⟩
      have HLD := Lib.hid (hld.on (Below.refl _ wr).drew)
      have HBX := Lib.hid (hbx.on (Below.refl _ wr).drew)
      have HNG5 := Lib.hid (HNGr.out.below (Below.refl _ wr).drew)
      have HSE5 := Lib.hid HSEr.out.drew
      have hbxl : w.heap.size + 1 + 1 < wr.drew.heap.size := hld.bx.lt
      have hgkl : gk < wr.drew.heap.size := hgk
      clear hld hbx hkc hdj hgk HNGr HSEr
      go_upto_region 9 with fail
      refine wp_region_last 9 (fun w' => HdK w.heap.size gk m j nv r (.slice (some ⟨gk, 0, none⟩) l.length ck) w') mixed ?_
      clear hx3
      generalize wr.drew = w5 at *
      refine wpLast_take (i := 0) (oi := { dst := some 39, op := Op.load 28 (Operand.tmp 3), type := 28, pos := "pattern.go:398", after := #[], guard := none }) (v := ?_) rfl (by kernel_rfl) (by kernel_rfl) (by kernel_rfl) (by kernel_rfl) (fun _ _ _ h => h) (Or.inl ⟨by rfl, ?_⟩) (by assumption) ?_
      rotate_left
      · intro w hSw
        try dsimp only at hSw
        go_simp
        try with_reducible rfl
      try simp only [Act.put, List.setIfInBounds_toArray, List.set_cons_zero, List.set_cons_succ]
      refine wpLast_take (i := 1) (oi := { dst := some 40, op := Op.fieldAddr 92 (Operand.tmp 8) 3, type := 0, pos := "pattern.go:398", after := #[], guard := none }) (v := ?_) rfl (by kernel_rfl) (by kernel_rfl) (by kernel_rfl) (by kernel_rfl) (fun _ _ _ h => h) (Or.inl ⟨by rfl, ?_⟩) (by assumption) ?_
      rotate_left
      · intro w hSw
        try dsimp only at hSw
        go_simp
        try with_reducible rfl
      try simp only [Act.put, List.setIfInBounds_toArray, List.set_cons_zero, List.set_cons_succ]
      refine wpLast_take (i := 2) (oi := { dst := some 41, op := Op.load 72 (Operand.tmp 40), type := 72, pos := "pattern.go:398", after := #[{ on := 1, ground := Ground.data }], guard := none }) (v := ?_) rfl (by kernel_rfl) (by kernel_rfl) (by kernel_rfl) (by kernel_rfl) (fun _ _ _ h => h) (Or.inl ⟨by rfl, ?_⟩) (by assumption) ?_
      rotate_left
      · intro w hSw
        try dsimp only at hSw
        go_simp
        try with_reducible rfl
      try simp only [Act.put, List.setIfInBounds_toArray, List.set_cons_zero, List.set_cons_succ]
      refine wpLast_take (i := 3) (oi := { dst := some 42, op := Op.move (Operand.tmp 10), type := 3, pos := "pattern.go:398", after := #[], guard := none }) (v := ?_) rfl (by kernel_rfl) (by kernel_rfl) (by kernel_rfl) (by kernel_rfl) (fun _ _ _ h => h) (Or.inl ⟨by rfl, ?_⟩) (by assumption) ?_
      rotate_left
      · intro w hSw
        try dsimp only at hSw
        go_simp
        try with_reducible rfl
      try simp only [Act.put, List.setIfInBounds_toArray, List.set_cons_zero, List.set_cons_succ]
      refine wpLast_take (i := 4) (oi := { dst := some 43, op := Op.indexAddr 72 (Operand.tmp 41) (Operand.tmp 42), type := 0, pos := "pattern.go:398", after := #[{ on := 2, ground := Ground.data }, { on := 3, ground := Ground.data }], guard := none }) (v := ?_) rfl (by kernel_rfl) (by kernel_rfl) (by kernel_rfl) (by kernel_rfl) (fun _ _ _ h => h) (Or.inl ⟨by rfl, ?_⟩) (by assumption) ?_
      rotate_left
      · intro w hSw
        try dsimp only at hSw
        go_simp
        try with_reducible rfl
      try simp only [Act.put, List.setIfInBounds_toArray, List.set_cons_zero, List.set_cons_succ]
      refine wpLast_take (i := 5) (oi := { dst := some 44, op := Op.load 3 (Operand.tmp 43), type := 3, pos := "pattern.go:398", after := #[{ on := 4, ground := Ground.data }], guard := none }) (v := ?_) rfl (by kernel_rfl) (by kernel_rfl) (by kernel_rfl) (by kernel_rfl) (fun _ _ _ h => h) (Or.inl ⟨by rfl, ?_⟩) (by assumption) ?_
      rotate_left
      · intro w hSw
        try dsimp only at hSw
        go_simp
        try with_reducible rfl
      try simp only [Act.put, List.setIfInBounds_toArray, List.set_cons_zero, List.set_cons_succ]
      refine wpLast_take (i := 6) (oi := { dst := some 45, op := Op.move (Operand.tmp 2), type := 35, pos := "pattern.go:398", after := #[], guard := none }) (v := ?_) rfl (by kernel_rfl) (by kernel_rfl) (by kernel_rfl) (by kernel_rfl) (fun _ _ _ h => h) (Or.inl ⟨by rfl, ?_⟩) (by assumption) ?_
      rotate_left
      · intro w hSw
        try dsimp only at hSw
        go_simp
        try with_reducible rfl
      try simp only [Act.put, List.setIfInBounds_toArray, List.set_cons_zero, List.set_cons_succ]
      refine wpLast_ready (rs := [7, 8]) (by kernel_rfl) (by simp) ?_
      refine EachLast.cons (o := { dst := some 46, op := Op.call { callee := Callee.value (Operand.func 23), args := #[Operand.tmp 39, Operand.tmp 44, Operand.tmp 45], argTypes := #[28, 3, 35] }, type := 79, pos := "pattern.go:398", after := #[{ on := 0, ground := Ground.data }, { on := 5, ground := Ground.data }, { on := 6, ground := Ground.data }], guard := none }) rfl (fun K hK => ?_) (EachLast.cons (o := { dst := some 11, op := Op.alloc 79, type := 0, pos := "pattern.go:398", after := #[], guard := none }) rfl (fun K hK => ?_) EachLast.nil)
      · go_simp
        refine (HL.out w5 HNG5.out HSE5.out).mono ?_
        rintro e w6 ⟨v2, rfl, hmr2, hb6⟩
        obtain ⟨g2, rfl⟩ := hmr2.form
        have hA6 := (Below.refl _ w6).alloc (Nat.le_refl _) (.cells #[.int .i64 0, .slice none 0 0] 79)
        have hS6 := hS0.on hb6 hbxl hgkl
        have hS7 := hS6.on hA6 (Nat.lt_of_lt_of_le hbxl hb6.size) (Nat.lt_of_lt_of_le hgkl hb6.size)
        have hA7 := (Below.refl _ w6).alloc (Nat.le_refl _) (.cells #[.int .i64 (n : Int), .slice (some ⟨g2, 0, none⟩) (n * n) (n * n)] 79)
        have HLD8 := Lib.hid ((HLD.out.on hb6).on hA7)
        have HBX8 := Lib.hid ((HBX.out.on hb6).on hA7)
        have HMR8 := Lib.hid ((hmr2.mono HLD.out.bel.size).below hA7)
        have HB11 := Lib.hid (Blk.new w6 79 #[.int .i64 (n : Int), .slice (some ⟨g2, 0, none⟩) (n * n) (n * n)])
        clear hb6 hmr2 hA6 hA7
        refine hK.out _ _ (fun _ => hS6) ?_
        try simp only [Act.put, List.setIfInBounds_toArray, List.set_cons_zero, List.set_cons_succ]
        refine wpLast_ready (rs := [8]) (by kernel_rfl) (by simp) ?_
        refine EachLast.cons (o := { dst := some 11, op := Op.alloc 79, type := 0, pos := "pattern.go:398", after := #[], guard := none }) rfl (fun K hK => ?_) EachLast.nil
        go_simp
        refine hK.out _ _ (fun _ => hS7) ?_
        try simp only [Act.put, List.setIfInBounds_toArray, List.set_cons_zero, List.set_cons_succ]
        refine wpLast_ready (rs := [9]) (by kernel_rfl) (by simp) ?_
        refine EachLast.cons (o := { dst := none, op := Op.store 79 (Operand.tmp 11) (Operand.tmp 46), type := 0, pos := "pattern.go:398", after := #[{ on := 8, ground := Ground.data }, { on := 7, ground := Ground.data }, { on := 7, ground := Ground.chain }, { on := 0, ground := Ground.phase }, { on := 1, ground := Ground.phase }, { on := 2, ground := Ground.phase }, { on := 3, ground := Ground.phase }, { on := 4, ground := Ground.phase }, { on := 5, ground := Ground.phase }, { on := 6, ground := Ground.phase }, { on := 7, ground := Ground.phase }, { on := 8, ground := Ground.phase }], guard := none }) rfl (fun K hK => ?_) EachLast.nil
        go_simp
        refine hK.out _ _ (fun h => absurd rfl h) ?_
        try simp only [Act.put, List.setIfInBounds_toArray, List.set_cons_zero, List.set_cons_succ]
        refine wpLast_done (by kernel_rfl) ?_ _
        generalize w6.alloc (.cells #[.int .i64 (n : Int), .slice (some ⟨g2, 0, none⟩) (n * n) (n * n)] 79) = Y at *
        generalize w6.heap.size = b11 at *
        obtain ⟨g9, hb9, hm9⟩ := HBX8.out
        have e90 : Y.cell? ⟨w1.heap.size, 0, none⟩ = some (.int .i64 (n : Int)) := hb9.cell 0
        have e91 : Y.cell? ⟨w1.heap.size, 1, none⟩ = some (.slice (some ⟨g9, 0, none⟩) (n * n) (n * n)) := hb9.cell 1
        have e110 : Y.cell? ⟨b11, 0, none⟩ = some (.int .i64 (n : Int)) := HB11.out.cell 0
        have e111 : Y.cell? ⟨b11, 1, none⟩ = some (.slice (some ⟨g2, 0, none⟩) (n * n) (n * n)) := HB11.out.cell 1
        have HTH := Lib.hid (then_any n hn301 Y _ _ _ _ _ _ hm9 HMR8.out)
        clear hb9 hm9
        go_wp2_with fail
        refine HTH.out.mono ?_
        rintro e Z ⟨v3, rfl, hmr3, hb3⟩
        obtain ⟨g3, rfl⟩ := hmr3.form
        have hbz := HBX8.out.on hb3
        have HLDz := Lib.hid (HLD8.out.on hb3)
        obtain ⟨g9z, hb9z, _⟩ := hbz
        have y0 : Z.cell? ⟨w1.heap.size, 0, none⟩ = some (.int .i64 (n : Int)) := hb9z.cell 0
        have y1 : Z.cell? ⟨w1.heap.size, 1, none⟩ = some (.slice (some ⟨g9z, 0, none⟩) (n * n) (n * n)) := hb9z.cell 1
        have f0 := hb9z.frozen 0
        have f1 := hb9z.frozen 1
        have HBZ := Lib.hid (Bx.into (HBX8.out.on hb3) ((hmr3.mono HLD8.out.bel.size).iff (fun i j _ _ => HST.out i j)))
        clear hb9z hb3 hmr3 e90 e91 e110 e111
        go_wp2_with fail
        go_roundw
        case rel => exact ⟨m + 1, by omega, by go_num, (HLDz.out.put hw1).put hw1, HBZ.out⟩
        case measure => simp [intOf]; omega
      · go_simp
        have hA5 := (Below.refl _ w5).alloc (Nat.le_refl _) (.cells #[.int .i64 0, .slice none 0 0] 79)
        have hS5 := hS0.on hA5 hbxl hgkl
        have HLD5 := Lib.hid (HLD.out.on hA5)
        have HBX5 := Lib.hid (HBX.out.on hA5)
        have HNG6 := Lib.hid (HNG5.out.below hA5)
        have HSE6 := Lib.hid (HSE5.out.below hA5)
        have HB5 := Lib.hid (Blk.new w5 79 #[.int .i64 0, .slice none 0 0])
        have hbxl5 := Nat.lt_of_lt_of_le hbxl hA5.size
        have hgkl5 := Nat.lt_of_lt_of_le hgkl hA5.size
        refine hK.out _ _ (fun _ => hS5) ?_
        try simp only [Act.put, List.setIfInBounds_toArray, List.set_cons_zero, List.set_cons_succ]
        clear hA5
        generalize hw55 : w5.alloc (.cells #[.int .i64 0, .slice none 0 0] 79) = w55 at *
        clear hw55
        have hb5l : w1.heap.size < w5.heap.size := HBX.out.lt
        generalize hb11 : w5.heap.size = b11 at *
        refine wpLast_ready (rs := [7]) (by kernel_rfl) (by simp) ?_
        refine EachLast.cons (o := { dst := some 46, op := Op.call { callee := Callee.value (Operand.func 23), args := #[Operand.tmp 39, Operand.tmp 44, Operand.tmp 45], argTypes := #[28, 3, 35] }, type := 79, pos := "pattern.go:398", after := #[{ on := 0, ground := Ground.data }, { on := 5, ground := Ground.data }, { on := 6, ground := Ground.data }], guard := none }) rfl (fun K hK => ?_) EachLast.nil
        go_simp
        refine (HL.out w55 HNG6.out HSE6.out).mono ?_
        rintro e w6 ⟨v2, rfl, hmr2, hb6⟩
        obtain ⟨g2, rfl⟩ := hmr2.form
        have hS6 := hS5.on hb6 hbxl5 hgkl5
        have hb5 := HB5.out.below hb6 HB5.out.lt
        have y0 : w6.cell? ⟨b11, 0, none⟩ = some (.int .i64 0) := hb5.cell 0
        have y1 : w6.cell? ⟨b11, 1, none⟩ = some (.slice none 0 0) := hb5.cell 1
        have f0 := hb5.frozen 0
        have f1 := hb5.frozen 1
        have hb11g : w.heap.size + 1 + 1 < b11 := by omega
        have HLD8 := Lib.hid (((HLD5.out.on hb6).put (z := b11) (i := 0) (u := .int .i64 (n : Int)) hb11g).put (z := b11) (i := 1) (u := .slice (some ⟨g2, 0, none⟩) (n * n) (n * n)) hb11g)
        have HMR8 := Lib.hid (MR.put (x := .int .i64 (n : Int)) (y := .slice (some ⟨g2, 0, none⟩) (n * n) (n * n)) (hmr2.mono HLD5.out.bel.size) hb5)
        have HB11 := Lib.hid ((hb5.set_ 0 (.int .i64 (n : Int))).set_ 1 (.slice (some ⟨g2, 0, none⟩) (n * n) (n * n)))
        have HBX8 := Lib.hid (show Bx w n w1.heap.size (MtS (names.map (·.data.toList)) (l.take m)) ((w6.setCell ⟨b11, 0, none⟩ (.int .i64 (n : Int))).setCell ⟨b11, 1, none⟩ (.slice (some ⟨g2, 0, none⟩) (n * n) (n * n))) from by
          obtain ⟨g9, h9, hm9⟩ := HBX5.out.on hb6
          exact ⟨g9, (h9.far (p := ⟨b11, 0, none⟩) (show w1.heap.size ≠ b11 by omega) _).far (p := ⟨b11, 1, none⟩) (show w1.heap.size ≠ b11 by omega) _, MR.put hm9 hb5⟩)
        clear hb6 hmr2 hb5
        refine hK.out _ _ (fun _ => hS6) ?_
        try simp only [Act.put, List.setIfInBounds_toArray, List.set_cons_zero, List.set_cons_succ]
        refine wpLast_ready (rs := [9]) (by kernel_rfl) (by simp) ?_
        refine EachLast.cons (o := { dst := none, op := Op.store 79 (Operand.tmp 11) (Operand.tmp 46), type := 0, pos := "pattern.go:398", after := #[{ on := 8, ground := Ground.data }, { on := 7, ground := Ground.data }, { on := 7, ground := Ground.chain }, { on := 0, ground := Ground.phase }, { on := 1, ground := Ground.phase }, { on := 2, ground := Ground.phase }, { on := 3, ground := Ground.phase }, { on := 4, ground := Ground.phase }, { on := 5, ground := Ground.phase }, { on := 6, ground := Ground.phase }, { on := 7, ground := Ground.phase }, { on := 8, ground := Ground.phase }], guard := none }) rfl (fun K hK => ?_) EachLast.nil
        go_simp
        refine hK.out _ _ (fun h => absurd rfl h) ?_
        try simp only [Act.put, List.setIfInBounds_toArray, List.set_cons_zero, List.set_cons_succ]
        refine wpLast_done (by kernel_rfl) ?_ _
        clear y0 y1 f0 f1
        generalize World.setCell (World.setCell w6 _ _) _ _ = Y at *
        obtain ⟨g9, hb9, hm9⟩ := HBX8.out
        have e90 : Y.cell? ⟨w1.heap.size, 0, none⟩ = some (.int .i64 (n : Int)) := hb9.cell 0
        have e91 : Y.cell? ⟨w1.heap.size, 1, none⟩ = some (.slice (some ⟨g9, 0, none⟩) (n * n) (n * n)) := hb9.cell 1
        have e110 : Y.cell? ⟨b11, 0, none⟩ = some (.int .i64 (n : Int)) := HB11.out.cell 0
        have e111 : Y.cell? ⟨b11, 1, none⟩ = some (.slice (some ⟨g2, 0, none⟩) (n * n) (n * n)) := HB11.out.cell 1
        have HTH := Lib.hid (then_any n hn301 Y _ _ _ _ _ _ hm9 HMR8.out)
        clear hb9 hm9
        go_wp2_with fail
        refine HTH.out.mono ?_
        rintro e Z ⟨v3, rfl, hmr3, hb3⟩
        obtain ⟨g3, rfl⟩ := hmr3.form
        have hbz := HBX8.out.on hb3
        have HLDz := Lib.hid (HLD8.out.on hb3)
        obtain ⟨g9z, hb9z, _⟩ := hbz
        have y0 : Z.cell? ⟨w1.heap.size, 0, none⟩ = some (.int .i64 (n : Int)) := hb9z.cell 0
        have y1 : Z.cell? ⟨w1.heap.size, 1, none⟩ = some (.slice (some ⟨g9z, 0, none⟩) (n * n) (n * n)) := hb9z.cell 1
        have f0 := hb9z.frozen 0
        have f1 := hb9z.frozen 1
        have HBZ := Lib.hid (Bx.into (HBX8.out.on hb3) ((hmr3.mono HLD8.out.bel.size).iff (fun i j _ _ => HST.out i j)))
        clear hb9z hb3 hmr3 e90 e91 e110 e111
        go_wp2_with fail
        go_roundw
        case rel => exact ⟨m + 1, by omega, by go_num, (HLDz.out.put hw1).put hw1, HBZ.out⟩
        case measure => simp [intOf]; omega
    · obtain rfl : m = l.length := by omega
      rw [← HMt.out] at hbx
      obtain ⟨g9, hb9, hm9⟩ := hbx
      have d0 : wr.cell? ⟨w1.heap.size, 0, none⟩ = some (.int .i64 (n : Int)) := hb9.cell 0
      have d1 : wr.cell? ⟨w1.heap.size, 1, none⟩ = some (.slice (some ⟨g9, 0, none⟩) (n * n) (n * n)) := hb9.cell 1
      have d2 : wr.cell? ⟨w.heap.size + 1, 0, none⟩ = some (.int .i64 0) := hld.bt.cell 0
      have d3 : wr.cell? ⟨w.heap.size + 1, 1, none⟩ = some (.slice none 0 0) := hld.bt.cell 1
      have e2 := hld.bt.frozen 0
      have e3 := hld.bt.frozen 1
      have HZ := Lib.hid ((hld.bt.set_ 0 (.int .i64 (n : Int))).set_ 1 (.slice (some ⟨g9, 0, none⟩) (n * n) (n * n)))
      have HMR := Lib.hid (MR.put (x := .int .i64 (n : Int)) (y := .slice (some ⟨g9, 0, none⟩) (n * n) (n * n)) hm9 hld.bt)
      have HBL := Lib.hid (hld.bel.grown (gtrans (only_set wr (w.heap.size + 1) 0 (.int .i64 (n : Int))) (only_set _ (w.heap.size + 1) 1 (.slice (some ⟨g9, 0, none⟩) (n * n) (n * n)))) hld.bel.size (fun z hz => by cases hz; omega))
      clear hld hb9 hm9
      go_wp2_with fail
      have z0 : ((wr.setCell ⟨w.heap.size + 1, 0, none⟩ (.int .i64 (n : Int))).setCell ⟨w.heap.size + 1, 1, none⟩ (.slice (some ⟨g9, 0, none⟩) (n * n) (n * n))).cell? ⟨w.heap.size + 1, 0, none⟩ = some (.int .i64 (n : Int)) := HZ.out.cell 0
      have z1 : ((wr.setCell ⟨w.heap.size + 1, 0, none⟩ (.int .i64 (n : Int))).setCell ⟨w.heap.size + 1, 1, none⟩ (.slice (some ⟨g9, 0, none⟩) (n * n) (n * n))).cell? ⟨w.heap.size + 1, 1, none⟩ = some (.slice (some ⟨g9, 0, none⟩) (n * n) (n * n)) := HZ.out.cell 1
      refine bodyPost_ret (v := .agg #[.int .i64 (n : Int), .slice (some ⟨g9, 0, none⟩) (n * n) (n * n)]) (by simp [results, Try.results23, go_sem, z0, z1]) rfl ?_
      exact ⟨_, rfl, HMR.out, HBL.out⟩
set_option maxRecDepth 100000 in
set_option maxHeartbeats 16000000 in
theorem lead_alt (names : List ByteArray) (hnl : names.length ≤ 300) {l : List T} (hll : l.length ≤ 20000) (hall : ∀ t ∈ l, LeadC names t) : LeadC names (.alt l) := by
  intro w B nv lv N k r hN hden hlv
  have hlen := hN.len
  have hkl := hden.lt
  obtain ⟨d, hd, hkd, hkids, hdj⟩ : ∃ d, N[k]? = some d ∧ d.kind = 5 ∧ d.kids.length = l.length ∧ ∀ (i j : Nat) (t : T), d.kids[i]? = some j → l[i]? = some t → Den N j t := by
    cases hden with
    | alt k d l h1 h2 h3 h4 => exact ⟨d, h1, h2, h3, h4⟩
  obtain ⟨g, c, hnv, hg, hc⟩ := nd_at hN hd
  obtain ⟨ak, ck0, hkv, _⟩ := Fz.form (hN.kid d (List.mem_of_getElem? hd))
  rw [hkids] at hkv
  have hA2 := bal (bal (Below.refl w.heap.size w) (.cells #[nv, .int .i64 (r : Int)] 28)) (.cells #[.int .i64 0, .slice none 0 0] 79)
  obtain ⟨p0, p1, p2, p3⟩ := hc _ hA2
  have c0 := ((Blk.new w 28 #[nv, .int .i64 (r : Int)]).alloc (.cells #[.int .i64 0, .slice none 0 0] 79)).cell 0
  have HLD := Lib.hid (Ld.start w nv r d)
  have HSE := Lib.hid hlv
  have HNG := Lib.hid hN
  have hwk : IntKind.i64.wrap (k : Int) = (k : Int) := IntWalk.i64_in _ (by omega)
  have i0 : (0 : Int) ≤ (k : Int) := by omega
  have i1 : (k : Int) < (N.length : Int) := by omega
  obtain ⟨al, cl, hlv2, _⟩ := hlv
  rw [List.length_map] at hlv2
  subst hlv2
  obtain ⟨n, hn⟩ : ∃ n, n = names.length + 1 := ⟨_, rfl⟩
  have hnI : (names.length : Int) + 1 = (n : Int) := by omega
  have hn301 : n ≤ 301 := by omega
  have HKC := Lib.hid (show ∀ (X : World) (m : Nat) (h : m < l.length), NG X B nv N → ∃ gk ck j, d.kv = .slice (some ⟨gk, 0, none⟩) l.length ck ∧ gk < X.heap.size ∧ X.cell? ⟨gk, m, none⟩ = some (.int .i64 ((j : Nat) : Int)) ∧ Den N j l[m] from fun X m h hX => by
    obtain ⟨gk, ck, h1, h2, h3⟩ := kid_at hX hd (i := m) (by omega)
    rw [hkids] at h1
    exact ⟨gk, ck, _, h1, h2, h3, hdj m _ _ (List.getElem?_eq_getElem (by omega)) (List.getElem?_eq_getElem h)⟩)
  have HMt := Lib.hid (show Mt (names.map (·.data.toList)) (.alt l) = MtA (names.map (·.data.toList)) (l.take l.length) from by rw [List.take_length]; simp only [Mt])
  have hkI : (d.kind : Int) = 5 := by omega
  have HW := Lib.hid (fun t (ht : t ∈ l) => hall t ht)
  have H0 := Lib.hid (fun (X : World) => empty_any n hn301 X)
  rw [← hn]
  have HWn := Lib.hid (show ∀ t ∈ l, ∀ (w : World) (nv : Value) (k r : Nat), NG w B nv N → Den N k t → Sees w (.slice al names.length cl) (names.map Value.string) → Calls Try.prog 23 #[.agg #[nv, .int .i64 (r : Int)], .int .i64 (k : Int), .slice al names.length cl] w fun e w' => ∃ v, e = .returned v ∧ MR w' w.heap.size n (Mt (names.map (·.data.toList)) t) v ∧ Below w.heap.size w w' from fun t ht w nv k r h1 h2 h3 => by rw [hn]; exact hall t ht w B nv _ N k r h1 h2 h3)
  have HKV := Lib.hid hkv
  rw [hkv] at p3
  rw [hkI] at p0
  have HNV := Lib.hid hnv
  have HLD2 := Lib.hid (show Ld w nv r d (((w.alloc (.cells #[.slice (some ⟨g, 0, none⟩) N.length c, .int .i64 (r : Int)] 28)).alloc (.cells #[.int .i64 0, .slice none 0 0] 79)).alloc (.cells #[.int .i64 5, .string d.name, .bool d.no, .slice ak l.length ck0] 92)) from by have h := HLD.out; rw [hkI, hkv] at h; rw [← hnv]; exact h)
  clear hN hden hd hc hA2 hkd hn hkv hall hdj hkids HLD HW
  rw [hnv]
  rw [hnv] at p0 p1 p2 p3 c0
  clear hnv
  go_enter Try.func23, Try.ntmps23
  go_wp2_with fail
  clear p0 p1 p2 p3 c0
  generalize World.alloc (World.alloc (World.alloc w _) _) _ = V at *
  refine (H0.out V).mono ?_
  rintro e w1 ⟨v1, rfl, hmx1, hb1⟩
  have hmr1 : MR w1 V.heap.size n (fun _ _ => False) v1 := ⟨_, hmx1, Rl.none n⟩
  obtain ⟨g1, rfl⟩ := hmr1.form
  have hA1 := (Below.refl _ w1).alloc (Nat.le_refl _) (.cells #[.int .i64 (n : Int), .slice (some ⟨g1, 0, none⟩) (n * n) (n * n)] 79)
  have HLD1 := Lib.hid ((HLD2.out.on hb1).on hA1)
  have HBX := Lib.hid (show Bx w n w1.heap.size (MtA (names.map (·.data.toList)) (l.take 0)) (w1.alloc (.cells #[.int .i64 (n : Int), .slice (some ⟨g1, 0, none⟩) (n * n) (n * n)] 79)) from ⟨g1, Blk.new w1 _ _, ((hmr1.mono HLD2.out.bel.size).below hA1).iff (fun i j _ _ => by simp [MtA])⟩)
  have hw1 : w.heap.size + 1 + 1 < w1.heap.size := by
    have h1 := HLD2.out.bx.lt
    have h3 := hb1.size
    omega
  clear hmr1 hb1 hA1 HLD2 H0 hmx1
  go_wp2_with fail
  go_loopw [13] (fun iv wr => ∃ m : Nat, m ≤ l.length ∧ iv = .int .i64 (m : Int) ∧ Ld w nv r d wr ∧ Bx w n w1.heap.size (MtA (names.map (·.data.toList)) (l.take m)) wr) (fun iv _ => l.length - (intOf iv).toNat)
  case atStart => exact ⟨0, Nat.zero_le _, rfl, by have h := HLD1.out; exact h, HBX.out⟩
  case round =>
    clear HLD1 HBX
    obtain ⟨m, hm, rfl, hld, hbx⟩ := hrel
    have hx3 : wr.cell? ⟨w.heap.size + 1 + 1, 3, none⟩ = some (.slice ak l.length ck0) := by have h := hld.bx.cell 3; rw [show (#[Value.int .i64 (d.kind : Int), .string d.name, .bool d.no, d.kv] : Array Value)[3]? = some d.kv from rfl, HKV.out] at h; exact h
    by_cases hlt : m < l.length
    · have HNGr := Lib.hid (HNG.out.below hld.bel)
      obtain ⟨gk, ck, j, hkv2, hgk, hkc, hdj⟩ := HKC.out wr m hlt HNGr.out
      rw [hkv2] at HKV
      obtain ⟨rfl, rfl⟩ : ak = some ⟨gk, 0, none⟩ ∧ ck = ck0 := by have h := HKV.out; simp only [Value.slice.injEq] at h; exact ⟨h.1.symm, h.2.2⟩
      have HL := Lib.hid (fun (X : World) (h1 : NG X B nv N) (h3 : Sees X (.slice al names.length cl) (names.map Value.string)) => HWn.out l[m] (List.getElem_mem hlt) X nv j r h1 hdj h3)
      have HST := Lib.hid (mtA_step (ns := names.map (·.data.toList)) hlt)
      have HSEr := Lib.hid (HSE.out.below hld.bel)
      have m0 : (0 : Int) ≤ (m : Int) := by omega
      have m1 : (m : Int) < (l.length : Int) := by omega
      have hwm : IntKind.i64.wrap (m : Int) = (m : Int) := IntWalk.i64_in _ (by omega)
      have hS0 : HdK w.heap.size gk m j nv r (.slice (some ⟨gk, 0, none⟩) l.length ck) wr.drew := ⟨hld.bp.cell 0, hld.bp.cell 1, hx3, hkc⟩
      have HLD := Lib.hid (hld.on (Below.refl _ wr).drew)
      have HBX := Lib.hid (hbx.on (Below.refl _ wr).drew)
      have HNG5 := Lib.hid (HNGr.out.below (Below.refl _ wr).drew)
      have HSE5 := Lib.hid HSEr.out.drew
      have hbxl : w.heap.size + 1 + 1 < wr.drew.heap.size := hld.bx.lt
      have hgkl : gk < wr.drew.heap.size := hgk
      clear hld hbx hkc hdj hgk HNGr HSEr
      go_upto_region 17 with fail
      refine wp_region_last 9 (fun w' => HdK w.heap.size gk m j nv r (.slice (some ⟨gk, 0, none⟩) l.length ck) w') mixed ?_
      clear hx3
      generalize wr.drew = w5 at *
      refine wpLast_take (i := 0) (oi := { dst := some 62, op := Op.load 28 (Operand.tmp 3), type := 28, pos := "pattern.go:405", after := #[], guard := none }) (v := ?_) rfl (by kernel_rfl) (by kernel_rfl) (by kernel_rfl) (by kernel_rfl) (fun _ _ _ h => h) (Or.inl ⟨by rfl, ?_⟩) (by assumption) ?_
      rotate_left
      · intro w hSw
        try dsimp only at hSw
        go_simp
        try with_reducible rfl
      try simp only [Act.put, List.setIfInBounds_toArray, List.set_cons_zero, List.set_cons_succ]
      refine wpLast_take (i := 1) (oi := { dst := some 63, op := Op.fieldAddr 92 (Operand.tmp 8) 3, type := 0, pos := "pattern.go:405", after := #[], guard := none }) (v := ?_) rfl (by kernel_rfl) (by kernel_rfl) (by kernel_rfl) (by kernel_rfl) (fun _ _ _ h => h) (Or.inl ⟨by rfl, ?_⟩) (by assumption) ?_
      rotate_left
      · intro w hSw
        try dsimp only at hSw
        go_simp
        try with_reducible rfl
      try simp only [Act.put, List.setIfInBounds_toArray, List.set_cons_zero, List.set_cons_succ]
      refine wpLast_take (i := 2) (oi := { dst := some 64, op := Op.load 72 (Operand.tmp 63), type := 72, pos := "pattern.go:405", after := #[{ on := 1, ground := Ground.data }], guard := none }) (v := ?_) rfl (by kernel_rfl) (by kernel_rfl) (by kernel_rfl) (by kernel_rfl) (fun _ _ _ h => h) (Or.inl ⟨by rfl, ?_⟩) (by assumption) ?_
      rotate_left
      · intro w hSw
        try dsimp only at hSw
        go_simp
        try with_reducible rfl
      try simp only [Act.put, List.setIfInBounds_toArray, List.set_cons_zero, List.set_cons_succ]
      refine wpLast_take (i := 3) (oi := { dst := some 65, op := Op.move (Operand.tmp 13), type := 3, pos := "pattern.go:405", after := #[], guard := none }) (v := ?_) rfl (by kernel_rfl) (by kernel_rfl) (by kernel_rfl) (by kernel_rfl) (fun _ _ _ h => h) (Or.inl ⟨by rfl, ?_⟩) (by assumption) ?_
      rotate_left
      · intro w hSw
        try dsimp only at hSw
        go_simp
        try with_reducible rfl
      try simp only [Act.put, List.setIfInBounds_toArray, List.set_cons_zero, List.set_cons_succ]
      refine wpLast_take (i := 4) (oi := { dst := some 66, op := Op.indexAddr 72 (Operand.tmp 64) (Operand.tmp 65), type := 0, pos := "pattern.go:405", after := #[{ on := 2, ground := Ground.data }, { on := 3, ground := Ground.data }], guard := none }) (v := ?_) rfl (by kernel_rfl) (by kernel_rfl) (by kernel_rfl) (by kernel_rfl) (fun _ _ _ h => h) (Or.inl ⟨by rfl, ?_⟩) (by assumption) ?_
      rotate_left
      · intro w hSw
        try dsimp only at hSw
        go_simp
        try with_reducible rfl
      try simp only [Act.put, List.setIfInBounds_toArray, List.set_cons_zero, List.set_cons_succ]
      refine wpLast_take (i := 5) (oi := { dst := some 67, op := Op.load 3 (Operand.tmp 66), type := 3, pos := "pattern.go:405", after := #[{ on := 4, ground := Ground.data }], guard := none }) (v := ?_) rfl (by kernel_rfl) (by kernel_rfl) (by kernel_rfl) (by kernel_rfl) (fun _ _ _ h => h) (Or.inl ⟨by rfl, ?_⟩) (by assumption) ?_
      rotate_left
      · intro w hSw
        try dsimp only at hSw
        go_simp
        try with_reducible rfl
      try simp only [Act.put, List.setIfInBounds_toArray, List.set_cons_zero, List.set_cons_succ]
      refine wpLast_take (i := 6) (oi := { dst := some 68, op := Op.move (Operand.tmp 2), type := 35, pos := "pattern.go:405", after := #[], guard := none }) (v := ?_) rfl (by kernel_rfl) (by kernel_rfl) (by kernel_rfl) (by kernel_rfl) (fun _ _ _ h => h) (Or.inl ⟨by rfl, ?_⟩) (by assumption) ?_
      rotate_left
      · intro w hSw
        try dsimp only at hSw
        go_simp
        try with_reducible rfl
      try simp only [Act.put, List.setIfInBounds_toArray, List.set_cons_zero, List.set_cons_succ]
      refine wpLast_ready (rs := [7, 8]) (by kernel_rfl) (by simp) ?_
      refine EachLast.cons (o := { dst := some 69, op := Op.call { callee := Callee.value (Operand.func 23), args := #[Operand.tmp 62, Operand.tmp 67, Operand.tmp 68], argTypes := #[28, 3, 35] }, type := 79, pos := "pattern.go:405", after := #[{ on := 0, ground := Ground.data }, { on := 5, ground := Ground.data }, { on := 6, ground := Ground.data }], guard := none }) rfl (fun K hK => ?_) (EachLast.cons (o := { dst := some 14, op := Op.alloc 79, type := 0, pos := "pattern.go:405", after := #[], guard := none }) rfl (fun K hK => ?_) EachLast.nil)
      · go_simp
        refine (HL.out w5 HNG5.out HSE5.out).mono ?_
        rintro e w6 ⟨v2, rfl, hmr2, hb6⟩
        obtain ⟨g2, rfl⟩ := hmr2.form
        have hA6 := (Below.refl _ w6).alloc (Nat.le_refl _) (.cells #[.int .i64 0, .slice none 0 0] 79)
        have hS6 := hS0.on hb6 hbxl hgkl
        have hS7 := hS6.on hA6 (Nat.lt_of_lt_of_le hbxl hb6.size) (Nat.lt_of_lt_of_le hgkl hb6.size)
        have hA7 := (Below.refl _ w6).alloc (Nat.le_refl _) (.cells #[.int .i64 (n : Int), .slice (some ⟨g2, 0, none⟩) (n * n) (n * n)] 79)
        have HLD8 := Lib.hid ((HLD.out.on hb6).on hA7)
        have HBX8 := Lib.hid ((HBX.out.on hb6).on hA7)
        have HMR8 := Lib.hid ((hmr2.mono HLD.out.bel.size).below hA7)
        have HB11 := Lib.hid (Blk.new w6 79 #[.int .i64 (n : Int), .slice (some ⟨g2, 0, none⟩) (n * n) (n * n)])
        clear hb6 hmr2 hA6 hA7
        refine hK.out _ _ (fun _ => hS6) ?_
        try simp only [Act.put, List.setIfInBounds_toArray, List.set_cons_zero, List.set_cons_succ]
        refine wpLast_ready (rs := [8]) (by kernel_rfl) (by simp) ?_
        refine EachLast.cons (o := { dst := some 14, op := Op.alloc 79, type := 0, pos := "pattern.go:405", after := #[], guard := none }) rfl (fun K hK => ?_) EachLast.nil
        go_simp
        refine hK.out _ _ (fun _ => hS7) ?_
        try simp only [Act.put, List.setIfInBounds_toArray, List.set_cons_zero, List.set_cons_succ]
        refine wpLast_ready (rs := [9]) (by kernel_rfl) (by simp) ?_
        refine EachLast.cons (o := { dst := none, op := Op.store 79 (Operand.tmp 14) (Operand.tmp 69), type := 0, pos := "pattern.go:405", after := #[{ on := 8, ground := Ground.data }, { on := 7, ground := Ground.data }, { on := 7, ground := Ground.chain }, { on := 0, ground := Ground.phase }, { on := 1, ground := Ground.phase }, { on := 2, ground := Ground.phase }, { on := 3, ground := Ground.phase }, { on := 4, ground := Ground.phase }, { on := 5, ground := Ground.phase }, { on := 6, ground := Ground.phase }, { on := 7, ground := Ground.phase }, { on := 8, ground := Ground.phase }], guard := none }) rfl (fun K hK => ?_) EachLast.nil
        go_simp
        refine hK.out _ _ (fun h => absurd rfl h) ?_
        try simp only [Act.put, List.setIfInBounds_toArray, List.set_cons_zero, List.set_cons_succ]
        refine wpLast_done (by kernel_rfl) ?_ _
        generalize w6.alloc (.cells #[.int .i64 (n : Int), .slice (some ⟨g2, 0, none⟩) (n * n) (n * n)] 79) = Y at *
        generalize w6.heap.size = b11 at *
        obtain ⟨g9, hb9, hm9⟩ := HBX8.out
        have e90 : Y.cell? ⟨w1.heap.size, 0, none⟩ = some (.int .i64 (n : Int)) := hb9.cell 0
        have e91 : Y.cell? ⟨w1.heap.size, 1, none⟩ = some (.slice (some ⟨g9, 0, none⟩) (n * n) (n * n)) := hb9.cell 1
        have e110 : Y.cell? ⟨b11, 0, none⟩ = some (.int .i64 (n : Int)) := HB11.out.cell 0
        have e111 : Y.cell? ⟨b11, 1, none⟩ = some (.slice (some ⟨g2, 0, none⟩) (n * n) (n * n)) := HB11.out.cell 1
        have HTH := Lib.hid (either_any n hn301 Y _ _ _ _ _ _ hm9 HMR8.out)
        clear hb9 hm9
        go_wp2_with fail
        refine HTH.out.mono ?_
        rintro e Z ⟨v3, rfl, hmr3, hb3⟩
        obtain ⟨g3, rfl⟩ := hmr3.form
        have hbz := HBX8.out.on hb3
        have HLDz := Lib.hid (HLD8.out.on hb3)
        obtain ⟨g9z, hb9z, _⟩ := hbz
        have y0 : Z.cell? ⟨w1.heap.size, 0, none⟩ = some (.int .i64 (n : Int)) := hb9z.cell 0
        have y1 : Z.cell? ⟨w1.heap.size, 1, none⟩ = some (.slice (some ⟨g9z, 0, none⟩) (n * n) (n * n)) := hb9z.cell 1
        have f0 := hb9z.frozen 0
        have f1 := hb9z.frozen 1
        have HBZ := Lib.hid (Bx.into (HBX8.out.on hb3) ((hmr3.mono HLD8.out.bel.size).iff (fun i j _ _ => HST.out i j)))
        clear hb9z hb3 hmr3 e90 e91 e110 e111
        go_wp2_with fail
        go_roundw
        case rel => exact ⟨m + 1, by omega, by go_num, (HLDz.out.put hw1).put hw1, HBZ.out⟩
        case measure => simp [intOf]; omega
      · go_simp
        have hA5 := (Below.refl _ w5).alloc (Nat.le_refl _) (.cells #[.int .i64 0, .slice none 0 0] 79)
        have hS5 := hS0.on hA5 hbxl hgkl
        have HLD5 := Lib.hid (HLD.out.on hA5)
        have HBX5 := Lib.hid (HBX.out.on hA5)
        have HNG6 := Lib.hid (HNG5.out.below hA5)
        have HSE6 := Lib.hid (HSE5.out.below hA5)
        have HB5 := Lib.hid (Blk.new w5 79 #[.int .i64 0, .slice none 0 0])
        have hbxl5 := Nat.lt_of_lt_of_le hbxl hA5.size
        have hgkl5 := Nat.lt_of_lt_of_le hgkl hA5.size
        refine hK.out _ _ (fun _ => hS5) ?_
        try simp only [Act.put, List.setIfInBounds_toArray, List.set_cons_zero, List.set_cons_succ]
        clear hA5
        generalize hw55 : w5.alloc (.cells #[.int .i64 0, .slice none 0 0] 79) = w55 at *
        clear hw55
        have hb5l : w1.heap.size < w5.heap.size := HBX.out.lt
        generalize hb11 : w5.heap.size = b11 at *
        refine wpLast_ready (rs := [7]) (by kernel_rfl) (by simp) ?_
        refine EachLast.cons (o := { dst := some 69, op := Op.call { callee := Callee.value (Operand.func 23), args := #[Operand.tmp 62, Operand.tmp 67, Operand.tmp 68], argTypes := #[28, 3, 35] }, type := 79, pos := "pattern.go:405", after := #[{ on := 0, ground := Ground.data }, { on := 5, ground := Ground.data }, { on := 6, ground := Ground.data }], guard := none }) rfl (fun K hK => ?_) EachLast.nil
        go_simp
        refine (HL.out w55 HNG6.out HSE6.out).mono ?_
        rintro e w6 ⟨v2, rfl, hmr2, hb6⟩
        obtain ⟨g2, rfl⟩ := hmr2.form
        have hS6 := hS5.on hb6 hbxl5 hgkl5
        have hb5 := HB5.out.below hb6 HB5.out.lt
        have y0 : w6.cell? ⟨b11, 0, none⟩ = some (.int .i64 0) := hb5.cell 0
        have y1 : w6.cell? ⟨b11, 1, none⟩ = some (.slice none 0 0) := hb5.cell 1
        have f0 := hb5.frozen 0
        have f1 := hb5.frozen 1
        have hb11g : w.heap.size + 1 + 1 < b11 := by omega
        have HLD8 := Lib.hid (((HLD5.out.on hb6).put (z := b11) (i := 0) (u := .int .i64 (n : Int)) hb11g).put (z := b11) (i := 1) (u := .slice (some ⟨g2, 0, none⟩) (n * n) (n * n)) hb11g)
        have HMR8 := Lib.hid (MR.put (x := .int .i64 (n : Int)) (y := .slice (some ⟨g2, 0, none⟩) (n * n) (n * n)) (hmr2.mono HLD5.out.bel.size) hb5)
        have HB11 := Lib.hid ((hb5.set_ 0 (.int .i64 (n : Int))).set_ 1 (.slice (some ⟨g2, 0, none⟩) (n * n) (n * n)))
        have HBX8 := Lib.hid (show Bx w n w1.heap.size (MtA (names.map (·.data.toList)) (l.take m)) ((w6.setCell ⟨b11, 0, none⟩ (.int .i64 (n : Int))).setCell ⟨b11, 1, none⟩ (.slice (some ⟨g2, 0, none⟩) (n * n) (n * n))) from by
          obtain ⟨g9, h9, hm9⟩ := HBX5.out.on hb6
          exact ⟨g9, (h9.far (p := ⟨b11, 0, none⟩) (show w1.heap.size ≠ b11 by omega) _).far (p := ⟨b11, 1, none⟩) (show w1.heap.size ≠ b11 by omega) _, MR.put hm9 hb5⟩)
        clear hb6 hmr2 hb5
        refine hK.out _ _ (fun _ => hS6) ?_
        try simp only [Act.put, List.setIfInBounds_toArray, List.set_cons_zero, List.set_cons_succ]
        refine wpLast_ready (rs := [9]) (by kernel_rfl) (by simp) ?_
        refine EachLast.cons (o := { dst := none, op := Op.store 79 (Operand.tmp 14) (Operand.tmp 69), type := 0, pos := "pattern.go:405", after := #[{ on := 8, ground := Ground.data }, { on := 7, ground := Ground.data }, { on := 7, ground := Ground.chain }, { on := 0, ground := Ground.phase }, { on := 1, ground := Ground.phase }, { on := 2, ground := Ground.phase }, { on := 3, ground := Ground.phase }, { on := 4, ground := Ground.phase }, { on := 5, ground := Ground.phase }, { on := 6, ground := Ground.phase }, { on := 7, ground := Ground.phase }, { on := 8, ground := Ground.phase }], guard := none }) rfl (fun K hK => ?_) EachLast.nil
        go_simp
        refine hK.out _ _ (fun h => absurd rfl h) ?_
        try simp only [Act.put, List.setIfInBounds_toArray, List.set_cons_zero, List.set_cons_succ]
        refine wpLast_done (by kernel_rfl) ?_ _
        clear y0 y1 f0 f1
        generalize World.setCell (World.setCell w6 _ _) _ _ = Y at *
        obtain ⟨g9, hb9, hm9⟩ := HBX8.out
        have e90 : Y.cell? ⟨w1.heap.size, 0, none⟩ = some (.int .i64 (n : Int)) := hb9.cell 0
        have e91 : Y.cell? ⟨w1.heap.size, 1, none⟩ = some (.slice (some ⟨g9, 0, none⟩) (n * n) (n * n)) := hb9.cell 1
        have e110 : Y.cell? ⟨b11, 0, none⟩ = some (.int .i64 (n : Int)) := HB11.out.cell 0
        have e111 : Y.cell? ⟨b11, 1, none⟩ = some (.slice (some ⟨g2, 0, none⟩) (n * n) (n * n)) := HB11.out.cell 1
        have HTH := Lib.hid (either_any n hn301 Y _ _ _ _ _ _ hm9 HMR8.out)
        clear hb9 hm9
        go_wp2_with fail
        refine HTH.out.mono ?_
        rintro e Z ⟨v3, rfl, hmr3, hb3⟩
        obtain ⟨g3, rfl⟩ := hmr3.form
        have hbz := HBX8.out.on hb3
        have HLDz := Lib.hid (HLD8.out.on hb3)
        obtain ⟨g9z, hb9z, _⟩ := hbz
        have y0 : Z.cell? ⟨w1.heap.size, 0, none⟩ = some (.int .i64 (n : Int)) := hb9z.cell 0
        have y1 : Z.cell? ⟨w1.heap.size, 1, none⟩ = some (.slice (some ⟨g9z, 0, none⟩) (n * n) (n * n)) := hb9z.cell 1
        have f0 := hb9z.frozen 0
        have f1 := hb9z.frozen 1
        have HBZ := Lib.hid (Bx.into (HBX8.out.on hb3) ((hmr3.mono HLD8.out.bel.size).iff (fun i j _ _ => HST.out i j)))
        clear hb9z hb3 hmr3 e90 e91 e110 e111
        go_wp2_with fail
        go_roundw
        case rel => exact ⟨m + 1, by omega, by go_num, (HLDz.out.put hw1).put hw1, HBZ.out⟩
        case measure => simp [intOf]; omega
    · obtain rfl : m = l.length := by omega
      rw [← HMt.out] at hbx
      obtain ⟨g9, hb9, hm9⟩ := hbx
      have d0 : wr.cell? ⟨w1.heap.size, 0, none⟩ = some (.int .i64 (n : Int)) := hb9.cell 0
      have d1 : wr.cell? ⟨w1.heap.size, 1, none⟩ = some (.slice (some ⟨g9, 0, none⟩) (n * n) (n * n)) := hb9.cell 1
      have d2 : wr.cell? ⟨w.heap.size + 1, 0, none⟩ = some (.int .i64 0) := hld.bt.cell 0
      have d3 : wr.cell? ⟨w.heap.size + 1, 1, none⟩ = some (.slice none 0 0) := hld.bt.cell 1
      have e2 := hld.bt.frozen 0
      have e3 := hld.bt.frozen 1
      have HZ := Lib.hid ((hld.bt.set_ 0 (.int .i64 (n : Int))).set_ 1 (.slice (some ⟨g9, 0, none⟩) (n * n) (n * n)))
      have HMR := Lib.hid (MR.put (x := .int .i64 (n : Int)) (y := .slice (some ⟨g9, 0, none⟩) (n * n) (n * n)) hm9 hld.bt)
      have HBL := Lib.hid (hld.bel.grown (gtrans (only_set wr (w.heap.size + 1) 0 (.int .i64 (n : Int))) (only_set _ (w.heap.size + 1) 1 (.slice (some ⟨g9, 0, none⟩) (n * n) (n * n)))) hld.bel.size (fun z hz => by cases hz; omega))
      clear hld hb9 hm9
      go_wp2_with fail
      have z0 : ((wr.setCell ⟨w.heap.size + 1, 0, none⟩ (.int .i64 (n : Int))).setCell ⟨w.heap.size + 1, 1, none⟩ (.slice (some ⟨g9, 0, none⟩) (n * n) (n * n))).cell? ⟨w.heap.size + 1, 0, none⟩ = some (.int .i64 (n : Int)) := HZ.out.cell 0
      have z1 : ((wr.setCell ⟨w.heap.size + 1, 0, none⟩ (.int .i64 (n : Int))).setCell ⟨w.heap.size + 1, 1, none⟩ (.slice (some ⟨g9, 0, none⟩) (n * n) (n * n))).cell? ⟨w.heap.size + 1, 1, none⟩ = some (.slice (some ⟨g9, 0, none⟩) (n * n) (n * n)) := HZ.out.cell 1
      refine bodyPost_ret (v := .agg #[.int .i64 (n : Int), .slice (some ⟨g9, 0, none⟩) (n * n) (n * n)]) (by simp [results, Try.results23, go_sem, z0, z1]) rfl ?_
      exact ⟨_, rfl, HMR.out, HBL.out⟩
end Go.Proofs.Ytlbkacabcfeaiaa.Tl
/- Patterns: the reference's relation of a tree over names: suffixes. Printed by mklead.py. -/
namespace Go.Proofs.Ytlbkacabcfeaiaa.Tl
open Go.RowKit Mm
set_option linter.unusedVariables false
theorem star_le {R : Nat → Nat → Prop} (h : ∀ i j, R i j → i ≤ j) {i j : Nat} : Star (fun p q => p ≤ q ∧ R p q) i j ↔ Star R i j := by
  constructor
  · intro g
    induction g with
    | nil i => exact .nil i
    | cons i m j a _ ih => exact .cons i m j a.2 ih
  · intro g
    induction g with
    | nil i => exact .nil i
    | cons i m j a _ ih => exact .cons i m j ⟨h _ _ a, a⟩ ih
theorem star_up {R : Nat → Nat → Prop} {i j : Nat} (g : Star (fun p q => p ≤ q ∧ R p q) i j) : i ≤ j := by
  induction g with
  | nil i => exact Nat.le_refl i
  | cons i m j a _ ih => exact Nat.le_trans a.1 ih
set_option maxRecDepth 100000 in
set_option maxHeartbeats 16000000 in
theorem lead_suf_42 (names : List ByteArray) (hnl : names.length ≤ 300) {t : T} (ht : LeadC names t) : LeadC names (.suf t 42) := by
  intro w B nv lv N k r hN hden hlv
  have hlen := hN.len
  have hkl := hden.lt
  obtain ⟨d, j, hd, hkd, hks, hdj⟩ : ∃ (d : Nd) (j : Nat), N[k]? = some d ∧ d.kind = 6 ∧ d.kids = [j] ∧ Den N j t := by
    cases hden with
    | suf k d j t c h1 h2 h3 h4 h5 => exact ⟨d, j, h1, h2.trans (by decide), h3, h5⟩
  have hkids : d.kids.length = 1 := by rw [hks]; rfl
  obtain ⟨g, c, hnv, hg, hc⟩ := nd_at hN hd
  obtain ⟨ak, ck0, hkv, _⟩ := Fz.form (hN.kid d (List.mem_of_getElem? hd))
  rw [hkids] at hkv
  have hA2 := bal (bal (Below.refl w.heap.size w) (.cells #[nv, .int .i64 (r : Int)] 28)) (.cells #[.int .i64 0, .slice none 0 0] 79)
  obtain ⟨p0, p1, p2, p3⟩ := hc _ hA2
  have c0 := ((Blk.new w 28 #[nv, .int .i64 (r : Int)]).alloc (.cells #[.int .i64 0, .slice none 0 0] 79)).cell 0
  have HLD := Lib.hid (Ld.start w nv r d)
  have HSE := Lib.hid hlv
  have HNG := Lib.hid hN
  have hwk : IntKind.i64.wrap (k : Int) = (k : Int) := IntWalk.i64_in _ (by omega)
  have i0 : (0 : Int) ≤ (k : Int) := by omega
  have i1 : (k : Int) < (N.length : Int) := by omega
  obtain ⟨al, cl, hlv2, _⟩ := hlv
  rw [List.length_map] at hlv2
  subst hlv2
  obtain ⟨n, hn⟩ : ∃ n, n = names.length + 1 := ⟨_, rfl⟩
  have hnI : (names.length : Int) + 1 = (n : Int) := by omega
  have hn301 : n ≤ 301 := by omega
  have HKC := Lib.hid (show ∀ (X : World), NG X B nv N → ∃ gk ck, d.kv = .slice (some ⟨gk, 0, none⟩) 1 ck ∧ gk < X.heap.size ∧ X.cell? ⟨gk, 0, none⟩ = some (.int .i64 ((j : Nat) : Int)) from fun X hX => by
    obtain ⟨gk, ck, h1, h2, h3⟩ := kid_at hX hd (i := 0) (by omega)
    rw [hkids] at h1
    have e : d.kids[0]'(by omega) = j := by simp [hks]
    rw [e] at h3
    exact ⟨gk, ck, h1, h2, h3⟩)
  have HDJ := Lib.hid hdj
  have hkI : (d.kind : Int) = 6 := by omega
  have HWn := Lib.hid (show ∀ (w : World), NG w B nv N → Sees w (.slice al names.length cl) (names.map Value.string) → Calls Try.prog 23 #[.agg #[nv, .int .i64 (r : Int)], .int .i64 (j : Int), .slice al names.length cl] w fun e w' => ∃ v, e = .returned v ∧ MR w' w.heap.size n (Mt (names.map (·.data.toList)) t) v ∧ Below w.heap.size w w' from fun w h1 h3 => by rw [hn]; exact ht w B nv _ N j r h1 hdj h3)
  rw [← hn]
  have HKV := Lib.hid hkv
  rw [hkv] at p3
  rw [hkI] at p0
  have HNV := Lib.hid hnv
  have HLD2 := Lib.hid (show Ld w nv r d (((w.alloc (.cells #[.slice (some ⟨g, 0, none⟩) N.length c, .int .i64 (r : Int)] 28)).alloc (.cells #[.int .i64 0, .slice none 0 0] 79)).alloc (.cells #[.int .i64 6, .string d.name, .bool d.no, .slice ak 1 ck0] 92)) from by have h := HLD.out; rw [hkI, hkv] at h; rw [← hnv]; exact h)
  clear hN hden hd hc hA2 hkd hn hkv ht hdj hkids hks HLD
  rw [hnv]
  rw [hnv] at p0 p1 p2 p3 c0
  clear hnv
  go_enter Try.func23, Try.ntmps23
  go_upto_region 21 with fail
  clear p0 p1 p2 p3 c0
  generalize World.alloc (World.alloc (World.alloc w _) _) _ = V at *
  have hld := HLD2.out
  have hngr := HNG.out.below hld.bel
  obtain ⟨gk, ck, hkv2, hgk, hkc⟩ := HKC.out V hngr
  rw [hkv2] at HKV
  obtain ⟨rfl, rfl⟩ : ak = some ⟨gk, 0, none⟩ ∧ ck = ck0 := by have h := HKV.out; simp only [Value.slice.injEq] at h; exact ⟨h.1.symm, h.2.2⟩
  have hx3 : V.cell? ⟨w.heap.size + 1 + 1, 3, none⟩ = some (.slice (some ⟨gk, 0, none⟩) 1 ck) := by have h := hld.bx.cell 3; rw [show (#[Value.int .i64 (d.kind : Int), .string d.name, .bool d.no, d.kv] : Array Value)[3]? = some d.kv from rfl, hkv2] at h; exact h
  have hS0 : HdK w.heap.size gk 0 j nv r (.slice (some ⟨gk, 0, none⟩) 1 ck) V.drew := ⟨hld.bp.cell 0, hld.bp.cell 1, hx3, hkc⟩
  have HLD := Lib.hid (hld.on (Below.refl _ V).drew)
  have HNG5 := Lib.hid (hngr.below (Below.refl _ V).drew)
  have HSE5 := Lib.hid (HSE.out.below hld.bel).drew
  have hbxl : w.heap.size + 1 + 1 < V.drew.heap.size := hld.bx.lt
  have hgkl : gk < V.drew.heap.size := hgk
  clear hld hngr hkc hgk hx3 hkv2
  have HREL := Lib.hid (show ∀ i j, Star (fun p q => p ≤ q ∧ Mt (names.map (·.data.toList)) t p q) i j ↔ Mt (names.map (·.data.toList)) (.suf t 42) i j from fun i j => by
    simp only [Mt, if_true]
    exact star_le fun i j h => (mt_le _ _ _ _ h).1)
  refine wp_region_last 8 (fun w' => HdK w.heap.size gk 0 j nv r (.slice (some ⟨gk, 0, none⟩) 1 ck) w') mixed ?_
  generalize V.drew = w5 at *
  refine wpLast_take (i := 0) (oi := { dst := some 76, op := Op.load 28 (Operand.tmp 3), type := 28, pos := "pattern.go:410", after := #[], guard := none }) (v := ?_) rfl (by kernel_rfl) (by kernel_rfl) (by kernel_rfl) (by kernel_rfl) (fun _ _ _ h => h) (Or.inl ⟨by rfl, ?_⟩) (by assumption) ?_
  rotate_left
  · intro w hSw
    try dsimp only at hSw
    go_simp
    try with_reducible rfl
  try simp only [Act.put, List.setIfInBounds_toArray, List.set_cons_zero, List.set_cons_succ]
  refine wpLast_take (i := 1) (oi := { dst := some 77, op := Op.fieldAddr 92 (Operand.tmp 8) 3, type := 0, pos := "pattern.go:410", after := #[], guard := none }) (v := ?_) rfl (by kernel_rfl) (by kernel_rfl) (by kernel_rfl) (by kernel_rfl) (fun _ _ _ h => h) (Or.inl ⟨by rfl, ?_⟩) (by assumption) ?_
  rotate_left
  · intro w hSw
    try dsimp only at hSw
    go_simp
    try with_reducible rfl
  try simp only [Act.put, List.setIfInBounds_toArray, List.set_cons_zero, List.set_cons_succ]
  refine wpLast_take (i := 2) (oi := { dst := some 78, op := Op.load 72 (Operand.tmp 77), type := 72, pos := "pattern.go:410", after := #[{ on := 1, ground := Ground.data }], guard := none }) (v := ?_) rfl (by kernel_rfl) (by kernel_rfl) (by kernel_rfl) (by kernel_rfl) (fun _ _ _ h => h) (Or.inl ⟨by rfl, ?_⟩) (by assumption) ?_
  rotate_left
  · intro w hSw
    try dsimp only at hSw
    go_simp
    try with_reducible rfl
  try simp only [Act.put, List.setIfInBounds_toArray, List.set_cons_zero, List.set_cons_succ]
  refine wpLast_take (i := 3) (oi := { dst := some 79, op := Op.indexAddr 72 (Operand.tmp 78) (Operand.const (Value.int IntKind.i64 0)), type := 0, pos := "pattern.go:410", after := #[{ on := 2, ground := Ground.data }], guard := none }) (v := ?_) rfl (by kernel_rfl) (by kernel_rfl) (by kernel_rfl) (by kernel_rfl) (fun _ _ _ h => h) (Or.inl ⟨by rfl, ?_⟩) (by assumption) ?_
  rotate_left
  · intro w hSw
    try dsimp only at hSw
    go_simp
    try with_reducible rfl
  try simp only [Act.put, List.setIfInBounds_toArray, List.set_cons_zero, List.set_cons_succ]
  refine wpLast_take (i := 4) (oi := { dst := some 80, op := Op.load 3 (Operand.tmp 79), type := 3, pos := "pattern.go:410", after := #[{ on := 3, ground := Ground.data }], guard := none }) (v := ?_) rfl (by kernel_rfl) (by kernel_rfl) (by kernel_rfl) (by kernel_rfl) (fun _ _ _ h => h) (Or.inl ⟨by rfl, ?_⟩) (by assumption) ?_
  rotate_left
  · intro w hSw
    try dsimp only at hSw
    go_simp
    try with_reducible rfl
  try simp only [Act.put, List.setIfInBounds_toArray, List.set_cons_zero, List.set_cons_succ]
  refine wpLast_take (i := 5) (oi := { dst := some 81, op := Op.move (Operand.tmp 2), type := 35, pos := "pattern.go:410", after := #[], guard := none }) (v := ?_) rfl (by kernel_rfl) (by kernel_rfl) (by kernel_rfl) (by kernel_rfl) (fun _ _ _ h => h) (Or.inl ⟨by rfl, ?_⟩) (by assumption) ?_
  rotate_left
  · intro w hSw
    try dsimp only at hSw
    go_simp
    try with_reducible rfl
  try simp only [Act.put, List.setIfInBounds_toArray, List.set_cons_zero, List.set_cons_succ]
  refine wpLast_ready (rs := [6]) (by kernel_rfl) (by simp) ?_
  refine EachLast.cons (o := { dst := some 82, op := Op.call { callee := Callee.value (Operand.func 23), args := #[Operand.tmp 76, Operand.tmp 80, Operand.tmp 81], argTypes := #[28, 3, 35] }, type := 79, pos := "pattern.go:410", after := #[{ on := 0, ground := Ground.data }, { on := 4, ground := Ground.data }, { on := 5, ground := Ground.data }], guard := none }) rfl (fun K hK => ?_) EachLast.nil
  go_simp
  refine (HWn.out w5 HNG5.out HSE5.out).mono ?_
  rintro e w6 ⟨v2, rfl, hmr2, hb6⟩
  obtain ⟨g2, rfl⟩ := hmr2.form
  have hS6 := hS0.on hb6 hbxl hgkl
  have HLD6 := Lib.hid (HLD.out.on hb6)
  have HOF := Lib.hid (often_any n hn301 w6 _ _ _ hmr2)
  have hbxl6 := Nat.lt_of_lt_of_le hbxl hb6.size
  have hgkl6 := Nat.lt_of_lt_of_le hgkl hb6.size
  clear hmr2 hb6
  refine hK.out _ _ (fun _ => hS6) ?_
  try simp only [Act.put, List.setIfInBounds_toArray, List.set_cons_zero, List.set_cons_succ]
  refine wpLast_ready (rs := [7]) (by kernel_rfl) (by simp) ?_
  refine EachLast.cons (o := { dst := some 83, op := Op.call { callee := Callee.value (Operand.func 39), args := #[Operand.tmp 82], argTypes := #[79] }, type := 79, pos := "pattern.go:410", after := #[{ on := 6, ground := Ground.data }, { on := 6, ground := Ground.chain }], guard := none }) rfl (fun K hK => ?_) EachLast.nil
  go_simp
  refine HOF.out.mono ?_
  rintro e w7 ⟨v3, rfl, hmr3, hb7⟩
  obtain ⟨g3, rfl⟩ := hmr3.form
  have hS7 := hS6.on hb7 hbxl6 hgkl6
  have hld := HLD6.out.on hb7
  have hlo : w.heap.size ≤ w6.heap.size := by omega
  have y0 : w7.cell? ⟨w.heap.size + 1, 0, none⟩ = some (.int .i64 0) := hld.bt.cell 0
  have y1 : w7.cell? ⟨w.heap.size + 1, 1, none⟩ = some (.slice none 0 0) := hld.bt.cell 1
  have f0 := hld.bt.frozen 0
  have f1 := hld.bt.frozen 1
  have HZ := Lib.hid ((hld.bt.set_ 0 (.int .i64 (n : Int))).set_ 1 (.slice (some ⟨g3, 0, none⟩) (n * n) (n * n)))
  have HMR := Lib.hid (MR.put (x := .int .i64 (n : Int)) (y := .slice (some ⟨g3, 0, none⟩) (n * n) (n * n)) ((hmr3.mono hlo).iff (fun i j _ _ => HREL.out i j)) hld.bt)
  have HBL := Lib.hid (hld.bel.grown (gtrans (only_set w7 (w.heap.size + 1) 0 (.int .i64 (n : Int))) (only_set _ (w.heap.size + 1) 1 (.slice (some ⟨g3, 0, none⟩) (n * n) (n * n)))) hld.bel.size (fun z hz => by cases hz; omega))
  clear hld hmr3
  refine hK.out _ _ (fun _ => hS7) ?_
  try simp only [Act.put, List.setIfInBounds_toArray, List.set_cons_zero, List.set_cons_succ]
  refine wpLast_ready (rs := [8]) (by kernel_rfl) (by simp) ?_
  refine EachLast.cons (o := { dst := none, op := Op.store 79 (Operand.tmp 6) (Operand.tmp 83), type := 0, pos := "pattern.go:410", after := #[{ on := 7, ground := Ground.data }, { on := 7, ground := Ground.chain }, { on := 0, ground := Ground.phase }, { on := 1, ground := Ground.phase }, { on := 2, ground := Ground.phase }, { on := 3, ground := Ground.phase }, { on := 4, ground := Ground.phase }, { on := 5, ground := Ground.phase }, { on := 6, ground := Ground.phase }, { on := 7, ground := Ground.phase }], guard := none }) rfl (fun K hK => ?_) EachLast.nil
  go_simp
  refine hK.out _ _ (fun h => absurd rfl h) ?_
  try simp only [Act.put, List.setIfInBounds_toArray, List.set_cons_zero, List.set_cons_succ]
  refine wpLast_done (by kernel_rfl) ?_ _
  go_wp2_with fail
  have z0 : ((w7.setCell ⟨w.heap.size + 1, 0, none⟩ (.int .i64 (n : Int))).setCell ⟨w.heap.size + 1, 1, none⟩ (.slice (some ⟨g3, 0, none⟩) (n * n) (n * n))).cell? ⟨w.heap.size + 1, 0, none⟩ = some (.int .i64 (n : Int)) := HZ.out.cell 0
  have z1 : ((w7.setCell ⟨w.heap.size + 1, 0, none⟩ (.int .i64 (n : Int))).setCell ⟨w.heap.size + 1, 1, none⟩ (.slice (some ⟨g3, 0, none⟩) (n * n) (n * n))).cell? ⟨w.heap.size + 1, 1, none⟩ = some (.slice (some ⟨g3, 0, none⟩) (n * n) (n * n)) := HZ.out.cell 1
  refine bodyPost_ret (v := .agg #[.int .i64 (n : Int), .slice (some ⟨g3, 0, none⟩) (n * n) (n * n)]) (by simp [results, Try.results23, go_sem, z0, z1]) rfl ?_
  exact ⟨_, rfl, HMR.out, HBL.out⟩
set_option maxRecDepth 100000 in
set_option maxHeartbeats 16000000 in
theorem lead_suf_63 (names : List ByteArray) (hnl : names.length ≤ 300) {t : T} (ht : LeadC names t) : LeadC names (.suf t 63) := by
  intro w B nv lv N k r hN hden hlv
  have hlen := hN.len
  have hkl := hden.lt
  obtain ⟨d, j, hd, hkd, hks, hdj⟩ : ∃ (d : Nd) (j : Nat), N[k]? = some d ∧ d.kind = 8 ∧ d.kids = [j] ∧ Den N j t := by
    cases hden with
    | suf k d j t c h1 h2 h3 h4 h5 => exact ⟨d, j, h1, h2.trans (by decide), h3, h5⟩
  have hkids : d.kids.length = 1 := by rw [hks]; rfl
  obtain ⟨g, c, hnv, hg, hc⟩ := nd_at hN hd
  obtain ⟨ak, ck0, hkv, _⟩ := Fz.form (hN.kid d (List.mem_of_getElem? hd))
  rw [hkids] at hkv
  have hA2 := bal (bal (Below.refl w.heap.size w) (.cells #[nv, .int .i64 (r : Int)] 28)) (.cells #[.int .i64 0, .slice none 0 0] 79)
  obtain ⟨p0, p1, p2, p3⟩ := hc _ hA2
  have c0 := ((Blk.new w 28 #[nv, .int .i64 (r : Int)]).alloc (.cells #[.int .i64 0, .slice none 0 0] 79)).cell 0
  have HLD := Lib.hid (Ld.start w nv r d)
  have HSE := Lib.hid hlv
  have HNG := Lib.hid hN
  have hwk : IntKind.i64.wrap (k : Int) = (k : Int) := IntWalk.i64_in _ (by omega)
  have i0 : (0 : Int) ≤ (k : Int) := by omega
  have i1 : (k : Int) < (N.length : Int) := by omega
  obtain ⟨al, cl, hlv2, _⟩ := hlv
  rw [List.length_map] at hlv2
  subst hlv2
  obtain ⟨n, hn⟩ : ∃ n, n = names.length + 1 := ⟨_, rfl⟩
  have hnI : (names.length : Int) + 1 = (n : Int) := by omega
  have hn301 : n ≤ 301 := by omega
  have HKC := Lib.hid (show ∀ (X : World), NG X B nv N → ∃ gk ck, d.kv = .slice (some ⟨gk, 0, none⟩) 1 ck ∧ gk < X.heap.size ∧ X.cell? ⟨gk, 0, none⟩ = some (.int .i64 ((j : Nat) : Int)) from fun X hX => by
    obtain ⟨gk, ck, h1, h2, h3⟩ := kid_at hX hd (i := 0) (by omega)
    rw [hkids] at h1
    have e : d.kids[0]'(by omega) = j := by simp [hks]
    rw [e] at h3
    exact ⟨gk, ck, h1, h2, h3⟩)
  have HDJ := Lib.hid hdj
  have hkI : (d.kind : Int) = 8 := by omega
  have HWn := Lib.hid (show ∀ (w : World), NG w B nv N → Sees w (.slice al names.length cl) (names.map Value.string) → Calls Try.prog 23 #[.agg #[nv, .int .i64 (r : Int)], .int .i64 (j : Int), .slice al names.length cl] w fun e w' => ∃ v, e = .returned v ∧ MR w' w.heap.size n (Mt (names.map (·.data.toList)) t) v ∧ Below w.heap.size w w' from fun w h1 h3 => by rw [hn]; exact ht w B nv _ N j r h1 hdj h3)
  rw [← hn]
  have HKV := Lib.hid hkv
  rw [hkv] at p3
  rw [hkI] at p0
  have HNV := Lib.hid hnv
  have HLD2 := Lib.hid (show Ld w nv r d (((w.alloc (.cells #[.slice (some ⟨g, 0, none⟩) N.length c, .int .i64 (r : Int)] 28)).alloc (.cells #[.int .i64 0, .slice none 0 0] 79)).alloc (.cells #[.int .i64 8, .string d.name, .bool d.no, .slice ak 1 ck0] 92)) from by have h := HLD.out; rw [hkI, hkv] at h; rw [← hnv]; exact h)
  clear hN hden hd hc hA2 hkd hn hkv ht hdj hkids hks HLD
  rw [hnv]
  rw [hnv] at p0 p1 p2 p3 c0
  clear hnv
  go_enter Try.func23, Try.ntmps23
  go_upto_region 26 with fail
  clear p0 p1 p2 p3 c0
  generalize World.alloc (World.alloc (World.alloc w _) _) _ = V at *
  have hld := HLD2.out
  have hngr := HNG.out.below hld.bel
  obtain ⟨gk, ck, hkv2, hgk, hkc⟩ := HKC.out V hngr
  rw [hkv2] at HKV
  obtain ⟨rfl, rfl⟩ : ak = some ⟨gk, 0, none⟩ ∧ ck = ck0 := by have h := HKV.out; simp only [Value.slice.injEq] at h; exact ⟨h.1.symm, h.2.2⟩
  have hx3 : V.cell? ⟨w.heap.size + 1 + 1, 3, none⟩ = some (.slice (some ⟨gk, 0, none⟩) 1 ck) := by have h := hld.bx.cell 3; rw [show (#[Value.int .i64 (d.kind : Int), .string d.name, .bool d.no, d.kv] : Array Value)[3]? = some d.kv from rfl, hkv2] at h; exact h
  have hS0 : HdK w.heap.size gk 0 j nv r (.slice (some ⟨gk, 0, none⟩) 1 ck) V.drew := ⟨hld.bp.cell 0, hld.bp.cell 1, hx3, hkc⟩
  have HLD := Lib.hid (hld.on (Below.refl _ V).drew)
  have HNG5 := Lib.hid (hngr.below (Below.refl _ V).drew)
  have HSE5 := Lib.hid (HSE.out.below hld.bel).drew
  have hbxl : w.heap.size + 1 + 1 < V.drew.heap.size := hld.bx.lt
  have hgkl : gk < V.drew.heap.size := hgk
  clear hld hngr hkc hgk hx3 hkv2
  have HREL := Lib.hid (show ∀ i j, (i = j ∨ Mt (names.map (·.data.toList)) t i j) ↔ Mt (names.map (·.data.toList)) (.suf t 63) i j from fun i j => by
    simp only [Mt]
    rw [if_neg (by decide), if_neg (by decide)])
  have HST := Lib.hid (fun (X : World) => stay_any n hn301 X)
  refine wp_region_last 10 (fun w' => HdK w.heap.size gk 0 j nv r (.slice (some ⟨gk, 0, none⟩) 1 ck) w') mixed ?_
  generalize V.drew = w5 at *
  refine wpLast_take (i := 0) (oi := { dst := some 99, op := Op.move (Operand.tmp 7), type := 3, pos := "pattern.go:415", after := #[], guard := none }) (v := ?_) rfl (by kernel_rfl) (by kernel_rfl) (by kernel_rfl) (by kernel_rfl) (fun _ _ _ h => h) (Or.inl ⟨by rfl, ?_⟩) (by assumption) ?_
  rotate_left
  · intro w hSw
    try dsimp only at hSw
    go_simp
    try with_reducible rfl
  try simp only [Act.put, List.setIfInBounds_toArray, List.set_cons_zero, List.set_cons_succ]
  refine wpLast_take (i := 2) (oi := { dst := some 101, op := Op.load 28 (Operand.tmp 3), type := 28, pos := "pattern.go:415", after := #[], guard := none }) (v := ?_) rfl (by kernel_rfl) (by kernel_rfl) (by kernel_rfl) (by kernel_rfl) (fun _ _ _ h => h) (Or.inl ⟨by rfl, ?_⟩) (by assumption) ?_
  rotate_left
  · intro w hSw
    try dsimp only at hSw
    go_simp
    try with_reducible rfl
  try simp only [Act.put, List.setIfInBounds_toArray, List.set_cons_zero, List.set_cons_succ]
  refine wpLast_take (i := 3) (oi := { dst := some 102, op := Op.fieldAddr 92 (Operand.tmp 8) 3, type := 0, pos := "pattern.go:415", after := #[], guard := none }) (v := ?_) rfl (by kernel_rfl) (by kernel_rfl) (by kernel_rfl) (by kernel_rfl) (fun _ _ _ h => h) (Or.inl ⟨by rfl, ?_⟩) (by assumption) ?_
  rotate_left
  · intro w hSw
    try dsimp only at hSw
    go_simp
    try with_reducible rfl
  try simp only [Act.put, List.setIfInBounds_toArray, List.set_cons_zero, List.set_cons_succ]
  refine wpLast_take (i := 4) (oi := { dst := some 103, op := Op.load 72 (Operand.tmp 102), type := 72, pos := "pattern.go:415", after := #[{ on := 3, ground := Ground.data }], guard := none }) (v := ?_) rfl (by kernel_rfl) (by kernel_rfl) (by kernel_rfl) (by kernel_rfl) (fun _ _ _ h => h) (Or.inl ⟨by rfl, ?_⟩) (by assumption) ?_
  rotate_left
  · intro w hSw
    try dsimp only at hSw
    go_simp
    try with_reducible rfl
  try simp only [Act.put, List.setIfInBounds_toArray, List.set_cons_zero, List.set_cons_succ]
  refine wpLast_take (i := 5) (oi := { dst := some 104, op := Op.indexAddr 72 (Operand.tmp 103) (Operand.const (Value.int IntKind.i64 0)), type := 0, pos := "pattern.go:415", after := #[{ on := 4, ground := Ground.data }], guard := none }) (v := ?_) rfl (by kernel_rfl) (by kernel_rfl) (by kernel_rfl) (by kernel_rfl) (fun _ _ _ h => h) (Or.inl ⟨by rfl, ?_⟩) (by assumption) ?_
  rotate_left
  · intro w hSw
    try dsimp only at hSw
    go_simp
    try with_reducible rfl
  try simp only [Act.put, List.setIfInBounds_toArray, List.set_cons_zero, List.set_cons_succ]
  refine wpLast_take (i := 6) (oi := { dst := some 105, op := Op.load 3 (Operand.tmp 104), type := 3, pos := "pattern.go:415", after := #[{ on := 5, ground := Ground.data }], guard := none }) (v := ?_) rfl (by kernel_rfl) (by kernel_rfl) (by kernel_rfl) (by kernel_rfl) (fun _ _ _ h => h) (Or.inl ⟨by rfl, ?_⟩) (by assumption) ?_
  rotate_left
  · intro w hSw
    try dsimp only at hSw
    go_simp
    try with_reducible rfl
  try simp only [Act.put, List.setIfInBounds_toArray, List.set_cons_zero, List.set_cons_succ]
  refine wpLast_take (i := 7) (oi := { dst := some 106, op := Op.move (Operand.tmp 2), type := 35, pos := "pattern.go:415", after := #[], guard := none }) (v := ?_) rfl (by kernel_rfl) (by kernel_rfl) (by kernel_rfl) (by kernel_rfl) (fun _ _ _ h => h) (Or.inl ⟨by rfl, ?_⟩) (by assumption) ?_
  rotate_left
  · intro w hSw
    try dsimp only at hSw
    go_simp
    try with_reducible rfl
  try simp only [Act.put, List.setIfInBounds_toArray, List.set_cons_zero, List.set_cons_succ]
  refine wpLast_ready (rs := [1]) (by kernel_rfl) (by simp) ?_
  refine EachLast.cons (o := { dst := some 100, op := Op.call { callee := Callee.value (Operand.func 35), args := #[Operand.tmp 99], argTypes := #[3] }, type := 79, pos := "pattern.go:415", after := #[{ on := 0, ground := Ground.data }], guard := none }) rfl (fun K hK => ?_) EachLast.nil
  go_simp
  refine (HST.out w5).mono ?_
  rintro e w6 ⟨v1, rfl, hmr1, hb6⟩
  obtain ⟨g1, rfl⟩ := hmr1.form
  have hS6 := hS0.on hb6 hbxl hgkl
  have HLD6 := Lib.hid (HLD.out.on hb6)
  have HNG6 := Lib.hid (HNG5.out.below hb6)
  have HSE6 := Lib.hid (HSE5.out.below hb6)
  have HM1 := Lib.hid hmr1
  have hbxl6 := Nat.lt_of_lt_of_le hbxl hb6.size
  have hgkl6 := Nat.lt_of_lt_of_le hgkl hb6.size
  clear hmr1 hb6
  refine hK.out _ _ (fun _ => hS6) ?_
  try simp only [Act.put, List.setIfInBounds_toArray, List.set_cons_zero, List.set_cons_succ]
  refine wpLast_ready (rs := [8]) (by kernel_rfl) (by simp) ?_
  refine EachLast.cons (o := { dst := some 107, op := Op.call { callee := Callee.value (Operand.func 23), args := #[Operand.tmp 101, Operand.tmp 105, Operand.tmp 106], argTypes := #[28, 3, 35] }, type := 79, pos := "pattern.go:415", after := #[{ on := 2, ground := Ground.data }, { on := 6, ground := Ground.data }, { on := 7, ground := Ground.data }, { on := 1, ground := Ground.chain }], guard := none }) rfl (fun K hK => ?_) EachLast.nil
  go_simp
  refine (HWn.out w6 HNG6.out HSE6.out).mono ?_
  rintro e w7 ⟨v2, rfl, hmr2, hb7⟩
  obtain ⟨g2, rfl⟩ := hmr2.form
  have hS7 := hS6.on hb7 hbxl6 hgkl6
  have HLD7 := Lib.hid (HLD6.out.on hb7)
  have HEI := Lib.hid (either_any n hn301 w7 _ _ _ _ _ _ (HM1.out.below hb7) hmr2)
  have hbxl7 := Nat.lt_of_lt_of_le hbxl6 hb7.size
  have hgkl7 := Nat.lt_of_lt_of_le hgkl6 hb7.size
  clear hmr2 hb7
  refine hK.out _ _ (fun _ => hS7) ?_
  try simp only [Act.put, List.setIfInBounds_toArray, List.set_cons_zero, List.set_cons_succ]
  refine wpLast_ready (rs := [9]) (by kernel_rfl) (by simp) ?_
  refine EachLast.cons (o := { dst := some 108, op := Op.call { callee := Callee.value (Operand.func 38), args := #[Operand.tmp 100, Operand.tmp 107], argTypes := #[79, 79] }, type := 79, pos := "pattern.go:415", after := #[{ on := 1, ground := Ground.data }, { on := 8, ground := Ground.data }, { on := 8, ground := Ground.chain }], guard := none }) rfl (fun K hK => ?_) EachLast.nil
  go_simp
  refine HEI.out.mono ?_
  rintro e w8 ⟨v3, rfl, hmr3, hb8⟩
  obtain ⟨g3, rfl⟩ := hmr3.form
  have hS8 := hS7.on hb8 hbxl7 hgkl7
  have hld := HLD7.out.on hb8
  have hlo : w.heap.size ≤ w7.heap.size := by omega
  have y0 : w8.cell? ⟨w.heap.size + 1, 0, none⟩ = some (.int .i64 0) := hld.bt.cell 0
  have y1 : w8.cell? ⟨w.heap.size + 1, 1, none⟩ = some (.slice none 0 0) := hld.bt.cell 1
  have f0 := hld.bt.frozen 0
  have f1 := hld.bt.frozen 1
  have HZ := Lib.hid ((hld.bt.set_ 0 (.int .i64 (n : Int))).set_ 1 (.slice (some ⟨g3, 0, none⟩) (n * n) (n * n)))
  have HMR := Lib.hid (MR.put (x := .int .i64 (n : Int)) (y := .slice (some ⟨g3, 0, none⟩) (n * n) (n * n)) ((hmr3.mono hlo).iff (fun i j _ _ => HREL.out i j)) hld.bt)
  have HBL := Lib.hid (hld.bel.grown (gtrans (only_set w8 (w.heap.size + 1) 0 (.int .i64 (n : Int))) (only_set _ (w.heap.size + 1) 1 (.slice (some ⟨g3, 0, none⟩) (n * n) (n * n)))) hld.bel.size (fun z hz => by cases hz; omega))
  clear hld hmr3
  refine hK.out _ _ (fun _ => hS8) ?_
  try simp only [Act.put, List.setIfInBounds_toArray, List.set_cons_zero, List.set_cons_succ]
  refine wpLast_ready (rs := [10]) (by kernel_rfl) (by simp) ?_
  refine EachLast.cons (o := { dst := none, op := Op.store 79 (Operand.tmp 6) (Operand.tmp 108), type := 0, pos := "pattern.go:415", after := #[{ on := 9, ground := Ground.data }, { on := 9, ground := Ground.chain }, { on := 0, ground := Ground.phase }, { on := 1, ground := Ground.phase }, { on := 2, ground := Ground.phase }, { on := 3, ground := Ground.phase }, { on := 4, ground := Ground.phase }, { on := 5, ground := Ground.phase }, { on := 6, ground := Ground.phase }, { on := 7, ground := Ground.phase }, { on := 8, ground := Ground.phase }, { on := 9, ground := Ground.phase }], guard := none }) rfl (fun K hK => ?_) EachLast.nil
  go_simp
  refine hK.out _ _ (fun h => absurd rfl h) ?_
  try simp only [Act.put, List.setIfInBounds_toArray, List.set_cons_zero, List.set_cons_succ]
  refine wpLast_done (by kernel_rfl) ?_ _
  go_wp2_with fail
  have z0 : ((w8.setCell ⟨w.heap.size + 1, 0, none⟩ (.int .i64 (n : Int))).setCell ⟨w.heap.size + 1, 1, none⟩ (.slice (some ⟨g3, 0, none⟩) (n * n) (n * n))).cell? ⟨w.heap.size + 1, 0, none⟩ = some (.int .i64 (n : Int)) := HZ.out.cell 0
  have z1 : ((w8.setCell ⟨w.heap.size + 1, 0, none⟩ (.int .i64 (n : Int))).setCell ⟨w.heap.size + 1, 1, none⟩ (.slice (some ⟨g3, 0, none⟩) (n * n) (n * n))).cell? ⟨w.heap.size + 1, 1, none⟩ = some (.slice (some ⟨g3, 0, none⟩) (n * n) (n * n)) := HZ.out.cell 1
  refine bodyPost_ret (v := .agg #[.int .i64 (n : Int), .slice (some ⟨g3, 0, none⟩) (n * n) (n * n)]) (by simp [results, Try.results23, go_sem, z0, z1]) rfl ?_
  exact ⟨_, rfl, HMR.out, HBL.out⟩
set_option maxRecDepth 100000 in
set_option maxHeartbeats 16000000 in
theorem lead_suf_43 (names : List ByteArray) (hnl : names.length ≤ 300) {t : T} (ht : LeadC names t) : LeadC names (.suf t 43) := by
  intro w B nv lv N k r hN hden hlv
  have hlen := hN.len
  have hkl := hden.lt
  obtain ⟨d, j, hd, hkd, hks, hdj⟩ : ∃ (d : Nd) (j : Nat), N[k]? = some d ∧ d.kind = 7 ∧ d.kids = [j] ∧ Den N j t := by
    cases hden with
    | suf k d j t c h1 h2 h3 h4 h5 => exact ⟨d, j, h1, h2.trans (by decide), h3, h5⟩
  have hkids : d.kids.length = 1 := by rw [hks]; rfl
  obtain ⟨g, c, hnv, hg, hc⟩ := nd_at hN hd
  obtain ⟨ak, ck0, hkv, _⟩ := Fz.form (hN.kid d (List.mem_of_getElem? hd))
  rw [hkids] at hkv
  have hA2 := bal (bal (Below.refl w.heap.size w) (.cells #[nv, .int .i64 (r : Int)] 28)) (.cells #[.int .i64 0, .slice none 0 0] 79)
  obtain ⟨p0, p1, p2, p3⟩ := hc _ hA2
  have c0 := ((Blk.new w 28 #[nv, .int .i64 (r : Int)]).alloc (.cells #[.int .i64 0, .slice none 0 0] 79)).cell 0
  have HLD := Lib.hid (Ld.start w nv r d)
  have HSE := Lib.hid hlv
  have HNG := Lib.hid hN
  have hwk : IntKind.i64.wrap (k : Int) = (k : Int) := IntWalk.i64_in _ (by omega)
  have i0 : (0 : Int) ≤ (k : Int) := by omega
  have i1 : (k : Int) < (N.length : Int) := by omega
  obtain ⟨al, cl, hlv2, _⟩ := hlv
  rw [List.length_map] at hlv2
  subst hlv2
  obtain ⟨n, hn⟩ : ∃ n, n = names.length + 1 := ⟨_, rfl⟩
  have hnI : (names.length : Int) + 1 = (n : Int) := by omega
  have hn301 : n ≤ 301 := by omega
  have HKC := Lib.hid (show ∀ (X : World), NG X B nv N → ∃ gk ck, d.kv = .slice (some ⟨gk, 0, none⟩) 1 ck ∧ gk < X.heap.size ∧ X.cell? ⟨gk, 0, none⟩ = some (.int .i64 ((j : Nat) : Int)) from fun X hX => by
    obtain ⟨gk, ck, h1, h2, h3⟩ := kid_at hX hd (i := 0) (by omega)
    rw [hkids] at h1
    have e : d.kids[0]'(by omega) = j := by simp [hks]
    rw [e] at h3
    exact ⟨gk, ck, h1, h2, h3⟩)
  have HDJ := Lib.hid hdj
  have hkI : (d.kind : Int) = 7 := by omega
  have HWn := Lib.hid (show ∀ (w : World), NG w B nv N → Sees w (.slice al names.length cl) (names.map Value.string) → Calls Try.prog 23 #[.agg #[nv, .int .i64 (r : Int)], .int .i64 (j : Int), .slice al names.length cl] w fun e w' => ∃ v, e = .returned v ∧ MR w' w.heap.size n (Mt (names.map (·.data.toList)) t) v ∧ Below w.heap.size w w' from fun w h1 h3 => by rw [hn]; exact ht w B nv _ N j r h1 hdj h3)
  rw [← hn]
  have HKV := Lib.hid hkv
  rw [hkv] at p3
  rw [hkI] at p0
  have HNV := Lib.hid hnv
  have HLD2 := Lib.hid (show Ld w nv r d (((w.alloc (.cells #[.slice (some ⟨g, 0, none⟩) N.length c, .int .i64 (r : Int)] 28)).alloc (.cells #[.int .i64 0, .slice none 0 0] 79)).alloc (.cells #[.int .i64 7, .string d.name, .bool d.no, .slice ak 1 ck0] 92)) from by have h := HLD.out; rw [hkI, hkv] at h; rw [← hnv]; exact h)
  clear hN hden hd hc hA2 hkd hn hkv ht hdj hkids hks HLD
  rw [hnv]
  rw [hnv] at p0 p1 p2 p3 c0
  clear hnv
  go_enter Try.func23, Try.ntmps23
  go_upto_region 23 with fail
  clear p0 p1 p2 p3 c0
  generalize World.alloc (World.alloc (World.alloc w _) _) _ = V at *
  have hld := HLD2.out
  have hngr := HNG.out.below hld.bel
  obtain ⟨gk, ck, hkv2, hgk, hkc⟩ := HKC.out V hngr
  rw [hkv2] at HKV
  obtain ⟨rfl, rfl⟩ : ak = some ⟨gk, 0, none⟩ ∧ ck = ck0 := by have h := HKV.out; simp only [Value.slice.injEq] at h; exact ⟨h.1.symm, h.2.2⟩
  have hx3 : V.cell? ⟨w.heap.size + 1 + 1, 3, none⟩ = some (.slice (some ⟨gk, 0, none⟩) 1 ck) := by have h := hld.bx.cell 3; rw [show (#[Value.int .i64 (d.kind : Int), .string d.name, .bool d.no, d.kv] : Array Value)[3]? = some d.kv from rfl, hkv2] at h; exact h
  have hS0 : HdK w.heap.size gk 0 j nv r (.slice (some ⟨gk, 0, none⟩) 1 ck) V.drew := ⟨hld.bp.cell 0, hld.bp.cell 1, hx3, hkc⟩
  have HLD := Lib.hid (hld.on (Below.refl _ V).drew)
  have HNG5 := Lib.hid (hngr.below (Below.refl _ V).drew)
  have HSE5 := Lib.hid (HSE.out.below hld.bel).drew
  have hbxl : w.heap.size + 1 + 1 < V.drew.heap.size := hld.bx.lt
  have hgkl : gk < V.drew.heap.size := hgk
  clear hld hngr hkc hgk hx3 hkv2
  have HREL := Lib.hid (show ∀ i j, (∃ m, i ≤ m ∧ m ≤ j ∧ Mt (names.map (·.data.toList)) t i m ∧ Star (fun p q => p ≤ q ∧ Mt (names.map (·.data.toList)) t p q) m j) ↔ Mt (names.map (·.data.toList)) (.suf t 43) i j from fun i j => by
    simp only [Mt]
    rw [if_neg (by decide), if_pos trivial]
    constructor
    · rintro ⟨m, _, _, h1, h2⟩
      exact ⟨m, h1, (star_le fun i j h => (mt_le _ _ _ _ h).1).1 h2⟩
    · rintro ⟨m, h1, h2⟩
      have h3 := (star_le (R := Mt (names.map (·.data.toList)) t) fun i j h => (mt_le _ _ _ _ h).1).2 h2
      exact ⟨m, (mt_le _ _ _ _ h1).1, star_up h3, h1, h3⟩)
  refine wp_region_last 8 (fun w' => HdK w.heap.size gk 0 j nv r (.slice (some ⟨gk, 0, none⟩) 1 ck) w') mixed ?_
  generalize V.drew = w5 at *
  refine wpLast_take (i := 0) (oi := { dst := some 86, op := Op.load 28 (Operand.tmp 3), type := 28, pos := "pattern.go:412", after := #[], guard := none }) (v := ?_) rfl (by kernel_rfl) (by kernel_rfl) (by kernel_rfl) (by kernel_rfl) (fun _ _ _ h => h) (Or.inl ⟨by rfl, ?_⟩) (by assumption) ?_
  rotate_left
  · intro w hSw
    try dsimp only at hSw
    go_simp
    try with_reducible rfl
  try simp only [Act.put, List.setIfInBounds_toArray, List.set_cons_zero, List.set_cons_succ]
  refine wpLast_take (i := 1) (oi := { dst := some 87, op := Op.fieldAddr 92 (Operand.tmp 8) 3, type := 0, pos := "pattern.go:412", after := #[], guard := none }) (v := ?_) rfl (by kernel_rfl) (by kernel_rfl) (by kernel_rfl) (by kernel_rfl) (fun _ _ _ h => h) (Or.inl ⟨by rfl, ?_⟩) (by assumption) ?_
  rotate_left
  · intro w hSw
    try dsimp only at hSw
    go_simp
    try with_reducible rfl
  try simp only [Act.put, List.setIfInBounds_toArray, List.set_cons_zero, List.set_cons_succ]
  refine wpLast_take (i := 2) (oi := { dst := some 88, op := Op.load 72 (Operand.tmp 87), type := 72, pos := "pattern.go:412", after := #[{ on := 1, ground := Ground.data }], guard := none }) (v := ?_) rfl (by kernel_rfl) (by kernel_rfl) (by kernel_rfl) (by kernel_rfl) (fun _ _ _ h => h) (Or.inl ⟨by rfl, ?_⟩) (by assumption) ?_
  rotate_left
  · intro w hSw
    try dsimp only at hSw
    go_simp
    try with_reducible rfl
  try simp only [Act.put, List.setIfInBounds_toArray, List.set_cons_zero, List.set_cons_succ]
  refine wpLast_take (i := 3) (oi := { dst := some 89, op := Op.indexAddr 72 (Operand.tmp 88) (Operand.const (Value.int IntKind.i64 0)), type := 0, pos := "pattern.go:412", after := #[{ on := 2, ground := Ground.data }], guard := none }) (v := ?_) rfl (by kernel_rfl) (by kernel_rfl) (by kernel_rfl) (by kernel_rfl) (fun _ _ _ h => h) (Or.inl ⟨by rfl, ?_⟩) (by assumption) ?_
  rotate_left
  · intro w hSw
    try dsimp only at hSw
    go_simp
    try with_reducible rfl
  try simp only [Act.put, List.setIfInBounds_toArray, List.set_cons_zero, List.set_cons_succ]
  refine wpLast_take (i := 4) (oi := { dst := some 90, op := Op.load 3 (Operand.tmp 89), type := 3, pos := "pattern.go:412", after := #[{ on := 3, ground := Ground.data }], guard := none }) (v := ?_) rfl (by kernel_rfl) (by kernel_rfl) (by kernel_rfl) (by kernel_rfl) (fun _ _ _ h => h) (Or.inl ⟨by rfl, ?_⟩) (by assumption) ?_
  rotate_left
  · intro w hSw
    try dsimp only at hSw
    go_simp
    try with_reducible rfl
  try simp only [Act.put, List.setIfInBounds_toArray, List.set_cons_zero, List.set_cons_succ]
  refine wpLast_take (i := 5) (oi := { dst := some 91, op := Op.move (Operand.tmp 2), type := 35, pos := "pattern.go:412", after := #[], guard := none }) (v := ?_) rfl (by kernel_rfl) (by kernel_rfl) (by kernel_rfl) (by kernel_rfl) (fun _ _ _ h => h) (Or.inl ⟨by rfl, ?_⟩) (by assumption) ?_
  rotate_left
  · intro w hSw
    try dsimp only at hSw
    go_simp
    try with_reducible rfl
  try simp only [Act.put, List.setIfInBounds_toArray, List.set_cons_zero, List.set_cons_succ]
  refine wpLast_ready (rs := [6, 7]) (by kernel_rfl) (by simp) ?_
  refine EachLast.cons (o := { dst := some 92, op := Op.call { callee := Callee.value (Operand.func 23), args := #[Operand.tmp 86, Operand.tmp 90, Operand.tmp 91], argTypes := #[28, 3, 35] }, type := 79, pos := "pattern.go:412", after := #[{ on := 0, ground := Ground.data }, { on := 4, ground := Ground.data }, { on := 5, ground := Ground.data }], guard := none }) rfl (fun K hK => ?_) (EachLast.cons (o := { dst := some 15, op := Op.alloc 79, type := 0, pos := "pattern.go:412", after := #[], guard := none }) rfl (fun K hK => ?_) EachLast.nil)
  · go_simp
    refine (HWn.out w5 HNG5.out HSE5.out).mono ?_
    rintro e w6 ⟨v2, rfl, hmr2, hb6⟩
    obtain ⟨g2, rfl⟩ := hmr2.form
    have hA6 := (Below.refl _ w6).alloc (Nat.le_refl _) (.cells #[.int .i64 0, .slice none 0 0] 79)
    have hS6 := hS0.on hb6 hbxl hgkl
    have hS7 := hS6.on hA6 (Nat.lt_of_lt_of_le hbxl hb6.size) (Nat.lt_of_lt_of_le hgkl hb6.size)
    have hA7 := (Below.refl _ w6).alloc (Nat.le_refl _) (.cells #[.int .i64 (n : Int), .slice (some ⟨g2, 0, none⟩) (n * n) (n * n)] 79)
    have HLD8 := Lib.hid ((HLD.out.on hb6).on hA7)
    have HMR8 := Lib.hid (hmr2.below hA7)
    have HB11 := Lib.hid (Blk.new w6 79 #[.int .i64 (n : Int), .slice (some ⟨g2, 0, none⟩) (n * n) (n * n)])
    clear hb6 hmr2 hA6 hA7
    refine hK.out _ _ (fun _ => hS6) ?_
    try simp only [Act.put, List.setIfInBounds_toArray, List.set_cons_zero, List.set_cons_succ]
    refine wpLast_ready (rs := [7]) (by kernel_rfl) (by simp) ?_
    refine EachLast.cons (o := { dst := some 15, op := Op.alloc 79, type := 0, pos := "pattern.go:412", after := #[], guard := none }) rfl (fun K hK => ?_) EachLast.nil
    go_simp
    refine hK.out _ _ (fun _ => hS7) ?_
    try simp only [Act.put, List.setIfInBounds_toArray, List.set_cons_zero, List.set_cons_succ]
    refine wpLast_ready (rs := [8]) (by kernel_rfl) (by simp) ?_
    refine EachLast.cons (o := { dst := none, op := Op.store 79 (Operand.tmp 15) (Operand.tmp 92), type := 0, pos := "pattern.go:412", after := #[{ on := 7, ground := Ground.data }, { on := 6, ground := Ground.data }, { on := 6, ground := Ground.chain }, { on := 0, ground := Ground.phase }, { on := 1, ground := Ground.phase }, { on := 2, ground := Ground.phase }, { on := 3, ground := Ground.phase }, { on := 4, ground := Ground.phase }, { on := 5, ground := Ground.phase }, { on := 6, ground := Ground.phase }, { on := 7, ground := Ground.phase }], guard := none }) rfl (fun K hK => ?_) EachLast.nil
    go_simp
    refine hK.out _ _ (fun h => absurd rfl h) ?_
    try simp only [Act.put, List.setIfInBounds_toArray, List.set_cons_zero, List.set_cons_succ]
    refine wpLast_done (by kernel_rfl) ?_ _
    generalize w6.alloc (.cells #[.int .i64 (n : Int), .slice (some ⟨g2, 0, none⟩) (n * n) (n * n)] 79) = Y at *
    generalize w6.heap.size = b11 at *
    have e110 : Y.cell? ⟨b11, 0, none⟩ = some (.int .i64 (n : Int)) := HB11.out.cell 0
    have e111 : Y.cell? ⟨b11, 1, none⟩ = some (.slice (some ⟨g2, 0, none⟩) (n * n) (n * n)) := HB11.out.cell 1
    have hb11l : b11 < Y.heap.size := HB11.out.lt
    go_upto_region 24 with fail
    refine wp_region_last 4 (fun w' => w'.cell? ⟨b11, 0, none⟩ = some (.int .i64 (n : Int)) ∧ w'.cell? ⟨b11, 1, none⟩ = some (.slice (some ⟨g2, 0, none⟩) (n * n) (n * n))) mixed ?_
    have hS0 : Y.drew.cell? ⟨b11, 0, none⟩ = some (.int .i64 (n : Int)) ∧ Y.drew.cell? ⟨b11, 1, none⟩ = some (.slice (some ⟨g2, 0, none⟩) (n * n) (n * n)) := ⟨e110, e111⟩
    have HMR9 := Lib.hid (HMR8.out.below (Below.refl _ Y).drew)
    have HLD9 := Lib.hid (HLD8.out.on (Below.refl _ Y).drew)
    have hb9l : b11 < Y.drew.heap.size := hb11l
    clear e110 e111
    generalize Y.drew = w9 at *
    refine wpLast_take (i := 0) (oi := { dst := some 93, op := Op.load 79 (Operand.tmp 15), type := 79, pos := "pattern.go:413", after := #[], guard := none }) (v := ?_) rfl (by kernel_rfl) (by kernel_rfl) (by kernel_rfl) (by kernel_rfl) (fun _ _ _ h => h) (Or.inl ⟨by rfl, ?_⟩) (by assumption) ?_
    rotate_left
    · intro w hSw
      try dsimp only at hSw
      go_simp
      try with_reducible rfl
    try simp only [Act.put, List.setIfInBounds_toArray, List.set_cons_zero, List.set_cons_succ]
    refine wpLast_take (i := 1) (oi := { dst := some 94, op := Op.load 79 (Operand.tmp 15), type := 79, pos := "pattern.go:413", after := #[], guard := none }) (v := ?_) rfl (by kernel_rfl) (by kernel_rfl) (by kernel_rfl) (by kernel_rfl) (fun _ _ _ h => h) (Or.inl ⟨by rfl, ?_⟩) (by assumption) ?_
    rotate_left
    · intro w hSw
      try dsimp only at hSw
      go_simp
      try with_reducible rfl
    try simp only [Act.put, List.setIfInBounds_toArray, List.set_cons_zero, List.set_cons_succ]
    refine wpLast_ready (rs := [2]) (by kernel_rfl) (by simp) ?_
    refine EachLast.cons (o := { dst := some 95, op := Op.call { callee := Callee.value (Operand.func 39), args := #[Operand.tmp 94], argTypes := #[79] }, type := 79, pos := "pattern.go:413", after := #[{ on := 1, ground := Ground.data }], guard := none }) rfl (fun K hK => ?_) EachLast.nil
    go_simp
    have hw9 : w.heap.size + 1 + 1 < w9.heap.size := HLD9.out.bx.lt
    refine (often_any n hn301 w9 _ _ _ HMR9.out).mono ?_
    rintro e w10 ⟨v10, rfl, hmr10, hb10⟩
    obtain ⟨g10, rfl⟩ := hmr10.form
    have hS10 : w10.cell? ⟨b11, 0, none⟩ = some (.int .i64 (n : Int)) ∧ w10.cell? ⟨b11, 1, none⟩ = some (.slice (some ⟨g2, 0, none⟩) (n * n) (n * n)) := ⟨(Below.cell hb10 (p := ⟨b11, 0, none⟩) hb9l).trans hS0.1, (Below.cell hb10 (p := ⟨b11, 1, none⟩) hb9l).trans hS0.2⟩
    have HLD10 := Lib.hid (HLD9.out.on hb10)
    have HTH := Lib.hid (then_any n hn301 w10 _ _ _ _ _ _ (HMR9.out.below hb10) hmr10)
    have hb10l : b11 < w10.heap.size := Nat.lt_of_lt_of_le hb9l hb10.size
    have hlo : w.heap.size ≤ w10.heap.size := by have := hb10.size; omega
    clear hmr10 hb10
    refine hK.out _ _ (fun _ => hS10) ?_
    try simp only [Act.put, List.setIfInBounds_toArray, List.set_cons_zero, List.set_cons_succ]
    refine wpLast_ready (rs := [3]) (by kernel_rfl) (by simp) ?_
    refine EachLast.cons (o := { dst := some 96, op := Op.call { callee := Callee.value (Operand.func 36), args := #[Operand.tmp 93, Operand.tmp 95], argTypes := #[79, 79] }, type := 79, pos := "pattern.go:413", after := #[{ on := 0, ground := Ground.data }, { on := 2, ground := Ground.data }, { on := 2, ground := Ground.chain }], guard := none }) rfl (fun K hK => ?_) EachLast.nil
    go_simp
    refine HTH.out.mono ?_
    rintro e w12 ⟨v3, rfl, hmr3, hb12⟩
    obtain ⟨g3, rfl⟩ := hmr3.form
    have hS12 : w12.cell? ⟨b11, 0, none⟩ = some (.int .i64 (n : Int)) ∧ w12.cell? ⟨b11, 1, none⟩ = some (.slice (some ⟨g2, 0, none⟩) (n * n) (n * n)) := ⟨(Below.cell hb12 (p := ⟨b11, 0, none⟩) hb10l).trans hS10.1, (Below.cell hb12 (p := ⟨b11, 1, none⟩) hb10l).trans hS10.2⟩
    have hld := HLD10.out.on hb12
    have y0 : w12.cell? ⟨w.heap.size + 1, 0, none⟩ = some (.int .i64 0) := hld.bt.cell 0
    have y1 : w12.cell? ⟨w.heap.size + 1, 1, none⟩ = some (.slice none 0 0) := hld.bt.cell 1
    have f0 := hld.bt.frozen 0
    have f1 := hld.bt.frozen 1
    have HZ := Lib.hid ((hld.bt.set_ 0 (.int .i64 (n : Int))).set_ 1 (.slice (some ⟨g3, 0, none⟩) (n * n) (n * n)))
    have HMR := Lib.hid (MR.put (x := .int .i64 (n : Int)) (y := .slice (some ⟨g3, 0, none⟩) (n * n) (n * n)) ((hmr3.mono hlo).iff (fun i j _ _ => HREL.out i j)) hld.bt)
    have HBL := Lib.hid (hld.bel.grown (gtrans (only_set w12 (w.heap.size + 1) 0 (.int .i64 (n : Int))) (only_set _ (w.heap.size + 1) 1 (.slice (some ⟨g3, 0, none⟩) (n * n) (n * n)))) hld.bel.size (fun z hz => by cases hz; omega))
    clear hld hmr3
    refine hK.out _ _ (fun _ => hS12) ?_
    try simp only [Act.put, List.setIfInBounds_toArray, List.set_cons_zero, List.set_cons_succ]
    refine wpLast_ready (rs := [4]) (by kernel_rfl) (by simp) ?_
    refine EachLast.cons (o := { dst := none, op := Op.store 79 (Operand.tmp 6) (Operand.tmp 96), type := 0, pos := "pattern.go:413", after := #[{ on := 3, ground := Ground.data }, { on := 3, ground := Ground.chain }, { on := 0, ground := Ground.phase }, { on := 1, ground := Ground.phase }, { on := 2, ground := Ground.phase }, { on := 3, ground := Ground.phase }], guard := none }) rfl (fun K hK => ?_) EachLast.nil
    go_simp
    refine hK.out _ _ (fun h => absurd rfl h) ?_
    try simp only [Act.put, List.setIfInBounds_toArray, List.set_cons_zero, List.set_cons_succ]
    refine wpLast_done (by kernel_rfl) ?_ _
    go_wp2_with fail
    have z0 : ((w12.setCell ⟨w.heap.size + 1, 0, none⟩ (.int .i64 (n : Int))).setCell ⟨w.heap.size + 1, 1, none⟩ (.slice (some ⟨g3, 0, none⟩) (n * n) (n * n))).cell? ⟨w.heap.size + 1, 0, none⟩ = some (.int .i64 (n : Int)) := HZ.out.cell 0
    have z1 : ((w12.setCell ⟨w.heap.size + 1, 0, none⟩ (.int .i64 (n : Int))).setCell ⟨w.heap.size + 1, 1, none⟩ (.slice (some ⟨g3, 0, none⟩) (n * n) (n * n))).cell? ⟨w.heap.size + 1, 1, none⟩ = some (.slice (some ⟨g3, 0, none⟩) (n * n) (n * n)) := HZ.out.cell 1
    refine bodyPost_ret (v := .agg #[.int .i64 (n : Int), .slice (some ⟨g3, 0, none⟩) (n * n) (n * n)]) (by simp [results, Try.results23, go_sem, z0, z1]) rfl ?_
    exact ⟨_, rfl, HMR.out, HBL.out⟩
  · go_simp
    have hA5 := (Below.refl _ w5).alloc (Nat.le_refl _) (.cells #[.int .i64 0, .slice none 0 0] 79)
    have hS5 := hS0.on hA5 hbxl hgkl
    have HLD5 := Lib.hid (HLD.out.on hA5)
    have HNG6 := Lib.hid (HNG5.out.below hA5)
    have HSE6 := Lib.hid (HSE5.out.below hA5)
    have HB5 := Lib.hid (Blk.new w5 79 #[.int .i64 0, .slice none 0 0])
    have hbxl5 := Nat.lt_of_lt_of_le hbxl hA5.size
    have hgkl5 := Nat.lt_of_lt_of_le hgkl hA5.size
    refine hK.out _ _ (fun _ => hS5) ?_
    try simp only [Act.put, List.setIfInBounds_toArray, List.set_cons_zero, List.set_cons_succ]
    clear hA5
    generalize hw55 : w5.alloc (.cells #[.int .i64 0, .slice none 0 0] 79) = w55 at *
    clear hw55
    generalize hb11 : w5.heap.size = b11 at *
    refine wpLast_ready (rs := [6]) (by kernel_rfl) (by simp) ?_
    refine EachLast.cons (o := { dst := some 92, op := Op.call { callee := Callee.value (Operand.func 23), args := #[Operand.tmp 86, Operand.tmp 90, Operand.tmp 91], argTypes := #[28, 3, 35] }, type := 79, pos := "pattern.go:412", after := #[{ on := 0, ground := Ground.data }, { on := 4, ground := Ground.data }, { on := 5, ground := Ground.data }], guard := none }) rfl (fun K hK => ?_) EachLast.nil
    go_simp
    refine (HWn.out w55 HNG6.out HSE6.out).mono ?_
    rintro e w6 ⟨v2, rfl, hmr2, hb6⟩
    obtain ⟨g2, rfl⟩ := hmr2.form
    have hS6 := hS5.on hb6 hbxl5 hgkl5
    have hb5 := HB5.out.below hb6 HB5.out.lt
    have y0 : w6.cell? ⟨b11, 0, none⟩ = some (.int .i64 0) := hb5.cell 0
    have y1 : w6.cell? ⟨b11, 1, none⟩ = some (.slice none 0 0) := hb5.cell 1
    have f0 := hb5.frozen 0
    have f1 := hb5.frozen 1
    have hb11g : w.heap.size + 1 + 1 < b11 := by omega
    have HLD8 := Lib.hid (((HLD5.out.on hb6).put (z := b11) (i := 0) (u := .int .i64 (n : Int)) hb11g).put (z := b11) (i := 1) (u := .slice (some ⟨g2, 0, none⟩) (n * n) (n * n)) hb11g)
    have HMR8 := Lib.hid (MR.put (x := .int .i64 (n : Int)) (y := .slice (some ⟨g2, 0, none⟩) (n * n) (n * n)) hmr2 hb5)
    have HB11 := Lib.hid ((hb5.set_ 0 (.int .i64 (n : Int))).set_ 1 (.slice (some ⟨g2, 0, none⟩) (n * n) (n * n)))
    clear hb6 hmr2 hb5
    refine hK.out _ _ (fun _ => hS6) ?_
    try simp only [Act.put, List.setIfInBounds_toArray, List.set_cons_zero, List.set_cons_succ]
    refine wpLast_ready (rs := [8]) (by kernel_rfl) (by simp) ?_
    refine EachLast.cons (o := { dst := none, op := Op.store 79 (Operand.tmp 15) (Operand.tmp 92), type := 0, pos := "pattern.go:412", after := #[{ on := 7, ground := Ground.data }, { on := 6, ground := Ground.data }, { on := 6, ground := Ground.chain }, { on := 0, ground := Ground.phase }, { on := 1, ground := Ground.phase }, { on := 2, ground := Ground.phase }, { on := 3, ground := Ground.phase }, { on := 4, ground := Ground.phase }, { on := 5, ground := Ground.phase }, { on := 6, ground := Ground.phase }, { on := 7, ground := Ground.phase }], guard := none }) rfl (fun K hK => ?_) EachLast.nil
    go_simp
    refine hK.out _ _ (fun h => absurd rfl h) ?_
    try simp only [Act.put, List.setIfInBounds_toArray, List.set_cons_zero, List.set_cons_succ]
    refine wpLast_done (by kernel_rfl) ?_ _
    clear y0 y1 f0 f1
    generalize World.setCell (World.setCell w6 _ _) _ _ = Y at *
    have e110 : Y.cell? ⟨b11, 0, none⟩ = some (.int .i64 (n : Int)) := HB11.out.cell 0
    have e111 : Y.cell? ⟨b11, 1, none⟩ = some (.slice (some ⟨g2, 0, none⟩) (n * n) (n * n)) := HB11.out.cell 1
    have hb11l : b11 < Y.heap.size := HB11.out.lt
    go_upto_region 24 with fail
    refine wp_region_last 4 (fun w' => w'.cell? ⟨b11, 0, none⟩ = some (.int .i64 (n : Int)) ∧ w'.cell? ⟨b11, 1, none⟩ = some (.slice (some ⟨g2, 0, none⟩) (n * n) (n * n))) mixed ?_
    have hS0 : Y.drew.cell? ⟨b11, 0, none⟩ = some (.int .i64 (n : Int)) ∧ Y.drew.cell? ⟨b11, 1, none⟩ = some (.slice (some ⟨g2, 0, none⟩) (n * n) (n * n)) := ⟨e110, e111⟩
    have HMR9 := Lib.hid (HMR8.out.below (Below.refl _ Y).drew)
    have HLD9 := Lib.hid (HLD8.out.on (Below.refl _ Y).drew)
    have hb9l : b11 < Y.drew.heap.size := hb11l
    clear e110 e111
    generalize Y.drew = w9 at *
    refine wpLast_take (i := 0) (oi := { dst := some 93, op := Op.load 79 (Operand.tmp 15), type := 79, pos := "pattern.go:413", after := #[], guard := none }) (v := ?_) rfl (by kernel_rfl) (by kernel_rfl) (by kernel_rfl) (by kernel_rfl) (fun _ _ _ h => h) (Or.inl ⟨by rfl, ?_⟩) (by assumption) ?_
    rotate_left
    · intro w hSw
      try dsimp only at hSw
      go_simp
      try with_reducible rfl
    try simp only [Act.put, List.setIfInBounds_toArray, List.set_cons_zero, List.set_cons_succ]
    refine wpLast_take (i := 1) (oi := { dst := some 94, op := Op.load 79 (Operand.tmp 15), type := 79, pos := "pattern.go:413", after := #[], guard := none }) (v := ?_) rfl (by kernel_rfl) (by kernel_rfl) (by kernel_rfl) (by kernel_rfl) (fun _ _ _ h => h) (Or.inl ⟨by rfl, ?_⟩) (by assumption) ?_
    rotate_left
    · intro w hSw
      try dsimp only at hSw
      go_simp
      try with_reducible rfl
    try simp only [Act.put, List.setIfInBounds_toArray, List.set_cons_zero, List.set_cons_succ]
    refine wpLast_ready (rs := [2]) (by kernel_rfl) (by simp) ?_
    refine EachLast.cons (o := { dst := some 95, op := Op.call { callee := Callee.value (Operand.func 39), args := #[Operand.tmp 94], argTypes := #[79] }, type := 79, pos := "pattern.go:413", after := #[{ on := 1, ground := Ground.data }], guard := none }) rfl (fun K hK => ?_) EachLast.nil
    go_simp
    have hw9 : w.heap.size + 1 + 1 < w9.heap.size := HLD9.out.bx.lt
    refine (often_any n hn301 w9 _ _ _ HMR9.out).mono ?_
    rintro e w10 ⟨v10, rfl, hmr10, hb10⟩
    obtain ⟨g10, rfl⟩ := hmr10.form
    have hS10 : w10.cell? ⟨b11, 0, none⟩ = some (.int .i64 (n : Int)) ∧ w10.cell? ⟨b11, 1, none⟩ = some (.slice (some ⟨g2, 0, none⟩) (n * n) (n * n)) := ⟨(Below.cell hb10 (p := ⟨b11, 0, none⟩) hb9l).trans hS0.1, (Below.cell hb10 (p := ⟨b11, 1, none⟩) hb9l).trans hS0.2⟩
    have HLD10 := Lib.hid (HLD9.out.on hb10)
    have HTH := Lib.hid (then_any n hn301 w10 _ _ _ _ _ _ (HMR9.out.below hb10) hmr10)
    have hb10l : b11 < w10.heap.size := Nat.lt_of_lt_of_le hb9l hb10.size
    have hlo : w.heap.size ≤ w10.heap.size := by have := hb10.size; omega
    clear hmr10 hb10
    refine hK.out _ _ (fun _ => hS10) ?_
    try simp only [Act.put, List.setIfInBounds_toArray, List.set_cons_zero, List.set_cons_succ]
    refine wpLast_ready (rs := [3]) (by kernel_rfl) (by simp) ?_
    refine EachLast.cons (o := { dst := some 96, op := Op.call { callee := Callee.value (Operand.func 36), args := #[Operand.tmp 93, Operand.tmp 95], argTypes := #[79, 79] }, type := 79, pos := "pattern.go:413", after := #[{ on := 0, ground := Ground.data }, { on := 2, ground := Ground.data }, { on := 2, ground := Ground.chain }], guard := none }) rfl (fun K hK => ?_) EachLast.nil
    go_simp
    refine HTH.out.mono ?_
    rintro e w12 ⟨v3, rfl, hmr3, hb12⟩
    obtain ⟨g3, rfl⟩ := hmr3.form
    have hS12 : w12.cell? ⟨b11, 0, none⟩ = some (.int .i64 (n : Int)) ∧ w12.cell? ⟨b11, 1, none⟩ = some (.slice (some ⟨g2, 0, none⟩) (n * n) (n * n)) := ⟨(Below.cell hb12 (p := ⟨b11, 0, none⟩) hb10l).trans hS10.1, (Below.cell hb12 (p := ⟨b11, 1, none⟩) hb10l).trans hS10.2⟩
    have hld := HLD10.out.on hb12
    have y0 : w12.cell? ⟨w.heap.size + 1, 0, none⟩ = some (.int .i64 0) := hld.bt.cell 0
    have y1 : w12.cell? ⟨w.heap.size + 1, 1, none⟩ = some (.slice none 0 0) := hld.bt.cell 1
    have f0 := hld.bt.frozen 0
    have f1 := hld.bt.frozen 1
    have HZ := Lib.hid ((hld.bt.set_ 0 (.int .i64 (n : Int))).set_ 1 (.slice (some ⟨g3, 0, none⟩) (n * n) (n * n)))
    have HMR := Lib.hid (MR.put (x := .int .i64 (n : Int)) (y := .slice (some ⟨g3, 0, none⟩) (n * n) (n * n)) ((hmr3.mono hlo).iff (fun i j _ _ => HREL.out i j)) hld.bt)
    have HBL := Lib.hid (hld.bel.grown (gtrans (only_set w12 (w.heap.size + 1) 0 (.int .i64 (n : Int))) (only_set _ (w.heap.size + 1) 1 (.slice (some ⟨g3, 0, none⟩) (n * n) (n * n)))) hld.bel.size (fun z hz => by cases hz; omega))
    clear hld hmr3
    refine hK.out _ _ (fun _ => hS12) ?_
    try simp only [Act.put, List.setIfInBounds_toArray, List.set_cons_zero, List.set_cons_succ]
    refine wpLast_ready (rs := [4]) (by kernel_rfl) (by simp) ?_
    refine EachLast.cons (o := { dst := none, op := Op.store 79 (Operand.tmp 6) (Operand.tmp 96), type := 0, pos := "pattern.go:413", after := #[{ on := 3, ground := Ground.data }, { on := 3, ground := Ground.chain }, { on := 0, ground := Ground.phase }, { on := 1, ground := Ground.phase }, { on := 2, ground := Ground.phase }, { on := 3, ground := Ground.phase }], guard := none }) rfl (fun K hK => ?_) EachLast.nil
    go_simp
    refine hK.out _ _ (fun h => absurd rfl h) ?_
    try simp only [Act.put, List.setIfInBounds_toArray, List.set_cons_zero, List.set_cons_succ]
    refine wpLast_done (by kernel_rfl) ?_ _
    go_wp2_with fail
    have z0 : ((w12.setCell ⟨w.heap.size + 1, 0, none⟩ (.int .i64 (n : Int))).setCell ⟨w.heap.size + 1, 1, none⟩ (.slice (some ⟨g3, 0, none⟩) (n * n) (n * n))).cell? ⟨w.heap.size + 1, 0, none⟩ = some (.int .i64 (n : Int)) := HZ.out.cell 0
    have z1 : ((w12.setCell ⟨w.heap.size + 1, 0, none⟩ (.int .i64 (n : Int))).setCell ⟨w.heap.size + 1, 1, none⟩ (.slice (some ⟨g3, 0, none⟩) (n * n) (n * n))).cell? ⟨w.heap.size + 1, 1, none⟩ = some (.slice (some ⟨g3, 0, none⟩) (n * n) (n * n)) := HZ.out.cell 1
    refine bodyPost_ret (v := .agg #[.int .i64 (n : Int), .slice (some ⟨g3, 0, none⟩) (n * n) (n * n)]) (by simp [results, Try.results23, go_sem, z0, z1]) rfl ?_
    exact ⟨_, rfl, HMR.out, HBL.out⟩
end Go.Proofs.Ytlbkacabcfeaiaa.Tl
/- Patterns: the reference's relation of any tree; its Match. -/
namespace Go.Proofs.Ytlbkacabcfeaiaa.Tl
open Go.RowKit Mm
set_option linter.unusedVariables false
mutual
theorem lead_all (names : List ByteArray) (hnl : names.length ≤ 300) (hns : ∀ s ∈ names, s.size ≤ 80) : (t : T) → good t = true → bd t ≤ 80000 → LeadC names t
  | .leaf tx n p d, hg, hb => lead_leaf names hnl hns tx n p d (by simp only [bd] at hb; omega)
  | .seq l, hg, hb => by
    simp only [bd] at hb
    rw [good] at hg
    have := bdL_len l
    exact lead_seq names hnl (by omega) (lead_allL names hnl hns l hg (by omega))
  | .alt l, hg, hb => by
    simp only [bd] at hb
    rw [good] at hg
    have := bdL_len l
    exact lead_alt names hnl (by omega) (lead_allL names hnl hns l hg (by omega))
  | .suf t s, hg, hb => by
    simp only [bd] at hb
    rw [good, Bool.and_eq_true] at hg
    have h1 := lead_all names hnl hns t hg.1 (by omega)
    rcases sign_cases hg.2 with rfl | rfl | rfl
    · exact lead_suf_42 names hnl h1
    · exact lead_suf_43 names hnl h1
    · exact lead_suf_63 names hnl h1
theorem lead_allL (names : List ByteArray) (hnl : names.length ≤ 300) (hns : ∀ s ∈ names, s.size ≤ 80) : (l : List T) → goodL l = true → bdL l ≤ 80000 → ∀ t ∈ l, LeadC names t
  | [], _, _ => by intro t h; cases h
  | x :: l, hg, hb => by
    rw [goodL, Bool.and_eq_true] at hg
    rw [bdL] at hb
    have h1 := lead_all names hnl hns x hg.1 (by omega)
    have h2 := lead_allL names hnl hns l hg.2 (by omega)
    intro t h
    rcases List.mem_cons.1 h with rfl | h
    · exact h1
    · exact h2 t h
end
set_option maxRecDepth 100000 in
set_option maxHeartbeats 4000000 in
theorem rmatch_any {w : World} {B : Nat} {t : T} {v lv : Value} {names : List ByteArray} (hnl : names.length ≤ 300) (hns : ∀ s ∈ names, s.size ≤ 80) (h : RPat w B t v) (hg : good t = true) (hb : bd t ≤ 80000) (hlv : Sees w lv (names.map Value.string)) :
    Calls Try.prog 14 #[v, lv] w fun e w' => ∃ b : Bool, e = .returned (.bool b) ∧ (b = true ↔ Mt (names.map (·.data.toList)) t 0 names.length) ∧ Below w.heap.size w w' := by
  obtain ⟨nv, root, N, rfl, h2, h3, h4, h5⟩ := h.pat
  have hA : Below w.heap.size w (w.alloc (.cells #[nv, .int .i64 (root : Int)] 28)) := bal (Below.refl w.heap.size w) _
  have hn : NG w B nv N := ⟨h2, h3, h5⟩
  have hA1 := (Below.refl _ w).alloc (Nat.le_refl _) (.cells #[nv, .int .i64 (root : Int)] 28)
  have HS := Lib.hid (lead_all names hnl hns t hg hb _ B nv lv N root root (hn.below hA1) h4 (hlv.below hA1))
  have hkl := h4.lt
  have hB0 := Blk.new w 28 #[nv, .int .i64 (root : Int)]
  have c0 := hB0.cell 0
  have c1 := hB0.cell 1
  have HA := Lib.hid hA
  obtain ⟨a, c, rfl⟩ := own_len h2
  have hI : ¬ (N.length : Int) = 0 := by omega
  obtain ⟨al, cl, hlv2, _⟩ := hlv
  rw [List.length_map] at hlv2
  subst hlv2
  obtain ⟨n, hn1⟩ : ∃ n, n = names.length + 1 := ⟨_, rfl⟩
  rw [← hn1] at HS
  have hlt : names.length < n * n := by
    have h1 := idx_lt (n := n) (i := 0) (j := names.length) (by omega) (by omega)
    omega
  have hnn : n * n ≤ 301 * 301 := Nat.mul_le_mul (by omega) (by omega)
  have HN1 := Lib.hid hn1
  clear hA hn h h2 h3 h4 hB0 hA1 hn1
  go_enter Try.func14, Try.ntmps14
  go_wp2_with fail
  refine HS.out.mono ?_
  rintro e w2 ⟨v2, rfl, ⟨l, ⟨g2, rfl, hg2, hbl, hll⟩, hrl⟩, hb2⟩
  have HB := Lib.hid (bnx HA.out hb2)
  obtain ⟨b, hb0, hbr⟩ := hrl.2 0 names.length (by have := HN1.out; omega) (by have := HN1.out; omega)
  rw [Nat.zero_mul, Nat.zero_add] at hb0
  have hA2 := (Below.refl _ w2).alloc (Nat.le_refl _) (.cells #[.int .i64 (n : Int), .slice (some ⟨g2, 0, none⟩) (n * n) (n * n)] 79)
  have cb : (w2.alloc (.cells #[.int .i64 (n : Int), .slice (some ⟨g2, 0, none⟩) (n * n) (n * n)] 79)).cell? ⟨g2, names.length, none⟩ = some (.bool b) := ((hbl.below hA2 hbl.lt).cell _).trans (blA_get hb0)
  have HB3 := Lib.hid (bal HB.out (.cells #[.int .i64 (n : Int), .slice (some ⟨g2, 0, none⟩) (n * n) (n * n)] 79))
  have e1 := (Blk.new w2 79 #[.int .i64 (n : Int), .slice (some ⟨g2, 0, none⟩) (n * n) (n * n)]).cell 1
  have j0 : (0 : Int) ≤ (names.length : Int) := by omega
  obtain ⟨q, hq⟩ : ∃ q, n * n = q := ⟨_, rfl⟩
  clear hb2 hA2 hbl hll hrl hb0 hg2 hnn
  rw [hq] at hlt cb HB3 e1
  rw [hq]
  clear hq
  have j1 : (names.length : Int) < (q : Int) := by omega
  go_wp2_with fail
  go_ret
  exact ⟨b, rfl, hbr, HB3.out⟩
/-- a pattern that is none -/
theorem rmatch_none (w : World) (lv : Value) (root : Int) : Calls Try.prog 14 #[.agg #[.slice none 0 0, .int .i64 root], lv] w fun e w' => e = .returned (.bool false) ∧ Below w.heap.size w w' := by
  have hB0 := Blk.new w 28 #[.slice none 0 0, .int .i64 root]
  have c0 := hB0.cell 0
  have HA := Lib.hid (bal (Below.refl w.heap.size w) (.cells #[.slice none 0 0, .int .i64 root] 28))
  clear hB0
  go_enter Try.func14, Try.ntmps14
  go_wp2_with fail
  go_ret
  exact ⟨rfl, HA.out⟩
end Go.Proofs.Ytlbkacabcfeaiaa.Tl
