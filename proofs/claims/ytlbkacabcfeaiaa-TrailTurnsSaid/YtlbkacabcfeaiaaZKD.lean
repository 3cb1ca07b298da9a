/- Texts of one kind, put together: Kn, Ko, Kp, Kq, Kr. -/
import Derived.Test.YtlbkacabcfeaiaaZKC
/- Patterns: the reference says a pattern: leaves, brackets. -/
namespace Go.Proofs.Ytlbkacabcfeaiaa.Tl
open Go.RowKit Mm
set_option linter.unusedVariables false
/-- nodes that stand -/
structure NS (w : World) (B : Nat) (nv : Value) (N : List Nd) : Prop where
  row : w.ownsRow B 92 4 nv N.length (ndC N)
  kid : ∀ d ∈ N, Fz w 3 1 d.kv d.kids.length (iv d.kids)
  len : N.length ≤ 2000
theorem NS.below {w w' : World} {B : Nat} {nv : Value} {N : List Nd} (h : NS w B nv N) (hb : Below w.heap.size w w') : NS w' B nv N :=
  ⟨own_below h.row hb (Nat.le_refl _), fun d hd => Fz.fr (h.kid d hd) (Fr.below hb), h.len⟩
/-- a tree said -/
def SaidC (t : T) : Prop := ∀ (w : World) (B : Nat) (nv : Value) (N : List Nd) (k r : Nat), NS w B nv N → Den N k t → Calls Try.prog 21 #[.agg #[nv, .int .i64 (r : Int)], .int .i64 (k : Int)] w fun e w' => e = .returned (.string (str (txt t))) ∧ Below w.heap.size w w'
/-- what the call sees behind its first steps -/
structure Sd (w : World) (nv : Value) (r : Nat) (d : Nd) (X : World) : Prop where
  bel : Below w.heap.size w X
  p0 : X.cell? ⟨w.heap.size, 0, none⟩ = some nv
  p1 : X.cell? ⟨w.heap.size, 1, none⟩ = some (.int .i64 (r : Int))
  x0 : X.cell? ⟨w.heap.size + 1, 0, none⟩ = some (.int .i64 (d.kind : Int))
  x1 : X.cell? ⟨w.heap.size + 1, 1, none⟩ = some (.string d.name)
  x2 : X.cell? ⟨w.heap.size + 1, 2, none⟩ = some (.bool d.no)
  x3 : X.cell? ⟨w.heap.size + 1, 3, none⟩ = some d.kv
  two : w.heap.size + 1 < X.heap.size
theorem Sd.start (w : World) (nv : Value) (r : Nat) (d : Nd) : Sd w nv r d ((w.alloc (.cells #[nv, .int .i64 (r : Int)] 28)).alloc (.cells #[.int .i64 (d.kind : Int), .string d.name, .bool d.no, d.kv] 92)) := by
  have h1 := Blk.new w 28 #[nv, .int .i64 (r : Int)]
  have h2 := h1.alloc (.cells #[.int .i64 (d.kind : Int), .string d.name, .bool d.no, d.kv] 92)
  have h3 := Blk.new (w.alloc (.cells #[nv, .int .i64 (r : Int)] 28)) 92 #[.int .i64 (d.kind : Int), .string d.name, .bool d.no, d.kv]
  rw [World.size_alloc] at h3
  exact ⟨bal (bal (Below.refl _ w) _) _, h2.cell 0, h2.cell 1, h3.cell 0, h3.cell 1, h3.cell 2, h3.cell 3, by simp⟩
theorem Sd.on {w X Y : World} {nv : Value} {r : Nat} {d : Nd} (h : Sd w nv r d X) (hb : Below X.heap.size X Y) : Sd w nv r d Y := by
  have h1 := h.two
  have c : ∀ g i, g ≤ w.heap.size + 1 → Y.cell? ⟨g, i, none⟩ = X.cell? ⟨g, i, none⟩ := fun g i hg => Below.cell hb (p := ⟨g, i, none⟩) (show g < X.heap.size by omega)
  exact ⟨bnx h.bel hb, (c _ _ (by omega)).trans h.p0, (c _ _ (by omega)).trans h.p1, (c _ _ (by omega)).trans h.x0, (c _ _ (by omega)).trans h.x1, (c _ _ (by omega)).trans h.x2, (c _ _ (by omega)).trans h.x3, Nat.lt_of_lt_of_le h1 hb.size⟩
/-- the node that is read -/
theorem nd_cells {w : World} {B : Nat} {nv : Value} {N : List Nd} {k : Nat} {d : Nd} {o : Obj} (h : NS w B nv N) (hd : N[k]? = some d) : ∃ g c, nv = .slice (some ⟨g, 0, none⟩) N.length c ∧ (w.alloc o).cell? ⟨g, k * 4, none⟩ = some (.int .i64 (d.kind : Int)) ∧ (w.alloc o).cell? ⟨g, k * 4 + 1, none⟩ = some (.string d.name) ∧ (w.alloc o).cell? ⟨g, k * 4 + 2, none⟩ = some (.bool d.no) ∧ (w.alloc o).cell? ⟨g, k * 4 + 3, none⟩ = some d.kv := by
  have hk := (List.getElem?_eq_some_iff.1 hd).1
  have h2 := (h.below ((Below.refl _ w).alloc (Nat.le_refl _) o)).row
  obtain ⟨g, c, hv, _, _, _, hc⟩ := own_at h2 (by omega)
  obtain ⟨h0, h1, h3, h4⟩ := ndC_get hd
  exact ⟨g, c, hv, hc _ _ h0, hc _ _ h1, hc _ _ h3, hc _ _ h4⟩
set_option maxRecDepth 100000 in
set_option maxHeartbeats 8000000 in
theorem said_leaf (tx : List UInt8) (n po dn : Bool) (hb : tx.length ≤ 90000) : SaidC (.leaf tx n po dn) := by
  intro w B nv N k r hN hden
  have hlen := hN.len
  have hkl := hden.lt
  obtain ⟨d, hd, hcs⟩ : ∃ d, N[k]? = some d ∧ ((d.kind = 1 ∧ txt (.leaf tx n po dn) = [46]) ∨ (((d.kind = 2 ∨ d.kind = 3) ∧ d.name.data.toList = tx) ∧ txt (.leaf tx n po dn) = if d.no then 33 :: d.name.data.toList else d.name.data.toList)) := by
    cases hden with
    | any k d h1 h2 => exact ⟨d, h1, .inl ⟨h2, by rw [txt]; rfl⟩⟩
    | nam k d po h1 h2 => exact ⟨d, h1, .inr ⟨⟨by cases po <;> simp_all, rfl⟩, by rw [txt]⟩⟩
  obtain ⟨g, c, rfl, p0, p1, p2, p3⟩ := nd_cells (o := .cells #[nv, .int .i64 (r : Int)] 28) hN hd
  have c0 := (Blk.new w 28 #[.slice (some ⟨g, 0, none⟩) N.length c, .int .i64 (r : Int)]).cell 0
  have c1 := (Blk.new w 28 #[.slice (some ⟨g, 0, none⟩) N.length c, .int .i64 (r : Int)]).cell 1
  have hS := Sd.start w (.slice (some ⟨g, 0, none⟩) N.length c) r d
  have hkid := Fz.form (hN.kid d (List.mem_of_getElem? hd))
  obtain ⟨ak, ck, hkv, _⟩ := hkid
  have i0 : (0 : Int) ≤ (k : Int) := by omega
  have i1 : (k : Int) < (N.length : Int) := by omega
  have hwk : IntKind.i64.wrap (k : Int) = (k : Int) := IntWalk.i64_in _ (by omega)
  obtain ⟨kd, nm, no, kv, kids⟩ := d
  dsimp only at hkv hcs p0 p1 p2 p3
  subst hkv
  rcases hcs with ⟨hk1, ht⟩ | ⟨⟨hk2, htx⟩, ht⟩
  · rw [ht]
    have hkI : (kd : Int) = 1 := by omega
    clear hS hN hden hd ht hk1
    go_enter Try.func21, Try.ntmps21
    go_wp2_with fail
    go_ret
    exact ⟨rfl, bal (bal (Below.refl _ w) _) _⟩
  · rw [ht]
    have hkA : ¬ (kd : Int) = 1 := by omega
    have s0 := hS.x0
    have s1 := hS.x1
    have s2 := hS.x2
    have HX := Lib.hid (show (⟨#[33]⟩ : ByteArray) ++ nm = str (33 :: nm.data.toList) from str_eq (by rw [ByteArray.data_append, Array.toList_append]; rfl))
    have HY := Lib.hid (show nm = str nm.data.toList from (str_of nm).symm)
    have hsz : nm.size ≤ 90000 := by rw [← len_s, htx]; exact hb
    clear hS hN hden hd ht htx
    rcases hk2 with hk | hk
    · have hkI : (kd : Int) = 2 := by omega
      clear hk
      cases no with
      | true =>
        go_enter Try.func21, Try.ntmps21
        go_wp2_with fail
        go_ret
        exact ⟨congrArg (fun z => Ending.returned (Value.string z)) HX.out, bal (bal (Below.refl _ w) _) _⟩
      | false =>
        go_enter Try.func21, Try.ntmps21
        go_wp2_with fail
        go_ret
        exact ⟨congrArg (fun z => Ending.returned (Value.string z)) HY.out, bal (bal (Below.refl _ w) _) _⟩
    · have hkI : (kd : Int) = 3 := by omega
      clear hk
      cases no with
      | true =>
        go_enter Try.func21, Try.ntmps21
        go_wp2_with fail
        go_ret
        exact ⟨congrArg (fun z => Ending.returned (Value.string z)) HX.out, bal (bal (Below.refl _ w) _) _⟩
      | false =>
        go_enter Try.func21, Try.ntmps21
        go_wp2_with fail
        go_ret
        exact ⟨congrArg (fun z => Ending.returned (Value.string z)) HY.out, bal (bal (Below.refl _ w) _) _⟩
def isSq : T → Bool
  | .seq _ => true
  | _ => false
theorem den_kind {N : List Nd} {k : Nat} {t : T} {d : Nd} (h : Den N k t) (hd : N[k]? = some d) : (isAlt t = true ∧ isSq t = false ∧ d.kind = 5) ∨ (isAlt t = false ∧ isSq t = true ∧ d.kind = 4) ∨ (isAlt t = false ∧ isSq t = false ∧ d.kind ≠ 4 ∧ d.kind ≠ 5) := by
  cases h with
  | any k e h1 h2 => rw [h1] at hd; cases hd; exact .inr (.inr ⟨rfl, rfl, by omega, by omega⟩)
  | nam k e po h1 h2 =>
    rw [h1] at hd; cases hd
    have : d.kind = 2 ∨ d.kind = 3 := by cases po <;> simp_all
    exact .inr (.inr ⟨rfl, rfl, by omega, by omega⟩)
  | seq k e l h1 h2 h3 h4 => rw [h1] at hd; cases hd; exact .inr (.inl ⟨rfl, rfl, h2⟩)
  | alt k e l h1 h2 h3 h4 => rw [h1] at hd; cases hd; exact .inl ⟨rfl, rfl, h2⟩
  | suf k e j t c h1 h2 h3 h4 h5 =>
    rw [h1] at hd; cases hd
    have := sufK_lt c
    exact .inr (.inr ⟨rfl, rfl, by omega, by omega⟩)
theorem many_or (t : T) : isMany t = (isAlt t || isSq t) := by cases t <;> rfl
set_option maxRecDepth 100000 in
set_option maxHeartbeats 8000000 in
theorem rbracketed_any {t : T} (hs : SaidC t) (hb : bd t ≤ 90000) (al : Bool) (w : World) (B : Nat) (nv : Value) (N : List Nd) (k r : Nat) (hN : NS w B nv N) (hden : Den N k t) :
    Calls Try.prog 34 #[.agg #[nv, .int .i64 (r : Int)], .int .i64 (k : Int), .bool al] w fun e w' => e = .returned (.string (str (brk (isAlt t || (!al && isSq t)) (txt t)))) ∧ Below w.heap.size w w' := by
  have hlen := hN.len
  have hkl := hden.lt
  have htb := txt_bd t
  have hA := bal (Below.refl w.heap.size w) (.cells #[nv, .int .i64 (r : Int)] 28)
  have hN1 := hN.below ((Below.refl _ w).alloc (Nat.le_refl _) (.cells #[nv, .int .i64 (r : Int)] 28))
  have HSD := Lib.hid (hs _ B nv N k r hN1 hden)
  obtain ⟨d, hd⟩ : ∃ d, N[k]? = some d := ⟨_, List.getElem?_eq_getElem hkl⟩
  have hkd := den_kind hden hd
  obtain ⟨g, c, rfl, p0, p1, p2, p3⟩ := nd_cells (o := .cells #[nv, .int .i64 (r : Int)] 28) hN hd
  have hB0 := Blk.new w 28 #[.slice (some ⟨g, 0, none⟩) N.length c, .int .i64 (r : Int)]
  have c0 := hB0.cell 0
  have c1 := hB0.cell 1
  have hgl : g < (w.alloc (.cells #[.slice (some ⟨g, 0, none⟩) N.length c, .int .i64 (r : Int)] 28)).heap.size := by
    obtain ⟨g', c', e, _, _, h, _⟩ := own_at hN1.row (by omega)
    cases e
    exact h
  have hwl : w.heap.size < (w.alloc (.cells #[.slice (some ⟨g, 0, none⟩) N.length c, .int .i64 (r : Int)] 28)).heap.size := by simp
  have i0 : (0 : Int) ≤ (k : Int) := by omega
  have i1 : (k : Int) < (N.length : Int) := by omega
  have hwk : IntKind.i64.wrap (k : Int) = (k : Int) := IntWalk.i64_in _ (by omega)
  have HA := Lib.hid hA
  have HE := Lib.hid (show (⟨#[40]⟩ : ByteArray) ++ str (txt t) ++ ⟨#[41]⟩ = str (brk true (txt t)) from by
    show str [40] ++ str (txt t) ++ str [41] = _
    rw [str_app, str_app]
    rfl)
  have hz := str_size (txt t)
  have hz2 : (str (txt t)).size ≤ 90000 := by omega
  obtain ⟨bb, hbb⟩ : ∃ bb, bb = (isAlt t || (!al && isSq t)) := ⟨_, rfl⟩
  rw [← hbb]
  clear hs hN hN1 hA hB0 p1 p2 p3 hz
  generalize hzz : str (txt t) = z at *
  have HZ := Lib.hid hzz
  clear hzz
  go_enter Try.func34, Try.ntmps34
  go_wp2_with fail
  refine HSD.out.mono ?_
  rintro e w1 ⟨rfl, hb1⟩
  have d0 := (Below.cell hb1 (p := ⟨w.heap.size, 0, none⟩) hwl).trans c0
  have d1 := (Below.cell hb1 (p := ⟨w.heap.size, 1, none⟩) hwl).trans c1
  have n0 := (Below.cell hb1 (p := ⟨g, k * 4, none⟩) hgl).trans p0
  have HB := Lib.hid (bnx HA.out hb1)
  clear hb1 c0 c1 p0 hwl hgl HSD
  rcases hkd with ⟨ha, hq, hk⟩ | ⟨ha, hq, hk⟩ | ⟨ha, hq, hk4, hk5⟩
  · have hkI : (d.kind : Int) = 5 := by omega
    have HQ := Lib.hid (show bb = true from by rw [hbb, ha]; rfl)
    clear hbb
    go_wp2_with fail
    go_ret
    exact ⟨by rw [HQ.out]; exact congrArg (fun x => Ending.returned (Value.string x)) HE.out, HB.out⟩
  · have hkI : (d.kind : Int) = 4 := by omega
    cases al with
    | true =>
      have HQ := Lib.hid (show bb = false from by rw [hbb, ha]; rfl)
      clear hbb
      go_wp2_with fail
      go_ret
      exact ⟨by rw [HQ.out]; exact congrArg (fun x => Ending.returned (Value.string x)) HZ.out.symm, HB.out⟩
    | false =>
      have HQ := Lib.hid (show bb = true from by rw [hbb, ha, hq]; rfl)
      clear hbb
      go_wp2_with fail
      go_ret
      exact ⟨by rw [HQ.out]; exact congrArg (fun x => Ending.returned (Value.string x)) HE.out, HB.out⟩
  · have hk4I : ¬ (d.kind : Int) = 4 := by omega
    have hk5I : ¬ (d.kind : Int) = 5 := by omega
    have hk4J : ((d.kind : Int) == 4) = false := beq_eq_false_iff_ne.2 hk4I
    have hk5J : ((d.kind : Int) == 5) = false := beq_eq_false_iff_ne.2 hk5I
    have HQ := Lib.hid (show bb = false from by rw [hbb, ha, hq]; cases al <;> rfl)
    clear hbb
    cases al with
    | true =>
      go_wp2_with fail
      go_ret
      exact ⟨by rw [HQ.out]; exact congrArg (fun x => Ending.returned (Value.string x)) HZ.out.symm, HB.out⟩
    | false =>
      go_wp2_with fail
      go_ret
      exact ⟨by rw [HQ.out]; exact congrArg (fun x => Ending.returned (Value.string x)) HZ.out.symm, HB.out⟩
end Go.Proofs.Ytlbkacabcfeaiaa.Tl
/- Patterns: the reference says suffixes, sequences, choices. Printed by mksaid.py. -/
namespace Go.Proofs.Ytlbkacabcfeaiaa.Tl
open Go.RowKit Mm
set_option linter.unusedVariables false
abbrev HdS (b gk i j : Nat) (nv : Value) (r : Nat) (kv : Value) (W : World) : Prop := W.cell? ⟨b, 0, none⟩ = some nv ∧ W.cell? ⟨b, 1, none⟩ = some (.int .i64 (r : Int)) ∧ W.cell? ⟨b + 1, 3, none⟩ = some kv ∧ W.cell? ⟨gk, i, none⟩ = some (.int .i64 (j : Int))
theorem HdS.on {b gk i j : Nat} {nv : Value} {r : Nat} {kv : Value} {X Y : World} (h : HdS b gk i j nv r kv X) (hb : Below X.heap.size X Y) (h1 : b + 1 < X.heap.size) (h2 : gk < X.heap.size) : HdS b gk i j nv r kv Y :=
  ⟨(Below.cell hb (p := ⟨b, 0, none⟩) (show b < X.heap.size by omega)).trans h.1, (Below.cell hb (p := ⟨b, 1, none⟩) (show b < X.heap.size by omega)).trans h.2.1, (Below.cell hb (p := ⟨b + 1, 3, none⟩) h1).trans h.2.2.1, (Below.cell hb (p := ⟨gk, i, none⟩) h2).trans h.2.2.2⟩
/-- one kid of a node -/
theorem kid_cell {X : World} {B : Nat} {nv : Value} {N : List Nd} {k : Nat} {d : Nd} {i : Nat} (h : NS X B nv N) (hd : N[k]? = some d) (hi : i < d.kids.length) : ∃ g c, d.kv = .slice (some ⟨g, 0, none⟩) d.kids.length c ∧ g < X.heap.size ∧ X.cell? ⟨g, i, none⟩ = some (.int .i64 (d.kids[i] : Int)) := by
  have hf := h.kid d (List.mem_of_getElem? hd)
  obtain ⟨a, c, hv, _⟩ := Fz.form hf
  rw [hv] at hf
  obtain ⟨g, rfl, hg, hc⟩ := Fz.cells hf (by omega)
  exact ⟨g, c, hv, hg, hc i _ (iv_get hi)⟩
set_option maxRecDepth 100000 in
set_option maxHeartbeats 8000000 in
theorem said_suf_42 {t : T} (hs : SaidC t) (hb : bd t ≤ 80000) : SaidC (.suf t 42) := by
  intro w B nv N k r hN hden
  have hlen := hN.len
  have hkl := hden.lt
  obtain ⟨d, j, hd, hkd, hkids, hdj⟩ : ∃ d j, N[k]? = some d ∧ d.kind = 6 ∧ d.kids = [j] ∧ Den N j t := by
    cases hden with
    | suf k d j t c h1 h2 h3 h4 h5 => exact ⟨d, j, h1, h2, h3, h5⟩
  obtain ⟨g, c, rfl, p0, p1, p2, p3⟩ := nd_cells (o := .cells #[nv, .int .i64 (r : Int)] 28) hN hd
  have c0 := (Blk.new w 28 #[.slice (some ⟨g, 0, none⟩) N.length c, .int .i64 (r : Int)]).cell 0
  have c1 := (Blk.new w 28 #[.slice (some ⟨g, 0, none⟩) N.length c, .int .i64 (r : Int)]).cell 1
  have hS := Sd.start w (.slice (some ⟨g, 0, none⟩) N.length c) r d
  have hN2 := (hN.below ((Below.refl _ w).alloc (Nat.le_refl _) (.cells #[.slice (some ⟨g, 0, none⟩) N.length c, .int .i64 (r : Int)] 28))).below ((Below.refl _ _).alloc (Nat.le_refl _) (.cells #[.int .i64 (d.kind : Int), .string d.name, .bool d.no, d.kv] 92))
  obtain ⟨gk, ck, hkv, hgk, hkc⟩ := kid_cell hN2 hd (i := 0) (by simp [hkids])
  have hk0 : d.kids[0]'(by simp [hkids]) = j := by simp [hkids]
  rw [hk0] at hkc
  rw [hkids] at hkv
  have i0 : (0 : Int) ≤ (k : Int) := by omega
  have i1 : (k : Int) < (N.length : Int) := by omega
  have hwk : IntKind.i64.wrap (k : Int) = (k : Int) := IntWalk.i64_in _ (by omega)
  have htb := txt_bd t
  have hz : (str (brk (isMany t) (txt t))).size ≤ 90000 := by rw [str_size]; have := brk_len (isMany t) (txt t); omega
  have HE := Lib.hid (show str (brk (isMany t) (txt t)) ++ ⟨#[42]⟩ = str (txt (.suf t 42)) from by
    show _ ++ str [42] = _
    rw [str_app, txt])
  have hkI : (d.kind : Int) = 6 := by omega
  have HBR := Lib.hid (fun (X : World) (hX : NS X B (.slice (some ⟨g, 0, none⟩) N.length c) N) => rbracketed_any hs (by omega) false X B _ N j r hX hdj)
  have hmq : (isAlt t || (!false && isSq t)) = isMany t := by rw [many_or]; rfl
  rw [hmq] at HBR
  obtain ⟨kd, nm, no, kv, kids⟩ := d
  dsimp only at hkv hkc hkI p0 p1 p2 p3 hS hN2 hgk
  subst hkv
  have hS0 : HdS w.heap.size gk 0 j (.slice (some ⟨g, 0, none⟩) N.length c) r (.slice (some ⟨gk, 0, none⟩) 1 ck) _ := ⟨hS.p0, hS.p1, hS.x3, hkc⟩
  have hbel := hS.bel
  have htwo := hS.two
  generalize str (brk (isMany t) (txt t)) = z at *
  have hz2 : ¬ 9223372036854775807 < z.size + 1 := by omega
  have HS0 := Lib.hid (show HdS w.heap.size gk 0 j (.slice (some ⟨g, 0, none⟩) N.length c) r (.slice (some ⟨gk, 0, none⟩) 1 ck) ((w.alloc (.cells #[.slice (some ⟨g, 0, none⟩) N.length c, .int .i64 (r : Int)] 28)).alloc (.cells #[.int .i64 6, .string nm, .bool no, .slice (some ⟨gk, 0, none⟩) 1 ck] 92)) from by rw [hkI] at hS0; exact hS0)
  have HN2 := Lib.hid (show NS ((w.alloc (.cells #[.slice (some ⟨g, 0, none⟩) N.length c, .int .i64 (r : Int)] 28)).alloc (.cells #[.int .i64 6, .string nm, .bool no, .slice (some ⟨gk, 0, none⟩) 1 ck] 92)) B (.slice (some ⟨g, 0, none⟩) N.length c) N from by rw [hkI] at hN2; exact hN2)
  have HBL := Lib.hid (show Below w.heap.size w ((w.alloc (.cells #[.slice (some ⟨g, 0, none⟩) N.length c, .int .i64 (r : Int)] 28)).alloc (.cells #[.int .i64 6, .string nm, .bool no, .slice (some ⟨gk, 0, none⟩) 1 ck] 92)) from by rw [hkI] at hbel; exact hbel)
  have HT := Lib.hid (show w.heap.size + 1 < ((w.alloc (.cells #[.slice (some ⟨g, 0, none⟩) N.length c, .int .i64 (r : Int)] 28)).alloc (.cells #[.int .i64 6, .string nm, .bool no, .slice (some ⟨gk, 0, none⟩) 1 ck] 92)).heap.size ∧ gk < ((w.alloc (.cells #[.slice (some ⟨g, 0, none⟩) N.length c, .int .i64 (r : Int)] 28)).alloc (.cells #[.int .i64 6, .string nm, .bool no, .slice (some ⟨gk, 0, none⟩) 1 ck] 92)).heap.size from by rw [hkI] at htwo hgk; exact ⟨htwo, hgk⟩)
  clear hs hS hN hden hd hkids hS0 hN2 hbel htwo hgk hkc hk0 hmq htb hkd
  go_enter Try.func21, Try.ntmps21
  go_wp2_with fail
  clear c0 c1 p0 p1 p2 p3
  generalize World.alloc (World.alloc w _) _ = V at *
  have hS1 : HdS w.heap.size gk 0 j (.slice (some ⟨g, 0, none⟩) N.length c) r (.slice (some ⟨gk, 0, none⟩) 1 ck) V.drew := HS0.out
  have HN3 := Lib.hid (HN2.out.below (Below.refl _ V).drew)
  have HBL3 := Lib.hid HBL.out.drew
  have ht3 : w.heap.size + 1 < V.drew.heap.size := HT.out.1
  have hg3 : gk < V.drew.heap.size := HT.out.2
  clear HS0 HN2 HBL HT
  refine wp_region_last 7 (fun w' => HdS w.heap.size gk 0 j (.slice (some ⟨g, 0, none⟩) N.length c) r (.slice (some ⟨gk, 0, none⟩) 1 ck) w') mixed ?_
  generalize V.drew = w5 at *
  refine wpLast_take (i := 0) (oi := { dst := some 80, op := Op.load 28 (Operand.tmp 2), type := 28, pos := "pattern.go:297", after := #[], guard := none }) (v := ?_) rfl (by kernel_rfl) (by kernel_rfl) (by kernel_rfl) (by kernel_rfl) (fun _ _ _ h => h) (Or.inl ⟨by rfl, ?_⟩) (by assumption) ?_
  rotate_left
  · intro w hSw
    try dsimp only at hSw
    go_simp
    try with_reducible rfl
  try simp only [Act.put, List.setIfInBounds_toArray, List.set_cons_zero, List.set_cons_succ]
  refine wpLast_take (i := 1) (oi := { dst := some 81, op := Op.fieldAddr 92 (Operand.tmp 5) 3, type := 0, pos := "pattern.go:297", after := #[], guard := none }) (v := ?_) rfl (by kernel_rfl) (by kernel_rfl) (by kernel_rfl) (by kernel_rfl) (fun _ _ _ h => h) (Or.inl ⟨by rfl, ?_⟩) (by assumption) ?_
  rotate_left
  · intro w hSw
    try dsimp only at hSw
    go_simp
    try with_reducible rfl
  try simp only [Act.put, List.setIfInBounds_toArray, List.set_cons_zero, List.set_cons_succ]
  refine wpLast_take (i := 2) (oi := { dst := some 82, op := Op.load 72 (Operand.tmp 81), type := 72, pos := "pattern.go:297", after := #[{ on := 1, ground := Ground.data }], guard := none }) (v := ?_) rfl (by kernel_rfl) (by kernel_rfl) (by kernel_rfl) (by kernel_rfl) (fun _ _ _ h => h) (Or.inl ⟨by rfl, ?_⟩) (by assumption) ?_
  rotate_left
  · intro w hSw
    try dsimp only at hSw
    go_simp
    try with_reducible rfl
  try simp only [Act.put, List.setIfInBounds_toArray, List.set_cons_zero, List.set_cons_succ]
  refine wpLast_take (i := 3) (oi := { dst := some 83, op := Op.indexAddr 72 (Operand.tmp 82) (Operand.const (Value.int IntKind.i64 0)), type := 0, pos := "pattern.go:297", after := #[{ on := 2, ground := Ground.data }], guard := none }) (v := ?_) rfl (by kernel_rfl) (by kernel_rfl) (by kernel_rfl) (by kernel_rfl) (fun _ _ _ h => h) (Or.inl ⟨by rfl, ?_⟩) (by assumption) ?_
  rotate_left
  · intro w hSw
    try dsimp only at hSw
    go_simp
    try with_reducible rfl
  try simp only [Act.put, List.setIfInBounds_toArray, List.set_cons_zero, List.set_cons_succ]
  refine wpLast_take (i := 4) (oi := { dst := some 84, op := Op.load 3 (Operand.tmp 83), type := 3, pos := "pattern.go:297", after := #[{ on := 3, ground := Ground.data }], guard := none }) (v := ?_) rfl (by kernel_rfl) (by kernel_rfl) (by kernel_rfl) (by kernel_rfl) (fun _ _ _ h => h) (Or.inl ⟨by rfl, ?_⟩) (by assumption) ?_
  rotate_left
  · intro w hSw
    try dsimp only at hSw
    go_simp
    try with_reducible rfl
  try simp only [Act.put, List.setIfInBounds_toArray, List.set_cons_zero, List.set_cons_succ]
  refine wpLast_ready (rs := [5]) (by kernel_rfl) (by simp) ?_
  refine EachLast.cons (o := { dst := some 85, op := Op.call { callee := Callee.value (Operand.func 34), args := #[Operand.tmp 80, Operand.tmp 84, Operand.const (Value.bool false)], argTypes := #[28, 3, 4] }, type := 9, pos := "pattern.go:297", after := #[{ on := 0, ground := Ground.data }, { on := 4, ground := Ground.data }], guard := none }) rfl (fun K hK => ?_) EachLast.nil
  go_simp
  refine (HBR.out w5 HN3.out).mono ?_
  rintro e w6 ⟨rfl, hb6⟩
  have hS6 := hS1.on hb6 ht3 hg3
  have HB := Lib.hid (bnx HBL3.out hb6)
  refine hK.out _ _ (fun _ => hS6) ?_
  try simp only [Act.put, List.setIfInBounds_toArray, List.set_cons_zero, List.set_cons_succ]
  refine wpLast_ready (rs := [6]) (by kernel_rfl) (by simp) ?_
  refine EachLast.cons (o := { dst := some 86, op := Op.binOp BinOp.add 9 (Operand.tmp 85) (Operand.const (Value.string { data := #[42] })) 9, type := 9, pos := "pattern.go:297", after := #[{ on := 5, ground := Ground.data }], guard := none }) rfl (fun K hK => ?_) EachLast.nil
  go_simp
  refine hK.out _ _ (fun _ => hS6) ?_
  try simp only [Act.put, List.setIfInBounds_toArray, List.set_cons_zero, List.set_cons_succ]
  refine wpLast_ready (rs := [7]) (by kernel_rfl) (by simp) ?_
  refine EachLast.cons (o := { dst := some 4, op := Op.assign (Operand.tmp 86), type := 9, pos := "pattern.go:297", after := #[{ on := 6, ground := Ground.data }, { on := 5, ground := Ground.chain }, { on := 0, ground := Ground.phase }, { on := 1, ground := Ground.phase }, { on := 2, ground := Ground.phase }, { on := 3, ground := Ground.phase }, { on := 4, ground := Ground.phase }, { on := 5, ground := Ground.phase }, { on := 6, ground := Ground.phase }], guard := none }) rfl (fun K hK => ?_) EachLast.nil
  go_simp
  refine hK.out _ _ (fun h => absurd rfl h) ?_
  try simp only [Act.put, List.setIfInBounds_toArray, List.set_cons_zero, List.set_cons_succ]
  refine wpLast_done (by kernel_rfl) ?_ _
  go_wp2_with fail
  go_ret
  exact ⟨congrArg (fun x => Ending.returned (Value.string x)) HE.out, HB.out⟩
set_option maxRecDepth 100000 in
set_option maxHeartbeats 8000000 in
theorem said_suf_43 {t : T} (hs : SaidC t) (hb : bd t ≤ 80000) : SaidC (.suf t 43) := by
  intro w B nv N k r hN hden
  have hlen := hN.len
  have hkl := hden.lt
  obtain ⟨d, j, hd, hkd, hkids, hdj⟩ : ∃ d j, N[k]? = some d ∧ d.kind = 7 ∧ d.kids = [j] ∧ Den N j t := by
    cases hden with
    | suf k d j t c h1 h2 h3 h4 h5 => exact ⟨d, j, h1, h2, h3, h5⟩
  obtain ⟨g, c, rfl, p0, p1, p2, p3⟩ := nd_cells (o := .cells #[nv, .int .i64 (r : Int)] 28) hN hd
  have c0 := (Blk.new w 28 #[.slice (some ⟨g, 0, none⟩) N.length c, .int .i64 (r : Int)]).cell 0
  have c1 := (Blk.new w 28 #[.slice (some ⟨g, 0, none⟩) N.length c, .int .i64 (r : Int)]).cell 1
  have hS := Sd.start w (.slice (some ⟨g, 0, none⟩) N.length c) r d
  have hN2 := (hN.below ((Below.refl _ w).alloc (Nat.le_refl _) (.cells #[.slice (some ⟨g, 0, none⟩) N.length c, .int .i64 (r : Int)] 28))).below ((Below.refl _ _).alloc (Nat.le_refl _) (.cells #[.int .i64 (d.kind : Int), .string d.name, .bool d.no, d.kv] 92))
  obtain ⟨gk, ck, hkv, hgk, hkc⟩ := kid_cell hN2 hd (i := 0) (by simp [hkids])
  have hk0 : d.kids[0]'(by simp [hkids]) = j := by simp [hkids]
  rw [hk0] at hkc
  rw [hkids] at hkv
  have i0 : (0 : Int) ≤ (k : Int) := by omega
  have i1 : (k : Int) < (N.length : Int) := by omega
  have hwk : IntKind.i64.wrap (k : Int) = (k : Int) := IntWalk.i64_in _ (by omega)
  have htb := txt_bd t
  have hz : (str (brk (isMany t) (txt t))).size ≤ 90000 := by rw [str_size]; have := brk_len (isMany t) (txt t); omega
  have HE := Lib.hid (show str (brk (isMany t) (txt t)) ++ ⟨#[43]⟩ = str (txt (.suf t 43)) from by
    show _ ++ str [43] = _
    rw [str_app, txt])
  have hkI : (d.kind : Int) = 7 := by omega
  have HBR := Lib.hid (fun (X : World) (hX : NS X B (.slice (some ⟨g, 0, none⟩) N.length c) N) => rbracketed_any hs (by omega) false X B _ N j r hX hdj)
  have hmq : (isAlt t || (!false && isSq t)) = isMany t := by rw [many_or]; rfl
  rw [hmq] at HBR
  obtain ⟨kd, nm, no, kv, kids⟩ := d
  dsimp only at hkv hkc hkI p0 p1 p2 p3 hS hN2 hgk
  subst hkv
  have hS0 : HdS w.heap.size gk 0 j (.slice (some ⟨g, 0, none⟩) N.length c) r (.slice (some ⟨gk, 0, none⟩) 1 ck) _ := ⟨hS.p0, hS.p1, hS.x3, hkc⟩
  have hbel := hS.bel
  have htwo := hS.two
  generalize str (brk (isMany t) (txt t)) = z at *
  have hz2 : ¬ 9223372036854775807 < z.size + 1 := by omega
  have HS0 := Lib.hid (show HdS w.heap.size gk 0 j (.slice (some ⟨g, 0, none⟩) N.length c) r (.slice (some ⟨gk, 0, none⟩) 1 ck) ((w.alloc (.cells #[.slice (some ⟨g, 0, none⟩) N.length c, .int .i64 (r : Int)] 28)).alloc (.cells #[.int .i64 7, .string nm, .bool no, .slice (some ⟨gk, 0, none⟩) 1 ck] 92)) from by rw [hkI] at hS0; exact hS0)
  have HN2 := Lib.hid (show NS ((w.alloc (.cells #[.slice (some ⟨g, 0, none⟩) N.length c, .int .i64 (r : Int)] 28)).alloc (.cells #[.int .i64 7, .string nm, .bool no, .slice (some ⟨gk, 0, none⟩) 1 ck] 92)) B (.slice (some ⟨g, 0, none⟩) N.length c) N from by rw [hkI] at hN2; exact hN2)
  have HBL := Lib.hid (show Below w.heap.size w ((w.alloc (.cells #[.slice (some ⟨g, 0, none⟩) N.length c, .int .i64 (r : Int)] 28)).alloc (.cells #[.int .i64 7, .string nm, .bool no, .slice (some ⟨gk, 0, none⟩) 1 ck] 92)) from by rw [hkI] at hbel; exact hbel)
  have HT := Lib.hid (show w.heap.size + 1 < ((w.alloc (.cells #[.slice (some ⟨g, 0, none⟩) N.length c, .int .i64 (r : Int)] 28)).alloc (.cells #[.int .i64 7, .string nm, .bool no, .slice (some ⟨gk, 0, none⟩) 1 ck] 92)).heap.size ∧ gk < ((w.alloc (.cells #[.slice (some ⟨g, 0, none⟩) N.length c, .int .i64 (r : Int)] 28)).alloc (.cells #[.int .i64 7, .string nm, .bool no, .slice (some ⟨gk, 0, none⟩) 1 ck] 92)).heap.size from by rw [hkI] at htwo hgk; exact ⟨htwo, hgk⟩)
  clear hs hS hN hden hd hkids hS0 hN2 hbel htwo hgk hkc hk0 hmq htb hkd
  go_enter Try.func21, Try.ntmps21
  go_wp2_with fail
  clear c0 c1 p0 p1 p2 p3
  generalize World.alloc (World.alloc w _) _ = V at *
  have hS1 : HdS w.heap.size gk 0 j (.slice (some ⟨g, 0, none⟩) N.length c) r (.slice (some ⟨gk, 0, none⟩) 1 ck) V.drew := HS0.out
  have HN3 := Lib.hid (HN2.out.below (Below.refl _ V).drew)
  have HBL3 := Lib.hid HBL.out.drew
  have ht3 : w.heap.size + 1 < V.drew.heap.size := HT.out.1
  have hg3 : gk < V.drew.heap.size := HT.out.2
  clear HS0 HN2 HBL HT
  refine wp_region_last 7 (fun w' => HdS w.heap.size gk 0 j (.slice (some ⟨g, 0, none⟩) N.length c) r (.slice (some ⟨gk, 0, none⟩) 1 ck) w') mixed ?_
  generalize V.drew = w5 at *
  refine wpLast_take (i := 0) (oi := { dst := some 89, op := Op.load 28 (Operand.tmp 2), type := 28, pos := "pattern.go:299", after := #[], guard := none }) (v := ?_) rfl (by kernel_rfl) (by kernel_rfl) (by kernel_rfl) (by kernel_rfl) (fun _ _ _ h => h) (Or.inl ⟨by rfl, ?_⟩) (by assumption) ?_
  rotate_left
  · intro w hSw
    try dsimp only at hSw
    go_simp
    try with_reducible rfl
  try simp only [Act.put, List.setIfInBounds_toArray, List.set_cons_zero, List.set_cons_succ]
  refine wpLast_take (i := 1) (oi := { dst := some 90, op := Op.fieldAddr 92 (Operand.tmp 5) 3, type := 0, pos := "pattern.go:299", after := #[], guard := none }) (v := ?_) rfl (by kernel_rfl) (by kernel_rfl) (by kernel_rfl) (by kernel_rfl) (fun _ _ _ h => h) (Or.inl ⟨by rfl, ?_⟩) (by assumption) ?_
  rotate_left
  · intro w hSw
    try dsimp only at hSw
    go_simp
    try with_reducible rfl
  try simp only [Act.put, List.setIfInBounds_toArray, List.set_cons_zero, List.set_cons_succ]
  refine wpLast_take (i := 2) (oi := { dst := some 91, op := Op.load 72 (Operand.tmp 90), type := 72, pos := "pattern.go:299", after := #[{ on := 1, ground := Ground.data }], guard := none }) (v := ?_) rfl (by kernel_rfl) (by kernel_rfl) (by kernel_rfl) (by kernel_rfl) (fun _ _ _ h => h) (Or.inl ⟨by rfl, ?_⟩) (by assumption) ?_
  rotate_left
  · intro w hSw
    try dsimp only at hSw
    go_simp
    try with_reducible rfl
  try simp only [Act.put, List.setIfInBounds_toArray, List.set_cons_zero, List.set_cons_succ]
  refine wpLast_take (i := 3) (oi := { dst := some 92, op := Op.indexAddr 72 (Operand.tmp 91) (Operand.const (Value.int IntKind.i64 0)), type := 0, pos := "pattern.go:299", after := #[{ on := 2, ground := Ground.data }], guard := none }) (v := ?_) rfl (by kernel_rfl) (by kernel_rfl) (by kernel_rfl) (by kernel_rfl) (fun _ _ _ h => h) (Or.inl ⟨by rfl, ?_⟩) (by assumption) ?_
  rotate_left
  · intro w hSw
    try dsimp only at hSw
    go_simp
    try with_reducible rfl
  try simp only [Act.put, List.setIfInBounds_toArray, List.set_cons_zero, List.set_cons_succ]
  refine wpLast_take (i := 4) (oi := { dst := some 93, op := Op.load 3 (Operand.tmp 92), type := 3, pos := "pattern.go:299", after := #[{ on := 3, ground := Ground.data }], guard := none }) (v := ?_) rfl (by kernel_rfl) (by kernel_rfl) (by kernel_rfl) (by kernel_rfl) (fun _ _ _ h => h) (Or.inl ⟨by rfl, ?_⟩) (by assumption) ?_
  rotate_left
  · intro w hSw
    try dsimp only at hSw
    go_simp
    try with_reducible rfl
  try simp only [Act.put, List.setIfInBounds_toArray, List.set_cons_zero, List.set_cons_succ]
  refine wpLast_ready (rs := [5]) (by kernel_rfl) (by simp) ?_
  refine EachLast.cons (o := { dst := some 94, op := Op.call { callee := Callee.value (Operand.func 34), args := #[Operand.tmp 89, Operand.tmp 93, Operand.const (Value.bool false)], argTypes := #[28, 3, 4] }, type := 9, pos := "pattern.go:299", after := #[{ on := 0, ground := Ground.data }, { on := 4, ground := Ground.data }], guard := none }) rfl (fun K hK => ?_) EachLast.nil
  go_simp
  refine (HBR.out w5 HN3.out).mono ?_
  rintro e w6 ⟨rfl, hb6⟩
  have hS6 := hS1.on hb6 ht3 hg3
  have HB := Lib.hid (bnx HBL3.out hb6)
  refine hK.out _ _ (fun _ => hS6) ?_
  try simp only [Act.put, List.setIfInBounds_toArray, List.set_cons_zero, List.set_cons_succ]
  refine wpLast_ready (rs := [6]) (by kernel_rfl) (by simp) ?_
  refine EachLast.cons (o := { dst := some 95, op := Op.binOp BinOp.add 9 (Operand.tmp 94) (Operand.const (Value.string { data := #[43] })) 9, type := 9, pos := "pattern.go:299", after := #[{ on := 5, ground := Ground.data }], guard := none }) rfl (fun K hK => ?_) EachLast.nil
  go_simp
  refine hK.out _ _ (fun _ => hS6) ?_
  try simp only [Act.put, List.setIfInBounds_toArray, List.set_cons_zero, List.set_cons_succ]
  refine wpLast_ready (rs := [7]) (by kernel_rfl) (by simp) ?_
  refine EachLast.cons (o := { dst := some 4, op := Op.assign (Operand.tmp 95), type := 9, pos := "pattern.go:299", after := #[{ on := 6, ground := Ground.data }, { on := 5, ground := Ground.chain }, { on := 0, ground := Ground.phase }, { on := 1, ground := Ground.phase }, { on := 2, ground := Ground.phase }, { on := 3, ground := Ground.phase }, { on := 4, ground := Ground.phase }, { on := 5, ground := Ground.phase }, { on := 6, ground := Ground.phase }], guard := none }) rfl (fun K hK => ?_) EachLast.nil
  go_simp
  refine hK.out _ _ (fun h => absurd rfl h) ?_
  try simp only [Act.put, List.setIfInBounds_toArray, List.set_cons_zero, List.set_cons_succ]
  refine wpLast_done (by kernel_rfl) ?_ _
  go_wp2_with fail
  go_ret
  exact ⟨congrArg (fun x => Ending.returned (Value.string x)) HE.out, HB.out⟩
set_option maxRecDepth 100000 in
set_option maxHeartbeats 8000000 in
theorem said_suf_63 {t : T} (hs : SaidC t) (hb : bd t ≤ 80000) : SaidC (.suf t 63) := by
  intro w B nv N k r hN hden
  have hlen := hN.len
  have hkl := hden.lt
  obtain ⟨d, j, hd, hkd, hkids, hdj⟩ : ∃ d j, N[k]? = some d ∧ d.kind = 8 ∧ d.kids = [j] ∧ Den N j t := by
    cases hden with
    | suf k d j t c h1 h2 h3 h4 h5 => exact ⟨d, j, h1, h2, h3, h5⟩
  obtain ⟨g, c, rfl, p0, p1, p2, p3⟩ := nd_cells (o := .cells #[nv, .int .i64 (r : Int)] 28) hN hd
  have c0 := (Blk.new w 28 #[.slice (some ⟨g, 0, none⟩) N.length c, .int .i64 (r : Int)]).cell 0
  have c1 := (Blk.new w 28 #[.slice (some ⟨g, 0, none⟩) N.length c, .int .i64 (r : Int)]).cell 1
  have hS := Sd.start w (.slice (some ⟨g, 0, none⟩) N.length c) r d
  have hN2 := (hN.below ((Below.refl _ w).alloc (Nat.le_refl _) (.cells #[.slice (some ⟨g, 0, none⟩) N.length c, .int .i64 (r : Int)] 28))).below ((Below.refl _ _).alloc (Nat.le_refl _) (.cells #[.int .i64 (d.kind : Int), .string d.name, .bool d.no, d.kv] 92))
  obtain ⟨gk, ck, hkv, hgk, hkc⟩ := kid_cell hN2 hd (i := 0) (by simp [hkids])
  have hk0 : d.kids[0]'(by simp [hkids]) = j := by simp [hkids]
  rw [hk0] at hkc
  rw [hkids] at hkv
  have i0 : (0 : Int) ≤ (k : Int) := by omega
  have i1 : (k : Int) < (N.length : Int) := by omega
  have hwk : IntKind.i64.wrap (k : Int) = (k : Int) := IntWalk.i64_in _ (by omega)
  have htb := txt_bd t
  have hz : (str (brk (isMany t) (txt t))).size ≤ 90000 := by rw [str_size]; have := brk_len (isMany t) (txt t); omega
  have HE := Lib.hid (show str (brk (isMany t) (txt t)) ++ ⟨#[63]⟩ = str (txt (.suf t 63)) from by
    show _ ++ str [63] = _
    rw [str_app, txt])
  have hkI : (d.kind : Int) = 8 := by omega
  have HBR := Lib.hid (fun (X : World) (hX : NS X B (.slice (some ⟨g, 0, none⟩) N.length c) N) => rbracketed_any hs (by omega) false X B _ N j r hX hdj)
  have hmq : (isAlt t || (!false && isSq t)) = isMany t := by rw [many_or]; rfl
  rw [hmq] at HBR
  obtain ⟨kd, nm, no, kv, kids⟩ := d
  dsimp only at hkv hkc hkI p0 p1 p2 p3 hS hN2 hgk
  subst hkv
  have hS0 : HdS w.heap.size gk 0 j (.slice (some ⟨g, 0, none⟩) N.length c) r (.slice (some ⟨gk, 0, none⟩) 1 ck) _ := ⟨hS.p0, hS.p1, hS.x3, hkc⟩
  have hbel := hS.bel
  have htwo := hS.two
  generalize str (brk (isMany t) (txt t)) = z at *
  have hz2 : ¬ 9223372036854775807 < z.size + 1 := by omega
  have HS0 := Lib.hid (show HdS w.heap.size gk 0 j (.slice (some ⟨g, 0, none⟩) N.length c) r (.slice (some ⟨gk, 0, none⟩) 1 ck) ((w.alloc (.cells #[.slice (some ⟨g, 0, none⟩) N.length c, .int .i64 (r : Int)] 28)).alloc (.cells #[.int .i64 8, .string nm, .bool no, .slice (some ⟨gk, 0, none⟩) 1 ck] 92)) from by rw [hkI] at hS0; exact hS0)
  have HN2 := Lib.hid (show NS ((w.alloc (.cells #[.slice (some ⟨g, 0, none⟩) N.length c, .int .i64 (r : Int)] 28)).alloc (.cells #[.int .i64 8, .string nm, .bool no, .slice (some ⟨gk, 0, none⟩) 1 ck] 92)) B (.slice (some ⟨g, 0, none⟩) N.length c) N from by rw [hkI] at hN2; exact hN2)
  have HBL := Lib.hid (show Below w.heap.size w ((w.alloc (.cells #[.slice (some ⟨g, 0, none⟩) N.length c, .int .i64 (r : Int)] 28)).alloc (.cells #[.int .i64 8, .string nm, .bool no, .slice (some ⟨gk, 0, none⟩) 1 ck] 92)) from by rw [hkI] at hbel; exact hbel)
  have HT := Lib.hid (show w.heap.size + 1 < ((w.alloc (.cells #[.slice (some ⟨g, 0, none⟩) N.length c, .int .i64 (r : Int)] 28)).alloc (.cells #[.int .i64 8, .string nm, .bool no, .slice (some ⟨gk, 0, none⟩) 1 ck] 92)).heap.size ∧ gk < ((w.alloc (.cells #[.slice (some ⟨g, 0, none⟩) N.length c, .int .i64 (r : Int)] 28)).alloc (.cells #[.int .i64 8, .string nm, .bool no, .slice (some ⟨gk, 0, none⟩) 1 ck] 92)).heap.size from by rw [hkI] at htwo hgk; exact ⟨htwo, hgk⟩)
  clear hs hS hN hden hd hkids hS0 hN2 hbel htwo hgk hkc hk0 hmq htb hkd
  go_enter Try.func21, Try.ntmps21
  go_wp2_with fail
  clear c0 c1 p0 p1 p2 p3
  generalize World.alloc (World.alloc w _) _ = V at *
  have hS1 : HdS w.heap.size gk 0 j (.slice (some ⟨g, 0, none⟩) N.length c) r (.slice (some ⟨gk, 0, none⟩) 1 ck) V.drew := HS0.out
  have HN3 := Lib.hid (HN2.out.below (Below.refl _ V).drew)
  have HBL3 := Lib.hid HBL.out.drew
  have ht3 : w.heap.size + 1 < V.drew.heap.size := HT.out.1
  have hg3 : gk < V.drew.heap.size := HT.out.2
  clear HS0 HN2 HBL HT
  refine wp_region_last 7 (fun w' => HdS w.heap.size gk 0 j (.slice (some ⟨g, 0, none⟩) N.length c) r (.slice (some ⟨gk, 0, none⟩) 1 ck) w') mixed ?_
  generalize V.drew = w5 at *
  refine wpLast_take (i := 0) (oi := { dst := some 96, op := Op.load 28 (Operand.tmp 2), type := 28, pos := "pattern.go:301", after := #[], guard := none }) (v := ?_) rfl (by kernel_rfl) (by kernel_rfl) (by kernel_rfl) (by kernel_rfl) (fun _ _ _ h => h) (Or.inl ⟨by rfl, ?_⟩) (by assumption) ?_
  rotate_left
  · intro w hSw
    try dsimp only at hSw
    go_simp
    try with_reducible rfl
  try simp only [Act.put, List.setIfInBounds_toArray, List.set_cons_zero, List.set_cons_succ]
  refine wpLast_take (i := 1) (oi := { dst := some 97, op := Op.fieldAddr 92 (Operand.tmp 5) 3, type := 0, pos := "pattern.go:301", after := #[], guard := none }) (v := ?_) rfl (by kernel_rfl) (by kernel_rfl) (by kernel_rfl) (by kernel_rfl) (fun _ _ _ h => h) (Or.inl ⟨by rfl, ?_⟩) (by assumption) ?_
  rotate_left
  · intro w hSw
    try dsimp only at hSw
    go_simp
    try with_reducible rfl
  try simp only [Act.put, List.setIfInBounds_toArray, List.set_cons_zero, List.set_cons_succ]
  refine wpLast_take (i := 2) (oi := { dst := some 98, op := Op.load 72 (Operand.tmp 97), type := 72, pos := "pattern.go:301", after := #[{ on := 1, ground := Ground.data }], guard := none }) (v := ?_) rfl (by kernel_rfl) (by kernel_rfl) (by kernel_rfl) (by kernel_rfl) (fun _ _ _ h => h) (Or.inl ⟨by rfl, ?_⟩) (by assumption) ?_
  rotate_left
  · intro w hSw
    try dsimp only at hSw
    go_simp
    try with_reducible rfl
  try simp only [Act.put, List.setIfInBounds_toArray, List.set_cons_zero, List.set_cons_succ]
  refine wpLast_take (i := 3) (oi := { dst := some 99, op := Op.indexAddr 72 (Operand.tmp 98) (Operand.const (Value.int IntKind.i64 0)), type := 0, pos := "pattern.go:301", after := #[{ on := 2, ground := Ground.data }], guard := none }) (v := ?_) rfl (by kernel_rfl) (by kernel_rfl) (by kernel_rfl) (by kernel_rfl) (fun _ _ _ h => h) (Or.inl ⟨by rfl, ?_⟩) (by assumption) ?_
  rotate_left
  · intro w hSw
    try dsimp only at hSw
    go_simp
    try with_reducible rfl
  try simp only [Act.put, List.setIfInBounds_toArray, List.set_cons_zero, List.set_cons_succ]
  refine wpLast_take (i := 4) (oi := { dst := some 100, op := Op.load 3 (Operand.tmp 99), type := 3, pos := "pattern.go:301", after := #[{ on := 3, ground := Ground.data }], guard := none }) (v := ?_) rfl (by kernel_rfl) (by kernel_rfl) (by kernel_rfl) (by kernel_rfl) (fun _ _ _ h => h) (Or.inl ⟨by rfl, ?_⟩) (by assumption) ?_
  rotate_left
  · intro w hSw
    try dsimp only at hSw
    go_simp
    try with_reducible rfl
  try simp only [Act.put, List.setIfInBounds_toArray, List.set_cons_zero, List.set_cons_succ]
  refine wpLast_ready (rs := [5]) (by kernel_rfl) (by simp) ?_
  refine EachLast.cons (o := { dst := some 101, op := Op.call { callee := Callee.value (Operand.func 34), args := #[Operand.tmp 96, Operand.tmp 100, Operand.const (Value.bool false)], argTypes := #[28, 3, 4] }, type := 9, pos := "pattern.go:301", after := #[{ on := 0, ground := Ground.data }, { on := 4, ground := Ground.data }], guard := none }) rfl (fun K hK => ?_) EachLast.nil
  go_simp
  refine (HBR.out w5 HN3.out).mono ?_
  rintro e w6 ⟨rfl, hb6⟩
  have hS6 := hS1.on hb6 ht3 hg3
  have HB := Lib.hid (bnx HBL3.out hb6)
  refine hK.out _ _ (fun _ => hS6) ?_
  try simp only [Act.put, List.setIfInBounds_toArray, List.set_cons_zero, List.set_cons_succ]
  refine wpLast_ready (rs := [6]) (by kernel_rfl) (by simp) ?_
  refine EachLast.cons (o := { dst := some 102, op := Op.binOp BinOp.add 9 (Operand.tmp 101) (Operand.const (Value.string { data := #[63] })) 9, type := 9, pos := "pattern.go:301", after := #[{ on := 5, ground := Ground.data }], guard := none }) rfl (fun K hK => ?_) EachLast.nil
  go_simp
  refine hK.out _ _ (fun _ => hS6) ?_
  try simp only [Act.put, List.setIfInBounds_toArray, List.set_cons_zero, List.set_cons_succ]
  refine wpLast_ready (rs := [7]) (by kernel_rfl) (by simp) ?_
  refine EachLast.cons (o := { dst := some 4, op := Op.assign (Operand.tmp 102), type := 9, pos := "pattern.go:301", after := #[{ on := 6, ground := Ground.data }, { on := 5, ground := Ground.chain }, { on := 0, ground := Ground.phase }, { on := 1, ground := Ground.phase }, { on := 2, ground := Ground.phase }, { on := 3, ground := Ground.phase }, { on := 4, ground := Ground.phase }, { on := 5, ground := Ground.phase }, { on := 6, ground := Ground.phase }], guard := none }) rfl (fun K hK => ?_) EachLast.nil
  go_simp
  refine hK.out _ _ (fun h => absurd rfl h) ?_
  try simp only [Act.put, List.setIfInBounds_toArray, List.set_cons_zero, List.set_cons_succ]
  refine wpLast_done (by kernel_rfl) ?_ _
  go_wp2_with fail
  go_ret
  exact ⟨congrArg (fun x => Ending.returned (Value.string x)) HE.out, HB.out⟩
end Go.Proofs.Ytlbkacabcfeaiaa.Tl
/- Patterns: the reference says sequences and choices. Printed by mksaid.py. -/
namespace Go.Proofs.Ytlbkacabcfeaiaa.Tl
open Go.RowKit Mm
set_option linter.unusedVariables false
theorem join_snoc (sep : List UInt8) (xs : List (List UInt8)) (y : List UInt8) : Lib.join (xs ++ [y]) sep = if xs = [] then y else Lib.join xs sep ++ sep ++ y := by
  cases xs with
  | nil => rw [if_pos rfl, List.nil_append, Lib.join_one]
  | cons a r =>
    rw [if_neg (by simp), List.cons_append, Lib.join_cons, Lib.join_cons]
    unfold Lib.joinTail
    rw [List.map_append, List.flatten_append]
    simp
theorem take_nil {l : List T} {k : Nat} (h : k < l.length) (f : T → List UInt8) : (l.take k).map f = [] ↔ k = 0 := by
  rw [List.map_eq_nil_iff, List.take_eq_nil_iff]
  constructor
  · rintro (h1 | h1)
    · exact h1
    · rw [h1] at h; simp at h
  · exact .inl
theorem seq_step {l : List T} {k : Nat} (h : k < l.length) : txt (.seq (l.take (k + 1))) = if k = 0 then brk (isAlt l[k]) (txt l[k]) else txt (.seq (l.take k)) ++ [32] ++ brk (isAlt l[k]) (txt l[k]) := by
  rw [txt, txt, txtS_map, txtS_map, List.take_succ_eq_append_getElem h, List.map_append, List.map_singleton, join_snoc]
  by_cases hk : k = 0
  · rw [if_pos hk, if_pos ((take_nil h _).2 hk)]
  · rw [if_neg hk, if_neg (fun e => hk ((take_nil h _).1 e))]
theorem alt_step {l : List T} {k : Nat} (h : k < l.length) : txt (.alt (l.take (k + 1))) = if k = 0 then orUnit (txt l[k]) else txt (.alt (l.take k)) ++ [32, 124, 32] ++ orUnit (txt l[k]) := by
  rw [txt, txt, txtA_map, txtA_map, List.take_succ_eq_append_getElem h, List.map_append, List.map_singleton, join_snoc]
  by_cases hk : k = 0
  · rw [if_pos hk, if_pos ((take_nil h _).2 hk)]
  · rw [if_neg hk, if_neg (fun e => hk ((take_nil h _).1 e))]
theorem take_bd (l : List T) (k : Nat) : bdL (l.take k) ≤ bdL l := by
  conv => rhs; rw [← List.take_append_drop k l, bdL_app]
  omega
set_option maxRecDepth 100000 in
set_option maxHeartbeats 16000000 in
theorem said_seq {l : List T} (hall : ∀ t ∈ l, SaidC t) (hb : bdL l ≤ 80000) : SaidC (.seq l) := by
  intro w B nv N k r hN hden
  have hlen := hN.len
  have hkl := hden.lt
  obtain ⟨d, hd, hkd, hkids, hdj⟩ : ∃ d, N[k]? = some d ∧ d.kind = 4 ∧ d.kids.length = l.length ∧ ∀ (i j : Nat) (t : T), d.kids[i]? = some j → l[i]? = some t → Den N j t := by
    cases hden with
    | seq k d l h1 h2 h3 h4 => exact ⟨d, h1, h2, h3, h4⟩
  obtain ⟨g, c, hnv, p0, p1, p2, p3⟩ := nd_cells (o := .cells #[nv, .int .i64 (r : Int)] 28) hN hd
  have c0 := (Blk.new w 28 #[nv, .int .i64 (r : Int)]).cell 0
  have c1 := (Blk.new w 28 #[nv, .int .i64 (r : Int)]).cell 1
  have hS := Sd.start w nv r d
  have hN2 := (hN.below ((Below.refl _ w).alloc (Nat.le_refl _) (.cells #[nv, .int .i64 (r : Int)] 28))).below ((Below.refl _ _).alloc (Nat.le_refl _) (.cells #[.int .i64 (d.kind : Int), .string d.name, .bool d.no, d.kv] 92))
  obtain ⟨ak, ck0, hkv, _⟩ := Fz.form (hN.kid d (List.mem_of_getElem? hd))
  rw [hkids] at hkv
  have i0 : (0 : Int) ≤ (k : Int) := by omega
  have i1 : (k : Int) < (N.length : Int) := by omega
  have hwk : IntKind.i64.wrap (k : Int) = (k : Int) := IntWalk.i64_in _ (by omega)
  have hll := bdL_len l
  have HW := Lib.hid hall
  have HKC := Lib.hid (show ∀ (X : World) (m : Nat) (h : m < l.length), NS X B nv N → ∃ gk ck j, d.kv = .slice (some ⟨gk, 0, none⟩) l.length ck ∧ gk < X.heap.size ∧ X.cell? ⟨gk, m, none⟩ = some (.int .i64 ((j : Nat) : Int)) ∧ Den N j l[m] from fun X m h hX => by
    obtain ⟨gk, ck, h1, h2, h3⟩ := kid_cell hX hd (i := m) (by omega)
    rw [hkids] at h1
    exact ⟨gk, ck, _, h1, h2, h3, hdj m _ _ (List.getElem?_eq_getElem (by omega)) (List.getElem?_eq_getElem h)⟩)
  have HTX := Lib.hid (show txt (.seq (l.take l.length)) = txt (.seq l) from by rw [List.take_length])
  have HBD := Lib.hid (show ∀ m, (txt (.seq (l.take m))).length ≤ 80010 from fun m => by have h1 := txt_bd (.seq (l.take m)); have h2 := take_bd l m; simp only [bd] at h1; omega)
  have hkI : (d.kind : Int) = 4 := by omega
  clear hall hN hden hdj hkd
  have HSt := Lib.hid (show Sd w nv r d ((w.alloc (.cells #[nv, .int .i64 (r : Int)] 28)).alloc (.cells #[.int .i64 4, .string d.name, .bool d.no, .slice ak l.length ck0] 92)) from by rw [hkI, hkv] at hS; exact hS)
  have HNt := Lib.hid (show NS ((w.alloc (.cells #[nv, .int .i64 (r : Int)] 28)).alloc (.cells #[.int .i64 4, .string d.name, .bool d.no, .slice ak l.length ck0] 92)) B nv N from by rw [hkI, hkv] at hN2; exact hN2)
  rw [hkv] at p3
  have HKV := Lib.hid hkv
  clear hS hN2 hkv hkids
  go_enter Try.func21, Try.ntmps21
  have HNV := Lib.hid hnv
  rw [hnv]
  rw [hnv] at c0 c1 p0 p1 p2 p3 HSt HNt
  clear hnv
  go_wp2_with fail
  clear c0 c1 p0 p1 p2 p3
  rw [← HNV.out] at HSt HNt
  go_loopw [6, 7] (fun sv iv wr => ∃ m : Nat, m ≤ l.length ∧ iv = .int .i64 (m : Int) ∧ sv = .string (str (txt (.seq (l.take m)))) ∧ Sd w nv r d wr ∧ NS wr B nv N) (fun _ i _ => l.length - (intOf i).toNat)
  case atStart =>
    rw [← HNV.out]
    exact ⟨0, Nat.zero_le _, rfl, rfl, HSt.out, HNt.out⟩
  case round =>
    clear HSt HNt
    obtain ⟨m, hm, rfl, rfl, hsd, hns⟩ := hrel
    have HSD := Lib.hid hsd
    have HN := Lib.hid hns
    have hx3 := hsd.x3
    rw [HKV.out] at hx3
    have hp0 := hsd.p0
    have hp1 := hsd.p1
    clear hsd hns
    by_cases hlt : m < l.length
    · obtain ⟨gk, ck, j, hkv2, hgk, hkc, hdj⟩ := HKC.out wr m hlt HN.out
      rw [hkv2] at HKV
      obtain ⟨rfl, _, rfl⟩ : ak = some ⟨gk, 0, none⟩ ∧ True ∧ ck0 = ck := by have h := HKV.out; simp only [Value.slice.injEq] at h; exact ⟨h.1.symm, trivial, h.2.2.symm⟩
      have HSX := Lib.hid hx3
      have hls := HW.out l[m] (List.getElem_mem hlt)
      have hbt := bdL_mem (List.getElem_mem hlt)
      have HST := Lib.hid (seq_step hlt)
      have hJ := HBD.out m
      have htb := txt_bd l[m]
      have m0 : (0 : Int) ≤ (m : Int) := by omega
      have m1 : (m : Int) < (l.length : Int) := by omega
      have hwm : IntKind.i64.wrap (m : Int) = (m : Int) := IntWalk.i64_in _ (by omega)
      have HBR := Lib.hid (fun (X : World) (hX : NS X B nv N) => rbracketed_any hls (by omega) true X B nv N j r hX hdj)
      have hbr : (isAlt l[m] || (!true && isSq l[m])) = isAlt l[m] := by simp
      rw [hbr] at HBR
      have hzs : (str (txt (.seq (l.take m)))).size ≤ 80010 := by rw [str_size]; exact hJ
      have hz : (str (brk (isAlt l[m]) (txt l[m]))).size ≤ 90000 := by have := brk_len (isAlt l[m]) (txt l[m]); rw [str_size]; omega
      clear hls hdj hbr hJ htb
      generalize hX : brk (isAlt l[m]) (txt l[m]) = x at *
      clear hX
      by_cases hm0 : m = 0
      · rw [if_pos hm0] at HST
        have hmI : ¬ (0 : Int) < (m : Int) := by omega
        have HZ := Lib.hid (show str (txt (.seq (l.take m))) ++ str x = str (txt (.seq (l.take (m + 1)))) from by rw [HST.out, hm0, str_app]; rfl)
        have hz2 : ¬ 9223372036854775807 < (str (txt (.seq (l.take m)))).size + (str x).size := by omega
        clear hm0 HST
        generalize str (txt (.seq (l.take m))) = zs at *
        generalize str x = z at *
        go_wp2_with fail
        have hS1 : HdS w.heap.size gk m j nv r (.slice (some ⟨gk, 0, none⟩) l.length ck0) wr.drew := ⟨HSD.out.p0, HSD.out.p1, HSX.out, hkc⟩
        have HN3 := Lib.hid (HN.out.below (Below.refl _ wr).drew)
        have HSD3 := Lib.hid (HSD.out.on (Below.refl _ wr).drew)
        have ht3 : w.heap.size + 1 < wr.drew.heap.size := HSD.out.two
        have hg3 : gk < wr.drew.heap.size := hgk
        go_upto_region 17 with fail
        refine wp_region_last 9 (fun w' => HdS w.heap.size gk m j nv r (.slice (some ⟨gk, 0, none⟩) l.length ck0) w') mixed ?_
        clear hkc hx3
        generalize wr.drew = w5 at *
        refine wpLast_take (i := 0) (oi := { dst := some 42, op := Op.move (Operand.tmp 6), type := 9, pos := "pattern.go:281", after := #[], guard := none }) (v := ?_) rfl (by kernel_rfl) (by kernel_rfl) (by kernel_rfl) (by kernel_rfl) (fun _ _ _ h => h) (Or.inl ⟨by rfl, ?_⟩) (by assumption) ?_
        rotate_left
        · intro w hSw
          try dsimp only at hSw
          go_simp
          try with_reducible rfl
        try simp only [Act.put, List.setIfInBounds_toArray, List.set_cons_zero, List.set_cons_succ]
        refine wpLast_take (i := 1) (oi := { dst := some 43, op := Op.load 28 (Operand.tmp 2), type := 28, pos := "pattern.go:281", after := #[], guard := none }) (v := ?_) rfl (by kernel_rfl) (by kernel_rfl) (by kernel_rfl) (by kernel_rfl) (fun _ _ _ h => h) (Or.inl ⟨by rfl, ?_⟩) (by assumption) ?_
        rotate_left
        · intro w hSw
          try dsimp only at hSw
          go_simp
          try with_reducible rfl
        try simp only [Act.put, List.setIfInBounds_toArray, List.set_cons_zero, List.set_cons_succ]
        refine wpLast_take (i := 2) (oi := { dst := some 44, op := Op.fieldAddr 92 (Operand.tmp 5) 3, type := 0, pos := "pattern.go:281", after := #[], guard := none }) (v := ?_) rfl (by kernel_rfl) (by kernel_rfl) (by kernel_rfl) (by kernel_rfl) (fun _ _ _ h => h) (Or.inl ⟨by rfl, ?_⟩) (by assumption) ?_
        rotate_left
        · intro w hSw
          try dsimp only at hSw
          go_simp
          try with_reducible rfl
        try simp only [Act.put, List.setIfInBounds_toArray, List.set_cons_zero, List.set_cons_succ]
        refine wpLast_take (i := 3) (oi := { dst := some 45, op := Op.load 72 (Operand.tmp 44), type := 72, pos := "pattern.go:281", after := #[{ on := 2, ground := Ground.data }], guard := none }) (v := ?_) rfl (by kernel_rfl) (by kernel_rfl) (by kernel_rfl) (by kernel_rfl) (fun _ _ _ h => h) (Or.inl ⟨by rfl, ?_⟩) (by assumption) ?_
        rotate_left
        · intro w hSw
          try dsimp only at hSw
          go_simp
          try with_reducible rfl
        try simp only [Act.put, List.setIfInBounds_toArray, List.set_cons_zero, List.set_cons_succ]
        refine wpLast_take (i := 4) (oi := { dst := some 46, op := Op.move (Operand.tmp 7), type := 3, pos := "pattern.go:281", after := #[], guard := none }) (v := ?_) rfl (by kernel_rfl) (by kernel_rfl) (by kernel_rfl) (by kernel_rfl) (fun _ _ _ h => h) (Or.inl ⟨by rfl, ?_⟩) (by assumption) ?_
        rotate_left
        · intro w hSw
          try dsimp only at hSw
          go_simp
          try with_reducible rfl
        try simp only [Act.put, List.setIfInBounds_toArray, List.set_cons_zero, List.set_cons_succ]
        refine wpLast_take (i := 5) (oi := { dst := some 47, op := Op.indexAddr 72 (Operand.tmp 45) (Operand.tmp 46), type := 0, pos := "pattern.go:281", after := #[{ on := 3, ground := Ground.data }, { on := 4, ground := Ground.data }], guard := none }) (v := ?_) rfl (by kernel_rfl) (by kernel_rfl) (by kernel_rfl) (by kernel_rfl) (fun _ _ _ h => h) (Or.inl ⟨by rfl, ?_⟩) (by assumption) ?_
        rotate_left
        · intro w hSw
          try dsimp only at hSw
          go_simp
          try with_reducible rfl
        try simp only [Act.put, List.setIfInBounds_toArray, List.set_cons_zero, List.set_cons_succ]
        refine wpLast_take (i := 6) (oi := { dst := some 48, op := Op.load 3 (Operand.tmp 47), type := 3, pos := "pattern.go:281", after := #[{ on := 5, ground := Ground.data }], guard := none }) (v := ?_) rfl (by kernel_rfl) (by kernel_rfl) (by kernel_rfl) (by kernel_rfl) (fun _ _ _ h => h) (Or.inl ⟨by rfl, ?_⟩) (by assumption) ?_
        rotate_left
        · intro w hSw
          try dsimp only at hSw
          go_simp
          try with_reducible rfl
        try simp only [Act.put, List.setIfInBounds_toArray, List.set_cons_zero, List.set_cons_succ]
        refine wpLast_ready (rs := [7]) (by kernel_rfl) (by simp) ?_
        refine EachLast.cons (o := { dst := some 49, op := Op.call { callee := Callee.value (Operand.func 34), args := #[Operand.tmp 43, Operand.tmp 48, Operand.const (Value.bool true)], argTypes := #[28, 3, 4] }, type := 9, pos := "pattern.go:281", after := #[{ on := 1, ground := Ground.data }, { on := 6, ground := Ground.data }], guard := none }) rfl (fun K hK => ?_) EachLast.nil
        go_simp
        refine (HBR.out w5 HN3.out).mono ?_
        rintro e w6 ⟨rfl, hb6⟩
        have hS6 := hS1.on hb6 ht3 hg3
        have HSD6 := Lib.hid (HSD3.out.on hb6)
        have HN6 := Lib.hid (HN3.out.below hb6)
        clear hb6
        refine hK.out _ _ (fun _ => hS6) ?_
        try simp only [Act.put, List.setIfInBounds_toArray, List.set_cons_zero, List.set_cons_succ]
        refine wpLast_ready (rs := [8]) (by kernel_rfl) (by simp) ?_
        refine EachLast.cons (o := { dst := some 50, op := Op.binOp BinOp.add 9 (Operand.tmp 42) (Operand.tmp 49) 9, type := 9, pos := "pattern.go:281", after := #[{ on := 0, ground := Ground.data }, { on := 7, ground := Ground.data }], guard := none }) rfl (fun K hK => ?_) EachLast.nil
        go_simp
        refine hK.out _ _ (fun _ => hS6) ?_
        try simp only [Act.put, List.setIfInBounds_toArray, List.set_cons_zero, List.set_cons_succ]
        refine wpLast_ready (rs := [9]) (by kernel_rfl) (by simp) ?_
        refine EachLast.cons (o := { dst := some 6, op := Op.assign (Operand.tmp 50), type := 9, pos := "pattern.go:281", after := #[{ on := 8, ground := Ground.data }, { on := 7, ground := Ground.chain }, { on := 0, ground := Ground.phase }, { on := 1, ground := Ground.phase }, { on := 2, ground := Ground.phase }, { on := 3, ground := Ground.phase }, { on := 4, ground := Ground.phase }, { on := 5, ground := Ground.phase }, { on := 6, ground := Ground.phase }, { on := 7, ground := Ground.phase }, { on := 8, ground := Ground.phase }], guard := none }) rfl (fun K hK => ?_) EachLast.nil
        go_simp
        refine hK.out _ _ (fun h => absurd rfl h) ?_
        try simp only [Act.put, List.setIfInBounds_toArray, List.set_cons_zero, List.set_cons_succ]
        refine wpLast_done (by kernel_rfl) ?_ _
        go_wp2_with fail
        go_roundw
        case rel => exact ⟨m + 1, by omega, by go_num, by rw [← HZ.out], HSD6.out, HN6.out⟩
        case measure => simp [intOf]; omega
      · rw [if_neg hm0] at HST
        have hmI : (0 : Int) < (m : Int) := by omega
        have HZ := Lib.hid (show str (txt (.seq (l.take m))) ++ ⟨#[32]⟩ ++ str x = str (txt (.seq (l.take (m + 1)))) from by
          rw [HST.out]
          show str _ ++ str [32] ++ str x = _
          rw [str_app, str_app])
        have hzz : (str (txt (.seq (l.take m))) ++ (⟨#[32]⟩ : ByteArray)).size ≤ 80020 := by rw [ByteArray.size_append]; have : (⟨#[32]⟩ : ByteArray).size = 1 := rfl; omega
        have hz3 : ¬ 9223372036854775807 < (str (txt (.seq (l.take m)))).size + 1 := by omega
        have hz2 : ¬ 9223372036854775807 < (str (txt (.seq (l.take m))) ++ (⟨#[32]⟩ : ByteArray)).size + (str x).size := by omega
        clear hm0 HST
        generalize str (txt (.seq (l.take m))) = zs0 at *
        generalize str x = z at *
        go_wp2_with fail
        go_upto_region 17 with fail
        generalize zs0 ++ (⟨#[32]⟩ : ByteArray) = zs at *
        have hS1 : HdS w.heap.size gk m j nv r (.slice (some ⟨gk, 0, none⟩) l.length ck0) wr.drew := ⟨HSD.out.p0, HSD.out.p1, HSX.out, hkc⟩
        have HN3 := Lib.hid (HN.out.below (Below.refl _ wr).drew)
        have HSD3 := Lib.hid (HSD.out.on (Below.refl _ wr).drew)
        have ht3 : w.heap.size + 1 < wr.drew.heap.size := HSD.out.two
        have hg3 : gk < wr.drew.heap.size := hgk
        go_upto_region 17 with fail
        refine wp_region_last 9 (fun w' => HdS w.heap.size gk m j nv r (.slice (some ⟨gk, 0, none⟩) l.length ck0) w') mixed ?_
        clear hkc hx3
        generalize wr.drew = w5 at *
        refine wpLast_take (i := 0) (oi := { dst := some 42, op := Op.move (Operand.tmp 6), type := 9, pos := "pattern.go:281", after := #[], guard := none }) (v := ?_) rfl (by kernel_rfl) (by kernel_rfl) (by kernel_rfl) (by kernel_rfl) (fun _ _ _ h => h) (Or.inl ⟨by rfl, ?_⟩) (by assumption) ?_
        rotate_left
        · intro w hSw
          try dsimp only at hSw
          go_simp
          try with_reducible rfl
        try simp only [Act.put, List.setIfInBounds_toArray, List.set_cons_zero, List.set_cons_succ]
        refine wpLast_take (i := 1) (oi := { dst := some 43, op := Op.load 28 (Operand.tmp 2), type := 28, pos := "pattern.go:281", after := #[], guard := none }) (v := ?_) rfl (by kernel_rfl) (by kernel_rfl) (by kernel_rfl) (by kernel_rfl) (fun _ _ _ h => h) (Or.inl ⟨by rfl, ?_⟩) (by assumption) ?_
        rotate_left
        · intro w hSw
          try dsimp only at hSw
          go_simp
          try with_reducible rfl
        try simp only [Act.put, List.setIfInBounds_toArray, List.set_cons_zero, List.set_cons_succ]
        refine wpLast_take (i := 2) (oi := { dst := some 44, op := Op.fieldAddr 92 (Operand.tmp 5) 3, type := 0, pos := "pattern.go:281", after := #[], guard := none }) (v := ?_) rfl (by kernel_rfl) (by kernel_rfl) (by kernel_rfl) (by kernel_rfl) (fun _ _ _ h => h) (Or.inl ⟨by rfl, ?_⟩) (by assumption) ?_
        rotate_left
        · intro w hSw
          try dsimp only at hSw
          go_simp
          try with_reducible rfl
        try simp only [Act.put, List.setIfInBounds_toArray, List.set_cons_zero, List.set_cons_succ]
        refine wpLast_take (i := 3) (oi := { dst := some 45, op := Op.load 72 (Operand.tmp 44), type := 72, pos := "pattern.go:281", after := #[{ on := 2, ground := Ground.data }], guard := none }) (v := ?_) rfl (by kernel_rfl) (by kernel_rfl) (by kernel_rfl) (by kernel_rfl) (fun _ _ _ h => h) (Or.inl ⟨by rfl, ?_⟩) (by assumption) ?_
        rotate_left
        · intro w hSw
          try dsimp only at hSw
          go_simp
          try with_reducible rfl
        try simp only [Act.put, List.setIfInBounds_toArray, List.set_cons_zero, List.set_cons_succ]
        refine wpLast_take (i := 4) (oi := { dst := some 46, op := Op.move (Operand.tmp 7), type := 3, pos := "pattern.go:281", after := #[], guard := none }) (v := ?_) rfl (by kernel_rfl) (by kernel_rfl) (by kernel_rfl) (by kernel_rfl) (fun _ _ _ h => h) (Or.inl ⟨by rfl, ?_⟩) (by assumption) ?_
        rotate_left
        · intro w hSw
          try dsimp only at hSw
          go_simp
          try with_reducible rfl
        try simp only [Act.put, List.setIfInBounds_toArray, List.set_cons_zero, List.set_cons_succ]
        refine wpLast_take (i := 5) (oi := { dst := some 47, op := Op.indexAddr 72 (Operand.tmp 45) (Operand.tmp 46), type := 0, pos := "pattern.go:281", after := #[{ on := 3, ground := Ground.data }, { on := 4, ground := Ground.data }], guard := none }) (v := ?_) rfl (by kernel_rfl) (by kernel_rfl) (by kernel_rfl) (by kernel_rfl) (fun _ _ _ h => h) (Or.inl ⟨by rfl, ?_⟩) (by assumption) ?_
        rotate_left
        · intro w hSw
          try dsimp only at hSw
          go_simp
          try with_reducible rfl
        try simp only [Act.put, List.setIfInBounds_toArray, List.set_cons_zero, List.set_cons_succ]
        refine wpLast_take (i := 6) (oi := { dst := some 48, op := Op.load 3 (Operand.tmp 47), type := 3, pos := "pattern.go:281", after := #[{ on := 5, ground := Ground.data }], guard := none }) (v := ?_) rfl (by kernel_rfl) (by kernel_rfl) (by kernel_rfl) (by kernel_rfl) (fun _ _ _ h => h) (Or.inl ⟨by rfl, ?_⟩) (by assumption) ?_
        rotate_left
        · intro w hSw
          try dsimp only at hSw
          go_simp
          try with_reducible rfl
        try simp only [Act.put, List.setIfInBounds_toArray, List.set_cons_zero, List.set_cons_succ]
        refine wpLast_ready (rs := [7]) (by kernel_rfl) (by simp) ?_
        refine EachLast.cons (o := { dst := some 49, op := Op.call { callee := Callee.value (Operand.func 34), args := #[Operand.tmp 43, Operand.tmp 48, Operand.const (Value.bool true)], argTypes := #[28, 3, 4] }, type := 9, pos := "pattern.go:281", after := #[{ on := 1, ground := Ground.data }, { on := 6, ground := Ground.data }], guard := none }) rfl (fun K hK => ?_) EachLast.nil
        go_simp
        refine (HBR.out w5 HN3.out).mono ?_
        rintro e w6 ⟨rfl, hb6⟩
        have hS6 := hS1.on hb6 ht3 hg3
        have HSD6 := Lib.hid (HSD3.out.on hb6)
        have HN6 := Lib.hid (HN3.out.below hb6)
        clear hb6
        refine hK.out _ _ (fun _ => hS6) ?_
        try simp only [Act.put, List.setIfInBounds_toArray, List.set_cons_zero, List.set_cons_succ]
        refine wpLast_ready (rs := [8]) (by kernel_rfl) (by simp) ?_
        refine EachLast.cons (o := { dst := some 50, op := Op.binOp BinOp.add 9 (Operand.tmp 42) (Operand.tmp 49) 9, type := 9, pos := "pattern.go:281", after := #[{ on := 0, ground := Ground.data }, { on := 7, ground := Ground.data }], guard := none }) rfl (fun K hK => ?_) EachLast.nil
        go_simp
        refine hK.out _ _ (fun _ => hS6) ?_
        try simp only [Act.put, List.setIfInBounds_toArray, List.set_cons_zero, List.set_cons_succ]
        refine wpLast_ready (rs := [9]) (by kernel_rfl) (by simp) ?_
        refine EachLast.cons (o := { dst := some 6, op := Op.assign (Operand.tmp 50), type := 9, pos := "pattern.go:281", after := #[{ on := 8, ground := Ground.data }, { on := 7, ground := Ground.chain }, { on := 0, ground := Ground.phase }, { on := 1, ground := Ground.phase }, { on := 2, ground := Ground.phase }, { on := 3, ground := Ground.phase }, { on := 4, ground := Ground.phase }, { on := 5, ground := Ground.phase }, { on := 6, ground := Ground.phase }, { on := 7, ground := Ground.phase }, { on := 8, ground := Ground.phase }], guard := none }) rfl (fun K hK => ?_) EachLast.nil
        go_simp
        refine hK.out _ _ (fun h => absurd rfl h) ?_
        try simp only [Act.put, List.setIfInBounds_toArray, List.set_cons_zero, List.set_cons_succ]
        refine wpLast_done (by kernel_rfl) ?_ _
        go_wp2_with fail
        go_roundw
        case rel => exact ⟨m + 1, by omega, by go_num, by rw [← HZ.out], HSD6.out, HN6.out⟩
        case measure => simp [intOf]; omega
    · obtain rfl : m = l.length := by omega
      rw [HTX.out]
      generalize hzf : str (txt (.seq l)) = zf at *
      have HZF := Lib.hid hzf
      clear hzf
      have HB := Lib.hid HSD.out.bel
      go_wp2_with fail
      go_ret
      exact ⟨by rw [HZF.out]; rfl, HB.out⟩
end Go.Proofs.Ytlbkacabcfeaiaa.Tl
/- Patterns: the reference says choices. Printed by mksaid.py. -/
namespace Go.Proofs.Ytlbkacabcfeaiaa.Tl
open Go.RowKit Mm
set_option linter.unusedVariables false
set_option maxRecDepth 100000 in
set_option maxHeartbeats 16000000 in
theorem said_alt {l : List T} (hall : ∀ t ∈ l, SaidC t) (hb : bdL l ≤ 80000) : SaidC (.alt l) := by
  intro w B nv N k r hN hden
  have hlen := hN.len
  have hkl := hden.lt
  obtain ⟨d, hd, hkd, hkids, hdj⟩ : ∃ d, N[k]? = some d ∧ d.kind = 5 ∧ d.kids.length = l.length ∧ ∀ (i j : Nat) (t : T), d.kids[i]? = some j → l[i]? = some t → Den N j t := by
    cases hden with
    | alt k d l h1 h2 h3 h4 => exact ⟨d, h1, h2, h3, h4⟩
  obtain ⟨g, c, hnv, p0, p1, p2, p3⟩ := nd_cells (o := .cells #[nv, .int .i64 (r : Int)] 28) hN hd
  have c0 := (Blk.new w 28 #[nv, .int .i64 (r : Int)]).cell 0
  have c1 := (Blk.new w 28 #[nv, .int .i64 (r : Int)]).cell 1
  have hS := Sd.start w nv r d
  have hN2 := (hN.below ((Below.refl _ w).alloc (Nat.le_refl _) (.cells #[nv, .int .i64 (r : Int)] 28))).below ((Below.refl _ _).alloc (Nat.le_refl _) (.cells #[.int .i64 (d.kind : Int), .string d.name, .bool d.no, d.kv] 92))
  obtain ⟨ak, ck0, hkv, _⟩ := Fz.form (hN.kid d (List.mem_of_getElem? hd))
  rw [hkids] at hkv
  have i0 : (0 : Int) ≤ (k : Int) := by omega
  have i1 : (k : Int) < (N.length : Int) := by omega
  have hwk : IntKind.i64.wrap (k : Int) = (k : Int) := IntWalk.i64_in _ (by omega)
  have hll := bdL_len l
  have HW := Lib.hid hall
  have HKC := Lib.hid (show ∀ (X : World) (m : Nat) (h : m < l.length), NS X B nv N → ∃ gk ck j, d.kv = .slice (some ⟨gk, 0, none⟩) l.length ck ∧ gk < X.heap.size ∧ X.cell? ⟨gk, m, none⟩ = some (.int .i64 ((j : Nat) : Int)) ∧ Den N j l[m] from fun X m h hX => by
    obtain ⟨gk, ck, h1, h2, h3⟩ := kid_cell hX hd (i := m) (by omega)
    rw [hkids] at h1
    exact ⟨gk, ck, _, h1, h2, h3, hdj m _ _ (List.getElem?_eq_getElem (by omega)) (List.getElem?_eq_getElem h)⟩)
  have HTX := Lib.hid (show txt (.alt (l.take l.length)) = txt (.alt l) from by rw [List.take_length])
  have HBD := Lib.hid (show ∀ m, (txt (.alt (l.take m))).length ≤ 80010 from fun m => by have h1 := txt_bd (.alt (l.take m)); have h2 := take_bd l m; simp only [bd] at h1; omega)
  have hkI : (d.kind : Int) = 5 := by omega
  clear hall hN hden hdj hkd
  have HSt := Lib.hid (show Sd w nv r d ((w.alloc (.cells #[nv, .int .i64 (r : Int)] 28)).alloc (.cells #[.int .i64 5, .string d.name, .bool d.no, .slice ak l.length ck0] 92)) from by rw [hkI, hkv] at hS; exact hS)
  have HNt := Lib.hid (show NS ((w.alloc (.cells #[nv, .int .i64 (r : Int)] 28)).alloc (.cells #[.int .i64 5, .string d.name, .bool d.no, .slice ak l.length ck0] 92)) B nv N from by rw [hkI, hkv] at hN2; exact hN2)
  rw [hkv] at p3
  have HKV := Lib.hid hkv
  clear hS hN2 hkv hkids
  go_enter Try.func21, Try.ntmps21
  have HNV := Lib.hid hnv
  rw [hnv]
  rw [hnv] at c0 c1 p0 p1 p2 p3 HSt HNt
  clear hnv
  go_wp2_with fail
  clear c0 c1 p0 p1 p2 p3
  rw [← HNV.out] at HSt HNt
  go_loopw [6, 8] (fun sv iv wr => ∃ m : Nat, m ≤ l.length ∧ iv = .int .i64 (m : Int) ∧ sv = .string (str (txt (.alt (l.take m)))) ∧ Sd w nv r d wr ∧ NS wr B nv N) (fun _ i _ => l.length - (intOf i).toNat)
  case atStart =>
    rw [← HNV.out]
    exact ⟨0, Nat.zero_le _, rfl, rfl, HSt.out, HNt.out⟩
  case round =>
    clear HSt HNt
    obtain ⟨m, hm, rfl, rfl, hsd, hns⟩ := hrel
    have HSD := Lib.hid hsd
    have HN := Lib.hid hns
    have hx3 := hsd.x3
    rw [HKV.out] at hx3
    have hp0 := hsd.p0
    have hp1 := hsd.p1
    clear hsd hns
    by_cases hlt : m < l.length
    · obtain ⟨gk, ck, j, hkv2, hgk, hkc, hdj⟩ := HKC.out wr m hlt HN.out
      rw [hkv2] at HKV
      obtain ⟨rfl, _, rfl⟩ : ak = some ⟨gk, 0, none⟩ ∧ True ∧ ck0 = ck := by have h := HKV.out; simp only [Value.slice.injEq] at h; exact ⟨h.1.symm, trivial, h.2.2.symm⟩
      have HSX := Lib.hid hx3
      have hls := HW.out l[m] (List.getElem_mem hlt)
      have hbt := bdL_mem (List.getElem_mem hlt)
      have HST := Lib.hid (alt_step hlt)
      have hJ := HBD.out m
      have htb := txt_bd l[m]
      have m0 : (0 : Int) ≤ (m : Int) := by omega
      have m1 : (m : Int) < (l.length : Int) := by omega
      have hwm : IntKind.i64.wrap (m : Int) = (m : Int) := IntWalk.i64_in _ (by omega)
      have hzs : (str (txt (.alt (l.take m)))).size ≤ 80010 := by rw [str_size]; exact hJ
      have hz : (str (txt l[m])).size ≤ 90000 := by rw [str_size]; omega
      by_cases hm0 : m = 0
      · rw [if_pos hm0] at HST
        have hmI : ¬ (0 : Int) < (m : Int) := by omega
        by_cases hte : txt l[m] = []
        · have HBR := Lib.hid (fun (X : World) (hX : NS X B nv N) => hls X B nv N j r hX hdj)
          have e0 : str (txt l[m]) = ⟨#[]⟩ := by rw [hte]; rfl
          rw [e0] at HBR
          have hou : orUnit (txt l[m]) = [40, 41] := by unfold orUnit; rw [if_pos hte]
          rw [hou] at HST
          have HZ := Lib.hid (show str (txt (.alt (l.take m))) ++ (⟨#[40, 41]⟩ : ByteArray) = str (txt (.alt (l.take (m + 1)))) from by
            have hJ0 : txt (.alt (l.take m)) = [] := by rw [hm0]; rfl
            rw [HST.out, hJ0]
            show str _ ++ str [40, 41] = _
            rw [str_app]; rfl)
          have hz2 : ¬ 9223372036854775807 < (str (txt (.alt (l.take m)))).size + 2 := by omega
          clear hm0 HST hls hdj hJ htb hou hte e0 hz
          generalize str (txt (.alt (l.take m))) = zs at *
          go_wp2_with fail
          have hS1 : HdS w.heap.size gk m j nv r (.slice (some ⟨gk, 0, none⟩) l.length ck0) wr.drew := ⟨HSD.out.p0, HSD.out.p1, HSX.out, hkc⟩
          have HN3 := Lib.hid (HN.out.below (Below.refl _ wr).drew)
          have HSD3 := Lib.hid (HSD.out.on (Below.refl _ wr).drew)
          have ht3 : w.heap.size + 1 < wr.drew.heap.size := HSD.out.two
          have hg3 : gk < wr.drew.heap.size := hgk
          go_upto_region 25 with fail
          refine wp_region_last 7 (fun w' => HdS w.heap.size gk m j nv r (.slice (some ⟨gk, 0, none⟩) l.length ck0) w') mixed ?_
          clear hkc hx3
          generalize wr.drew = w5 at *
          refine wpLast_take (i := 0) (oi := { dst := some 65, op := Op.load 28 (Operand.tmp 2), type := 28, pos := "pattern.go:289", after := #[], guard := none }) (v := ?_) rfl (by kernel_rfl) (by kernel_rfl) (by kernel_rfl) (by kernel_rfl) (fun _ _ _ h => h) (Or.inl ⟨by rfl, ?_⟩) (by assumption) ?_
          rotate_left
          · intro w hSw
            try dsimp only at hSw
            go_simp
            try with_reducible rfl
          try simp only [Act.put, List.setIfInBounds_toArray, List.set_cons_zero, List.set_cons_succ]
          refine wpLast_take (i := 1) (oi := { dst := some 66, op := Op.fieldAddr 92 (Operand.tmp 5) 3, type := 0, pos := "pattern.go:289", after := #[], guard := none }) (v := ?_) rfl (by kernel_rfl) (by kernel_rfl) (by kernel_rfl) (by kernel_rfl) (fun _ _ _ h => h) (Or.inl ⟨by rfl, ?_⟩) (by assumption) ?_
          rotate_left
          · intro w hSw
            try dsimp only at hSw
            go_simp
            try with_reducible rfl
          try simp only [Act.put, List.setIfInBounds_toArray, List.set_cons_zero, List.set_cons_succ]
          refine wpLast_take (i := 2) (oi := { dst := some 67, op := Op.load 72 (Operand.tmp 66), type := 72, pos := "pattern.go:289", after := #[{ on := 1, ground := Ground.data }], guard := none }) (v := ?_) rfl (by kernel_rfl) (by kernel_rfl) (by kernel_rfl) (by kernel_rfl) (fun _ _ _ h => h) (Or.inl ⟨by rfl, ?_⟩) (by assumption) ?_
          rotate_left
          · intro w hSw
            try dsimp only at hSw
            go_simp
            try with_reducible rfl
          try simp only [Act.put, List.setIfInBounds_toArray, List.set_cons_zero, List.set_cons_succ]
          refine wpLast_take (i := 3) (oi := { dst := some 68, op := Op.move (Operand.tmp 8), type := 3, pos := "pattern.go:289", after := #[], guard := none }) (v := ?_) rfl (by kernel_rfl) (by kernel_rfl) (by kernel_rfl) (by kernel_rfl) (fun _ _ _ h => h) (Or.inl ⟨by rfl, ?_⟩) (by assumption) ?_
          rotate_left
          · intro w hSw
            try dsimp only at hSw
            go_simp
            try with_reducible rfl
          try simp only [Act.put, List.setIfInBounds_toArray, List.set_cons_zero, List.set_cons_succ]
          refine wpLast_take (i := 4) (oi := { dst := some 69, op := Op.indexAddr 72 (Operand.tmp 67) (Operand.tmp 68), type := 0, pos := "pattern.go:289", after := #[{ on := 2, ground := Ground.data }, { on := 3, ground := Ground.data }], guard := none }) (v := ?_) rfl (by kernel_rfl) (by kernel_rfl) (by kernel_rfl) (by kernel_rfl) (fun _ _ _ h => h) (Or.inl ⟨by rfl, ?_⟩) (by assumption) ?_
          rotate_left
          · intro w hSw
            try dsimp only at hSw
            go_simp
            try with_reducible rfl
          try simp only [Act.put, List.setIfInBounds_toArray, List.set_cons_zero, List.set_cons_succ]
          refine wpLast_take (i := 5) (oi := { dst := some 70, op := Op.load 3 (Operand.tmp 69), type := 3, pos := "pattern.go:289", after := #[{ on := 4, ground := Ground.data }], guard := none }) (v := ?_) rfl (by kernel_rfl) (by kernel_rfl) (by kernel_rfl) (by kernel_rfl) (fun _ _ _ h => h) (Or.inl ⟨by rfl, ?_⟩) (by assumption) ?_
          rotate_left
          · intro w hSw
            try dsimp only at hSw
            go_simp
            try with_reducible rfl
          try simp only [Act.put, List.setIfInBounds_toArray, List.set_cons_zero, List.set_cons_succ]
          refine wpLast_ready (rs := [6]) (by kernel_rfl) (by simp) ?_
          refine EachLast.cons (o := { dst := some 71, op := Op.call { callee := Callee.value (Operand.func 21), args := #[Operand.tmp 65, Operand.tmp 70], argTypes := #[28, 3] }, type := 9, pos := "pattern.go:289", after := #[{ on := 0, ground := Ground.data }, { on := 5, ground := Ground.data }], guard := none }) rfl (fun K hK => ?_) EachLast.nil
          go_simp
          refine (HBR.out w5 HN3.out).mono ?_
          rintro e w6 ⟨rfl, hb6⟩
          have hS6 := hS1.on hb6 ht3 hg3
          have HSD6 := Lib.hid (HSD3.out.on hb6)
          have HN6 := Lib.hid (HN3.out.below hb6)
          clear hb6
          refine hK.out _ _ (fun _ => hS6) ?_
          try simp only [Act.put, List.setIfInBounds_toArray, List.set_cons_zero, List.set_cons_succ]
          refine wpLast_ready (rs := [7]) (by kernel_rfl) (by simp) ?_
          refine EachLast.cons (o := { dst := some 9, op := Op.assign (Operand.tmp 71), type := 9, pos := "pattern.go:289", after := #[{ on := 6, ground := Ground.data }, { on := 6, ground := Ground.chain }, { on := 0, ground := Ground.phase }, { on := 1, ground := Ground.phase }, { on := 2, ground := Ground.phase }, { on := 3, ground := Ground.phase }, { on := 4, ground := Ground.phase }, { on := 5, ground := Ground.phase }, { on := 6, ground := Ground.phase }], guard := none }) rfl (fun K hK => ?_) EachLast.nil
          go_simp
          refine hK.out _ _ (fun h => absurd rfl h) ?_
          try simp only [Act.put, List.setIfInBounds_toArray, List.set_cons_zero, List.set_cons_succ]
          refine wpLast_done (by kernel_rfl) ?_ _
          go_wp2_with fail
          go_roundw
          case rel => exact ⟨m + 1, by omega, by go_num, by rw [← HZ.out], HSD6.out, HN6.out⟩
          case measure => simp [intOf]; omega
        · have HBR := Lib.hid (fun (X : World) (hX : NS X B nv N) => hls X B nv N j r hX hdj)
          have hou : orUnit (txt l[m]) = txt l[m] := by unfold orUnit; rw [if_neg hte]
          have hEm : (str (txt l[m])).toList.isEmpty = false := by
            rw [ByteArray.toList_eq]
            show (txt l[m]).isEmpty = false
            cases h : txt l[m] with
            | nil => exact absurd h hte
            | cons a b => rfl
          rw [hou] at HST
          have HZ := Lib.hid (show str (txt (.alt (l.take m))) ++ str (txt l[m]) = str (txt (.alt (l.take (m + 1)))) from by
            have hJ0 : txt (.alt (l.take m)) = [] := by rw [hm0]; rfl
            rw [HST.out, hJ0]
            show str _ ++ str (txt l[m]) = _
            rw [str_app]; rfl)
          have hz2 : ¬ 9223372036854775807 < (str (txt (.alt (l.take m)))).size + (str (txt l[m])).size := by omega
          clear hm0 HST hls hdj hJ htb hou hte 
          generalize str (txt (.alt (l.take m))) = zs at *
          generalize str (txt l[m]) = z at *
          go_wp2_with fail
          have hS1 : HdS w.heap.size gk m j nv r (.slice (some ⟨gk, 0, none⟩) l.length ck0) wr.drew := ⟨HSD.out.p0, HSD.out.p1, HSX.out, hkc⟩
          have HN3 := Lib.hid (HN.out.below (Below.refl _ wr).drew)
          have HSD3 := Lib.hid (HSD.out.on (Below.refl _ wr).drew)
          have ht3 : w.heap.size + 1 < wr.drew.heap.size := HSD.out.two
          have hg3 : gk < wr.drew.heap.size := hgk
          go_upto_region 25 with fail
          refine wp_region_last 7 (fun w' => HdS w.heap.size gk m j nv r (.slice (some ⟨gk, 0, none⟩) l.length ck0) w') mixed ?_
          clear hkc hx3
          generalize wr.drew = w5 at *
          refine wpLast_take (i := 0) (oi := { dst := some 65, op := Op.load 28 (Operand.tmp 2), type := 28, pos := "pattern.go:289", after := #[], guard := none }) (v := ?_) rfl (by kernel_rfl) (by kernel_rfl) (by kernel_rfl) (by kernel_rfl) (fun _ _ _ h => h) (Or.inl ⟨by rfl, ?_⟩) (by assumption) ?_
          rotate_left
          · intro w hSw
            try dsimp only at hSw
            go_simp
            try with_reducible rfl
          try simp only [Act.put, List.setIfInBounds_toArray, List.set_cons_zero, List.set_cons_succ]
          refine wpLast_take (i := 1) (oi := { dst := some 66, op := Op.fieldAddr 92 (Operand.tmp 5) 3, type := 0, pos := "pattern.go:289", after := #[], guard := none }) (v := ?_) rfl (by kernel_rfl) (by kernel_rfl) (by kernel_rfl) (by kernel_rfl) (fun _ _ _ h => h) (Or.inl ⟨by rfl, ?_⟩) (by assumption) ?_
          rotate_left
          · intro w hSw
            try dsimp only at hSw
            go_simp
            try with_reducible rfl
          try simp only [Act.put, List.setIfInBounds_toArray, List.set_cons_zero, List.set_cons_succ]
          refine wpLast_take (i := 2) (oi := { dst := some 67, op := Op.load 72 (Operand.tmp 66), type := 72, pos := "pattern.go:289", after := #[{ on := 1, ground := Ground.data }], guard := none }) (v := ?_) rfl (by kernel_rfl) (by kernel_rfl) (by kernel_rfl) (by kernel_rfl) (fun _ _ _ h => h) (Or.inl ⟨by rfl, ?_⟩) (by assumption) ?_
          rotate_left
          · intro w hSw
            try dsimp only at hSw
            go_simp
            try with_reducible rfl
          try simp only [Act.put, List.setIfInBounds_toArray, List.set_cons_zero, List.set_cons_succ]
          refine wpLast_take (i := 3) (oi := { dst := some 68, op := Op.move (Operand.tmp 8), type := 3, pos := "pattern.go:289", after := #[], guard := none }) (v := ?_) rfl (by kernel_rfl) (by kernel_rfl) (by kernel_rfl) (by kernel_rfl) (fun _ _ _ h => h) (Or.inl ⟨by rfl, ?_⟩) (by assumption) ?_
          rotate_left
          · intro w hSw
            try dsimp only at hSw
            go_simp
            try with_reducible rfl
          try simp only [Act.put, List.setIfInBounds_toArray, List.set_cons_zero, List.set_cons_succ]
          refine wpLast_take (i := 4) (oi := { dst := some 69, op := Op.indexAddr 72 (Operand.tmp 67) (Operand.tmp 68), type := 0, pos := "pattern.go:289", after := #[{ on := 2, ground := Ground.data }, { on := 3, ground := Ground.data }], guard := none }) (v := ?_) rfl (by kernel_rfl) (by kernel_rfl) (by kernel_rfl) (by kernel_rfl) (fun _ _ _ h => h) (Or.inl ⟨by rfl, ?_⟩) (by assumption) ?_
          rotate_left
          · intro w hSw
            try dsimp only at hSw
            go_simp
            try with_reducible rfl
          try simp only [Act.put, List.setIfInBounds_toArray, List.set_cons_zero, List.set_cons_succ]
          refine wpLast_take (i := 5) (oi := { dst := some 70, op := Op.load 3 (Operand.tmp 69), type := 3, pos := "pattern.go:289", after := #[{ on := 4, ground := Ground.data }], guard := none }) (v := ?_) rfl (by kernel_rfl) (by kernel_rfl) (by kernel_rfl) (by kernel_rfl) (fun _ _ _ h => h) (Or.inl ⟨by rfl, ?_⟩) (by assumption) ?_
          rotate_left
          · intro w hSw
            try dsimp only at hSw
            go_simp
            try with_reducible rfl
          try simp only [Act.put, List.setIfInBounds_toArray, List.set_cons_zero, List.set_cons_succ]
          refine wpLast_ready (rs := [6]) (by kernel_rfl) (by simp) ?_
          refine EachLast.cons (o := { dst := some 71, op := Op.call { callee := Callee.value (Operand.func 21), args := #[Operand.tmp 65, Operand.tmp 70], argTypes := #[28, 3] }, type := 9, pos := "pattern.go:289", after := #[{ on := 0, ground := Ground.data }, { on := 5, ground := Ground.data }], guard := none }) rfl (fun K hK => ?_) EachLast.nil
          go_simp
          refine (HBR.out w5 HN3.out).mono ?_
          rintro e w6 ⟨rfl, hb6⟩
          have hS6 := hS1.on hb6 ht3 hg3
          have HSD6 := Lib.hid (HSD3.out.on hb6)
          have HN6 := Lib.hid (HN3.out.below hb6)
          clear hb6
          refine hK.out _ _ (fun _ => hS6) ?_
          try simp only [Act.put, List.setIfInBounds_toArray, List.set_cons_zero, List.set_cons_succ]
          refine wpLast_ready (rs := [7]) (by kernel_rfl) (by simp) ?_
          refine EachLast.cons (o := { dst := some 9, op := Op.assign (Operand.tmp 71), type := 9, pos := "pattern.go:289", after := #[{ on := 6, ground := Ground.data }, { on := 6, ground := Ground.chain }, { on := 0, ground := Ground.phase }, { on := 1, ground := Ground.phase }, { on := 2, ground := Ground.phase }, { on := 3, ground := Ground.phase }, { on := 4, ground := Ground.phase }, { on := 5, ground := Ground.phase }, { on := 6, ground := Ground.phase }], guard := none }) rfl (fun K hK => ?_) EachLast.nil
          go_simp
          refine hK.out _ _ (fun h => absurd rfl h) ?_
          try simp only [Act.put, List.setIfInBounds_toArray, List.set_cons_zero, List.set_cons_succ]
          refine wpLast_done (by kernel_rfl) ?_ _
          go_wp2_with fail
          go_roundw
          case rel => exact ⟨m + 1, by omega, by go_num, by rw [← HZ.out], HSD6.out, HN6.out⟩
          case measure => simp [intOf]; omega
      · rw [if_neg hm0] at HST
        have hmI : (0 : Int) < (m : Int) := by omega
        by_cases hte : txt l[m] = []
        · have HBR := Lib.hid (fun (X : World) (hX : NS X B nv N) => hls X B nv N j r hX hdj)
          have e0 : str (txt l[m]) = ⟨#[]⟩ := by rw [hte]; rfl
          rw [e0] at HBR
          have hou : orUnit (txt l[m]) = [40, 41] := by unfold orUnit; rw [if_pos hte]
          rw [hou] at HST
          have HZ := Lib.hid (show str (txt (.alt (l.take m))) ++ ⟨#[32, 124, 32]⟩ ++ (⟨#[40, 41]⟩ : ByteArray) = str (txt (.alt (l.take (m + 1)))) from by
            rw [HST.out]
            show str _ ++ str [32, 124, 32] ++ str [40, 41] = _
            rw [str_app, str_app])
          have hzz : (str (txt (.alt (l.take m))) ++ (⟨#[32, 124, 32]⟩ : ByteArray)).size ≤ 80020 := by rw [ByteArray.size_append]; have : (⟨#[32, 124, 32]⟩ : ByteArray).size = 3 := rfl; omega
          have hz3 : ¬ 9223372036854775807 < (str (txt (.alt (l.take m)))).size + 3 := by omega
          have hz2 : ¬ 9223372036854775807 < (str (txt (.alt (l.take m))) ++ (⟨#[32, 124, 32]⟩ : ByteArray)).size + 2 := by omega
          clear hm0 HST hls hdj hJ htb hou hte e0 hz
          generalize str (txt (.alt (l.take m))) = zs0 at *
          go_wp2_with fail
          go_upto_region 25 with fail
          generalize zs0 ++ (⟨#[32, 124, 32]⟩ : ByteArray) = zs at *
          have hS1 : HdS w.heap.size gk m j nv r (.slice (some ⟨gk, 0, none⟩) l.length ck0) wr.drew := ⟨HSD.out.p0, HSD.out.p1, HSX.out, hkc⟩
          have HN3 := Lib.hid (HN.out.below (Below.refl _ wr).drew)
          have HSD3 := Lib.hid (HSD.out.on (Below.refl _ wr).drew)
          have ht3 : w.heap.size + 1 < wr.drew.heap.size := HSD.out.two
          have hg3 : gk < wr.drew.heap.size := hgk
          go_upto_region 25 with fail
          refine wp_region_last 7 (fun w' => HdS w.heap.size gk m j nv r (.slice (some ⟨gk, 0, none⟩) l.length ck0) w') mixed ?_
          clear hkc hx3
          generalize wr.drew = w5 at *
          refine wpLast_take (i := 0) (oi := { dst := some 65, op := Op.load 28 (Operand.tmp 2), type := 28, pos := "pattern.go:289", after := #[], guard := none }) (v := ?_) rfl (by kernel_rfl) (by kernel_rfl) (by kernel_rfl) (by kernel_rfl) (fun _ _ _ h => h) (Or.inl ⟨by rfl, ?_⟩) (by assumption) ?_
          rotate_left
          · intro w hSw
            try dsimp only at hSw
            go_simp
            try with_reducible rfl
          try simp only [Act.put, List.setIfInBounds_toArray, List.set_cons_zero, List.set_cons_succ]
          refine wpLast_take (i := 1) (oi := { dst := some 66, op := Op.fieldAddr 92 (Operand.tmp 5) 3, type := 0, pos := "pattern.go:289", after := #[], guard := none }) (v := ?_) rfl (by kernel_rfl) (by kernel_rfl) (by kernel_rfl) (by kernel_rfl) (fun _ _ _ h => h) (Or.inl ⟨by rfl, ?_⟩) (by assumption) ?_
          rotate_left
          · intro w hSw
            try dsimp only at hSw
            go_simp
            try with_reducible rfl
          try simp only [Act.put, List.setIfInBounds_toArray, List.set_cons_zero, List.set_cons_succ]
          refine wpLast_take (i := 2) (oi := { dst := some 67, op := Op.load 72 (Operand.tmp 66), type := 72, pos := "pattern.go:289", after := #[{ on := 1, ground := Ground.data }], guard := none }) (v := ?_) rfl (by kernel_rfl) (by kernel_rfl) (by kernel_rfl) (by kernel_rfl) (fun _ _ _ h => h) (Or.inl ⟨by rfl, ?_⟩) (by assumption) ?_
          rotate_left
          · intro w hSw
            try dsimp only at hSw
            go_simp
            try with_reducible rfl
          try simp only [Act.put, List.setIfInBounds_toArray, List.set_cons_zero, List.set_cons_succ]
          refine wpLast_take (i := 3) (oi := { dst := some 68, op := Op.move (Operand.tmp 8), type := 3, pos := "pattern.go:289", after := #[], guard := none }) (v := ?_) rfl (by kernel_rfl) (by kernel_rfl) (by kernel_rfl) (by kernel_rfl) (fun _ _ _ h => h) (Or.inl ⟨by rfl, ?_⟩) (by assumption) ?_
          rotate_left
          · intro w hSw
            try dsimp only at hSw
            go_simp
            try with_reducible rfl
          try simp only [Act.put, List.setIfInBounds_toArray, List.set_cons_zero, List.set_cons_succ]
          refine wpLast_take (i := 4) (oi := { dst := some 69, op := Op.indexAddr 72 (Operand.tmp 67) (Operand.tmp 68), type := 0, pos := "pattern.go:289", after := #[{ on := 2, ground := Ground.data }, { on := 3, ground := Ground.data }], guard := none }) (v := ?_) rfl (by kernel_rfl) (by kernel_rfl) (by kernel_rfl) (by kernel_rfl) (fun _ _ _ h => h) (Or.inl ⟨by rfl, ?_⟩) (by assumption) ?_
          rotate_left
          · intro w hSw
            try dsimp only at hSw
            go_simp
            try with_reducible rfl
          try simp only [Act.put, List.setIfInBounds_toArray, List.set_cons_zero, List.set_cons_succ]
          refine wpLast_take (i := 5) (oi := { dst := some 70, op := Op.load 3 (Operand.tmp 69), type := 3, pos := "pattern.go:289", after := #[{ on := 4, ground := Ground.data }], guard := none }) (v := ?_) rfl (by kernel_rfl) (by kernel_rfl) (by kernel_rfl) (by kernel_rfl) (fun _ _ _ h => h) (Or.inl ⟨by rfl, ?_⟩) (by assumption) ?_
          rotate_left
          · intro w hSw
            try dsimp only at hSw
            go_simp
            try with_reducible rfl
          try simp only [Act.put, List.setIfInBounds_toArray, List.set_cons_zero, List.set_cons_succ]
          refine wpLast_ready (rs := [6]) (by kernel_rfl) (by simp) ?_
          refine EachLast.cons (o := { dst := some 71, op := Op.call { callee := Callee.value (Operand.func 21), args := #[Operand.tmp 65, Operand.tmp 70], argTypes := #[28, 3] }, type := 9, pos := "pattern.go:289", after := #[{ on := 0, ground := Ground.data }, { on := 5, ground := Ground.data }], guard := none }) rfl (fun K hK => ?_) EachLast.nil
          go_simp
          refine (HBR.out w5 HN3.out).mono ?_
          rintro e w6 ⟨rfl, hb6⟩
          have hS6 := hS1.on hb6 ht3 hg3
          have HSD6 := Lib.hid (HSD3.out.on hb6)
          have HN6 := Lib.hid (HN3.out.below hb6)
          clear hb6
          refine hK.out _ _ (fun _ => hS6) ?_
          try simp only [Act.put, List.setIfInBounds_toArray, List.set_cons_zero, List.set_cons_succ]
          refine wpLast_ready (rs := [7]) (by kernel_rfl) (by simp) ?_
          refine EachLast.cons (o := { dst := some 9, op := Op.assign (Operand.tmp 71), type := 9, pos := "pattern.go:289", after := #[{ on := 6, ground := Ground.data }, { on := 6, ground := Ground.chain }, { on := 0, ground := Ground.phase }, { on := 1, ground := Ground.phase }, { on := 2, ground := Ground.phase }, { on := 3, ground := Ground.phase }, { on := 4, ground := Ground.phase }, { on := 5, ground := Ground.phase }, { on := 6, ground := Ground.phase }], guard := none }) rfl (fun K hK => ?_) EachLast.nil
          go_simp
          refine hK.out _ _ (fun h => absurd rfl h) ?_
          try simp only [Act.put, List.setIfInBounds_toArray, List.set_cons_zero, List.set_cons_succ]
          refine wpLast_done (by kernel_rfl) ?_ _
          go_wp2_with fail
          go_roundw
          case rel => exact ⟨m + 1, by omega, by go_num, by rw [← HZ.out], HSD6.out, HN6.out⟩
          case measure => simp [intOf]; omega
        · have HBR := Lib.hid (fun (X : World) (hX : NS X B nv N) => hls X B nv N j r hX hdj)
          have hou : orUnit (txt l[m]) = txt l[m] := by unfold orUnit; rw [if_neg hte]
          have hEm : (str (txt l[m])).toList.isEmpty = false := by
            rw [ByteArray.toList_eq]
            show (txt l[m]).isEmpty = false
            cases h : txt l[m] with
            | nil => exact absurd h hte
            | cons a b => rfl
          rw [hou] at HST
          have HZ := Lib.hid (show str (txt (.alt (l.take m))) ++ ⟨#[32, 124, 32]⟩ ++ str (txt l[m]) = str (txt (.alt (l.take (m + 1)))) from by
            rw [HST.out]
            show str _ ++ str [32, 124, 32] ++ str (txt l[m]) = _
            rw [str_app, str_app])
          have hzz : (str (txt (.alt (l.take m))) ++ (⟨#[32, 124, 32]⟩ : ByteArray)).size ≤ 80020 := by rw [ByteArray.size_append]; have : (⟨#[32, 124, 32]⟩ : ByteArray).size = 3 := rfl; omega
          have hz3 : ¬ 9223372036854775807 < (str (txt (.alt (l.take m)))).size + 3 := by omega
          have hz2 : ¬ 9223372036854775807 < (str (txt (.alt (l.take m))) ++ (⟨#[32, 124, 32]⟩ : ByteArray)).size + (str (txt l[m])).size := by omega
          clear hm0 HST hls hdj hJ htb hou hte 
          generalize str (txt (.alt (l.take m))) = zs0 at *
          generalize str (txt l[m]) = z at *
          go_wp2_with fail
          go_upto_region 25 with fail
          generalize zs0 ++ (⟨#[32, 124, 32]⟩ : ByteArray) = zs at *
          have hS1 : HdS w.heap.size gk m j nv r (.slice (some ⟨gk, 0, none⟩) l.length ck0) wr.drew := ⟨HSD.out.p0, HSD.out.p1, HSX.out, hkc⟩
          have HN3 := Lib.hid (HN.out.below (Below.refl _ wr).drew)
          have HSD3 := Lib.hid (HSD.out.on (Below.refl _ wr).drew)
          have ht3 : w.heap.size + 1 < wr.drew.heap.size := HSD.out.two
          have hg3 : gk < wr.drew.heap.size := hgk
          go_upto_region 25 with fail
          refine wp_region_last 7 (fun w' => HdS w.heap.size gk m j nv r (.slice (some ⟨gk, 0, none⟩) l.length ck0) w') mixed ?_
          clear hkc hx3
          generalize wr.drew = w5 at *
          refine wpLast_take (i := 0) (oi := { dst := some 65, op := Op.load 28 (Operand.tmp 2), type := 28, pos := "pattern.go:289", after := #[], guard := none }) (v := ?_) rfl (by kernel_rfl) (by kernel_rfl) (by kernel_rfl) (by kernel_rfl) (fun _ _ _ h => h) (Or.inl ⟨by rfl, ?_⟩) (by assumption) ?_
          rotate_left
          · intro w hSw
            try dsimp only at hSw
            go_simp
            try with_reducible rfl
          try simp only [Act.put, List.setIfInBounds_toArray, List.set_cons_zero, List.set_cons_succ]
          refine wpLast_take (i := 1) (oi := { dst := some 66, op := Op.fieldAddr 92 (Operand.tmp 5) 3, type := 0, pos := "pattern.go:289", after := #[], guard := none }) (v := ?_) rfl (by kernel_rfl) (by kernel_rfl) (by kernel_rfl) (by kernel_rfl) (fun _ _ _ h => h) (Or.inl ⟨by rfl, ?_⟩) (by assumption) ?_
          rotate_left
          · intro w hSw
            try dsimp only at hSw
            go_simp
            try with_reducible rfl
          try simp only [Act.put, List.setIfInBounds_toArray, List.set_cons_zero, List.set_cons_succ]
          refine wpLast_take (i := 2) (oi := { dst := some 67, op := Op.load 72 (Operand.tmp 66), type := 72, pos := "pattern.go:289", after := #[{ on := 1, ground := Ground.data }], guard := none }) (v := ?_) rfl (by kernel_rfl) (by kernel_rfl) (by kernel_rfl) (by kernel_rfl) (fun _ _ _ h => h) (Or.inl ⟨by rfl, ?_⟩) (by assumption) ?_
          rotate_left
          · intro w hSw
            try dsimp only at hSw
            go_simp
            try with_reducible rfl
          try simp only [Act.put, List.setIfInBounds_toArray, List.set_cons_zero, List.set_cons_succ]
          refine wpLast_take (i := 3) (oi := { dst := some 68, op := Op.move (Operand.tmp 8), type := 3, pos := "pattern.go:289", after := #[], guard := none }) (v := ?_) rfl (by kernel_rfl) (by kernel_rfl) (by kernel_rfl) (by kernel_rfl) (fun _ _ _ h => h) (Or.inl ⟨by rfl, ?_⟩) (by assumption) ?_
          rotate_left
          · intro w hSw
            try dsimp only at hSw
            go_simp
            try with_reducible rfl
          try simp only [Act.put, List.setIfInBounds_toArray, List.set_cons_zero, List.set_cons_succ]
          refine wpLast_take (i := 4) (oi := { dst := some 69, op := Op.indexAddr 72 (Operand.tmp 67) (Operand.tmp 68), type := 0, pos := "pattern.go:289", after := #[{ on := 2, ground := Ground.data }, { on := 3, ground := Ground.data }], guard := none }) (v := ?_) rfl (by kernel_rfl) (by kernel_rfl) (by kernel_rfl) (by kernel_rfl) (fun _ _ _ h => h) (Or.inl ⟨by rfl, ?_⟩) (by assumption) ?_
          rotate_left
          · intro w hSw
            try dsimp only at hSw
            go_simp
            try with_reducible rfl
          try simp only [Act.put, List.setIfInBounds_toArray, List.set_cons_zero, List.set_cons_succ]
          refine wpLast_take (i := 5) (oi := { dst := some 70, op := Op.load 3 (Operand.tmp 69), type := 3, pos := "pattern.go:289", after := #[{ on := 4, ground := Ground.data }], guard := none }) (v := ?_) rfl (by kernel_rfl) (by kernel_rfl) (by kernel_rfl) (by kernel_rfl) (fun _ _ _ h => h) (Or.inl ⟨by rfl, ?_⟩) (by assumption) ?_
          rotate_left
          · intro w hSw
            try dsimp only at hSw
            go_simp
            try with_reducible rfl
          try simp only [Act.put, List.setIfInBounds_toArray, List.set_cons_zero, List.set_cons_succ]
          refine wpLast_ready (rs := [6]) (by kernel_rfl) (by simp) ?_
          refine EachLast.cons (o := { dst := some 71, op := Op.call { callee := Callee.value (Operand.func 21), args := #[Operand.tmp 65, Operand.tmp 70], argTypes := #[28, 3] }, type := 9, pos := "pattern.go:289", after := #[{ on := 0, ground := Ground.data }, { on := 5, ground := Ground.data }], guard := none }) rfl (fun K hK => ?_) EachLast.nil
          go_simp
          refine (HBR.out w5 HN3.out).mono ?_
          rintro e w6 ⟨rfl, hb6⟩
          have hS6 := hS1.on hb6 ht3 hg3
          have HSD6 := Lib.hid (HSD3.out.on hb6)
          have HN6 := Lib.hid (HN3.out.below hb6)
          clear hb6
          refine hK.out _ _ (fun _ => hS6) ?_
          try simp only [Act.put, List.setIfInBounds_toArray, List.set_cons_zero, List.set_cons_succ]
          refine wpLast_ready (rs := [7]) (by kernel_rfl) (by simp) ?_
          refine EachLast.cons (o := { dst := some 9, op := Op.assign (Operand.tmp 71), type := 9, pos := "pattern.go:289", after := #[{ on := 6, ground := Ground.data }, { on := 6, ground := Ground.chain }, { on := 0, ground := Ground.phase }, { on := 1, ground := Ground.phase }, { on := 2, ground := Ground.phase }, { on := 3, ground := Ground.phase }, { on := 4, ground := Ground.phase }, { on := 5, ground := Ground.phase }, { on := 6, ground := Ground.phase }], guard := none }) rfl (fun K hK => ?_) EachLast.nil
          go_simp
          refine hK.out _ _ (fun h => absurd rfl h) ?_
          try simp only [Act.put, List.setIfInBounds_toArray, List.set_cons_zero, List.set_cons_succ]
          refine wpLast_done (by kernel_rfl) ?_ _
          go_wp2_with fail
          go_roundw
          case rel => exact ⟨m + 1, by omega, by go_num, by rw [← HZ.out], HSD6.out, HN6.out⟩
          case measure => simp [intOf]; omega
    · obtain rfl : m = l.length := by omega
      rw [HTX.out]
      generalize hzf : str (txt (.alt l)) = zf at *
      have HZF := Lib.hid hzf
      clear hzf
      have HB := Lib.hid HSD.out.bel
      go_wp2_with fail
      go_ret
      exact ⟨by rw [HZF.out]; rfl, HB.out⟩
end Go.Proofs.Ytlbkacabcfeaiaa.Tl
/- Patterns: the reference says any tree; its Text. -/
namespace Go.Proofs.Ytlbkacabcfeaiaa.Tl
open Go.RowKit Mm
set_option linter.unusedVariables false
mutual
theorem said_all : (t : T) → good t = true → bd t ≤ 80000 → SaidC t
  | .leaf tx n p d, hg, hb => said_leaf tx n p d (by simp only [bd] at hb; omega)
  | .seq l, hg, hb => by
    simp only [bd] at hb
    rw [good] at hg
    exact said_seq (said_allL l hg (by omega)) (by omega)
  | .alt l, hg, hb => by
    simp only [bd] at hb
    rw [good] at hg
    exact said_alt (said_allL l hg (by omega)) (by omega)
  | .suf t s, hg, hb => by
    simp only [bd] at hb
    rw [good, Bool.and_eq_true] at hg
    have h1 := said_all t hg.1 (by omega)
    rcases sign_cases hg.2 with rfl | rfl | rfl
    · exact said_suf_42 h1 (by omega)
    · exact said_suf_43 h1 (by omega)
    · exact said_suf_63 h1 (by omega)
theorem said_allL : (l : List T) → goodL l = true → bdL l ≤ 80000 → ∀ t ∈ l, SaidC t
  | [], _, _ => by intro t h; cases h
  | x :: l, hg, hb => by
    rw [goodL, Bool.and_eq_true] at hg
    rw [bdL] at hb
    have h1 := said_all x hg.1 (by omega)
    have h2 := said_allL l hg.2 (by omega)
    intro t h
    rcases List.mem_cons.1 h with rfl | h
    · exact h1
    · exact h2 t h
end
theorem RPat.below {w w' : World} {B : Nat} {t : T} {v : Value} (h : RPat w B t v) (hb : Below w.heap.size w w') : RPat w' B t v := by
  obtain ⟨nv, root, N, h1, h2, h3, h4, h5⟩ := h.pat
  exact ⟨nv, root, N, h1, own_below h2 hb (Nat.le_refl _), fun d hd => Fz.fr (h3 d hd) (Fr.below hb), h4, h5⟩
set_option maxRecDepth 100000 in
set_option maxHeartbeats 4000000 in
theorem rtext_any {w : World} {B : Nat} {t : T} {v : Value} (h : RPat w B t v) (hg : good t = true) (hb : bd t ≤ 80000) :
    Calls Try.prog 10 #[v] w fun e w' => e = .returned (.string (str (txt t))) ∧ Below w.heap.size w w' := by
  obtain ⟨nv, root, N, rfl, h2, h3, h4, h5⟩ := h.pat
  have hA : Below w.heap.size w (w.alloc (.cells #[nv, .int .i64 (root : Int)] 28)) := bal (Below.refl _ w) _
  have hn : NS w B nv N := ⟨h2, h3, h5⟩
  have HS := Lib.hid (said_all t hg hb _ B nv N root root (hn.below ((Below.refl _ w).alloc (Nat.le_refl _) (.cells #[nv, .int .i64 (root : Int)] 28))) h4)
  have hkl := h4.lt
  have hB0 := Blk.new w 28 #[nv, .int .i64 (root : Int)]
  have c0 := hB0.cell 0
  have c1 := hB0.cell 1
  have HA := Lib.hid hA
  obtain ⟨a, c, rfl⟩ := own_len h2
  have hI : ¬ (N.length : Int) = 0 := by omega
  clear hA hn h h2 h3 h4 hB0
  go_enter Try.func10, Try.ntmps10
  go_wp2_with fail
  refine HS.out.mono ?_
  rintro e w2 ⟨rfl, hb2⟩
  have HB := Lib.hid (bnx HA.out hb2)
  clear hb2
  go_wp2_with fail
  go_ret
  exact ⟨rfl, HB.out⟩
end Go.Proofs.Ytlbkacabcfeaiaa.Tl
