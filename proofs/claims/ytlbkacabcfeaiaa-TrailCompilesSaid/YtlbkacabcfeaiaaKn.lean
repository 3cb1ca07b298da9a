/- Patterns: the reference says a pattern: leaves, brackets. -/
import Derived.Test.YtlbkacabcfeaiaaKm
namespace Go.Proofs.Ytlbkacabcfeaiaa.Tl
open Go.RowKit Mm
set_option linter.unusedVariables false
/-- nodes that stand -/
structure NS (w : World) (B : Nat) (nv : Value) (N : List Nd) : Prop where
  row : w.ownsRow B 92 4 nv N.length (ndC N)
  kid : ∀ d ∈ N, Fz w 3 1 d.kv d.kids.length (iv d.kids)
  len : N.length ≤ 2000
theorem NS.below {w w' : World} {B : Nat} {nv : Value} {N : List Nd} (h : NS w B nv N) (hb : Below w.heap.size w w') : NS w' B nv N :=
  ⟨own_below h.row hb (Nat.le_refl _), fun d hd => Fz.fr (h.kid d hd) (Fr.below hb), h.len⟩
/-- a tree said -/
def SaidC (t : T) : Prop := ∀ (w : World) (B : Nat) (nv : Value) (N : List Nd) (k r : Nat), NS w B nv N → Den N k t → Calls Try.prog 21 #[.agg #[nv, .int .i64 (r : Int)], .int .i64 (k : Int)] w fun e w' => e = .returned (.string (str (txt t))) ∧ Below w.heap.size w w'
/-- what the call sees behind its first steps -/
structure Sd (w : World) (nv : Value) (r : Nat) (d : Nd) (X : World) : Prop where
  bel : Below w.heap.size w X
  p0 : X.cell? ⟨w.heap.size, 0, none⟩ = some nv
  p1 : X.cell? ⟨w.heap.size, 1, none⟩ = some (.int .i64 (r : Int))
  x0 : X.cell? ⟨w.heap.size + 1, 0, none⟩ = some (.int .i64 (d.kind : Int))
  x1 : X.cell? ⟨w.heap.size + 1, 1, none⟩ = some (.string d.name)
  x2 : X.cell? ⟨w.heap.size + 1, 2, none⟩ = some (.bool d.no)
  x3 : X.cell? ⟨w.heap.size + 1, 3, none⟩ = some d.kv
  two : w.heap.size + 1 < X.heap.size
theorem Sd.start (w : World) (nv : Value) (r : Nat) (d : Nd) : Sd w nv r d ((w.alloc (.cells #[nv, .int .i64 (r : Int)] 28)).alloc (.cells #[.int .i64 (d.kind : Int), .string d.name, .bool d.no, d.kv] 92)) := by
  have h1 := Blk.new w 28 #[nv, .int .i64 (r : Int)]
  have h2 := h1.alloc (.cells #[.int .i64 (d.kind : Int), .string d.name, .bool d.no, d.kv] 92)
  have h3 := Blk.new (w.alloc (.cells #[nv, .int .i64 (r : Int)] 28)) 92 #[.int .i64 (d.kind : Int), .string d.name, .bool d.no, d.kv]
  rw [World.size_alloc] at h3
  exact ⟨bal (bal (Below.refl _ w) _) _, h2.cell 0, h2.cell 1, h3.cell 0, h3.cell 1, h3.cell 2, h3.cell 3, by simp⟩
theorem Sd.on {w X Y : World} {nv : Value} {r : Nat} {d : Nd} (h : Sd w nv r d X) (hb : Below X.heap.size X Y) : Sd w nv r d Y := by
  have h1 := h.two
  have c : ∀ g i, g ≤ w.heap.size + 1 → Y.cell? ⟨g, i, none⟩ = X.cell? ⟨g, i, none⟩ := fun g i hg => Below.cell hb (p := ⟨g, i, none⟩) (show g < X.heap.size by omega)
  exact ⟨bnx h.bel hb, (c _ _ (by omega)).trans h.p0, (c _ _ (by omega)).trans h.p1, (c _ _ (by omega)).trans h.x0, (c _ _ (by omega)).trans h.x1, (c _ _ (by omega)).trans h.x2, (c _ _ (by omega)).trans h.x3, Nat.lt_of_lt_of_le h1 hb.size⟩
/-- the node that is read -/
theorem nd_cells {w : World} {B : Nat} {nv : Value} {N : List Nd} {k : Nat} {d : Nd} {o : Obj} (h : NS w B nv N) (hd : N[k]? = some d) : ∃ g c, nv = .slice (some ⟨g, 0, none⟩) N.length c ∧ (w.alloc o).cell? ⟨g, k * 4, none⟩ = some (.int .i64 (d.kind : Int)) ∧ (w.alloc o).cell? ⟨g, k * 4 + 1, none⟩ = some (.string d.name) ∧ (w.alloc o).cell? ⟨g, k * 4 + 2, none⟩ = some (.bool d.no) ∧ (w.alloc o).cell? ⟨g, k * 4 + 3, none⟩ = some d.kv := by
  have hk := (List.getElem?_eq_some_iff.1 hd).1
  have h2 := (h.below ((Below.refl _ w).alloc (Nat.le_refl _) o)).row
  obtain ⟨g, c, hv, _, _, _, hc⟩ := own_at h2 (by omega)
  obtain ⟨h0, h1, h3, h4⟩ := ndC_get hd
  exact ⟨g, c, hv, hc _ _ h0, hc _ _ h1, hc _ _ h3, hc _ _ h4⟩
set_option maxRecDepth 100000 in
set_option maxHeartbeats 8000000 in
theorem said_leaf (tx : List UInt8) (n po dn : Bool) (hb : tx.length ≤ 90000) : SaidC (.leaf tx n po dn) := by
  intro w B nv N k r hN hden
  have hlen := hN.len
  have hkl := hden.lt
  obtain ⟨d, hd, hcs⟩ : ∃ d, N[k]? = some d ∧ ((d.kind = 1 ∧ txt (.leaf tx n po dn) = [46]) ∨ (((d.kind = 2 ∨ d.kind = 3) ∧ d.name.data.toList = tx) ∧ txt (.leaf tx n po dn) = if d.no then 33 :: d.name.data.toList else d.name.data.toList)) := by
    cases hden with
    | any k d h1 h2 => exact ⟨d, h1, .inl ⟨h2, by rw [txt]; rfl⟩⟩
    | nam k d po h1 h2 => exact ⟨d, h1, .inr ⟨⟨by cases po <;> simp_all, rfl⟩, by rw [txt]⟩⟩
  obtain ⟨g, c, rfl, p0, p1, p2, p3⟩ := nd_cells (o := .cells #[nv, .int .i64 (r : Int)] 28) hN hd
  have c0 := (Blk.new w 28 #[.slice (some ⟨g, 0, none⟩) N.length c, .int .i64 (r : Int)]).cell 0
  have c1 := (Blk.new w 28 #[.slice (some ⟨g, 0, none⟩) N.length c, .int .i64 (r : Int)]).cell 1
  have hS := Sd.start w (.slice (some ⟨g, 0, none⟩) N.length c) r d
  have hkid := Fz.form (hN.kid d (List.mem_of_getElem? hd))
  obtain ⟨ak, ck, hkv, _⟩ := hkid
  have i0 : (0 : Int) ≤ (k : Int) := by omega
  have i1 : (k : Int) < (N.length : Int) := by omega
  have hwk : IntKind.i64.wrap (k : Int) = (k : Int) := IntWalk.i64_in _ (by omega)
  obtain ⟨kd, nm, no, kv, kids⟩ := d
  dsimp only at hkv hcs p0 p1 p2 p3
  subst hkv
  rcases hcs with ⟨hk1, ht⟩ | ⟨⟨hk2, htx⟩, ht⟩
  · rw [ht]
    have hkI : (kd : Int) = 1 := by omega
    clear hS hN hden hd ht hk1
    go_enter Try.func21, Try.ntmps21
    go_wp2_with fail
    go_ret
    exact ⟨rfl, bal (bal (Below.refl _ w) _) _⟩
  · rw [ht]
    have hkA : ¬ (kd : Int) = 1 := by omega
    have s0 := hS.x0
    have s1 := hS.x1
    have s2 := hS.x2
    have HX := Lib.hid (show (⟨#[33]⟩ : ByteArray) ++ nm = str (33 :: nm.data.toList) from str_eq (by rw [ByteArray.data_append, Array.toList_append]; rfl))
    have HY := Lib.hid (show nm = str nm.data.toList from (str_of nm).symm)
    have hsz : nm.size ≤ 90000 := by rw [← len_s, htx]; exact hb
    clear hS hN hden hd ht htx
    rcases hk2 with hk | hk
    · have hkI : (kd : Int) = 2 := by omega
      clear hk
      cases no with
      | true =>
        go_enter Try.func21, Try.ntmps21
        go_wp2_with fail
        go_ret
        exact ⟨congrArg (fun z => Ending.returned (Value.string z)) HX.out, bal (bal (Below.refl _ w) _) _⟩
      | false =>
        go_enter Try.func21, Try.ntmps21
        go_wp2_with fail
        go_ret
        exact ⟨congrArg (fun z => Ending.returned (Value.string z)) HY.out, bal (bal (Below.refl _ w) _) _⟩
    · have hkI : (kd : Int) = 3 := by omega
      clear hk
      cases no with
      | true =>
        go_enter Try.func21, Try.ntmps21
        go_wp2_with fail
        go_ret
        exact ⟨congrArg (fun z => Ending.returned (Value.string z)) HX.out, bal (bal (Below.refl _ w) _) _⟩
      | false =>
        go_enter Try.func21, Try.ntmps21
        go_wp2_with fail
        go_ret
        exact ⟨congrArg (fun z => Ending.returned (Value.string z)) HY.out, bal (bal (Below.refl _ w) _) _⟩
def isSq : T → Bool
  | .seq _ => true
  | _ => false
theorem den_kind {N : List Nd} {k : Nat} {t : T} {d : Nd} (h : Den N k t) (hd : N[k]? = some d) : (isAlt t = true ∧ isSq t = false ∧ d.kind = 5) ∨ (isAlt t = false ∧ isSq t = true ∧ d.kind = 4) ∨ (isAlt t = false ∧ isSq t = false ∧ d.kind ≠ 4 ∧ d.kind ≠ 5) := by
  cases h with
  | any k e h1 h2 => rw [h1] at hd; cases hd; exact .inr (.inr ⟨rfl, rfl, by omega, by omega⟩)
  | nam k e po h1 h2 =>
    rw [h1] at hd; cases hd
    have : d.kind = 2 ∨ d.kind = 3 := by cases po <;> simp_all
    exact .inr (.inr ⟨rfl, rfl, by omega, by omega⟩)
  | seq k e l h1 h2 h3 h4 => rw [h1] at hd; cases hd; exact .inr (.inl ⟨rfl, rfl, h2⟩)
  | alt k e l h1 h2 h3 h4 => rw [h1] at hd; cases hd; exact .inl ⟨rfl, rfl, h2⟩
  | suf k e j t c h1 h2 h3 h4 h5 =>
    rw [h1] at hd; cases hd
    have := sufK_lt c
    exact .inr (.inr ⟨rfl, rfl, by omega, by omega⟩)
theorem many_or (t : T) : isMany t = (isAlt t || isSq t) := by cases t <;> rfl
set_option maxRecDepth 100000 in
set_option maxHeartbeats 8000000 in
theorem rbracketed_any {t : T} (hs : SaidC t) (hb : bd t ≤ 90000) (al : Bool) (w : World) (B : Nat) (nv : Value) (N : List Nd) (k r : Nat) (hN : NS w B nv N) (hden : Den N k t) :
    Calls Try.prog 34 #[.agg #[nv, .int .i64 (r : Int)], .int .i64 (k : Int), .bool al] w fun e w' => e = .returned (.string (str (brk (isAlt t || (!al && isSq t)) (txt t)))) ∧ Below w.heap.size w w' := by
  have hlen := hN.len
  have hkl := hden.lt
  have htb := txt_bd t
  have hA := bal (Below.refl w.heap.size w) (.cells #[nv, .int .i64 (r : Int)] 28)
  have hN1 := hN.below ((Below.refl _ w).alloc (Nat.le_refl _) (.cells #[nv, .int .i64 (r : Int)] 28))
  have HSD := Lib.hid (hs _ B nv N k r hN1 hden)
  obtain ⟨d, hd⟩ : ∃ d, N[k]? = some d := ⟨_, List.getElem?_eq_getElem hkl⟩
  have hkd := den_kind hden hd
  obtain ⟨g, c, rfl, p0, p1, p2, p3⟩ := nd_cells (o := .cells #[nv, .int .i64 (r : Int)] 28) hN hd
  have hB0 := Blk.new w 28 #[.slice (some ⟨g, 0, none⟩) N.length c, .int .i64 (r : Int)]
  have c0 := hB0.cell 0
  have c1 := hB0.cell 1
  have hgl : g < (w.alloc (.cells #[.slice (some ⟨g, 0, none⟩) N.length c, .int .i64 (r : Int)] 28)).heap.size := by
    obtain ⟨g', c', e, _, _, h, _⟩ := own_at hN1.row (by omega)
    cases e
    exact h
  have hwl : w.heap.size < (w.alloc (.cells #[.slice (some ⟨g, 0, none⟩) N.length c, .int .i64 (r : Int)] 28)).heap.size := by simp
  have i0 : (0 : Int) ≤ (k : Int) := by omega
  have i1 : (k : Int) < (N.length : Int) := by omega
  have hwk : IntKind.i64.wrap (k : Int) = (k : Int) := IntWalk.i64_in _ (by omega)
  have HA := Lib.hid hA
  have HE := Lib.hid (show (⟨#[40]⟩ : ByteArray) ++ str (txt t) ++ ⟨#[41]⟩ = str (brk true (txt t)) from by
    show str [40] ++ str (txt t) ++ str [41] = _
    rw [str_app, str_app]
    rfl)
  have hz := str_size (txt t)
  have hz2 : (str (txt t)).size ≤ 90000 := by omega
  obtain ⟨bb, hbb⟩ : ∃ bb, bb = (isAlt t || (!al && isSq t)) := ⟨_, rfl⟩
  rw [← hbb]
  clear hs hN hN1 hA hB0 p1 p2 p3 hz
  generalize hzz : str (txt t) = z at *
  have HZ := Lib.hid hzz
  clear hzz
  go_enter Try.func34, Try.ntmps34
  go_wp2_with fail
  refine HSD.out.mono ?_
  rintro e w1 ⟨rfl, hb1⟩
  have d0 := (Below.cell hb1 (p := ⟨w.heap.size, 0, none⟩) hwl).trans c0
  have d1 := (Below.cell hb1 (p := ⟨w.heap.size, 1, none⟩) hwl).trans c1
  have n0 := (Below.cell hb1 (p := ⟨g, k * 4, none⟩) hgl).trans p0
  have HB := Lib.hid (bnx HA.out hb1)
  clear hb1 c0 c1 p0 hwl hgl HSD
  rcases hkd with ⟨ha, hq, hk⟩ | ⟨ha, hq, hk⟩ | ⟨ha, hq, hk4, hk5⟩
  · have hkI : (d.kind : Int) = 5 := by omega
    have HQ := Lib.hid (show bb = true from by rw [hbb, ha]; rfl)
    clear hbb
    go_wp2_with fail
    go_ret
    exact ⟨by rw [HQ.out]; exact congrArg (fun x => Ending.returned (Value.string x)) HE.out, HB.out⟩
  · have hkI : (d.kind : Int) = 4 := by omega
    cases al with
    | true =>
      have HQ := Lib.hid (show bb = false from by rw [hbb, ha]; rfl)
      clear hbb
      go_wp2_with fail
      go_ret
      exact ⟨by rw [HQ.out]; exact congrArg (fun x => Ending.returned (Value.string x)) HZ.out.symm, HB.out⟩
    | false =>
      have HQ := Lib.hid (show bb = true from by rw [hbb, ha, hq]; rfl)
      clear hbb
      go_wp2_with fail
      go_ret
      exact ⟨by rw [HQ.out]; exact congrArg (fun x => Ending.returned (Value.string x)) HE.out, HB.out⟩
  · have hk4I : ¬ (d.kind : Int) = 4 := by omega
    have hk5I : ¬ (d.kind : Int) = 5 := by omega
    have hk4J : ((d.kind : Int) == 4) = false := beq_eq_false_iff_ne.2 hk4I
    have hk5J : ((d.kind : Int) == 5) = false := beq_eq_false_iff_ne.2 hk5I
    have HQ := Lib.hid (show bb = false from by rw [hbb, ha, hq]; cases al <;> rfl)
    clear hbb
    cases al with
    | true =>
      go_wp2_with fail
      go_ret
      exact ⟨by rw [HQ.out]; exact congrArg (fun x => Ending.returned (Value.string x)) HZ.out.symm, HB.out⟩
    | false =>
      go_wp2_with fail
      go_ret
      exact ⟨by rw [HQ.out]; exact congrArg (fun x => Ending.returned (Value.string x)) HZ.out.symm, HB.out⟩
end Go.Proofs.Ytlbkacabcfeaiaa.Tl
