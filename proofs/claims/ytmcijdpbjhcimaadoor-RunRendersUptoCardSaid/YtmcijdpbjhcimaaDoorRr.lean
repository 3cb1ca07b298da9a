/- RunRenders: the document's lines of a reply. -/
import Derived.Test.YtmcijdpbjhcimaaDoorRj
namespace Go.Proofs.YtmcijdpbjhcimaaDoor.Rn
open Go.RowKit Go.Shelf Mm
def sL (L : List (List UInt8)) : List Value := L.map fun l => .string (str l)
theorem sL_len (L : List (List UInt8)) : (sL L).length = L.length := by simp [sL]
theorem sL_snoc (L : List (List UInt8)) (x : List UInt8) : sL (L ++ [x]) = sL L ++ [.string (str x)] := by simp [sL]
theorem sL_at {L : List (List UInt8)} {k : Nat} (h : k < L.length) : (sL L)[k]? = some (.string (str L[k])) := by simp [sL, h]
/-- while the lines of a reply are laid -/
structure TS (W : World) (n : Nat) (y : Rep) (u : Vs) (L : List (List UInt8)) (s : Value) (X : World) : Prop where
  own : X.ownsRow W.heap.size 9 1 s L.length (sL L)
  bel : Below W.heap.size W X
  by_ : Blk X n 30 #[.int .i64 y.kd, .bool y.fd, .string y.sp, .string y.wi, u.p, u.e, .string y.fi, u.l, .bool y.mo]
  lt : n < W.heap.size
section
variable {W X Y : World} {n : Nat} {y : Rep} {u : Vs} {L : List (List UInt8)} {s s' : Value}
theorem TS.go (h : TS W n y u L s X) (hb : Below W.heap.size X Y) {L' : List (List UInt8)} (ho : Y.ownsRow W.heap.size 9 1 s' L'.length (sL L')) : TS W n y u L' s' Y :=
  ⟨ho, h.bel.trans hb, h.by_.below hb h.lt, h.lt⟩
end
theorem app_line {W X : World} {n : Nat} {y : Rep} {u : Vs} {L : List (List UInt8)} {v : Value} (h : TS W n y u L v X) (t : ByteArray) {ops : Array Oper} {rest : List Oper} {o : Oper} {a : Act} {Q : Exit → Act → World → Prop} {s x : Operand}
    (hgd : o.guard = none) (ho : o.op = .call { callee := .builtin .append, args := #[s, x], argTypes := #[28, 28] })
    (hs : a.eval s = v) (hx : a.eval x = .slice (some ⟨X.heap.size, 0, none⟩) 1 1) (hn : L.length ≤ 8589934592)
    (hk : ∀ v' X', TS W n y u (L ++ [bs t]) v' X' → wpList Tryd.prog ops Q rest (a.put o.dst v') X') : wpList Tryd.prog ops Q (o :: rest) a (X.alloc (.cells #[.string t] 9)) := by
  refine app_str t h.own hgd ho hs hx hn h.bel.size fun v' X' h1 h2 => hk v' X' (h.go h2 ?_)
  rw [sL_snoc, List.length_append, List.length_singleton, show str (bs t) = t from str_of t]
  exact h1
theorem told_cnt (y : Rep) : (told1 y).length ≤ 1 ∧ (told2 y).length ≤ 2 ∧ (told3 y).length ≤ 3 ∧ (told4 y).length ≤ 4 ∧ (told5 y).length ≤ 5 ∧ (told6 y).length ≤ 6 ∧ ∀ k, (told7 y k).length ≤ 6 + y.li.length := by
  have p1 : ∀ (b : Bool) (h t : List UInt8), (partL b h t).length ≤ 1 := by intro b h t; unfold partL; cases b <;> simp
  have h1 := p1 (decide (0 < y.sp.size)) hSp (bs y.sp)
  have h2 := p1 (decide (0 < y.wi.size)) hWi (bs y.wi)
  have h3 := p1 (decide (0 < y.po.length)) hPo (joinT [32] y.po)
  have h4 := p1 (decide (0 < y.en.length)) hEn (joinT [44, 32] y.en)
  have h5 := p1 (decide (0 < y.fi.size)) hFi (bs y.fi)
  have e1 : (told1 y).length = 1 := rfl
  have e2 : (told2 y).length ≤ 2 := by unfold told2; rw [List.length_append]; omega
  have e3 : (told3 y).length ≤ 3 := by unfold told3; rw [List.length_append]; omega
  have e4 : (told4 y).length ≤ 4 := by unfold told4; rw [List.length_append]; omega
  have e5 : (told5 y).length ≤ 5 := by unfold told5; rw [List.length_append]; omega
  have e6 : (told6 y).length ≤ 6 := by unfold told6; rw [List.length_append]; omega
  refine ⟨by omega, e2, e3, e4, e5, e6, fun k => ?_⟩
  unfold told7
  rw [List.length_append, List.length_map, List.length_take]
  omega
theorem own_low {X : World} {B N s n : Nat} {e : TypeId} {v : Value} {xs : List Value} (h : X.ownsRow N e s v n xs) (hN : B ≤ N) : X.ownsRow B e s v n xs := by
  refine ⟨h.1, ?_⟩
  rcases h.2 with h1 | ⟨g, cap, cur, hv, hb, rest⟩
  · exact .inl h1
  · exact .inr ⟨g, cap, cur, hv, Nat.le_trans hN hb, rest⟩
theorem line_new {X : World} {n : Nat} {y : Rep} {u : Vs} {t : ByteArray} {L : List (List UInt8)} (hL : L = [bs t]) (hy : Blk X n 30 #[.int .i64 y.kd, .bool y.fd, .string y.sp, .string y.wi, u.p, u.e, .string y.fi, u.l, .bool y.mo]) (hn : n < X.heap.size) :
    TS X n y u L (.slice (some ⟨X.heap.size, 0, none⟩) 1 1) (X.alloc (.cells #[.string t] 9)) := by
  subst hL
  refine ⟨?_, bal (Below.refl _ _) _, hy.alloc _, hn⟩
  have h := own_one X 9 #[.string t] (Nat.le_refl _)
  have e : sL [bs t] = [.string t] := by show [Value.string (str (bs t))] = _; rw [show str (bs t) = t from str_of t]
  rw [e]
  exact h
set_option maxRecDepth 100000 in
set_option maxHeartbeats 4000000 in
theorem told_any (w : World) (y : Rep) (u : Vs) (hr : RepW w u y) (hl : wY y ≤ 68719476736) :
    Calls Tryd.prog 12 #[yA y u] w fun e w' => ∃ v, e = .returned v ∧ w'.ownsRow w.heap.size 9 1 v (toldT y).length (sL (toldT y)) ∧ Below w.heap.size w w' := by
  unfold yA
  obtain ⟨up, ue, ul⟩ := u
  have hp := hr.p
  have he := hr.e
  have hle := hr.l
  dsimp only at hp he hle
  obtain ⟨ap, cp, rfl, _, _⟩ := sees_form hp
  obtain ⟨ae, ce, rfl, _, _⟩ := sees_form he
  obtain ⟨al, cl, rfl, hcl, hcm⟩ := sees_form hle
  unfold maxLen at hcm
  have HR := Lib.hid hr
  have HY := Lib.hid (Blk.new w 30 #[.int .i64 y.kd, .bool y.fd, .string y.sp, .string y.wi, .slice ap y.po.length cp, .slice ae y.en.length ce, .string y.fi, .slice al y.li.length cl, .bool y.mo])
  clear hp he hle hr
  obtain ⟨t1, t2, t3, t4, t5⟩ := tolds_le y
  obtain ⟨z1, z2, z3, z4, z5, z6⟩ := sizes_le y
  have HC := Lib.hid (Blk.new (w.alloc (.cells #[.int .i64 y.kd, .bool y.fd, .string y.sp, .string y.wi, .slice ap y.po.length cp, .slice ae y.en.length ce, .string y.fi, .slice al y.li.length cl, .bool y.mo] 30)) 50 #[.string ⟨#[114, 101, 112, 108, 121]⟩, .string ⟨#[114, 101, 97, 99, 104]⟩, .string ⟨#[109, 105, 115, 115, 101, 100]⟩, .string ⟨#[108, 111, 111, 112]⟩, .string ⟨#[108, 111, 115, 116]⟩, .string ⟨#[105, 115, 111, 108, 97, 116, 101]⟩, .string ⟨#[112, 97, 116, 104]⟩, .string ⟨#[97, 118, 111, 105, 100]⟩, .string ⟨#[99, 111, 118, 101, 114]⟩, .string ⟨#[116, 114, 97, 99, 101]⟩])
  have HY2 := Lib.hid (HY.out.alloc (.cells #[.string ⟨#[114, 101, 112, 108, 121]⟩, .string ⟨#[114, 101, 97, 99, 104]⟩, .string ⟨#[109, 105, 115, 115, 101, 100]⟩, .string ⟨#[108, 111, 111, 112]⟩, .string ⟨#[108, 111, 115, 116]⟩, .string ⟨#[105, 115, 111, 108, 97, 116, 101]⟩, .string ⟨#[112, 97, 116, 104]⟩, .string ⟨#[97, 118, 111, 105, 100]⟩, .string ⟨#[99, 111, 118, 101, 114]⟩, .string ⟨#[116, 114, 97, 99, 101]⟩] 50))
  have HBW := Lib.hid (bal (bal (Below.refl w.heap.size w) (.cells #[.int .i64 y.kd, .bool y.fd, .string y.sp, .string y.wi, .slice ap y.po.length cp, .slice ae y.en.length ce, .string y.fi, .slice al y.li.length cl, .bool y.mo] 30)) (.cells #[.string ⟨#[114, 101, 112, 108, 121]⟩, .string ⟨#[114, 101, 97, 99, 104]⟩, .string ⟨#[109, 105, 115, 115, 101, 100]⟩, .string ⟨#[108, 111, 111, 112]⟩, .string ⟨#[108, 111, 115, 116]⟩, .string ⟨#[105, 115, 111, 108, 97, 116, 101]⟩, .string ⟨#[112, 97, 116, 104]⟩, .string ⟨#[97, 118, 111, 105, 100]⟩, .string ⟨#[99, 111, 118, 101, 114]⟩, .string ⟨#[116, 114, 97, 99, 101]⟩] 50))
  have hlt2 := HY2.out.lt
  rw [World.size_alloc] at HC
  clear HY
  go_enter Tryd.func12, Tryd.ntmps12
  go_upto_region 3 with fail
  generalize hX : World.alloc (World.alloc w _) _ = X at *
  clear hX
  go_cut [0, 17] (fun _ s17 wx => s17 = .bool (decide (0 < y.kd) && decide (y.kd < 10)) ∧ X = wx)
  case first =>
    have hk := HY2.out.cell 0
    by_cases h0 : 0 < y.kd
    · go_wp2_with fail
      go_meet
      exact ⟨by simp [h0], rfl⟩
    · go_wp2_with fail
      go_meet
      exact ⟨by rw [decide_eq_false (by omega), Bool.false_and], rfl⟩
  case rest =>
  obtain ⟨rfl, rfl⟩ := hcut
  go_upto_if 17 with fail
  generalize hD : (decide (0 < y.kd) && decide (y.kd < 10)) = D at *
  have HD := Lib.hid hD
  clear hD
  go_cut [4, 17] (fun s4 _ wx => s4 = .string (str (wordT y.kd)) ∧ X = wx)
  case first =>
    cases D with
    | false =>
      have HE := Lib.hid (show str (wordT y.kd) = ⟨#[114, 101, 112, 108, 121]⟩ from by
        have h := HD.out
        rw [Bool.and_eq_false_iff, decide_eq_false_iff_not, decide_eq_false_iff_not] at h
        unfold wordT
        rw [if_neg (by omega), if_neg (by omega), if_neg (by omega), if_neg (by omega), if_neg (by omega), if_neg (by omega), if_neg (by omega), if_neg (by omega), if_neg (by omega)]
        rfl)
      go_wp2_with fail
      go_meet
      exact ⟨by rw [HE.out], rfl⟩
    | true =>
      have h := HD.out
      rw [Bool.and_eq_true, decide_eq_true_eq, decide_eq_true_eq] at h
      obtain ⟨h0, h1⟩ := h
      have hk := HY2.out.cell 0
      have hw : X.cell? ⟨w.heap.size + 1, y.kd.toNat, none⟩ = some (.string (str (wordT y.kd))) := by
        have h9 : y.kd = 1 ∨ y.kd = 2 ∨ y.kd = 3 ∨ y.kd = 4 ∨ y.kd = 5 ∨ y.kd = 6 ∨ y.kd = 7 ∨ y.kd = 8 ∨ y.kd = 9 := by omega
        rcases h9 with h | h | h | h | h | h | h | h | h <;> rw [h, HC.out.cell] <;> rfl
      have h2 : (0 : Int) ≤ y.kd := by omega
      generalize str (wordT y.kd) = z at *
      go_wp2_with fail
      go_meet
      exact ⟨rfl, rfl⟩
  case rest =>
  obtain ⟨rfl, rfl⟩ := hcut
  clear HD HC
  rename_i wc1 wc2
  generalize hu : (⟨.slice ap y.po.length cp, .slice ae y.en.length ce, .slice al y.li.length cl⟩ : Vs) = u at *
  have eu1 : u.p = .slice ap y.po.length cp := by rw [← hu]
  have eu2 : u.e = .slice ae y.en.length ce := by rw [← hu]
  have eu3 : u.l = .slice al y.li.length cl := by rw [← hu]
  rw [← eu1, ← eu2, ← eu3] at HY2
  have HU := Lib.hid (And.intro eu1 (And.intro eu2 eu3))
  clear hu eu1 eu2 eu3
  have hwd : (str (wordT y.kd)).size ≤ 7 := by rw [str_size]; exact wordT_len _
  have HTF := Lib.hid (show ∀ b : Bool, told1 y = [bs (str (wordT y.kd) ++ ⟨(fdT y.fd).toArray⟩)] from fun b => by unfold told1; rw [bs_app, bs_str, bs_lit])
  generalize hwz : str (wordT y.kd) = wd at *
  clear hwz
  have HY3 := Lib.hid (HY2.out.alloc (.cells #[.string (wd ++ ⟨#[58, 32, 110, 111, 110, 101]⟩)] 9))
  have hf := HY3.out.cell 1
  go_upto_if 26 with fail
  clear hf
  go_cut [5, 26] (fun s5 _ wx => TS X w.heap.size y u (told1 y) s5 wx)
  case first =>
    cases hfd : y.fd with
    | false =>
      have HE := Lib.hid (show told1 y = [bs (wd ++ ⟨#[58, 32, 110, 111, 110, 101]⟩)] from by rw [HTF.out true, hfd]; rfl)
      clear hfd
      go_wp2_with fail
      go_meet
      exact line_new HE.out HY2.out hlt2
    | true =>
      have HE := Lib.hid (show told1 y = [bs (wd ++ ⟨#[58, 32, 102, 111, 117, 110, 100]⟩)] from by rw [HTF.out true, hfd]; rfl)
      clear hfd
      go_wp2_with fail
      go_meet
      exact line_new HE.out HY2.out hlt2
  case rest =>
  have HS1 := Lib.hid hcut
  clear hcut HTF HY2 HY3 hlt2 hwd
  obtain ⟨n1, n2, n3, n4, n5, n6, n7⟩ := told_cnt y
  have k2 := HS1.out.by_.cell 2
  go_upto_if 33 with fail
  go_cut [5, 33] (fun s5 _ wx => TS X w.heap.size y u (told2 y) s5 wx)
  case first =>
    have HNE := Lib.hid (ne_dec y.sp)
    cases hE : y.sp.toList.isEmpty with
    | true =>
      have HT := Lib.hid (show told2 y = told1 y from by
        have h := HNE.out
        rw [hE] at h
        unfold told2
        rw [← h]
        simp [partL])
      clear hE
      go_wp2_with fail
      go_meet
      rw [HT.out]
      exact HS1.out
    | false =>
      have HT := Lib.hid (show told2 y = told1 y ++ [bs (⟨#[32, 32, 115, 112, 97, 99, 101, 32]⟩ ++ y.sp)] from by
        have h := HNE.out
        rw [hE] at h
        rw [bs_app, bs_lit]
        conv => lhs; unfold told2
        rw [← h]
        rfl)
      clear hE
      go_wp2_with (at_builtin; refine app_line HS1.out _ rfl rfl rfl rfl (by omega) ?_; intro v1 X1 hs1)
      go_meet
      rw [HT.out]
      exact hs1
  case rest =>
  have HS2 := Lib.hid hcut
  clear hcut HS1 k2
  have k3 := HS2.out.by_.cell 3
  go_upto_if 42 with fail
  go_cut [5, 42] (fun s5 _ wx => TS X w.heap.size y u (told3 y) s5 wx)
  case first =>
    have HNE := Lib.hid (ne_dec y.wi)
    cases hE : y.wi.toList.isEmpty with
    | true =>
      have HT := Lib.hid (show told3 y = told2 y from by
        have h := HNE.out
        rw [hE] at h
        unfold told3
        rw [← h]
        simp [partL])
      clear hE
      go_wp2_with fail
      go_meet
      rw [HT.out]
      exact HS2.out
    | false =>
      have HT := Lib.hid (show told3 y = told2 y ++ [bs (⟨#[32, 32, 119, 105, 116, 110, 101, 115, 115, 32]⟩ ++ y.wi)] from by
        have h := HNE.out
        rw [hE] at h
        rw [bs_app, bs_lit]
        conv => lhs; unfold told3
        rw [← h]
        rfl)
      clear hE
      go_wp2_with (at_builtin; refine app_line HS2.out _ rfl rfl rfl rfl (by omega) ?_; intro v1 X1 hs1)
      go_meet
      rw [HT.out]
      exact hs1
  case rest =>
  have HS3 := Lib.hid hcut
  clear hcut HS2 k3
  have k4 : wc.cell? ⟨w.heap.size, 4, none⟩ = some (.slice ap y.po.length cp) := by rw [← HU.out.1]; exact HS3.out.by_.cell 4
  go_upto_if 52 with fail
  go_cut [5, 52] (fun s5 _ wx => TS X w.heap.size y u (told4 y) s5 wx)
  case first =>
    by_cases h0 : 0 < y.po.length
    · have hjw := join_w (bs ⟨#[32]⟩) (by decide) y.po
      rw [← str_size] at hjw
      have HJ := Lib.hid (rjoin_any ⟨#[32]⟩ y.po (.slice ap y.po.length cp) wc (by rw [← HU.out.1]; exact HR.out.p.below (HBW.out.trans (HS3.out.bel.mono HBW.out.size))) (by decide) (by omega))
      have HT := Lib.hid (show told4 y = told3 y ++ [bs (⟨#[32, 32, 112, 97, 116, 104, 32]⟩ ++ str (joinT (bs ⟨#[32]⟩) y.po))] from by
        rw [bs_app, bs_lit, bs_str]
        conv => lhs; unfold told4
        rw [decide_eq_true h0]
        rfl)
      generalize str (joinT (bs ⟨#[32]⟩) y.po) = jt at *
      go_wp2_with fail
      refine HJ.out.mono ?_
      rintro e w' ⟨rfl, rfl⟩
      go_wp2_with (at_builtin; refine app_line HS3.out _ rfl rfl rfl rfl (by omega) ?_; intro v1 X1 hs1)
      go_meet
      rw [HT.out]
      exact hs1
    · have HT := Lib.hid (show told4 y = told3 y from by
        unfold told4
        rw [decide_eq_false h0]
        simp [partL])
      go_wp2_with fail
      go_meet
      rw [HT.out]
      exact HS3.out
  case rest =>
  have HS4 := Lib.hid hcut
  clear hcut HS3 k4
  have k5 : wc.cell? ⟨w.heap.size, 5, none⟩ = some (.slice ae y.en.length ce) := by rw [← HU.out.2.1]; exact HS4.out.by_.cell 5
  go_upto_if 63 with fail
  go_cut [5, 63] (fun s5 _ wx => TS X w.heap.size y u (told5 y) s5 wx)
  case first =>
    by_cases h0 : 0 < y.en.length
    · have hjw := join_w (bs ⟨#[44, 32]⟩) (by decide) y.en
      rw [← str_size] at hjw
      have HJ := Lib.hid (rjoin_any ⟨#[44, 32]⟩ y.en (.slice ae y.en.length ce) wc (by rw [← HU.out.2.1]; exact HR.out.e.below (HBW.out.trans (HS4.out.bel.mono HBW.out.size))) (by decide) (by omega))
      have HT := Lib.hid (show told5 y = told4 y ++ [bs (⟨#[32, 32, 98, 121, 32]⟩ ++ str (joinT (bs ⟨#[44, 32]⟩) y.en))] from by
        rw [bs_app, bs_lit, bs_str]
        conv => lhs; unfold told5
        rw [decide_eq_true h0]
        rfl)
      generalize str (joinT (bs ⟨#[44, 32]⟩) y.en) = jt at *
      go_wp2_with fail
      refine HJ.out.mono ?_
      rintro e w' ⟨rfl, rfl⟩
      go_wp2_with (at_builtin; refine app_line HS4.out _ rfl rfl rfl rfl (by omega) ?_; intro v1 X1 hs1)
      go_meet
      rw [HT.out]
      exact hs1
    · have HT := Lib.hid (show told5 y = told4 y from by
        unfold told5
        rw [decide_eq_false h0]
        simp [partL])
      go_wp2_with fail
      go_meet
      rw [HT.out]
      exact HS4.out
  case rest =>
  have HS5 := Lib.hid hcut
  clear hcut HS4 k5
  have k6 := HS5.out.by_.cell 6
  go_upto_if 73 with fail
  go_cut [5, 73] (fun s5 _ wx => TS X w.heap.size y u (told6 y) s5 wx)
  case first =>
    have HNE := Lib.hid (ne_dec y.fi)
    cases hE : y.fi.toList.isEmpty with
    | true =>
      have HT := Lib.hid (show told6 y = told5 y from by
        have h := HNE.out
        rw [hE] at h
        unfold told6
        rw [← h]
        simp [partL])
      clear hE
      go_wp2_with fail
      go_meet
      rw [HT.out]
      exact HS5.out
    | false =>
      have HT := Lib.hid (show told6 y = told5 y ++ [bs (⟨#[32, 32, 102, 105, 110, 97, 108, 32]⟩ ++ y.fi)] from by
        have h := HNE.out
        rw [hE] at h
        rw [bs_app, bs_lit]
        conv => lhs; unfold told6
        rw [← h]
        rfl)
      clear hE
      go_wp2_with (at_builtin; refine app_line HS5.out _ rfl rfl rfl rfl (by omega) ?_; intro v1 X1 hs1)
      go_meet
      rw [HT.out]
      exact hs1
  case rest =>
  have HS6 := Lib.hid hcut
  clear hcut HS5 k6
  go_wp2_with fail
  go_loopw [5, 6] (fun s i wr => ∃ k : Nat, k ≤ y.li.length ∧ i = .int .i64 (k : Int) ∧ TS X w.heap.size y u (told7 y k) s wr) (fun _ i _ => y.li.length - (intOf i).toNat)
  case atStart =>
    refine ⟨0, Nat.zero_le _, rfl, ?_⟩
    have e : told7 y 0 = told6 y := by unfold told7; simp
    rw [e]
    exact HS6.out
  case round =>
    obtain ⟨k, hk, rfl, hs⟩ := hrel
    have HS7 := Lib.hid hs
    clear hs
    have k7 : wr.cell? ⟨w.heap.size, 7, none⟩ = some (.slice al y.li.length cl) := by rw [← HU.out.2.2]; exact HS7.out.by_.cell 7
    have hkn := n7 k
    by_cases hlt : k < y.li.length
    · obtain ⟨g, off, rfl, hg, hq⟩ := sees_cells (by have h := HR.out.l; rw [HU.out.2.2] at h; exact h) (by omega)
      have q0 := hq k hlt
      have hbw := HBW.out.trans (HS7.out.bel.mono HBW.out.size)
      rw [← hbw.cell (p := ⟨g, off + k, none⟩) hg] at q0
      have hz := wL_mem (List.getElem_mem hlt)
      have HT := Lib.hid (show told7 y (k + 1) = told7 y k ++ [bs (⟨#[32, 32]⟩ ++ y.li[k])] from by rw [told7_succ y hlt, bs_app, bs_lit]; rfl)
      generalize y.li[k] = s at *
      clear hq hbw
      go_wp2_with (at_builtin; refine app_line HS7.out _ rfl rfl rfl rfl (by have := wL_len y.li; omega) ?_; intro v1 X1 hs1)
      go_roundw
      case rel => exact ⟨k + 1, by omega, by go_num, by rw [HT.out]; exact hs1⟩
      case measure => simp [intOf]; omega
    · obtain rfl : k = y.li.length := by omega
      have k8 := HS7.out.by_.cell 8
      go_upto_if 97 with fail
      clear k7
      go_cut [5, 97] (fun s5 _ wx => TS X w.heap.size y u (toldT y) s5 wx)
      case first =>
        cases hE : y.mo with
        | false =>
          have HT := Lib.hid (show toldT y = told7 y y.li.length from by unfold toldT; rw [hE]; simp [partL])
          clear hE
          go_wp2_with fail
          go_meet
          rw [HT.out]
          exact HS7.out
        | true =>
          have HT := Lib.hid (show toldT y = told7 y y.li.length ++ [bs ⟨#[32, 32, 109, 111, 114, 101]⟩] from by unfold toldT; rw [hE]; rfl)
          clear hE
          go_wp2_with (at_builtin; refine app_line HS7.out _ rfl rfl rfl rfl (by have := wL_len y.li; omega) ?_; intro v1 X1 hs1)
          go_meet
          rw [HT.out]
          exact hs1
      case rest =>
      have HS8 := Lib.hid hcut
      clear hcut HS7 k8
      go_wp2_with fail
      go_ret
      exact ⟨_, rfl, own_low HS8.out.own HBW.out.size, HBW.out.trans (HS8.out.bel.mono HBW.out.size)⟩
end Go.Proofs.YtmcijdpbjhcimaaDoor.Rn
