/- RunRenders: the program's text of a reply. -/
import Derived.Test.YtmcijdpbjhcimaaDoorRk
namespace Go.Proofs.YtmcijdpbjhcimaaDoor.Rn
open Go.RowKit Go.Shelf Mm
theorem join_any (sep : ByteArray) (l : List ByteArray) (v : Value) (w : World) (hv : Sees w v (ss l)) (hs : sep.size ≤ 2) (hl : wL l ≤ 17592186044416) :
    Calls Tryd.prog 17 #[v, .string sep] w fun e w' => e = .returned (.string (str (joinT (bs sep) l))) ∧ Below w.heap.size w w' := by
  obtain ⟨a, cap, rfl, hc, hm⟩ := sees_form hv
  by_cases h0 : l = []
  · subst h0
    refine (Tryd.strings_Join_none a cap sep w).mono ?_
    rintro e w' ⟨rfl, rfl⟩
    exact ⟨rfl, Below.refl _ _⟩
  · obtain ⟨g, off, rfl, hg, hq⟩ := sees_cells hv (List.length_pos_iff.2 h0)
    have h1 := join_w (bs sep) (by rw [bs_len]; exact hs) l
    refine (Tryd.strings_Join g off cap l sep w (fun j x hj => by
      obtain ⟨hj1, hj2⟩ := List.getElem?_eq_some_iff.1 hj
      rw [← hj2]
      exact hq j hj1) hg (by have := wL_len l; omega) hc (by
        have h2 : (Lib.join (l.map (·.data.toList)) sep.data.toList).length ≤ wL l := by
          have h3 : (joinT (bs sep) l).length ≤ wL l := by omega
          exact h3
        omega)).mono ?_
    rintro e w' ⟨rfl, hb⟩
    exact ⟨rfl, hb⟩
/-- while a reply is written -/
structure RS (w0 w : World) (B b n : Nat) (y : Rep) (u : Vs) (l : List UInt8) (X : World) : Prop where
  sb : SB B b l X
  bel : Below B w X
  bb : Blk X n 34 #[.pointer (some ⟨b, 0, none⟩)]
  by_ : Blk X (n + 1) 30 #[.int .i64 y.kd, .bool y.fd, .string y.sp, .string y.wi, u.p, u.e, .string y.fi, u.l, .bool y.mo]
  ne : b < n
  hB : B ≤ w.heap.size
  h0 : w0.heap.size ≤ B
  b0 : Below w0.heap.size w0 w
section
variable {w0 w X Y : World} {B b n : Nat} {y : Rep} {u : Vs} {l l' : List UInt8}
theorem RS.lo (h : RS w0 w B b n y u l X) : Below w0.heap.size w0 X := h.b0.trans (h.bel.mono h.h0)
theorem RS.sz (h : RS w0 w B b n y u l X) : B ≤ X.heap.size := Nat.le_trans h.hB h.bel.size
theorem RS.go (h : RS w0 w B b n y u l X) (hs : SB B b l' Y) (hb : Below B X Y) (hk : Ok b X Y) : RS w0 w B b n y u l' Y :=
  ⟨hs, h.bel.trans hb, hk.blk h.bb (by have := h.ne; omega) (by decide), hk.blk h.by_ (by have := h.ne; omega) (by decide), h.ne, h.hB, h.h0, h.b0⟩
theorem RS.below (h : RS w0 w B b n y u l X) (hb : Below X.heap.size X Y) : RS w0 w B b n y u l Y :=
  h.go (SB_below h.sb hb) (hb.mono h.sz) (ok_below hb)
end
theorem told1_bytes (l : List UInt8) (y : Rep) : l ++ linesT (told1 y) = if y.fd then l ++ bs (str (wordT y.kd)) ++ bs ⟨#[58, 32, 102, 111, 117, 110, 100, 10]⟩ else l ++ bs (str (wordT y.kd)) ++ bs ⟨#[58, 32, 110, 111, 110, 101, 10]⟩ := by
  unfold told1 fdT
  rw [linesT_one, bs_str]
  cases y.fd <;> simp [bs_lit]
theorem part_rs {w0 w X : World} {B b n : Nat} {y : Rep} {u : Vs} {l : List UInt8} (h : RS w0 w B b n y u l X) (hd tx : ByteArray) (th : Bool) (h1 : hd.size ≤ 10) (h2 : l.length + tx.size ≤ 17592186044416) :
    Calls Tryd.prog 16 #[.string hd, .string tx, .bool th, .pointer (some ⟨n, 0, none⟩)] X fun e X' => e = .returned (.tuple #[]) ∧ RS w0 w B b n y u (l ++ linesT (partL th (bs hd) (bs tx))) X' := by
  refine (part_any B b n l hd tx th X h.sb h.bb h.sz h1 h2).mono ?_
  rintro e X' ⟨rfl, hs, hb, hk⟩
  exact ⟨rfl, h.go hs hb hk⟩
theorem tolds_le (y : Rep) : (linesT (told1 y)).length ≤ wY y ∧ (linesT (told2 y)).length ≤ wY y ∧ (linesT (told3 y)).length ≤ wY y ∧ (linesT (told4 y)).length ≤ wY y ∧ (linesT (told5 y)).length ≤ wY y := by
  have h := told6_len y
  unfold told6 at h
  unfold told5 at h ⊢
  unfold told4 at h ⊢
  unfold told3 at h ⊢
  unfold told2 at h ⊢
  simp only [linesT_app, len_app] at h ⊢
  refine ⟨?_, ?_, ?_, ?_, ?_⟩ <;> omega
theorem sizes_le (y : Rep) : y.sp.size + 300 ≤ wY y ∧ y.wi.size + 300 ≤ wY y ∧ wL y.po + 300 ≤ wY y ∧ wL y.en + 300 ≤ wY y ∧ y.fi.size + 300 ≤ wY y ∧ wL y.li + 300 ≤ wY y := by
  unfold wY
  refine ⟨?_, ?_, ?_, ?_, ?_, ?_⟩ <;> omega
theorem ne_dec (s : ByteArray) : (!s.toList.isEmpty) = decide (0 < s.size) := by
  rw [ByteArray.toList_eq, ← len_s]
  cases s.data.toList <;> simp
abbrev HdP (B : Nat) (W : World) (p q : Nat) (y : Value) (w' : World) : Prop := w'.cell? ⟨p, q, none⟩ = some y ∧ Below B W w'
abbrev HdR (B : Nat) (W : World) (n p q : Nat) (z y : Value) (w' : World) : Prop := w'.cell? ⟨n, 0, none⟩ = some z ∧ w'.cell? ⟨p, q, none⟩ = some y ∧ Below B W w'
set_option maxRecDepth 100000 in
set_option maxHeartbeats 4000000 in
theorem render_any (w0 w : World) (B b : Nat) (l : List UInt8) (y : Rep) (u : Vs) (h : SB B b l w) (hB : B ≤ w.heap.size) (h0 : w0.heap.size ≤ B) (b0 : Below w0.heap.size w0 w) (hw : Words w0) (hr : RepW w0 u y) (hl : l.length + 2 * wY y ≤ 17592186044416) :
    Calls Tryd.prog 9 #[.pointer (some ⟨b, 0, none⟩), yA y u] w fun e w' => e = .returned (.tuple #[]) ∧ SB B b (l ++ linesT (toldT y)) w' ∧ Below B w w' := by
  have hS0 : RS w0 w B b w.heap.size y u l ((w.alloc (.cells #[.pointer (some ⟨b, 0, none⟩)] 34)).alloc (.cells #[.int .i64 y.kd, .bool y.fd, .string y.sp, .string y.wi, u.p, u.e, .string y.fi, u.l, .bool y.mo] 30)) :=
    ⟨SB_below h (bal (bal (Below.refl _ _) _) _), (bal (bal (Below.refl _ _) _) _).mono hB, (Blk.new w _ _).alloc _, by have := Blk.new (w.alloc (.cells #[.pointer (some ⟨b, 0, none⟩)] 34)) 30 #[.int .i64 y.kd, .bool y.fd, .string y.sp, .string y.wi, u.p, u.e, .string y.fi, u.l, .bool y.mo]; rw [World.size_alloc] at this; exact this, SB_lt h, hB, h0, b0⟩
  unfold yA
  obtain ⟨up, ue, ul⟩ := u
  have hp := hr.p
  have he := hr.e
  have hle := hr.l
  dsimp only at hp he hle
  obtain ⟨ap, cp, rfl, _, _⟩ := sees_form hp
  obtain ⟨ae, ce, rfl, _, _⟩ := sees_form he
  obtain ⟨al, cl, rfl, hcl, hcm⟩ := sees_form hle
  unfold maxLen at hcm
  generalize hu : (⟨.slice ap y.po.length cp, .slice ae y.en.length ce, .slice al y.li.length cl⟩ : Vs) = u at *
  have eu1 : u.p = .slice ap y.po.length cp := by rw [← hu]
  have eu2 : u.e = .slice ae y.en.length ce := by rw [← hu]
  have eu3 : u.l = .slice al y.li.length cl := by rw [← hu]
  have HU := Lib.hid (And.intro eu1 (And.intro eu2 eu3))
  have HR := Lib.hid hr
  clear hu eu1 eu2 eu3 hp he hle
  have HW := Lib.hid (fun X (h : Below w0.heap.size w0 X) => word_any y.kd X (hw.below h))
  have HS := Lib.hid hS0
  clear hS0 hw h b0 hr
  go_enter Tryd.func9, Tryd.ntmps9
  go_upto_region 1 with fail
  generalize hX : World.alloc (World.alloc w _) _ = X at *
  generalize w.heap.size = n at *
  clear hX
  have HS1 := Lib.hid (HS.out.below (Below.refl _ _).drew)
  have hK0 : HdR B w n (n + 1) 0 (.pointer (some ⟨b, 0, none⟩)) (.int .i64 y.kd) X.drew := ⟨HS1.out.bb.cell 0, HS1.out.by_.cell 0, HS1.out.bel⟩
  have HWR := Lib.hid (fun X' (h : RS w0 w B b n y u l X') => sb_writeK B b l (str (wordT y.kd)) X' h.sb (by rw [str_size]; have := wordT_len y.kd; omega) h.sz)
  have HWD := Lib.hid (HW.out X.drew HS1.out.lo)
  have HL := Lib.hid (told1_bytes l y)
  have hwd : (str (wordT y.kd)).size ≤ 7 := by rw [str_size]; exact wordT_len _
  generalize str (wordT y.kd) = wd at *
  go_region_held3 (fun w' => HdR B w n (n + 1) 0 (.pointer (some ⟨b, 0, none⟩)) (.int .i64 y.kd) w')
    (with_reducible (first | assumption | exact hK0 | exact hK1 | exact hK2 | fail))
    (first | (go_at_call 15; (with_reducible refine HWD.out.mono ?_); rintro e X1 ⟨rfl, hb1⟩; have HS2 := Lib.hid (HS1.out.below hb1); have hK1 : HdR B w n (n + 1) 0 (.pointer (some ⟨b, 0, none⟩)) (.int .i64 y.kd) X1 := ⟨HS2.out.bb.cell 0, HS2.out.by_.cell 0, HS2.out.bel⟩) | (go_at_call 14; (with_reducible refine (HWR.out X1 HS2.out).mono ?_); rintro e X2 ⟨rfl, hs2, hb2, hk2⟩; have HS3 := Lib.hid (HS2.out.go hs2 hb2 hk2); have hK2 : HdR B w n (n + 1) 0 (.pointer (some ⟨b, 0, none⟩)) (.int .i64 y.kd) X2 := ⟨HS3.out.bb.cell 0, HS3.out.by_.cell 0, HS3.out.bel⟩) | fail)
  have hX2 := HS3.out.by_.cell 1
  clear hK0 hK1 hK2 hb2 hk2 hs2 hb1
  have hll : l.length + wd.size + 8 ≤ 17592186044416 := by
    have h3 : 300 ≤ wY y := by unfold wY; omega
    omega
  go_upto_if 13 with fail
  go_cut [1] (fun _ wx => RS w0 w B b n y u (l ++ linesT (told1 y)) wx)
  case first =>
    have hc2 := HS3.out.bb.cell 0
    go_wp2_with fail
    · rename_i hf _ _
      have HL2 := Lib.hid (by have h := HL.out; rw [if_pos hf] at h; exact h)
      clear hf
      refine (sb_writeK B b (l ++ bs wd) ⟨#[58, 32, 102, 111, 117, 110, 100, 10]⟩ X2 HS3.out.sb (by rw [len_app, bs_len]; have e : (⟨#[58, 32, 102, 111, 117, 110, 100, 10]⟩ : ByteArray).size = 8 := rfl; omega) HS3.out.sz).mono ?_
      rintro e X3 ⟨rfl, hs3, hb3, hk3⟩
      have HS4 := Lib.hid (HS3.out.go hs3 hb3 hk3)
      clear hs3 hb3 hk3 hc2
      go_wp2_with fail
      go_meet
      rw [HL2.out]
      exact HS4.out
    · rename_i hf _ _
      have HL2 := Lib.hid (by have h := HL.out; rw [if_neg (by rw [hf]; decide)] at h; exact h)
      clear hf
      refine (sb_writeK B b (l ++ bs wd) ⟨#[58, 32, 110, 111, 110, 101, 10]⟩ X2 HS3.out.sb (by rw [len_app, bs_len]; have e : (⟨#[58, 32, 110, 111, 110, 101, 10]⟩ : ByteArray).size = 7 := rfl; omega) HS3.out.sz).mono ?_
      rintro e X3 ⟨rfl, hs3, hb3, hk3⟩
      have HS4 := Lib.hid (HS3.out.go hs3 hb3 hk3)
      clear hs3 hb3 hk3 hc2
      go_wp2_with fail
      go_meet
      rw [HL2.out]
      exact HS4.out
  case rest =>
  rename_i X4
  have HS4 := Lib.hid hcut
  clear HS1 HWR HWD HL HS2 HS3 HS hX2 hcut HW hwd
  obtain ⟨t1, t2, t3, t4, t5⟩ := tolds_le y
  obtain ⟨z1, z2, z3, z4, z5, z6⟩ := sizes_le y
  have k2 := HS4.out.by_.cell 2
  have HE1 := Lib.hid (ne_dec y.sp)
  have HE2 := Lib.hid (ne_dec y.wi)
  have HE5 := Lib.hid (ne_dec y.fi)
  go_wp2_with fail
  refine (part_rs HS4.out ⟨#[115, 112, 97, 99, 101, 32]⟩ y.sp (!y.sp.toList.isEmpty) (by decide) (by rw [len_app]; omega)).mono ?_
  rintro e X5 ⟨rfl, hs5⟩
  have HS5 := Lib.hid (show RS w0 w B b n y u (l ++ linesT (told2 y)) X5 from by
    rw [HE1.out, List.append_assoc, ← linesT_app] at hs5
    exact hs5)
  clear hs5 k2
  have k3 := HS5.out.by_.cell 3
  go_wp2_with fail
  refine (part_rs HS5.out ⟨#[119, 105, 116, 110, 101, 115, 115, 32]⟩ y.wi (!y.wi.toList.isEmpty) (by decide) (by rw [len_app]; omega)).mono ?_
  rintro e X6 ⟨rfl, hs6⟩
  have HS6 := Lib.hid (show RS w0 w B b n y u (l ++ linesT (told3 y)) X6 from by
    rw [HE2.out, List.append_assoc, ← linesT_app] at hs6
    exact hs6)
  clear hs6 k3
  go_wp2_with fail
  have HS6b := Lib.hid (HS6.out.below (Below.refl _ _).drew)
  have hK0 : HdP B w (n + 1) 4 (.slice ap y.po.length cp) X6.drew := ⟨by rw [← HU.out.1]; exact HS6b.out.by_.cell 4, HS6b.out.bel⟩
  have HJ := Lib.hid (join_any ⟨#[32]⟩ y.po (.slice ap y.po.length cp) X6.drew (by rw [← HU.out.1]; exact HR.out.p.below HS6b.out.lo) (by decide) (by omega))
  have hj := join_w [32] (by decide) y.po
  have hje : bs ⟨#[32]⟩ = [32] := rfl
  rw [hje] at HJ
  have hjs : (str (joinT [32] y.po)).size ≤ wL y.po := by rw [str_size]; omega
  have HJB := Lib.hid (bs_str (joinT [32] y.po))
  clear hj hje
  generalize str (joinT [32] y.po) = jt at *
  have HP8 := Lib.hid (fun (th : Bool) X7 (h : RS w0 w B b n y u (l ++ linesT (told3 y)) X7) => part_rs h ⟨#[112, 97, 116, 104, 32]⟩ jt th (by decide) (by rw [len_app]; omega))
  go_region_held3 (fun w' => HdP B w (n + 1) 4 (.slice ap y.po.length cp) w')
    (with_reducible (first | assumption | exact hK0 | exact hK1 | exact hK2 | fail))
    (first | (go_at_call 17; (with_reducible refine HJ.out.mono ?_); rintro e X7 ⟨rfl, hb7⟩; have HS7 := Lib.hid (HS6b.out.below hb7); have hK1 : HdP B w (n + 1) 4 (.slice ap y.po.length cp) X7 := ⟨by rw [← HU.out.1]; exact HS7.out.by_.cell 4, HS7.out.bel⟩) | (go_at_call 16; (with_reducible refine (HP8.out _ X7 HS7.out).mono ?_); rintro e X8 ⟨rfl, hs8⟩; have HS8 := Lib.hid hs8; have hK2 : HdP B w (n + 1) 4 (.slice ap y.po.length cp) X8 := ⟨by rw [← HU.out.1]; exact HS8.out.by_.cell 4, HS8.out.bel⟩; clear hs8) | fail)
  have HS9 := Lib.hid (show RS w0 w B b n y u (l ++ linesT (told4 y)) X8 from by
    have h := HS8.out
    rw [HJB.out, List.append_assoc, ← linesT_app] at h
    exact h)
  clear hK0 hK1 hK2 hb7 HP8 HJ HJB hjs HS8 HS7 HS6 HS6b
  go_wp2_with fail
  have HS9b := Lib.hid (HS9.out.below (Below.refl _ _).drew)
  have hK0 : HdP B w (n + 1) 5 (.slice ae y.en.length ce) X8.drew := ⟨by rw [← HU.out.2.1]; exact HS9b.out.by_.cell 5, HS9b.out.bel⟩
  have HJ := Lib.hid (join_any ⟨#[44, 32]⟩ y.en (.slice ae y.en.length ce) X8.drew (by rw [← HU.out.2.1]; exact HR.out.e.below HS9b.out.lo) (by decide) (by omega))
  have hj := join_w [44, 32] (by decide) y.en
  have hje : bs ⟨#[44, 32]⟩ = [44, 32] := rfl
  rw [hje] at HJ
  have hjs : (str (joinT [44, 32] y.en)).size ≤ wL y.en := by rw [str_size]; omega
  have HJB := Lib.hid (bs_str (joinT [44, 32] y.en))
  clear hj hje
  generalize str (joinT [44, 32] y.en) = je at *
  have HP9 := Lib.hid (fun (th : Bool) X7 (h : RS w0 w B b n y u (l ++ linesT (told4 y)) X7) => part_rs h ⟨#[98, 121, 32]⟩ je th (by decide) (by rw [len_app]; omega))
  go_region_held3 (fun w' => HdP B w (n + 1) 5 (.slice ae y.en.length ce) w')
    (with_reducible (first | assumption | exact hK0 | exact hK1 | exact hK2 | fail))
    (first | (go_at_call 17; (with_reducible refine HJ.out.mono ?_); rintro e X9 ⟨rfl, hb9⟩; have HS10 := Lib.hid (HS9b.out.below hb9); have hK1 : HdP B w (n + 1) 5 (.slice ae y.en.length ce) X9 := ⟨by rw [← HU.out.2.1]; exact HS10.out.by_.cell 5, HS10.out.bel⟩) | (go_at_call 16; (with_reducible refine (HP9.out _ X9 HS10.out).mono ?_); rintro e X10 ⟨rfl, hs11⟩; have HS11 := Lib.hid hs11; have hK2 : HdP B w (n + 1) 5 (.slice ae y.en.length ce) X10 := ⟨by rw [← HU.out.2.1]; exact HS11.out.by_.cell 5, HS11.out.bel⟩; clear hs11) | fail)
  have HS12 := Lib.hid (show RS w0 w B b n y u (l ++ linesT (told5 y)) X10 from by
    have h := HS11.out
    rw [HJB.out, List.append_assoc, ← linesT_app] at h
    exact h)
  clear hK0 hK1 hK2 hb9 HP9 HJ HJB hjs HS11 HS10 HS9 HS9b
  have k6 := HS12.out.by_.cell 6
  go_wp2_with fail
  refine (part_rs HS12.out ⟨#[102, 105, 110, 97, 108, 32]⟩ y.fi (!y.fi.toList.isEmpty) (by decide) (by rw [len_app]; omega)).mono ?_
  rintro e X11 ⟨rfl, hs13⟩
  have HS13 := Lib.hid (show RS w0 w B b n y u (l ++ linesT (told7 y 0)) X11 from by
    rw [HE5.out, List.append_assoc, ← linesT_app] at hs13
    have e : told7 y 0 = told6 y := by unfold told7; simp
    rw [e]
    exact hs13)
  clear hs13 k6
  have k7 : X11.cell? ⟨n + 1, 7, none⟩ = some (.slice al y.li.length cl) := by rw [← HU.out.2.2]; exact HS13.out.by_.cell 7
  go_wp2_with fail
  clear k7
  go_loopw [61] (fun i wr => ∃ k : Nat, k ≤ y.li.length ∧ i = .int .i64 (k : Int) ∧ RS w0 w B b n y u (l ++ linesT (told7 y k)) wr) (fun i _ => y.li.length - (intOf i).toNat)
  case atStart => exact ⟨0, Nat.zero_le _, rfl, HS13.out⟩
  case round =>
    obtain ⟨k, hk, rfl, hs⟩ := hrel
    have HS14 := Lib.hid hs
    clear hs
    by_cases hlt : k < y.li.length
    · obtain ⟨g, off, rfl, hg, hq⟩ := sees_cells (by have h := HR.out.l; rw [HU.out.2.2] at h; exact h) (by omega)
      have q0 := hq k hlt
      rw [← HS14.out.lo.cell (p := ⟨g, off + k, none⟩) hg] at q0
      have HT := Lib.hid (told7_succ y hlt)
      have hz := wL_mem (List.getElem_mem hlt)
      have ht7 := told7_len y k
      have HOF := Lib.hid (show ofLine y.li[k] = [32, 32] ++ bs y.li[k] from rfl)
      generalize y.li[k] = s at *
      clear hq
      go_wp2_with fail
      refine (part_rs HS14.out ⟨#[]⟩ s true (by decide) (by rw [len_app]; omega)).mono ?_
      rintro e X12 ⟨rfl, hs15⟩
      have HS15 := Lib.hid (show RS w0 w B b n y u (l ++ linesT (told7 y (k + 1))) X12 from by
        rw [List.append_assoc, ← linesT_app] at hs15
        have e : told7 y (k + 1) = told7 y k ++ partL true (bs ⟨#[]⟩) (bs s) := by
          rw [HT.out, HOF.out]; rfl
        rw [e]
        exact hs15)
      clear hs15 q0
      go_wp2_with fail
      go_roundw
      case rel => exact ⟨k + 1, by omega, by go_num, HS15.out⟩
      case measure => simp [intOf]; omega
    · obtain rfl : k = y.li.length := by omega
      have k8 := HS14.out.by_.cell 8
      have ht7 := told7_len y y.li.length
      go_wp2_with fail
      refine (part_rs HS14.out ⟨#[109, 111, 114, 101]⟩ ⟨#[]⟩ y.mo (by decide) (by rw [len_app]; have e : (⟨#[]⟩ : ByteArray).size = 0 := rfl; omega)).mono ?_
      rintro e X13 ⟨rfl, hs16⟩
      have HS16 := Lib.hid (show RS w0 w B b n y u (l ++ linesT (toldT y)) X13 from by
        rw [List.append_assoc, ← linesT_app] at hs16
        exact hs16)
      clear hs16 k8
      go_wp2_with fail
      go_end0
      exact ⟨rfl, HS16.out.sb, HS16.out.bel⟩
end Go.Proofs.YtmcijdpbjhcimaaDoor.Rn
