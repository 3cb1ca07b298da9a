/- Patterns: the program reads a text: what holds at its labels. Printed by mkrun.py. -/
import Derived.Test.YtlbkacabcfeaiaaZJm
import Derived.Test.YtlbkacabcfeaiaaZPA
namespace Go.Proofs.Ytlbkacabcfeaiaa.Tl
open Go.RowKit Mm
set_option linter.unusedVariables false
theorem cons_len {us : List Value} {n : Nat} (h : us.length = n + 1) : ∃ u t, us = u :: t ∧ t.length = n := by
  cases us with
  | nil => cases h
  | cons u t => exact ⟨u, t, rfl, by simpa using h⟩
theorem list16 {us : List Value} {n : Nat} (h : us.length = n + 16) : ∃ a0 a1 a2 a3 a4 a5 a6 a7 a8 a9 a10 a11 a12 a13 a14 a15 t, us = a0 :: a1 :: a2 :: a3 :: a4 :: a5 :: a6 :: a7 :: a8 :: a9 :: a10 :: a11 :: a12 :: a13 :: a14 :: a15 :: t ∧ t.length = n := by
  obtain ⟨a0, t, rfl, h0⟩ := cons_len h
  obtain ⟨a1, t, rfl, h1⟩ := cons_len h0
  obtain ⟨a2, t, rfl, h2⟩ := cons_len h1
  obtain ⟨a3, t, rfl, h3⟩ := cons_len h2
  obtain ⟨a4, t, rfl, h4⟩ := cons_len h3
  obtain ⟨a5, t, rfl, h5⟩ := cons_len h4
  obtain ⟨a6, t, rfl, h6⟩ := cons_len h5
  obtain ⟨a7, t, rfl, h7⟩ := cons_len h6
  obtain ⟨a8, t, rfl, h8⟩ := cons_len h7
  obtain ⟨a9, t, rfl, h9⟩ := cons_len h8
  obtain ⟨a10, t, rfl, h10⟩ := cons_len h9
  obtain ⟨a11, t, rfl, h11⟩ := cons_len h10
  obtain ⟨a12, t, rfl, h12⟩ := cons_len h11
  obtain ⟨a13, t, rfl, h13⟩ := cons_len h12
  obtain ⟨a14, t, rfl, h14⟩ := cons_len h13
  obtain ⟨a15, t, rfl, h15⟩ := cons_len h14
  exact ⟨a0, a1, a2, a3, a4, a5, a6, a7, a8, a9, a10, a11, a12, a13, a14, a15, t, rfl, h15⟩
theorem nil_len {us : List Value} (h : us.length = 0) : us = [] := List.eq_nil_of_length_eq_zero h
noncomputable def runC : Code := match Try.f17.body with
  | some (.seq _ (.scope c)) => c
  | _ => .skip
/-- what holds at a jump -/
def JR (W : World) (g : Nat) (s : ByteArray) (st0 : St) (l : Nat) (a : Act) (w : World) : Prop :=
  ∃ (u1 d : Value) (us : List Value) (st : St) (out : Value) (R : List Rw) (c p : Rw) (S : Nat → Prop), us.length = 223 ∧ a = ⟨(.pointer (some ⟨g, 0, none⟩) :: u1 :: .bool false :: d :: us).toArray, []⟩ ∧ Rd W g s st out R c p S w ∧ Ok (xs s).length st ∧ Lab (xs s) st0 l d st
def posW (g : Nat) (w : World) : Nat := match w.cell? ⟨g, 1, none⟩ with
  | some (.int _ p) => p.toNat
  | _ => 0
theorem posW_of {W X : World} {g : Nat} {s : ByteArray} {st : St} {out : Value} {R : List Rw} {c p : Rw} {S : Nat → Prop} (h : Rd W g s st out R c p S X) : posW g X = st.pos := by
  unfold posW
  rw [Blk.c1 h.blk]
  simp
def muR (g l : Nat) (a : Act) (w : World) : Nat := 2 * (1001 - posW g w) + if l = 0 then 1 else 0
/-- how the reading ends -/
def PR (W : World) (g : Nat) (s : ByteArray) (st0 : St) (e : Ending) (w' : World) : Prop := ∃ (st : St) (out : Value) (R : List Rw) (c p : Rw) (S : Nat → Prop), Rd W g s st out R c p S w' ∧
  ((e = .returned (.bool true) ∧ Ok (xs s).length st ∧ res (xs s) st0 = .ok (whole st.ch st.ps)) ∨ (e = .returned (.bool false) ∧ res (xs s) st0 = .err st.pos))
def QR (W : World) (g : Nat) (s : ByteArray) (st0 : St) (l : Nat) (a : Act) (w : World) : Exit → Act → World → Prop := jumps runC (fun l' a' w' => JR W g s st0 l' a' w' ∧ muR g l' a' w' < muR g l a w) (bodyPost Try.prog Try.f17 (PR W g s st0))
theorem bytes (c : UInt8) : c = 32 ∨ c = 40 ∨ c = 41 ∨ (c = 42 ∨ c = 43 ∨ c = 63) ∨ c = 124 ∨ c = 46 ∨ c = 33 ∨ Other c := by
  unfold Other
  by_cases h1 : c = 32 <;> by_cases h2 : c = 40 <;> by_cases h3 : c = 41 <;> by_cases h4 : c = 42 <;> by_cases h5 : c = 43 <;> by_cases h6 : c = 63 <;> by_cases h7 : c = 124 <;> by_cases h8 : c = 46 <;> by_cases h9 : c = 33 <;> simp_all
theorem no_byte {c : UInt8} {k : Nat} (hk : k < 256) (h : c ≠ UInt8.ofNat k) : ¬ ((c.toNat : Nat) : Int) = (k : Int) := fun e => h (by
  have e2 : c.toNat = k := by omega
  rw [← e2, UInt8.ofNat_toNat])
theorem Rd.drew {W X : World} {g : Nat} {s : ByteArray} {st : St} {out : Value} {R : List Rw} {c p : Rw} {S : Nat → Prop} (h : Rd W g s st out R c p S X) : Rd W g s st out R c p S X.drew := ⟨h.q.beside (Below.refl _ _).drew, h.blk.drew⟩
theorem Rd.drewN {W X : World} {g : Nat} {s : ByteArray} {st : St} {out : Value} {R : List Rw} {c p : Rw} {S : Nat → Prop} (h : Rd W g s st out R c p S X) (n : Nat) : Rd W g s st out R c p S (X.drewN n) := ⟨h.q.beside (below_drewN (Below.refl _ _) n), h.blk.drewN n⟩
theorem QR.ret {W w X : World} {g l : Nat} {s : ByteArray} {st0 st : St} {aA : Act} {a : Act} {out : Value} {R : List Rw} {c p : Rw} {S : Nat → Prop} {b : Bool} (h : Rd W g s st out R c p S X) (h2 : a.tmps.getD 2 undef = .bool b) (hd : a.defers = [])
    (hb : (b = true ∧ Ok (xs s).length st ∧ res (xs s) st0 = .ok (whole st.ch st.ps)) ∨ (b = false ∧ res (xs s) st0 = .err st.pos)) : QR W g s st0 l aA w .ret a X := by
  refine bodyPost_ret (v := .bool b) ?_ hd ⟨st, out, R, c, p, S, h, ?_⟩
  · rw [← h2]
    exact results_tmp Try.results17 _ _ _
  · rcases hb with ⟨rfl, hb⟩ | ⟨rfl, hb⟩
    · exact .inl ⟨rfl, hb⟩
    · exact .inr ⟨rfl, hb⟩
theorem QR.go {W X X0 : World} {g : Nat} {s : ByteArray} {st0 st stA : St} {out outA : Value} {R RA : List Rw} {c p cA pA : Rw} {S SA : Nat → Prop} {l lA : Nat} {aA : Act} {u1 d : Value} {us : List Value} (hA : Rd W g s stA outA RA cA pA SA X0) (hs : s.size ≤ 1000) (hl : us.length = 223) (hf : ∃ r, findLabel runC l = some r) (h : Rd W g s st out R c p S X) (ok : Ok (xs s).length st) (hL : Lab (xs s) st0 l d st)
    (hm : 2 * stA.pos + (if l = 0 then 1 else 0) < 2 * st.pos + (if lA = 0 then 1 else 0)) : QR W g s st0 lA aA X0 (.goto l) ⟨(.pointer (some ⟨g, 0, none⟩) :: u1 :: .bool false :: d :: us).toArray, []⟩ X := by
  refine ⟨hf, ⟨u1, d, us, st, out, R, c, p, S, hl, rfl, h, ok, hL⟩, ?_⟩
  unfold muR
  rw [posW_of h, posW_of hA]
  have h1 := ok.1
  have h2 := xs_len s
  omega
set_option maxRecDepth 100000 in
set_option maxHeartbeats 8000000 in
theorem pass0b {W : World} {g : Nat} {s : ByteArray} {st0 : St} (hs : s.size ≤ 1000) (a : Act) (w : World) (hJ : JR W g s st0 0 a w) (rest : Code) (hr : findLabel runC 0 = some (.seq .skip rest)) : rest.wp Try.prog (QR W g s st0 0 a w) a w := by
  obtain ⟨u1, d, us, st, out, R, c, p, S, hl, rfl, hrd, ok, hL⟩ := hJ
  obtain ⟨u4, u5, u6, u7, u8, u9, u10, u11, u12, u13, u14, u15, u16, u17, u18, u19, t4, rfl, h4⟩ := list16 hl
  obtain ⟨u20, u21, u22, u23, u24, u25, u26, u27, u28, u29, u30, u31, u32, u33, u34, u35, t20, rfl, h20⟩ := list16 h4
  obtain ⟨u36, u37, u38, u39, u40, u41, u42, u43, u44, u45, u46, u47, u48, u49, u50, u51, t36, rfl, h36⟩ := list16 h20
  obtain ⟨u52, u53, u54, u55, u56, u57, u58, u59, u60, u61, u62, u63, u64, u65, u66, u67, t52, rfl, h52⟩ := list16 h36
  obtain ⟨u68, u69, u70, u71, u72, u73, u74, u75, u76, u77, u78, u79, u80, u81, u82, u83, t68, rfl, h68⟩ := list16 h52
  obtain ⟨u84, u85, u86, u87, u88, u89, u90, u91, u92, u93, u94, u95, u96, u97, u98, u99, t84, rfl, h84⟩ := list16 h68
  obtain ⟨u100, u101, u102, u103, u104, u105, u106, u107, u108, u109, u110, u111, u112, u113, u114, u115, t100, rfl, h100⟩ := list16 h84
  obtain ⟨u116, u117, u118, u119, u120, u121, u122, u123, u124, u125, u126, u127, u128, u129, u130, u131, t116, rfl, h116⟩ := list16 h100
  obtain ⟨u132, u133, u134, u135, u136, u137, u138, u139, u140, u141, u142, u143, u144, u145, u146, u147, t132, rfl, h132⟩ := list16 h116
  obtain ⟨u148, u149, u150, u151, u152, u153, u154, u155, u156, u157, u158, u159, u160, u161, u162, u163, t148, rfl, h148⟩ := list16 h132
  obtain ⟨u164, u165, u166, u167, u168, u169, u170, u171, u172, u173, u174, u175, u176, u177, u178, u179, t164, rfl, h164⟩ := list16 h148
  obtain ⟨u180, u181, u182, u183, u184, u185, u186, u187, u188, u189, u190, u191, u192, u193, u194, u195, t180, rfl, h180⟩ := list16 h164
  obtain ⟨u196, u197, u198, u199, u200, u201, u202, u203, u204, u205, u206, u207, u208, u209, u210, u211, t196, rfl, h196⟩ := list16 h180
  obtain ⟨u212, t212, rfl, h212⟩ := cons_len h196
  obtain ⟨u213, t213, rfl, h213⟩ := cons_len h212
  obtain ⟨u214, t214, rfl, h214⟩ := cons_len h213
  obtain ⟨u215, t215, rfl, h215⟩ := cons_len h214
  obtain ⟨u216, t216, rfl, h216⟩ := cons_len h215
  obtain ⟨u217, t217, rfl, h217⟩ := cons_len h216
  obtain ⟨u218, t218, rfl, h218⟩ := cons_len h217
  obtain ⟨u219, t219, rfl, h219⟩ := cons_len h218
  obtain ⟨u220, t220, rfl, h220⟩ := cons_len h219
  obtain ⟨u221, t221, rfl, h221⟩ := cons_len h220
  obtain ⟨u222, t222, rfl, h222⟩ := cons_len h221
  obtain ⟨u223, t223, rfl, h223⟩ := cons_len h222
  obtain ⟨u224, t224, rfl, h224⟩ := cons_len h223
  obtain ⟨u225, t225, rfl, h225⟩ := cons_len h224
  obtain ⟨u226, t226, rfl, h226⟩ := cons_len h225
  obtain rfl := nil_len h226
  obtain ⟨pos, it, stk, ch, ps⟩ := st
  obtain rfl := (Code.seq.inj (Option.some.inj (hr.symm.trans (rfl : findLabel runC 0 = some (.seq .skip _))))).2
  obtain ⟨ac, cc, xc, rfl⟩ := hrd.q.cForm
  obtain ⟨ap, cp, xp, rfl⟩ := hrd.q.pForm
  obtain ⟨ao, co, rfl⟩ := own_len hrd.q.row
  have q0 := Blk.c0 hrd.blk
  have q1 := Blk.c1 hrd.blk
  have q3 := Blk.c3 hrd.blk
  have q4 := Blk.c4 hrd.blk
  have q5 := Blk.c5 hrd.blk
  have f1 := hrd.blk.frozen 1
  dsimp only at q0 q1 q3 q4 q5
  have HR := Lib.hid hrd
  have HO := Lib.hid ok
  have HL := Lib.hid hL
  have hxl := xs_len s
  obtain ⟨hp1, hi48, hd32, hbd⟩ := ok
  dsimp only at hp1 hi48 hd32
  rw [hxl] at hp1
  clear hr hl hrd hL hbd h4 h20 h36 h52 h68 h84 h100 h116 h132 h148 h164 h180 h196 h212 h213 h214 h215 h216 h217 h218 h219 h220 h221 h222 h223 h224 h225 h226
  dsimp only [Lab] at HL
  by_cases he : pos = s.size
  · have HE := Lib.hid (HL.out.trans (st_end (xs_none (Nat.le_of_eq he.symm))))
    clear HL
    cases stk with
    | nil =>
      dsimp only [List.length_nil] at q3
      go_wp2_with fail
      go_quiet (fail)
      go_wp2_with fail
      exact QR.ret (HR.out.drewN _) rfl rfl (.inl ⟨rfl, HO.out, by rw [HE.out]; rfl⟩)
    | cons o k =>
      dsimp only [List.length_cons] at q3 hd32
      go_wp2_with fail
      go_quiet (fail)
      go_wp2_with fail
      exact QR.ret (HR.out.drewN _) rfl rfl (.inr ⟨rfl, by rw [HE.out]; rfl⟩)
  · have hlt : pos < s.size := by omega
    have hx : (xs s)[pos]? = some s[pos] := xs_get hlt
    rcases bytes s[pos] with hc | hc | hc | hc | hc | hc | hc | hc
    · rw [hc] at hx
      have hst := st_32 (it := it) (stk := stk) (ch := ch) (ps := ps) hx
      have HS := Lib.hid (ok_of hst HO.out)
      clear hst
      have hn : ((s[pos].toNat : Nat) : Int) = 32 := by rw [hc]; rfl
      go_wp2_with fail
      go_quiet (fail)
      go_wp2_with fail
      go_quiet (fail)
      go_wp2_with fail
      go_step3
      exact QR.go (st := ⟨pos + 1, it, stk, ch, ps⟩) HR.out hs rfl ⟨_, rfl⟩ ((HR.out.drewN _).pos (pos + 1)) HS.out.2 (HL.out.trans HS.out.1) (by simp)
    · rw [hc] at hx
      have hn : ((s[pos].toNat : Nat) : Int) = 40 := by rw [hc]; rfl
      go_wp2_with fail
      go_quiet (fail)
      go_wp2_with fail
      go_quiet (fail)
      go_wp2_with fail
      go_step3
      exact QR.go (st := ⟨pos, it, stk, ch, ps⟩) HR.out hs rfl ⟨_, rfl⟩ (HR.out.drewN _) HO.out ⟨HL.out, hx⟩ (by simp)
    · rw [hc] at hx
      have hn : ((s[pos].toNat : Nat) : Int) = 41 := by rw [hc]; rfl
      go_wp2_with fail
      go_quiet (fail)
      go_wp2_with fail
      go_quiet (fail)
      go_wp2_with fail
      go_step3
      exact QR.go (st := ⟨pos, it, stk, ch, ps⟩) HR.out hs rfl ⟨_, rfl⟩ (HR.out.drewN _) HO.out ⟨HL.out, hx⟩ (by simp)
    · rcases hc with hc | hc | hc
      · rw [hc] at hx
        have hn : ((s[pos].toNat : Nat) : Int) = 42 := by rw [hc]; rfl
        go_wp2_with fail
        go_quiet (fail)
        go_wp2_with fail
        go_quiet (fail)
        go_wp2_with fail
        go_step3
        exact QR.go (st := ⟨pos, it, stk, ch, ps⟩) HR.out hs rfl ⟨_, rfl⟩ (HR.out.drewN _) HO.out ⟨HL.out, 42, .inl rfl, hx⟩ (by simp)
      · rw [hc] at hx
        have hn : ((s[pos].toNat : Nat) : Int) = 43 := by rw [hc]; rfl
        go_wp2_with fail
        go_quiet (fail)
        go_wp2_with fail
        go_quiet (fail)
        go_wp2_with fail
        go_step3
        exact QR.go (st := ⟨pos, it, stk, ch, ps⟩) HR.out hs rfl ⟨_, rfl⟩ (HR.out.drewN _) HO.out ⟨HL.out, 43, .inr (.inl rfl), hx⟩ (by simp)
      · rw [hc] at hx
        have hn : ((s[pos].toNat : Nat) : Int) = 63 := by rw [hc]; rfl
        go_wp2_with fail
        go_quiet (fail)
        go_wp2_with fail
        go_quiet (fail)
        go_wp2_with fail
        go_step3
        exact QR.go (st := ⟨pos, it, stk, ch, ps⟩) HR.out hs rfl ⟨_, rfl⟩ (HR.out.drewN _) HO.out ⟨HL.out, 63, .inr (.inr rfl), hx⟩ (by simp)
    · rw [hc] at hx
      have hn : ((s[pos].toNat : Nat) : Int) = 124 := by rw [hc]; rfl
      go_wp2_with fail
      go_quiet (fail)
      go_wp2_with fail
      go_quiet (fail)
      go_wp2_with fail
      go_step3
      exact QR.go (st := ⟨pos, it, stk, ch, ps⟩) HR.out hs rfl ⟨_, rfl⟩ (HR.out.drewN _) HO.out ⟨HL.out, hx⟩ (by simp)
    · rw [hc] at hx
      have hn : ((s[pos].toNat : Nat) : Int) = 46 := by rw [hc]; rfl
      go_wp2_with fail
      go_quiet (fail)
      go_wp2_with fail
      go_quiet (fail)
      go_wp2_with fail
      go_step3
      exact QR.go (st := ⟨pos, it, stk, ch, ps⟩) HR.out hs rfl ⟨_, rfl⟩ (HR.out.drewN _) HO.out ⟨HL.out, hx⟩ (by simp)
    · rw [hc] at hx
      have hn : ((s[pos].toNat : Nat) : Int) = 33 := by rw [hc]; rfl
      go_wp2_with fail
      go_quiet (fail)
      go_wp2_with fail
      go_quiet (fail)
      go_wp2_with fail
      go_step3
      exact QR.go (st := ⟨pos, it, stk, ch, ps⟩) HR.out hs rfl ⟨_, rfl⟩ (HR.out.drewN _) HO.out ⟨HL.out, hx⟩ (by simp)
    · have hO := hc
      obtain ⟨n1, n2, n3, n4, n5, n6, n7, n8, n9⟩ := hc
      have m1 := no_byte (k := 32) (by decide) n1
      have m2 := no_byte (k := 40) (by decide) n2
      have m3 := no_byte (k := 41) (by decide) n3
      have m4 := no_byte (k := 42) (by decide) n4
      have m5 := no_byte (k := 43) (by decide) n5
      have m6 := no_byte (k := 63) (by decide) n6
      have m7 := no_byte (k := 124) (by decide) n7
      have m8 := no_byte (k := 46) (by decide) n8
      have m9 := no_byte (k := 33) (by decide) n9
      have HLt := Lib.hid (fun n => letter_any (w.drewN n) g pos s pos it _ _ _ (HR.out.blk.drewN n) hs (by omega))
      have HIt := Lib.hid (fun n => item_any (w.drewN n) g s pos it _ _ _ (HR.out.blk.drewN n) (by omega))
      rw [at_in hlt] at HLt
      have HSl := Lib.hid (fun (hi : it < 48) (hl : isLetter s[pos] = true) => st_let (it := it) (stk := stk) (ch := ch) (ps := ps) hO hx hi hl)
      have HSe := Lib.hid (fun (hl : (isLetter s[pos] && decide (it < 48)) = false) => st_lete (it := it) (stk := stk) (ch := ch) (ps := ps) hO hx hl)
      have HAt := Lib.hid (fun (h : isLetter s[pos] = true) => (at_in hlt).trans h)
      clear hO n1 n2 n3 n4 n5 n6 n7 n8 n9
      cases hlet : isLetter s[pos] with
      | false =>
        rw [hlet] at HLt HSe
        go_wp2_with fail
        go_quiet (fail)
        go_wp2_with fail
        go_quiet (fail)
        go_wp2_with fail
        refine (HLt.out _).mono ?_
        rintro e w1 ⟨rfl, rfl⟩
        go_wp2_with fail
        exact QR.ret (HR.out.drewN _) rfl rfl (.inr ⟨rfl, HL.out.trans (HSe.out rfl)⟩)
      | true =>
        rw [hlet] at HLt HSe
        go_wp2_with fail
        go_quiet (fail)
        go_wp2_with fail
        go_quiet (fail)
        go_wp2_with fail
        refine (HLt.out _).mono ?_
        rintro e w1 ⟨rfl, rfl⟩
        go_wp2_with fail
        refine (HIt.out _).mono ?_
        rintro e w1 ⟨rfl, hB1, hg1⟩
        have HR1 := Lib.hid ((HR.out.drewN _).it (it + 1) hB1 hg1)
        clear hB1 hg1
        by_cases hi : it < 48
        · rw [decide_eq_true hi]
          go_wp2_with fail
          go_step3
          exact QR.go (st := ⟨pos, it + 1, stk, ch, ps⟩) HR.out hs rfl ⟨_, rfl⟩ HR1.out ⟨HO.out.1, show it + 1 ≤ 48 by omega, HO.out.2.2.1, HO.out.2.2.2⟩ ⟨false, rfl, HAt.out hlet, HL.out.trans (HSl.out hi hlet)⟩ (by simp)
        · rw [decide_eq_false hi]
          go_wp2_with fail
          exact QR.ret HR1.out rfl rfl (.inr ⟨rfl, HL.out.trans (HSe.out (by simp [hi]))⟩)
theorem pass0 {W : World} {g : Nat} {s : ByteArray} {st0 : St} (hs : s.size ≤ 1000) (a : Act) (w : World) (hJ : JR W g s st0 0 a w) (rest : Code) (hr : findLabel runC 0 = some rest) : rest.wp Try.prog (QR W g s st0 0 a w) a w := by
  obtain rfl := Option.some.inj (hr.symm.trans (rfl : findLabel runC 0 = some (.seq .skip _)))
  exact wp_seq (wp_skip (pass0b hs a w hJ _ rfl))
end Go.Proofs.Ytlbkacabcfeaiaa.Tl
