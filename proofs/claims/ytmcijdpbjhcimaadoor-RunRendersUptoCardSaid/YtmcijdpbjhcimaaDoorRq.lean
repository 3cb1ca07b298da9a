/- RunRenders: the program's Render. -/
import Derived.Test.YtmcijdpbjhcimaaDoorRp
namespace Go.Proofs.YtmcijdpbjhcimaaDoor.Rn
open Go.RowKit Go.Shelf Mm
def tPe : List UInt8 := [112, 97, 114, 115, 101, 32, 101, 114, 114, 111, 114, 32]
def tCo : List UInt8 := [32, 105, 110, 32, 116, 104, 101, 32, 99, 111, 110, 102, 105, 103, 117, 114, 97, 116, 105, 111, 110]
def tLi : List UInt8 := [44, 32, 108, 105, 110, 101, 32]
def tQu : List UInt8 := [32, 105, 110, 32, 116, 104, 101, 32, 113, 117, 101, 114, 121]
def tIf : List UInt8 := [105, 108, 108, 45, 102, 111, 114, 109, 101, 100, 32]
def tQn : List UInt8 := [32, 105, 110, 32, 113, 117, 101, 114, 121, 32]
def tBu : List UInt8 := [98, 117, 100, 103, 101, 116, 32, 101, 120, 99, 101, 101, 100, 101, 100]
def rendT (kd co te li : Int) (R : List Rep) : List UInt8 :=
  if kd = 1 then rendR R
  else if kd = 2 then (if te = 1 then tPe ++ Lib.itoa co ++ (tCo ++ tLi) ++ Lib.itoa li ++ [10] else tPe ++ Lib.itoa co ++ (tQu ++ tLi) ++ Lib.itoa li ++ [10])
  else if kd = 3 then (if te = 1 then tIf ++ Lib.itoa co ++ (tCo ++ [10]) else tIf ++ Lib.itoa co ++ tQn ++ Lib.itoa li ++ [10])
  else if kd = 4 then tBu ++ [10] else []
theorem str_eq {a : ByteArray} {l : List UInt8} (h : bs a = l) : a = str l := by rw [← h]; exact (str_of a).symm
set_option maxRecDepth 100000 in
set_option maxHeartbeats 4000000 in
theorem Render_any (w : World) (kd co te li : Int) (R : List Rep) (V : List Vs) (v : Value) (hv : RepsW w v R V) (hw : Words w) (ht : Tab w) (c0 : -9223372036854775808 ≤ co) (c1 : co ≤ 9223372036854775807) (l0 : -9223372036854775808 ≤ li) (l1 : li ≤ 9223372036854775807) (hR : wR R ≤ 4398046511104) :
    Calls Tryd.prog 5 #[.agg #[.int .i64 kd, .int .i64 co, .int .i64 te, .int .i64 li, v]] w fun e w' => e = .returned (.string (str (rendT kd co te li R))) ∧ Below w.heap.size w w' := by
  obtain ⟨a0, cap, rfl, hcap, hcm⟩ := hv.form
  unfold maxLen at hcm
  have HV := Lib.hid hv
  have HWD := Lib.hid hw
  have z1 := Lib.itoa_length_le co c0 c1
  have z2 := Lib.itoa_length_le li l0 l1
  rw [← str_size] at z1 z2
  have HI := Lib.hid (fun X (h : Below w.heap.size w X) => itoa_any co c0 c1 X (tab_below ht h))
  have HL := Lib.hid (fun X (h : Below w.heap.size w X) => itoa_any li l0 l1 X (tab_below ht h))
  have hX0 := Blk.new w 25 #[.int .i64 kd, .int .i64 co, .int .i64 te, .int .i64 li, .slice a0 R.length cap]
  have HX := Lib.hid hX0
  clear hv hw ht hX0 c0 c1 l0 l1
  have HZ1 := Lib.hid (bs_str (Lib.itoa co))
  have HZ2 := Lib.hid (bs_str (Lib.itoa li))
  have HG : Hid (∀ s : ByteArray, bs s = rendT kd co te li R → s = str (rendT kd co te li R)) := Lib.hid fun s h => str_eq h
  generalize str (Lib.itoa co) = za at *
  generalize str (Lib.itoa li) = zb at *
  go_enter Tryd.func5, Tryd.ntmps5
  go_wp2_with fail
  refine (HI.out _ (bal (Below.refl _ _) _)).mono ?_
  rintro e w1 ⟨rfl, hb1⟩
  have HX1 := Lib.hid (HX.out.below hb1 HX.out.lt)
  have HB1 := Lib.hid (bnx (bal (Below.refl w.heap.size w) _) hb1)
  clear hb1
  have k3 := HX1.out.cell 3
  go_wp2_with fail
  refine (HL.out _ HB1.out).mono ?_
  rintro e w2 ⟨rfl, hb2⟩
  have HX2 := Lib.hid (HX1.out.below hb2 HX1.out.lt)
  have HB2 := Lib.hid (bnx HB1.out hb2)
  clear hb2 k3 HX HX1 HB1
  have k0 := HX2.out.cell 0
  have k2 := HX2.out.cell 2
  have k4 := HX2.out.cell 4
  by_cases d2 : kd = 2
  · subst d2
    by_cases e1 : te = 1
    · subst e1
      have HF := Lib.hid (HG.out (⟨tPe.toArray⟩ ++ za ++ ⟨(tCo ++ tLi).toArray⟩ ++ zb ++ ⟨#[10]⟩) (by
        unfold rendT
        simp [bs_app, bs_lit, HZ1.out, HZ2.out]))
      go_wp2_with fail
      go_ret
      exact ⟨congrArg (fun x => Ending.returned (Value.string x)) HF.out, HB2.out⟩
    · have t1 : (te == 1) = false := by simpa using e1
      have HF := Lib.hid (HG.out (⟨tPe.toArray⟩ ++ za ++ ⟨(tQu ++ tLi).toArray⟩ ++ zb ++ ⟨#[10]⟩) (by
        unfold rendT
        simp [bs_app, bs_lit, HZ1.out, HZ2.out, e1]))
      clear e1
      go_wp2_with fail
      go_ret
      exact ⟨congrArg (fun x => Ending.returned (Value.string x)) HF.out, HB2.out⟩
  · by_cases d3 : kd = 3
    · subst d3
      clear d2
      by_cases e1 : te = 1
      · subst e1
        have HF := Lib.hid (HG.out (⟨tIf.toArray⟩ ++ za ++ ⟨(tCo ++ [10]).toArray⟩) (by
          unfold rendT
          simp [bs_app, bs_lit, HZ1.out]))
        go_wp2_with fail
        go_ret
        exact ⟨congrArg (fun x => Ending.returned (Value.string x)) HF.out, HB2.out⟩
      · have t1 : (te == 1) = false := by simpa using e1
        have HF := Lib.hid (HG.out (⟨tIf.toArray⟩ ++ za ++ ⟨tQn.toArray⟩ ++ zb ++ ⟨#[10]⟩) (by
          unfold rendT
          simp [bs_app, bs_lit, HZ1.out, HZ2.out, e1]))
        clear e1
        go_wp2_with fail
        go_ret
        exact ⟨congrArg (fun x => Ending.returned (Value.string x)) HF.out, HB2.out⟩
    · by_cases d4 : kd = 4
      · subst d4
        clear d2 d3
        have HF := Lib.hid (HG.out (⟨(tBu ++ [10]).toArray⟩) (by
          unfold rendT
          simp [bs_lit]))
        go_wp2_with fail
        go_ret
        exact ⟨congrArg (fun x => Ending.returned (Value.string x)) HF.out, HB2.out⟩
      · have s2 : (kd == 2) = false := by simpa using d2
        have s3 : (kd == 3) = false := by simpa using d3
        have s4 : (kd == 4) = false := by simpa using d4
        by_cases d1 : kd = 1
        · subst d1
          clear d2 d3 d4 s2 s3 s4
          have HF := Lib.hid (HG.out (str (rendR R)) (by unfold rendT; rw [if_pos rfl, bs_str]))
          have k4b := (HX2.out.alloc (.cells #[.pointer none, .slice none 0 0] 37)).cell 4
          have HN := Lib.hid (SB_new w2 w2.heap.size (Nat.le_refl _))
          have HB3 := Lib.hid (bal HB2.out (.cells #[.pointer none, .slice none 0 0] 37))
          go_wp2_with fail
          have HBB := Lib.hid (show Below w2.heap.size w2 (w2.alloc (.cells #[.pointer none, .slice none 0 0] 37)) from bal (Below.refl _ _) _)
          have HSZ := HB2.out.size
          clear k0 k2 k4 k4b HX2
          generalize hB : w2.heap.size = B at *
          go_loopw [7, 72] (fun _ i wr => ∃ k : Nat, k ≤ R.length ∧ i = .int .i64 (k : Int) ∧ SB B B (rendR (R.take k)) wr ∧ Below B w2 wr) (fun _ i _ => R.length - (intOf i).toNat)
          case atStart => exact ⟨0, Nat.zero_le _, rfl, HN.out, HBB.out⟩
          case round =>
            obtain ⟨k, hk, rfl, hsb, hbel⟩ := hrel
            have HS := Lib.hid hsb
            have HBL := Lib.hid hbel
            have hWB := HBL.out.size
            have HBW := Lib.hid (HB2.out.trans (hbel.mono HSZ))
            clear hsb hbel
            by_cases hlt : k < R.length
            · obtain ⟨g, off, rfl, hg, hq⟩ := HV.out.at (by omega)
              obtain ⟨u, _, hx, hxw⟩ := hq k hlt
              obtain ⟨up, ue, ul⟩ := u
              have hp := hxw.p
              have he := hxw.e
              have hl := hxw.l
              dsimp only at hp he hl
              obtain ⟨ap, cp, rfl, _, _⟩ := sees_form hp
              obtain ⟨ae, ce, rfl, _, _⟩ := sees_form he
              obtain ⟨al, cl, rfl, _, _⟩ := sees_form hl
              clear hp he hl
              obtain ⟨q0, q1, q2, q3, q4, q5, q6, q7, q8⟩ := hx.below HBW.out hg
              have HR := Lib.hid (rendR_snoc hlt)
              have hlr := rendR_len (R.take k)
              have hlt2 := wR_take_le R k
              have hyw := wR_mem (List.getElem_mem hlt)
              have HRP := Lib.hid (fun (W : World) (h : SB B B (rendR (R.take k)) W) (hs : B ≤ W.heap.size) (hb : Below w.heap.size w W) => render_any w W B B (rendR (R.take k)) R[k] _ h hs HSZ hb HWD.out hxw (by omega))
              generalize R[k] = y at *
              unfold yA at HRP
              generalize y.po.length = pn at *
              generalize y.en.length = en at *
              generalize y.li.length = ln at *
              clear hq hx hxw
              go_wp2_with fail
              refine (HRP.out _ (SB_below HS.out (bal (Below.refl _ _) _)) (by simp only [World.size_alloc]; omega) (bal HBW.out _)).mono ?_
              rintro e w3 ⟨rfl, hs3, hb3⟩
              rw [← HR.out] at hs3
              have hb4 := (HBL.out.trans ((bal (Below.refl wr.heap.size wr) (.cells #[.int .i64 y.kd, .bool y.fd, .string y.sp, .string y.wi, .slice ap pn cp, .slice ae en ce, .string y.fi, .slice al ln cl, .bool y.mo] 30)).mono (by omega))).trans hb3
              clear q0 q1 q2 q3 q4 q5 q6 q7 q8 hb3
              go_wp2_with fail
              go_roundw
              case rel => exact ⟨k + 1, by omega, by go_num, hs3, hb4⟩
              case measure => simp [intOf]; omega
            · obtain rfl : k = R.length := by omega
              go_wp2_with fail
              refine (sb_string B B _ _ HS.out (by omega)).mono ?_
              rintro e w3 ⟨rfl, hb3⟩
              have hb4 := HBW.out.trans (hb3.mono HSZ)
              go_wp2_with fail
              go_ret
              exact ⟨by rw [← HF.out]; rfl, hb4⟩
        · have s1 : (kd != 1) = true := by simpa using d1
          have HF := Lib.hid (HG.out (⟨#[]⟩) (by
            unfold rendT
            simp [bs_lit, d1, d2, d3, d4]))
          clear d1 d2 d3 d4
          go_wp2_with fail
          go_ret
          exact ⟨congrArg (fun x => Ending.returned (Value.string x)) HF.out, HB2.out⟩
end Go.Proofs.YtmcijdpbjhcimaaDoor.Rn
