/- written: the records of entries, and their bytes. -/
import Derived.Test.YtcofndegcleicaaEa
import Derived.Test.YtcofndegcleicaaRc
import Derived.Test.YtcofndegcleicaaCt
import Derived.Test.YtcofndegcleicaaEn
import Derived.Deep.DeepCutAuto
namespace Go.Proofs.Ytcofndegcleicaa.Lg
open Go.RowKit Mm Law
/-- an entry's kind and text, as it is written -/
def entW (e : Ent) : Nat × List UInt8 := (1 + (e.1.tmod 4).natAbs, e.2.data.toList.take 16384)
def entsW (l : List Ent) : List (Nat × List UInt8) := (l.take 40).map entW
theorem entW_ok (e : Ent) : WOk (entW e) := by
  refine ⟨by simp [entW], ?_, ?_⟩
  · have : (e.1.tmod 4).natAbs < 4 := by
      rw [Int.natAbs_tmod]
      exact Nat.mod_lt _ (by decide)
    simp only [entW]; omega
  · simp only [entW, List.length_take]; omega
theorem entsW_ok (l : List Ent) : ∀ w ∈ entsW l, WOk w := by
  intro w hw
  obtain ⟨e, _, rfl⟩ := List.mem_map.1 hw
  exact entW_ok e
theorem entsW_len (l : List Ent) : (entsW l).length = min 40 l.length := by simp [entsW]
theorem entsW_take (l : List Ent) (k : Nat) (h : k ≤ 40) : entsW (l.take k) = (l.take k).map entW := by
  unfold entsW
  rw [List.take_of_length_le (by rw [List.length_take]; omega)]
theorem entsW_snoc (l : List Ent) (k : Nat) (h : k < 40) (hk : k < l.length) : entsW (l.take (k + 1)) = entsW (l.take k) ++ [entW l[k]] := by
  rw [entsW_take l k (by omega), entsW_take l (k + 1) (by omega), List.take_succ_eq_append_getElem hk, List.map_append]
  rfl
theorem diskOf_len (ws : List (Nat × List UInt8)) (h : ∀ w ∈ ws, WOk w) : ∀ sq, (diskOf ws sq).length ≤ ws.length * 16404 := by
  induction ws with
  | nil => intro sq; simp [diskOf]
  | cons w ws ih =>
    intro sq
    have h1 := ih (fun w hw => h w (List.mem_cons_of_mem _ hw)) (sq + 1)
    have h2 := (h w (List.mem_cons_self ..)).2.2
    simp only [diskOf, List.length_append, enc_len, List.length_cons]
    omega
theorem str_take (s : ByteArray) (n : Nat) : s.extract 0 n = str (s.data.toList.take n) := by
  apply ByteArray.ext
  rw [← Array.toList_inj]
  simp [str, ByteArray.data_extract]
theorem encode_ok (sq k : Nat) (t : List UInt8) (hw : WOk (k, t)) (hs : 1 ≤ sq ∧ sq ≤ 2147483647) (w : World) :
    Calls Try.prog 16 #[.agg #[.int .i64 (sq : Int), .int .i64 (k : Int), .string (str t)]] w fun e w' => ∃ v, e = .returned (.tuple #[v, .int .i64 0]) ∧ w'.ownsRow w.heap.size 5 1 v (enc k sq t).length (bytesV (enc k sq t)) ∧ Below w.heap.size w w' := by
  obtain ⟨h1, h2, h3⟩ := hw
  simp only at h1 h2 h3
  have h := encode_any (sq : Int) (k : Int) (str t) w (by rw [str_size]; unfold maxLen; omega)
  rw [str_list] at h
  have e1 : encE (k : Int) (sq : Int) t = 0 := by unfold encE; rw [if_neg (by omega), if_pos (by unfold recOk; omega)]
  have e2 : encT (k : Int) (sq : Int) t = enc k sq t := by unfold encT; rw [if_pos e1, Int.toNat_natCast, Int.toNat_natCast]
  rw [e1, e2] at h
  exact h
theorem app_disk {ws : List (Nat × List UInt8)} {w : Nat × List UInt8} {k : Nat} (h : ws.length = k) : diskOf (ws ++ [w]) 1 = diskOf ws 1 ++ enc w.1 (k + 1) w.2 ∧ numbered (ws ++ [w]) 1 = numbered ws 1 ++ [(k + 1, w.1, w.2)] := by
  rw [diskOf_app, numbered_app, h, Nat.add_comm 1 k]
  simp [diskOf, numbered]
set_option maxRecDepth 100000 in
set_option maxHeartbeats 4000000 in
theorem written_any (l : List Ent) (hw : ∀ x ∈ l, x.2.size ≤ maxLen ∧ (Lit.int .i64 x.1).wf = true) (v : Value) (w : World) (hS : SeesS w v 2 l.length (esC l)) :
    Calls Try.prog 26 #[v] w fun e w' => ∃ u d, e = .returned (.tuple #[u, d, .bool true]) ∧ w'.ownsRow w.heap.size 27 3 u (entsW l).length (ksC (numbered (entsW l) 1)) ∧
      w'.ownsRow w.heap.size 5 1 d (diskOf (entsW l) 1).length (bytesV (diskOf (entsW l) 1)) ∧ Below w.heap.size w w' := by
  have HS := Lib.hid hS
  have HW := Lib.hid hw
  obtain ⟨a0, cap0, rfl, hcap, hcm⟩ := hS.form
  unfold maxLen at hcm
  clear hS hw
  go_enter Try.func26, Try.ntmps26
  go_wp2
  go_loopw [5, 6, 7] (fun u d i wr => ∃ k : Nat, k ≤ l.length ∧ k ≤ 40 ∧ i = .int .i64 k ∧ Below w.heap.size w wr ∧ wr.ownsRow w.heap.size 27 3 u k (ksC (numbered (entsW (l.take k)) 1)) ∧
    wr.ownsRow w.heap.size 5 1 d (diskOf (entsW (l.take k)) 1).length (bytesV (diskOf (entsW (l.take k)) 1))) (fun _ _ i _ => 40 - (intOf i).toNat)
  case atStart => exact ⟨0, Nat.zero_le _, Nat.zero_le _, rfl, Below.refl _ _, World.ownsRow_nil _ _ _ _, World.ownsRow_nil _ _ _ _⟩
  case round =>
    obtain ⟨k, hk, hk40, rfl, hbel, hr, hd⟩ := hrel
    obtain ⟨wo, rfl⟩ : ∃ wo : World, wo = wr := ⟨_, rfl⟩
    have HR := Lib.hid hr
    have HD := Lib.hid hd
    obtain ⟨au, cu, hu⟩ := own_len hr
    obtain ⟨ad, cd, hdv⟩ := own_len hd
    subst hu hdv
    clear hr hd
    by_cases hlt : k < l.length ∧ k < 40
    · obtain ⟨h1, h2⟩ := hlt
      obtain ⟨_, g, off, rfl, hg, hq⟩ := HS.out.at (by omega)
      have kat := esC_at l k l[k] (by simp [h1])
      have q0 := hq _ _ kat.1
      have q1 := hq _ _ kat.2
      rw [← hbel.cell (p := ⟨g, off + k * 2, none⟩) hg] at q0
      rw [← hbel.cell (p := ⟨g, off + (k * 2 + 1), none⟩) hg, ← Nat.add_assoc] at q1
      have HM := HW.out l[k] (List.getElem_mem h1)
      have HT := Lib.hid (entsW_snoc l k h2 h1)
      have HLk := Lib.hid (show (entsW (l.take k)).length = k from by rw [entsW_len]; simp; omega)
      generalize l[k] = x at *
      obtain ⟨z, s⟩ := x
      obtain ⟨hsz, hz⟩ := HM
      simp only at q0 q1 hsz hz
      clear hq kat
      have hz4 : -4 < z.tmod 4 ∧ z.tmod 4 < 4 := ⟨by have := Int.lt_tmod_of_pos z (b := 4) (by decide); omega, Int.tmod_lt_of_pos z (by decide)⟩
      obtain ⟨hz0, hz1⟩ := hz4
      go_upto_if 30 with fail
      have HKD := Lib.hid (show (entW (z, s)).1 = 1 + (z.tmod 4).natAbs from rfl)
      have HTX := Lib.hid (show (entW (z, s)).2 = s.data.toList.take 16384 from rfl)
      generalize z.tmod 4 = t at *
      generalize hE : entW (z, s) = E at *
      obtain ⟨kd, tx⟩ := E
      go_cut [8] (fun s8 wx => s8 = .int .i64 (t.natAbs : Int) ∧ wo = wx)
      case first =>
        by_cases hn : t < 0
        · have e : (t.natAbs : Int) = -t := by omega
          have HE := Lib.hid e
          clear e
          go_wp2_with fail
          go_meet
          exact ⟨by rw [HE.out], rfl⟩
        · have e : (t.natAbs : Int) = t := by omega
          have HE := Lib.hid e
          have hn' : 0 ≤ t := by omega
          clear e hn
          go_wp2_with fail
          go_meet
          exact ⟨by rw [HE.out], rfl⟩
      case rest =>
        obtain ⟨rfl, rfl⟩ := hcut
        go_upto_if 40 with fail
        go_cut [9] (fun s9 wx => s9 = .string (str (s.data.toList.take 16384)) ∧ wo = wx)
        case first =>
          by_cases hn : 16384 < s.size
          · go_wp2_with fail
            go_meet
            exact ⟨by rw [str_take], rfl⟩
          · have hn' : s.size ≤ 16384 := by omega
            have HE := Lib.hid (show str (s.data.toList.take 16384) = s from by rw [List.take_of_length_le (by have := len_s s; omega), str_of])
            clear hn
            go_wp2_with fail
            go_meet
            exact ⟨by rw [HE.out], rfl⟩
        case rest =>
          obtain ⟨rfl, rfl⟩ := hcut
          have hWK : WOk (kd, tx) := by rw [← hE]; exact entW_ok _
          have hEN := fun w' => encode_ok (k + 1) kd tx hWK (by omega) w'
          rw [← HTX.out]
          have hkd := HKD.out
          have hm4 : t.natAbs < 4 := by omega
          have htx : tx.length ≤ 16384 := hWK.2.2
          clear hE HTX HKD hWK
          generalize t.natAbs = m at *
          subst hkd
          simp only [Int.natCast_add, Int.cast_ofNat_Int] at hEN
          have HEN := Lib.hid hEN
          clear hEN
          go_upto_region 13 with fail
          have hX0 := Blk.new wo 27 #[.int .i64 ((k : Int) + 1), .int .i64 (1 + (m : Int)), .string (str tx)]
          have hb10 : Below wo.heap.size wo (wo.alloc (.cells #[.int .i64 ((k : Int) + 1), .int .i64 (1 + (m : Int)), .string (str tx)] 27)) := bal (Below.refl _ _) _
          generalize hW1 : World.alloc wo _ = W1 at *
          have hcX := hX0.cell
          go_upto_region 16 with (go_at_call 16; refine (HEN.out _).mono ?_; rintro e w2 ⟨bv, rfl, ho2, hb2⟩)
          have hX2 := hX0.below hb2 hX0.lt
          clear hcX
          have hcX := hX2.cell
          have hb3 := bnx hb10 hb2
          have HR2 := Lib.hid (own_below HR.out hb3 (Nat.le_refl _))
          have HD2 := Lib.hid (own_below HD.out hb3 (Nat.le_refl _))
          have hbel2 := bnx hbel hb3
          have HOE := Lib.hid ho2
          obtain ⟨_, c2, hbv⟩ := own_len ho2
          subst hbv
          clear ho2 hb2 hb10 hX0 hW1 HR HD hbel
          have hDL : (diskOf (entsW (l.take k)) 1).length ≤ 656160 := by
            have h1 := diskOf_len (entsW (l.take k)) (entsW_ok _) 1
            rw [HLk.out] at h1
            omega
          have hEL : (enc (1 + m) (k + 1) tx).length ≤ 16404 := by rw [enc_len]; omega
          go_upto_region 17 with (at_builtin; refine app_rec (k := (k + 1, 1 + m, tx)) HR2.out rfl rfl rfl rfl (by omega) hbel2.size ?_; intro v1 w3 hown3 hb3 hs3 hg3)
          have HD3 := Lib.hid ((HD2.out.alloc _).kept hg3 (own_apart HD2.out HR2.out (by decide)))
          have HE3 := Lib.hid (Sees.of_own ((HOE.out.alloc _).kept hg3 (own_apart HOE.out HR2.out (by decide))))
          have HR3 := Lib.hid hown3
          have hbel3 := hbel2.trans hb3
          clear hcX hX2 hg3 hown3 hb3 HR2 HD2 HOE hbel2
          obtain ⟨_, c3, hv1⟩ := own_len HR3.out
          subst hv1
          go_wp2_with (at_builtin; refine app_bytes HD3.out HE3.out rfl rfl rfl rfl (by omega) hbel3.size ?_; intro v2 w4 hown4 hg4)
          have HR4 := Lib.hid (HR3.out.kept hg4 (own_apart HR3.out HD3.out (by decide)))
          have hbel4 := hbel3.trans (below_grown HD3.out hg4 hbel3.size)
          obtain ⟨e1, e2⟩ := app_disk (w := (1 + m, tx)) HLk.out
          have HT1 := Lib.hid e1
          have HT2 := Lib.hid e2
          clear e1 e2 hg4
          go_roundw
          case rel => exact ⟨k + 1, by omega, by omega, by go_num, hbel4, by rw [HT.out, HT2.out]; exact HR4.out, by rw [HT.out, HT1.out, List.length_append]; exact hown4⟩
          case measure => simp [intOf]; omega
    · have hE : entsW (l.take k) = entsW l := by
        by_cases h : k < l.length
        · have : k = 40 := by omega
          subst this
          unfold entsW
          rw [List.take_take, Nat.min_self]
        · rw [List.take_of_length_le (by omega)]
      have hL : k = (entsW l).length := by rw [entsW_len]; omega
      have HEQ := Lib.hid hE
      rw [hE] at HR HD
      have HRr := Lib.hid (show wo.ownsRow w.heap.size 27 3 (.slice au k cu) (entsW l).length (ksC (numbered (entsW l) 1)) from by rw [← hL]; exact HR.out)
      have HDd := Lib.hid HD.out
      clear hE hL HR HD
      by_cases h : k < l.length
      · have hk2 : ¬ k < 40 := by omega
        have hk3 : 40 ≤ k := by omega
        go_wp2
        refine bodyPost_ret (v := .tuple #[.slice au k cu, .slice ad (diskOf (entsW l) 1).length cd, .bool true]) (by simp [results, Try.results26, go_sem, HEQ.out]) rfl ⟨_, _, rfl, HRr.out, HDd.out, hbel⟩
      · have hk3 : l.length ≤ k := by omega
        go_wp2
        refine bodyPost_ret (v := .tuple #[.slice au k cu, .slice ad (diskOf (entsW l) 1).length cd, .bool true]) (by simp [results, Try.results26, go_sem, HEQ.out]) rfl ⟨_, _, rfl, HRr.out, HDd.out, hbel⟩
end Go.Proofs.Ytcofndegcleicaa.Lg
