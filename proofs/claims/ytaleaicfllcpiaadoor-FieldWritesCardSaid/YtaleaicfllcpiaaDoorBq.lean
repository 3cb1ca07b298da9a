/- FieldBack. -/
import Derived.Test.YtaleaicfllcpiaaDoorHe
import Derived.Test.YtaleaicfllcpiaaDoorUx
import Derived.Test.YtaleaicfllcpiaaDoorPz
import Derived.Test.YtaleaicfllcpiaaDoorRows
import Derived.MakeChecks
namespace Go.Proofs.YtaleaicfllcpiaaDoor.Fl
open Go.RowKit Mm Law
set_option linter.unusedVariables false
set_option linter.unusedSimpArgs false
set_option linter.unusedSectionVars false
def Low (l : List Fld) (X : List Int) : Prop := ∀ k, k < X.length → 0 ≤ valAt X k ∧ valAt X k < ((2 ^ bitsAt l k : Nat) : Int)
theorem low_snoc {l : List Fld} {X : List Int} (h : Low l X) {z : Int} (h0 : 0 ≤ z) (h1 : z < ((2 ^ bitsAt l X.length : Nat) : Int)) : Low l (X ++ [z]) := by
  intro k hk
  rw [List.length_append, List.length_singleton] at hk
  have e : valAt (X ++ [z]) k = if k < X.length then valAt X k else z := by
    unfold valAt
    rw [List.getD_eq_getElem?_getD, List.getElem?_append]
    split
    · rw [List.getD_eq_getElem?_getD]
    · have : k - X.length = 0 := by omega
      rw [this]
      rfl
  rw [e]
  split
  · rename_i h2; exact h k h2
  · have : k = X.length := by omega
    subst this
    exact ⟨h0, h1⟩
theorem low_ok {l : List Fld} {X : List Int} (h : Low l X) (hx : X.length = l.length) : ∀ k, k < l.length → ¬ tooB l X k := by
  intro k hk
  have h1 := h k (by omega)
  have h4 : (topN (bitsAt l k) : Int) + 1 = ((2 ^ bitsAt l k : Nat) : Int) := by
    have := Nat.pow_pos (n := bitsAt l k) (show 0 < 2 by omega)
    unfold topN
    omega
  unfold tooB
  omega
theorem hiB_bits (v b n : Nat) : ∀ c ∈ hiB v b n, c ∈ dBits := by
  intro c hc
  obtain ⟨j, _, rfl⟩ := List.mem_map.1 hc
  unfold bitB dBits
  split <;> simp
theorem pkT_bits (l : List Fld) (x : List Int) : ∀ k, ∀ c ∈ pkT l x k, c ∈ dBits := by
  intro k
  induction k with
  | zero => intro c hc; exact absurd hc (by simp [pkT])
  | succ k ih =>
    intro c hc
    rcases List.mem_append.1 (show c ∈ pkT l x k ++ hiB (valAt x k).toNat (bitsAt l k) (bitsAt l k) from hc) with h | h
    · exact ih c h
    · exact hiB_bits _ _ _ c h
theorem lay_zero {l : List Fld} (h : Lay l) : (chk l).1 = 0 := by rw [lay_chk h]
theorem back_pk {l : List Fld} (h : Lay l) {X : List Int} (hx : X.length = l.length) (hl : Low l X) : (pkE l X = 0 ∧ pkS l X = pkT l X l.length) ∧ unE l (pkT l X l.length) = 0 ∧ unV l (pkT l X l.length) = X := by
  have h1 := low_ok hl hx
  have h2 := pk_ok (lay_zero h) hx h1
  have h3 := un_ok (h := pkT l X l.length) (lay_zero h) ⟨by rw [pkT_pos h.wide X _ (Nat.le_refl _), pos_int h.wide (Nat.le_refl _)], pkT_bits l X _⟩
  refine ⟨h2, h3.1, ?_⟩
  rw [h3.2, un_pk h.wide hx h1 _ (Nat.le_refl _), ← hx, List.take_length]
theorem back_un {l : List Fld} (h : Lay l) {H : List UInt8} (hH : H.length = posN l l.length) (hd : ∀ b ∈ H, b ∈ dBits) : (unE l H = 0 ∧ unV l H = unT l H l.length) ∧ pkE l (unT l H l.length) = 0 ∧ pkS l (unT l H l.length) = H := by
  have h1 := un_ok (h := H) (lay_zero h) ⟨by rw [hH, pos_int h.wide (Nat.le_refl _)], hd⟩
  have h2 := pk_ok (lay_zero h) (unT_len l H l.length) (un_low h.wide hH)
  refine ⟨h1, h2.1, ?_⟩
  rw [h2.2, pk_un h.wide hH hd _ (Nat.le_refl _), ← hH, List.take_length]
theorem low_wf {l : List Fld} (h : Wide l) {X : List Int} (hx : X.length ≤ l.length) (hl : Low l X) : ∀ z ∈ X, (Lit.int .i64 z).wf = true := by
  intro z hz
  obtain ⟨k, hk, rfl⟩ := List.getElem_of_mem hz
  have h1 := hl k hk
  have e : valAt X k = X[k] := by unfold valAt; simp [hk]
  rw [e] at h1
  have h2 := pow_33 (show bitsAt l k ≤ 32 from (bitsAt_get h (by omega)).2.2)
  have h3 : (2 : Nat) ^ 32 = 4294967296 := by decide
  simp [Lit.wf, IntKind.min, IntKind.max, IntKind.bits, IntKind.signed]
  omega
theorem unT_low {l : List Fld} (h : Wide l) {H : List UInt8} (hH : H.length = posN l l.length) : Low l (unT l H l.length) := by
  intro k hk
  rw [unT_len] at hk
  rw [unT_at _ hk]
  have h1 := fldB_len h (H := H) (by omega) hk
  have h2 := numB_lt _ (fldB l H k) h1
  omega
theorem pow_b {B : Nat} (h : B ≤ 32) : 1 ≤ (2 : Int) ^ B ∧ (2 : Int) ^ B ≤ 4294967296 := by
  have h1 : 0 < 2 ^ B := Nat.pow_pos (by decide)
  have h2 := pow_33 h
  rw [pow_int]
  omega
set_option maxRecDepth 100000 in
set_option maxHeartbeats 4000000 in
theorem back_walk (v : Value) (ws : List Int) (_ : ws.length * 8 ≤ 140737488355328) (u : Value) (xs : List Int) (_ : xs.length * 8 ≤ 140737488355328) (t : ByteArray) (htm : t.size ≤ maxLen) (w : World)
    (hX : SeesS w v 1 ws.length (inC ws) ∧ ∀ z ∈ ws, (Lit.int .i64 z).wf = true) (hY : SeesS w u 1 xs.length (inC xs) ∧ ∀ z ∈ xs, (Lit.int .i64 z).wf = true) (_ : True) :
    Calls Tryd.prog 3 #[v, u, .string t] w fun e w' => e = .returned (.bool true) ∧ Below w.heap.size w w' := by
  have HLA := Lib.hid (layout_any ws v w hX.1 hX.2)
  have hlay := lay_L ws
  have hform := lay_form hlay
  generalize layL ws = l at *
  have HLY := Lib.hid hlay
  have HW := Lib.hid hlay.wide
  have hl0 := hlay.1
  have hl8 := hlay.2.1
  have HO := Lib.hid (fun (w' : World) (B : Nat) (u : Value) (h : w'.ownsRow B 27 2 u l.length (fcells l)) => own_sees h hform)
  have HU := Lib.hid hY.1
  have HUW := Lib.hid hY.2
  obtain ⟨a1, cap1, rfl, hcap1, hcm1⟩ := hY.1.form
  unfold maxLen at hcm1
  clear hX hY hform hlay
  go_enter Tryd.func3, Tryd.ntmps3
  go_wp2_with fail
  refine HLA.out.mono ?_
  rintro e w1 ⟨f, rfl, hof, hb1⟩
  have HSF := Lib.hid (HO.out _ _ _ hof)
  have HB1 := Lib.hid hb1
  obtain ⟨a0, cap0, rfl, hcap, hcm, hx, _⟩ := HO.out _ _ _ hof
  have HX := Lib.hid hx
  unfold maxLen at hcm
  clear HLA hof hb1 hx
  go_wp2_with fail
  go_loopw [8, 9] (fun m i wr => ∃ (k : Nat) (X : List Int), k ≤ l.length ∧ X.length = k ∧ Low l X ∧ i = .int .i64 (k : Int) ∧ wr.ownsRow w1.heap.size 3 1 m k (inC X) ∧ Below w1.heap.size w1 wr) (fun _ i _ => l.length - (intOf i).toNat)
  case atStart => exact ⟨0, [], Nat.zero_le _, rfl, fun k hk => absurd hk (by simp), rfl, World.ownsRow_nil _ _ _ _, Below.refl _ _⟩
  case round =>
    obtain ⟨k, X, hk, hXk, hlow, rfl, hown, hbel⟩ := hrel
    have HOW := Lib.hid hown
    have HLOW := Lib.hid hlow
    have HXK := Lib.hid hXk
    clear hown hlow hXk
    by_cases hlt : k < l.length
    · obtain ⟨g, off, rfl, hg, hq⟩ : ∃ g off, a0 = some ⟨g, off, none⟩ ∧ g < w1.heap.size ∧ ∀ j f, l[j]? = some f → w1.cell? ⟨g, off + j * 2, none⟩ = some (.string f.1) ∧ w1.cell? ⟨g, off + (j * 2 + 1), none⟩ = some (.int .i64 f.2) := by
        rcases HX.out with h0 | h0
        · rw [h0] at hlt; simp at hlt
        · exact h0
      have q1 := (hq k l[k] (by simp [hlt])).2
      rw [← hbel.cell (p := ⟨g, off + (k * 2 + 1), none⟩) hg] at q1
      rw [← Nat.add_assoc] at q1
      have hbk := bitsAt_get HW.out hlt
      have hb1 : l[k].2 = (bitsAt l k : Int) := hbk.1.symm
      rw [hb1] at q1
      have HSN := Lib.hid (fun (z : Int) (h0 : 0 ≤ z) (h1 : z < ((2 ^ bitsAt l k : Nat) : Int)) => low_snoc HLOW.out h0 (by rw [HXK.out]; exact h1))
      generalize bitsAt l k = B at *
      have hB1 : 1 ≤ B := hbk.2.1
      have hB32 : B ≤ 32 := hbk.2.2
      clear hq hb1 hbk
      obtain ⟨p1, p2⟩ := pow_b hB32
      rw [← pow_int] at HSN
      generalize hT : (2 : Int) ^ B = T at *
      have HND := Lib.hid (fun z hz w => near_det z T hz p1 p2 w)
      have HNB := Lib.hid (fun z => nearI_bd (n := z) p1)
      have hBi : (B : Int) ≤ 32 := by omega
      have hB0 : (0 : Int) ≤ (B : Int) := by omega
      have x0 : (0 : Int) ≤ (k : Int) := by omega
      have x1 : (k : Int) < (l.length : Int) := by omega
      by_cases hkx : k < xs.length
      · obtain ⟨_, gx, ox, rfl, hgx, hqx⟩ := HU.out.at (by omega)
        have p0 := hqx _ _ (inC_at xs k xs[k] (by simp [hkx]))
        rw [← (bnx HB1.out hbel).cell (p := ⟨gx, ox + k, none⟩) hgx] at p0
        have hwf := HUW.out xs[k] (List.getElem_mem hkx)
        generalize xs[k] = z at *
        have y1 : (k : Int) < (xs.length : Int) := by omega
        clear hqx
        go_wp2_with fail
        refine (HND.out z hwf _).mono ?_
        rintro e w2 ⟨rfl, rfl⟩
        have HNZ := Lib.hid (HSN.out (nearI z T) (HNB.out z).1 (HNB.out z).2)
        generalize nearI z T = r at *
        go_wp2_with (at_builtin; refine app_int r HOW.out rfl rfl rfl rfl (by omega) hbel.size ?_; intro v1 w3 hown1 hb3)
        go_roundw
        case rel => exact ⟨k + 1, X ++ [r], by omega, by rw [List.length_append, HXK.out]; rfl, HNZ.out, by go_num, hown1, hbel.trans hb3⟩
        case measure => simp [intOf]; omega
      · have y1 : ¬ (k : Int) < (xs.length : Int) := by omega
        go_wp2_with fail
        refine (HND.out (k : Int) (by simp [Lit.wf, IntKind.min, IntKind.max, IntKind.bits, IntKind.signed]; omega) _).mono ?_
        rintro e w2 ⟨rfl, rfl⟩
        have HNZ := Lib.hid (HSN.out (nearI (k : Int) T) (HNB.out _).1 (HNB.out _).2)
        generalize nearI (k : Int) T = r at *
        go_wp2_with (at_builtin; refine app_int r HOW.out rfl rfl rfl rfl (by omega) hbel.size ?_; intro v1 w3 hown1 hb3)
        go_roundw
        case rel => exact ⟨k + 1, X ++ [r], by omega, by rw [List.length_append, HXK.out]; rfl, HNZ.out, by go_num, hown1, hbel.trans hb3⟩
        case measure => simp [intOf]; omega
    · have hkl : k = l.length := by omega
      subst hkl
      have HSX := Lib.hid (show SeesS wr u8 1 X.length (inC X) from by have := SeesS.of_own HOW.out; rw [HXK.out]; exact this)
      have hBP := back_pk HLY.out HXK.out HLOW.out
      have hBU := back_un HLY.out (hdT_len t.data.toList (posN l l.length)) (hdT_bits _ _)
      have hsum := sum_bd HW.out l.length (Nat.le_refl _)
      rw [pos_int HW.out (Nat.le_refl _)] at hsum
      have hPL := pkT_pos HW.out X l.length (Nat.le_refl _)
      have hHL := hdT_len t.data.toList (posN l l.length)
      have HB := Lib.hid (bnx HB1.out hbel)
      have HF := Lib.hid (fun w' (h : Below wr.heap.size wr w') => (HSF.out.below hbel).below h)
      have HP1 := Lib.hid (fun w' (h : Below wr.heap.size wr w') => pack_any l X _ u8 w' (HF.out w' h) (HSX.out.below h) (low_wf HW.out (Nat.le_of_eq HXK.out) HLOW.out))
      have HU1 := Lib.hid (fun w' (h : Below wr.heap.size wr w') => unpack_any l _ (str (pkT l X l.length)) (by rw [str_size, hPL]; unfold maxLen; omega) w' (HF.out w' h))
      have HH := Lib.hid (fun w' (h : Below wr.heap.size wr w') => header_any l HW.out (by omega) _ t htm w' (HF.out w' h))
      have HU2 := Lib.hid (fun w' (h : Below wr.heap.size wr w') => unpack_any l _ (str (hdT t.data.toList (posN l l.length))) (by rw [str_size, hHL]; unfold maxLen; omega) w' (HF.out w' h))
      have HP2 := Lib.hid (fun w' (u : Value) (h : Below wr.heap.size wr w') (hu : SeesS w' u 1 (unT l (hdT t.data.toList (posN l l.length)) l.length).length (inC (unT l (hdT t.data.toList (posN l l.length)) l.length))) => pack_any l _ _ u w' (HF.out w' h) hu (low_wf HW.out (by rw [unT_len]; exact Nat.le_refl _) (unT_low HW.out hHL)))
      unfold PkAns at HP1 HP2
      unfold UnAns at HU1 HU2
      rw [str_list, hBP.2.1, hBP.2.2] at HU1
      rw [hBP.1.1, hBP.1.2] at HP1
      rw [str_list, hBU.1.1, hBU.1.2] at HU2
      rw [hBU.2.1, hBU.2.2] at HP2
      generalize unT l (hdT t.data.toList (posN l l.length)) l.length = Z at *
      generalize str (hdT t.data.toList (posN l l.length)) = hh at *
      generalize str (pkT l X l.length) = pp at *
      have hhh : (hh.toList == hh.toList) = true := by simp
      have HNUM := Lib.hid (fun w => num_any 0 w (by decide))
      clear hBP hBU hsum hPL hHL hk hlt htm hbel HSF
      go_wp2_with fail
      refine (HP1.out _ (Below.refl _ _)).mono ?_
      rintro e w2 ⟨rfl, hb2⟩
      have HC2 := Lib.hid hb2
      go_wp2_with fail
      refine (HNUM.out _).mono ?_
      rintro e w' ⟨rfl, rfl⟩
      go_wp2_with fail
      refine (HU1.out _ HC2.out).mono ?_
      rintro e w3 ⟨v3, rfl, ho3, hb3⟩
      have HS3 := Lib.hid (SeesS.of_own ho3)
      have HC3 := Lib.hid (bnx HC2.out hb3)
      clear ho3 hb3
      go_wp2_with fail
      refine (HH.out _ HC3.out).mono ?_
      rintro e w4 ⟨rfl, hb4⟩
      have HS4 := Lib.hid (HS3.out.below hb4)
      have HC4 := Lib.hid (bnx HC3.out hb4)
      clear hb4
      go_wp2_with fail
      refine (HU2.out _ HC4.out).mono ?_
      rintro e w5 ⟨v5, rfl, ho5, hb5⟩
      have HT5 := Lib.hid (SeesS.of_own ho5)
      have HS5 := Lib.hid (HS4.out.below hb5)
      have HC5 := Lib.hid (bnx HC4.out hb5)
      clear ho5 hb5
      go_wp2_with fail
      refine (HNUM.out _).mono ?_
      rintro e w' ⟨rfl, rfl⟩
      go_wp2_with fail
      refine (HNUM.out _).mono ?_
      rintro e w' ⟨rfl, rfl⟩
      go_wp2_with fail
      refine (alike_yes X _ _ _ HS5.out (HSX.out.below HC5.out)).mono ?_
      rintro e w6 ⟨rfl, hb6⟩
      have HT6 := Lib.hid (HT5.out.below hb6)
      have HC6 := Lib.hid (bnx HC5.out hb6)
      clear hb6
      go_wp2_with fail
      refine (HP2.out _ _ HC6.out HT6.out).mono ?_
      rintro e w7 ⟨rfl, hb7⟩
      have HC7 := Lib.hid (bnx HC6.out hb7)
      go_wp2_with fail
      refine (HNUM.out _).mono ?_
      rintro e w' ⟨rfl, rfl⟩
      go_wp2_with fail
      go_ret
      exact ⟨rfl, bnx HB.out HC7.out⟩
theorem fieldBack_laid {w : World} (_ : laidMetH Tryd.prog Rows.fieldBackRow.laid w) : True := trivial
end Go.Proofs.YtaleaicfllcpiaaDoor.Fl
