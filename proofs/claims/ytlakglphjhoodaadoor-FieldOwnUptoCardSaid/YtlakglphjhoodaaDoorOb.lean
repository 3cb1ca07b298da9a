/- FieldOwn: full, seen, copied, ints. -/
import Derived.Test.YtlakglphjhoodaaDoorOa
namespace Go.Proofs.YtlakglphjhoodaaDoor.Fl
open Go.RowKit Mm
set_option linter.unusedSimpArgs false
set_option linter.unusedSectionVars false
set_option linter.unusedVariables false
set_option maxRecDepth 100000 in
set_option maxHeartbeats 8000000 in
theorem full_any (k : Nat) (hk : k < 65536) (n m : Nat) (v u : Value) (w : World) (hv : Fz w 9 1 v n (stR k n)) (hu : Fz w 3 1 u m (inR k m)) (hn : n ≤ 8589934700) (hm : m ≤ 100100) :
    Calls Tryd.prog 24 #[v, u, .int .i64 (k : Int)] w fun e w' => e = .returned (.bool true) ∧ Below w.heap.size w w' := by
  obtain ⟨a, cap, rfl, _, _⟩ := hv.form
  obtain ⟨b, dap, rfl, _, _⟩ := hu.form
  have HV := Lib.hid hv
  have HU := Lib.hid hu
  have HBI := Lib.hid (fun w' => bitsOf_any k 12 (by omega) (by decide) w')
  rw [show str (hiB k 12 12) = mkS k from rfl] at HBI
  have hqq : ((mkS k).toList == (mkS k).toList) = true := by simp
  clear hv hu
  go_enter Tryd.func24, Tryd.ntmps24
  go_wp2_with fail
  refine (HBI.out _).mono ?_
  rintro e w1 ⟨rfl, hb1⟩
  have HB1 := Lib.hid hb1
  clear hb1 HBI
  go_wp2_with fail
  go_loopw [8] (fun i wr => ∃ j : Nat, j ≤ n ∧ i = .int .i64 (j : Int) ∧ Below w.heap.size w wr) (fun i _ => n - (intOf i).toNat)
  case atStart => exact ⟨0, Nat.zero_le _, rfl, HB1.out⟩
  case round =>
    obtain ⟨j, hj, rfl, hbel⟩ := hrel
    have HB := Lib.hid hbel
    clear hbel
    by_cases hlt : j < n
    · have i1 : (0 : Int) ≤ (j : Int) := by omega
      have i2 : (j : Int) < (n : Int) := by omega
      obtain ⟨g, e, hg, hx⟩ := (HV.out.below HB.out).cells (by omega)
      cases e
      have q0 := hx j _ (stR_at hlt)
      clear hx
      go_wp2_with fail
      go_roundw
      case rel => exact ⟨j + 1, by omega, by go_num, HB.out⟩
      case measure => simp [intOf]; omega
    · have hnj : ¬ (j : Int) < (n : Int) := by omega
      go_wp2_with fail
      clear hnj hlt hj
      go_loopw [9] (fun i wr => ∃ p : Nat, p ≤ m ∧ i = .int .i64 (p : Int) ∧ Below w.heap.size w wr) (fun i _ => m - (intOf i).toNat)
      case atStart => exact ⟨0, Nat.zero_le _, rfl, HB.out⟩
      case round =>
        obtain ⟨p, hp, rfl, hbel⟩ := hrel
        have HP := Lib.hid hbel
        clear hbel
        by_cases hlt : p < m
        · have i1 : (0 : Int) ≤ (p : Int) := by omega
          have i2 : (p : Int) < (m : Int) := by omega
          obtain ⟨g, e, hg, hx⟩ := (HU.out.below HP.out).cells (by omega)
          cases e
          have q0 := hx p _ (inR_at hlt)
          clear hx
          go_wp2_with fail
          go_roundw
          case rel => exact ⟨p + 1, by omega, by go_num, HP.out⟩
          case measure => simp [intOf]; omega
        · have hnp : ¬ (p : Int) < (m : Int) := by omega
          go_wp2_with fail
          go_ret
          exact ⟨rfl, HP.out⟩
/-- an entry of the book -/
structure Bo where
  l : Value
  g : Value
  a : Value
  h : Value
  nl : Nat
  nn : Nat
  k : Nat
def Bo.cs (e : Bo) : List Value := [e.l, e.g, e.a, e.h, .int .i64 (e.k : Int)]
def bcells (bk : List Bo) : List Value := bk.flatMap Bo.cs
theorem bcells_snoc (bk : List Bo) (e : Bo) : bcells (bk ++ [e]) = bcells bk ++ e.cs := by simp [bcells]
theorem five_at {α : Type} (f : α → List Value) (hf : ∀ e, (f e).length = 5) : ∀ (bk : List α) (i : Nat) (e : α), bk[i]? = some e → ∀ j, j < 5 → (bk.flatMap f)[i * 5 + j]? = (f e)[j]?
  | [], i, e, h => by simp at h
  | q :: bk, 0, e, h => by
    cases h
    intro j hj
    have hl := hf q
    rw [List.flatMap_cons, Nat.zero_mul, Nat.zero_add, List.getElem?_append_left (by omega)]
  | q :: bk, i + 1, e, h => by
    intro j hj
    have hl := hf q
    rw [List.flatMap_cons, List.getElem?_append_right (by omega), hl, show (i + 1) * 5 + j - 5 = i * 5 + j by omega]
    exact five_at f hf bk i e (by simpa using h) j hj
structure Bo.ok (e : Bo) (X : World) : Prop where
  fl : Fz X 9 1 e.l e.nl (stR e.k e.nl)
  fg : Fz X 9 1 e.g (e.nl + 64) (stR e.k (e.nl + 64))
  fa : Fz X 3 1 e.a e.nn (inR e.k e.nn)
  fh : Fz X 3 1 e.h (e.nn + 64) (inR e.k (e.nn + 64))
  hl : e.nl ≤ 8589934592
  hn : e.nn ≤ 100000
  hk : e.k < 65536
theorem Bo.ok.below {e : Bo} {X Y : World} (h : e.ok X) (hb : Below X.heap.size X Y) : e.ok Y := ⟨h.fl.below hb, h.fg.below hb, h.fa.below hb, h.fh.below hb, h.hl, h.hn, h.hk⟩
theorem Bo.ok.other {e : Bo} {X Y : World} {B s n : Nat} {t : TypeId} {u u' : Value} {ys : List Value} (h : e.ok X) (ho : X.ownsRow B t s u n ys) (hk : Keeps X u u' Y) (h1 : 9 ≠ t) (h2 : 3 ≠ t) : e.ok Y :=
  ⟨h.fl.bf hk.bf (fz_apart h.fl ho h1), h.fg.bf hk.bf (fz_apart h.fg ho h1), h.fa.bf hk.bf (fz_apart h.fa ho h2), h.fh.bf hk.bf (fz_apart h.fh ho h2), h.hl, h.hn, h.hk⟩
theorem KF.ok {w X : World} {B n m k : Nat} {v u g h : Value} (H : KF w B n m v u g h k X) (hn : n ≤ 8589934592) (hm : m ≤ 100000) (hk : k < 65536) : Bo.ok ⟨v, g, u, h, n, m, k⟩ X :=
  ⟨H.fv, Fz.of_own H.og, H.fu, Fz.of_own H.oh, hn, hm, hk⟩
set_option maxRecDepth 100000 in
set_option maxHeartbeats 8000000 in
theorem seen_any (bk : List Bo) (w : World) (v : Value) (B : Nat) (hL : bk.length ≤ 1000000) (hok : ∀ (i : Nat) (e : Bo), bk[i]? = some e → e.ok w) (h : w.ownsRow B 35 5 v bk.length (bcells bk)) :
    Calls Tryd.prog 10 #[v] w fun e w' => e = .returned (.bool true) ∧ Below w.heap.size w w' := by
  obtain ⟨a1, cap1, rfl⟩ := own_len h
  have HOK := Lib.hid hok
  have H := Lib.hid h
  clear hok h
  go_enter Tryd.func10, Tryd.ntmps10
  go_wp2_with fail
  go_loopw [3] (fun i wr => ∃ k : Nat, k ≤ bk.length ∧ i = .int .i64 (k : Int) ∧ Below w.heap.size w wr) (fun i _ => bk.length - (intOf i).toNat)
  case atStart => exact ⟨0, Nat.zero_le _, rfl, Below.refl _ _⟩
  case round =>
    obtain ⟨k, hk, rfl, hbel⟩ := hrel
    have HB := Lib.hid hbel
    by_cases hlt : k < bk.length
    · obtain ⟨⟨el, eg, ea, eh, nl, nn, ek⟩, he⟩ : ∃ e, bk[k]? = some e := ⟨_, List.getElem?_eq_getElem hlt⟩
      have hko := HOK.out k _ he
      obtain ⟨p0, c0, e0, _, _⟩ := hko.fl.form
      obtain ⟨p1, c1, e1, _, _⟩ := hko.fg.form
      obtain ⟨p2, c2, e2, _, _⟩ := hko.fa.form
      obtain ⟨p3, c3, e3, _, _⟩ := hko.fh.form
      simp only at e0 e1 e2 e3
      subst e0 e1 e2 e3
      have HO := Lib.hid (hko.below hbel)
      obtain ⟨g, cp, e, hcap, _, hgl, hx⟩ := own_at (own_below H.out hbel (Nat.le_refl _)) (by omega)
      cases e
      have hq : ∀ j u, j < 5 → ([.slice p0 nl c0, .slice p1 (nl + 64) c1, .slice p2 nn c2, .slice p3 (nn + 64) c3, .int .i64 (ek : Int)] : List Value)[j]? = some u → wr.cell? ⟨g, k * 5 + j, none⟩ = some u := fun j u hj hu => by
        refine hx _ _ ?_
        unfold bcells
        rw [five_at Bo.cs (fun _ => rfl) bk k _ he j hj]
        exact hu
      have q0 := hq 0 _ (by omega) rfl
      have q1 := hq 1 _ (by omega) rfl
      have q2 := hq 2 _ (by omega) rfl
      have q3 := hq 3 _ (by omega) rfl
      have q4 := hq 4 _ (by omega) rfl
      rw [Nat.add_zero] at q0
      have i1 : (0 : Int) ≤ (k : Int) := by omega
      have i2 : (k : Int) < (bk.length : Int) := by omega
      have HF1 := Lib.hid (fun w' (hb : Below wr.heap.size wr w') => full_any ek hko.hk nl nn _ _ w' (HO.out.fl.below hb) (HO.out.fa.below hb) (by have := hko.hl; simp only at this; omega) (by have := hko.hn; simp only at this; omega))
      have HF2 := Lib.hid (fun w' (hb : Below wr.heap.size wr w') => full_any ek hko.hk (nl + 64) (nn + 64) _ _ w' (HO.out.fg.below hb) (HO.out.fh.below hb) (by have := hko.hl; simp only at this; omega) (by have := hko.hn; simp only at this; omega))
      clear hx hq hbel hko
      go_upto_region 5 with fail
      have HBX := Lib.hid (Blk.new wr 35 #[.slice p0 nl c0, .slice p1 (nl + 64) c1, .slice p2 nn c2, .slice p3 (nn + 64) c3, .int .i64 (ek : Int)])
      have hbw : Below wr.heap.size wr (wr.alloc (.cells #[.slice p0 nl c0, .slice p1 (nl + 64) c1, .slice p2 nn c2, .slice p3 (nn + 64) c3, .int .i64 (ek : Int)] 35)) := bal (Below.refl _ _) _
      generalize hWX : wr.alloc (.cells #[.slice p0 nl c0, .slice p1 (nl + 64) c1, .slice p2 nn c2, .slice p3 (nn + 64) c3, .int .i64 (ek : Int)] 35) = WX at *
      have HBW := Lib.hid hbw
      have e0 := HBX.out.cell 0
      have e2 := HBX.out.cell 2
      have e4 := HBX.out.cell 4
      clear q0 q1 q2 q3 q4 hWX hbw
      go_wp2_with fail
      refine (HF1.out _ HBW.out).mono ?_
      rintro e w2 ⟨rfl, hb2⟩
      have HBX2 := Lib.hid (HBX.out.below hb2 HBX.out.lt)
      have HB2 := Lib.hid (bnx HBW.out hb2)
      have f1 := HBX2.out.cell 1
      have f3 := HBX2.out.cell 3
      have f4 := HBX2.out.cell 4
      clear hb2 e0 e2 e4
      go_wp2_with fail
      refine (HF2.out _ HB2.out).mono ?_
      rintro e w3 ⟨rfl, hb3⟩
      have HB3 := Lib.hid (bnx HB2.out hb3)
      clear f1 f3 f4 hb3
      go_wp2_with fail
      go_roundw
      case rel => exact ⟨k + 1, by omega, by go_num, bnx HB.out HB3.out⟩
      case measure => simp [intOf]; omega
    · have hnk : ¬ (k : Int) < (bk.length : Int) := by omega
      go_wp2_with fail
      go_ret
      exact ⟨rfl, HB.out⟩
set_option maxRecDepth 100000 in
set_option maxHeartbeats 4000000 in
theorem copied_any (n : Nat) (xs : List Value) (hn : n ≤ 8589934592) (hs : ∀ (j : Nat) (u : Value), xs[j]? = some u → ∃ s, u = .string s) (v : Value) (w : World) (h : SeesS w v 1 n xs) :
    Calls Tryd.prog 6 #[v] w fun e w' => ∃ u, e = .returned u ∧ w'.ownsRow w.heap.size 9 1 u n xs ∧ Below w.heap.size w w' := by
  obtain ⟨a, cap, rfl, hcap, hcm⟩ := h.form
  have H := Lib.hid h
  have HS := Lib.hid hs
  have hxl : xs.length = n := by obtain ⟨_, _, _, _, _, _, hl, _⟩ := h; omega
  have HXL := Lib.hid hxl
  unfold maxLen at hcm
  clear h hs hxl
  go_enter Tryd.func6, Tryd.ntmps6
  go_wp2_with fail
  go_loopw [3, 4] (fun u i wr => ∃ k : Nat, k ≤ n ∧ i = .int .i64 (k : Int) ∧ wr.ownsRow w.heap.size 9 1 u k (xs.take k) ∧ Below w.heap.size w wr) (fun _ i _ => n - (intOf i).toNat)
  case atStart => exact ⟨0, Nat.zero_le _, rfl, by simpa using World.ownsRow_nil _ _ _ _, Below.refl _ _⟩
  case round =>
    obtain ⟨k, hk, rfl, ho, hbel⟩ := hrel
    obtain ⟨pu, cu, rfl⟩ := own_len ho
    have HO := Lib.hid ho
    have HB := Lib.hid hbel
    clear ho hbel
    by_cases hlt : k < n
    · have i1 : (0 : Int) ≤ (k : Int) := by omega
      have i2 : (k : Int) < (n : Int) := by omega
      obtain ⟨_, g, off, rfl, hg, hq⟩ := H.out.at (by omega)
      have hkx : k < xs.length := by have := HXL.out; omega
      have hxk : xs[k]? = some xs[k] := List.getElem?_eq_getElem hkx
      obtain ⟨s, hs⟩ := HS.out k _ hxk
      have q0 := hq k _ hxk
      rw [hs] at q0 hxk
      rw [← HB.out.cell (p := ⟨g, off + k, none⟩) hg] at q0
      have hgw : g < wr.heap.size := Nat.lt_of_lt_of_le hg HB.out.size
      have HXK := Lib.hid hxk
      clear hq hxk hs
      go_wp2_with (at_builtin; refine app_stO _ rfl HO.out rfl rfl rfl rfl (by omega) HB.out.size ?_; intro u' w2 hou hku; obtain ⟨pu', cu', rfl⟩ := own_len hou)
      go_roundw
      case rel => exact ⟨k + 1, by omega, by go_num, by rw [List.take_add_one, HXK.out]; exact hou, (HB.out.alloc HB.out.size _).grown hku.by (by have := HB.out.size; simp; omega) (fun b hb => (HO.out.lt b hb).1)⟩
      case measure => simp [intOf]; omega
    · have hnk : ¬ (k : Int) < (n : Int) := by omega
      have hkn : k = n := by omega
      have HOF := Lib.hid (show wr.ownsRow w.heap.size 9 1 (.slice pu k cu) n xs from by
        have := HO.out
        rw [List.take_of_length_le (by have := HXL.out; omega)] at this
        rw [← hkn]
        exact this)
      clear hkn
      go_wp2_with fail
      go_ret
      exact ⟨_, rfl, HOF.out, HB.out⟩
set_option maxRecDepth 100000 in
set_option maxHeartbeats 4000000 in
theorem ints_any (n : Nat) (xs : List Value) (hn : n ≤ 8589934592) (hs : ∀ (j : Nat) (u : Value), xs[j]? = some u → ∃ s, u = .int .i64 s) (v : Value) (w : World) (h : SeesS w v 1 n xs) :
    Calls Tryd.prog 7 #[v] w fun e w' => ∃ u, e = .returned u ∧ w'.ownsRow w.heap.size 3 1 u n xs ∧ Below w.heap.size w w' := by
  obtain ⟨a, cap, rfl, hcap, hcm⟩ := h.form
  have H := Lib.hid h
  have HS := Lib.hid hs
  have hxl : xs.length = n := by obtain ⟨_, _, _, _, _, _, hl, _⟩ := h; omega
  have HXL := Lib.hid hxl
  unfold maxLen at hcm
  clear h hs hxl
  go_enter Tryd.func7, Tryd.ntmps7
  go_wp2_with fail
  go_loopw [3, 4] (fun u i wr => ∃ k : Nat, k ≤ n ∧ i = .int .i64 (k : Int) ∧ wr.ownsRow w.heap.size 3 1 u k (xs.take k) ∧ Below w.heap.size w wr) (fun _ i _ => n - (intOf i).toNat)
  case atStart => exact ⟨0, Nat.zero_le _, rfl, by simpa using World.ownsRow_nil _ _ _ _, Below.refl _ _⟩
  case round =>
    obtain ⟨k, hk, rfl, ho, hbel⟩ := hrel
    obtain ⟨pu, cu, rfl⟩ := own_len ho
    have HO := Lib.hid ho
    have HB := Lib.hid hbel
    clear ho hbel
    by_cases hlt : k < n
    · have i1 : (0 : Int) ≤ (k : Int) := by omega
      have i2 : (k : Int) < (n : Int) := by omega
      obtain ⟨_, g, off, rfl, hg, hq⟩ := H.out.at (by omega)
      have hkx : k < xs.length := by have := HXL.out; omega
      have hxk : xs[k]? = some xs[k] := List.getElem?_eq_getElem hkx
      obtain ⟨s, hs⟩ := HS.out k _ hxk
      have q0 := hq k _ hxk
      rw [hs] at q0 hxk
      rw [← HB.out.cell (p := ⟨g, off + k, none⟩) hg] at q0
      have hgw : g < wr.heap.size := Nat.lt_of_lt_of_le hg HB.out.size
      have HXK := Lib.hid hxk
      clear hq hxk hs
      go_wp2_with (at_builtin; refine app_inO _ rfl HO.out rfl rfl rfl rfl (by omega) HB.out.size ?_; intro u' w2 hou hku; obtain ⟨pu', cu', rfl⟩ := own_len hou)
      go_roundw
      case rel => exact ⟨k + 1, by omega, by go_num, by rw [List.take_add_one, HXK.out]; exact hou, (HB.out.alloc HB.out.size _).grown hku.by (by have := HB.out.size; simp; omega) (fun b hb => (HO.out.lt b hb).1)⟩
      case measure => simp [intOf]; omega
    · have hnk : ¬ (k : Int) < (n : Int) := by omega
      have hkn : k = n := by omega
      have HOF := Lib.hid (show wr.ownsRow w.heap.size 3 1 (.slice pu k cu) n xs from by
        have := HO.out
        rw [List.take_of_length_le (by have := HXL.out; omega)] at this
        rw [← hkn]
        exact this)
      clear hkn
      go_wp2_with fail
      go_ret
      exact ⟨_, rfl, HOF.out, HB.out⟩
end Go.Proofs.YtlakglphjhoodaaDoor.Fl
