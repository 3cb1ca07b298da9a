/- TernOwn: seen. -/
import Derived.Test.YtoglcocplpdlhaaKf
namespace Go.Proofs.Ytoglcocplpdlhaa.Tn
open Go.RowKit
attribute [local go_sem] cv cs wv
abbrev HdK (W : World) (g o : Nat) (x0 x1 x2 x3 x4 x5 x6 x7 x8 x9 x10 : Value) (X : World) : Prop :=
  X.cell? ⟨g, o, none⟩ = some x0 ∧ X.cell? ⟨g, o + 1, none⟩ = some x1 ∧ X.cell? ⟨g, o + 2, none⟩ = some x2 ∧ X.cell? ⟨g, o + 2 + 1, none⟩ = some x3 ∧ X.cell? ⟨g, o + 2 + 2, none⟩ = some x4 ∧ X.cell? ⟨g, o + 2 + 3, none⟩ = some x5 ∧ X.cell? ⟨g, o + 2 + 4, none⟩ = some x6 ∧ X.cell? ⟨g, o + 2 + 5, none⟩ = some x7 ∧ X.cell? ⟨g, o + 2 + 6, none⟩ = some x8 ∧ X.cell? ⟨g, o + 2 + 7, none⟩ = some x9 ∧ X.cell? ⟨g, o + 2 + 8, none⟩ = some x10 ∧ Below W.heap.size W X
theorem HdK.go {W X Y : World} {g o : Nat} {x0 x1 x2 x3 x4 x5 x6 x7 x8 x9 x10 : Value} (hg : g < W.heap.size) (h : HdK W g o x0 x1 x2 x3 x4 x5 x6 x7 x8 x9 x10 X) (hb : Below X.heap.size X Y) : HdK W g o x0 x1 x2 x3 x4 x5 x6 x7 x8 x9 x10 Y := by
  obtain ⟨h0, h1, h2, h3, h4, h5, h6, h7, h8, h9, h10, hB⟩ := h
  have hgX := Nat.lt_of_lt_of_le hg hB.size
  have e : ∀ i : Nat, Y.cell? ⟨g, i, none⟩ = X.cell? ⟨g, i, none⟩ := fun i => hb.cell (p := ⟨g, i, none⟩) hgX
  exact ⟨(e _).trans h0, (e _).trans h1, (e _).trans h2, (e _).trans h3, (e _).trans h4, (e _).trans h5, (e _).trans h6, (e _).trans h7, (e _).trans h8, (e _).trans h9, (e _).trans h10, bnx hB hb⟩
set_option maxHeartbeats 4000000 in
theorem seen_any (bk : List Bk) (w : World) (v : Value) (B : Nat) (hL : bk.length ≤ 1000000) (hok : ∀ (i : Nat) (e : Bk), bk[i]? = some e → e.ok w) (h : w.ownsRow B 37 11 v bk.length (bcells bk)) :
    Calls Try.prog 9 #[v] w fun e w' => e = .returned (.bool true) ∧ Below w.heap.size w w' := by
  obtain ⟨a1, cap1, rfl⟩ := own_len h
  have HOK := Lib.hid hok
  have H := Lib.hid h
  clear hok h
  go_enter Try.func9, Try.ntmps9
  go_wp2_with fail
  go_loopw [3] (fun i wr => ∃ k : Nat, k ≤ bk.length ∧ i = .int .i64 (k : Int) ∧ Below w.heap.size w wr) (fun i _ => bk.length - (intOf i).toNat)
  case atStart => exact ⟨0, Nat.zero_le _, rfl, Below.refl _ _⟩
  case round =>
    obtain ⟨k, hk, rfl, hbel⟩ := hrel
    have HB := Lib.hid hbel
    by_cases hlt : k < bk.length
    · obtain ⟨⟨el, eg, en, ek⟩, he⟩ : ∃ e, bk[k]? = some e := ⟨_, List.getElem?_eq_getElem hlt⟩
      have hko := HOK.out k _ he
      obtain ⟨al, cl, hl⟩ := hko.fl.form
      obtain ⟨ag, cg, hg0⟩ := hko.fg.form
      simp only at hl hg0
      subst hl hg0
      have HO := Lib.hid (hko.below hbel)
      obtain ⟨m, c, o, hC⟩ : ∃ m c o, Cub (markT ek) m c o := ⟨_, _, _, mark_cub ek⟩
      have HC := Lib.hid hC
      have hcs := hC.cells
      obtain ⟨g, cp, e, hcap, _, hx⟩ := own_at (own_below H.out hbel (Nat.le_refl _)) (by omega)
      cases e
      have hgl : g < wr.heap.size := ((own_below H.out hbel (Nat.le_refl _)).lt g rfl).2
      have hq : ∀ j u, j < 11 → ([Value.slice al en cl, .slice ag (en + 64) cg, .int .i64 m, .int .u64 (wd c 0), .int .u64 (wd c 1), .int .u64 (wd c 2), .int .u64 (wd c 3), .int .u64 (wd o 0), .int .u64 (wd o 1), .int .u64 (wd o 2), .int .u64 (wd o 3)] : List Value)[j]? = some u → wr.cell? ⟨g, k * 11 + j, none⟩ = some u := fun j u hj hu => by
        refine hx _ _ ?_
        rw [bcells_at bk k _ he j hj, ← hcs]
        exact hu
      have hK : HdK wr g (k * 11) (.slice al en cl) (.slice ag (en + 64) cg) (.int .i64 m) (.int .u64 (wd c 0)) (.int .u64 (wd c 1)) (.int .u64 (wd c 2)) (.int .u64 (wd c 3)) (.int .u64 (wd o 0)) (.int .u64 (wd o 1)) (.int .u64 (wd o 2)) (.int .u64 (wd o 3)) wr :=
        ⟨hq 0 _ (by omega) rfl, hq 1 _ (by omega) rfl, hq 2 _ (by omega) rfl, hq 3 _ (by omega) rfl, hq 4 _ (by omega) rfl, hq 5 _ (by omega) rfl, hq 6 _ (by omega) rfl, hq 7 _ (by omega) rfl, hq 8 _ (by omega) rfl, hq 9 _ (by omega) rfl, hq 10 _ (by omega) rfl, Below.refl _ _⟩
      have i1 : (0 : Int) ≤ (k : Int) := by omega
      have i2 : (k : Int) < (bk.length : Int) := by omega
      have hn1 : en ≤ 1000 := hko.hn
      have HF1 := Lib.hid (fun w' (hb : Below wr.heap.size wr w') => full_any HC.out en w' (.slice al en cl) (by have := hn1; omega) (HO.out.fl.below hb))
      have HF2 := Lib.hid (fun w' (hb : Below wr.heap.size wr w') => full_any HC.out (en + 64) w' (.slice ag (en + 64) cg) (by have := hn1; omega) (HO.out.fg.below hb))
      have HKH := Lib.hid hK
      unfold cv cs wv at HF1 HF2
      clear hx hq hcs hbel hko hC hn1 hK
      go_upto_region 4 with fail
      have hK0 : HdK wr g (k * 11) (.slice al en cl) (.slice ag (en + 64) cg) (.int .i64 m) (.int .u64 (wd c 0)) (.int .u64 (wd c 1)) (.int .u64 (wd c 2)) (.int .u64 (wd c 3)) (.int .u64 (wd o 0)) (.int .u64 (wd o 1)) (.int .u64 (wd o 2)) (.int .u64 (wd o 3)) wr.drew := HKH.out.go hgl (Below.refl _ _).drew
      go_region_held3 (fun w' => HdK wr g (k * 11) (.slice al en cl) (.slice ag (en + 64) cg) (.int .i64 m) (.int .u64 (wd c 0)) (.int .u64 (wd c 1)) (.int .u64 (wd c 2)) (.int .u64 (wd c 3)) (.int .u64 (wd o 0)) (.int .u64 (wd o 1)) (.int .u64 (wd o 2)) (.int .u64 (wd o 3)) w')
        (with_reducible (first | assumption | exact hK0 | exact hK2 | exact hK3 | fail))
        (first | (go_at_call 18; (with_reducible refine (HF1.out wr.drew (Below.refl wr.heap.size wr).drew).mono ?_); rintro e w2 ⟨rfl, hb2⟩; have hK2 := hK0.go hgl hb2) | (go_at_call 18; (with_reducible refine (HF2.out w2 hK2.2.2.2.2.2.2.2.2.2.2.2).mono ?_); rintro e w3 ⟨rfl, hb3⟩; have hK3 := hK2.go hgl hb3) | fail)
      go_wp2_with fail
      exact ⟨⟨k + 1, by omega, by go_num, bnx HB.out hK3.2.2.2.2.2.2.2.2.2.2.2⟩, by simp [intOf]; omega⟩
    · obtain rfl : k = bk.length := by omega
      go_wp2
      go_ret
      exact ⟨rfl, HB.out⟩
end Go.Proofs.Ytoglcocplpdlhaa.Tn
