/- The program's Unpack: the reading of a line's length. -/
import Derived.Test.YtndclkphglpknaaDoorUq
import Derived.Lib.Bytealg
import Derived.Shelf.Strings.SlTrimAscii
namespace Go.Proofs.YtndclkphglpknaaDoor.Lg
open Go.RowKit Mm Law
theorem ib_spec (c : UInt8) : ∀ l : List UInt8, (Lib.indexByte l c = -1 ∧ ∀ b ∈ l, b ≠ c) ∨ ∃ (p r : List UInt8), l = p ++ c :: r ∧ (∀ b ∈ p, b ≠ c) ∧ Lib.indexByte l c = (p.length : Int) := by
  intro l
  induction l with
  | nil => left; exact ⟨rfl, by simp⟩
  | cons b l ih =>
    by_cases hb : b = c
    · right
      subst hb
      exact ⟨[], l, rfl, by simp, by simp [Lib.indexByte]⟩
    · have hb' : (b == c) = false := by rw [beq_eq_false_iff_ne]; exact hb
      rcases ih with ⟨h1, h2⟩ | ⟨p, r, h1, h2, h3⟩
      · left
        refine ⟨by simp [Lib.indexByte, hb', h1], ?_⟩
        intro x hx
        rcases List.mem_cons.1 hx with rfl | hx
        · exact hb
        · exact h2 x hx
      · right
        refine ⟨b :: p, r, by rw [h1]; rfl, ?_, ?_⟩
        · intro x hx
          rcases List.mem_cons.1 hx with rfl | hx
          · exact hb
          · exact h2 x hx
        · have : ¬ ((p.length : Int) = -1) := by omega
          simp [Lib.indexByte, hb', h3, this]
theorem dropW_nil {p : UInt8 → Bool} : ∀ {l : List UInt8}, l.dropWhile p = [] ↔ ∀ b ∈ l, p b = true := by
  intro l
  induction l with
  | nil => simp
  | cons a l ih =>
    by_cases h : p a = true
    · simp [List.dropWhile, h, ih]
    · simp [List.dropWhile, h]
theorem trims_nil (l cs : List UInt8) : Lib.trimS l cs = [] ↔ ∀ b ∈ l, cs.contains b = true := by
  unfold Lib.trimS Lib.trimLeftS Lib.trimRightS
  rw [dropW_nil]
  constructor
  · intro h b hb
    refine Classical.byContradiction fun hc => ?_
    have hne : l.reverse.dropWhile (cs.contains ·) ≠ [] := fun h0 => hc (dropW_nil.1 h0 b (by simpa using hb))
    obtain ⟨a, r, har⟩ := List.exists_cons_of_ne_nil hne
    have h1 := h a (by rw [har]; simp)
    have h2 := List.head_dropWhile_not (p := (cs.contains ·)) (l := l.reverse) (by simpa using hne)
    simp only [har, List.head_cons] at h2
    rw [h1] at h2
    exact absurd h2 (by simp)
  · intro h b hb
    have := (List.dropWhile_sublist (p := (cs.contains ·)) (l := l.reverse)).subset (List.mem_reverse.1 hb)
    exact h b (by simpa using this)
def dig10 : List UInt8 := [48, 49, 50, 51, 52, 53, 54, 55, 56, 57]
theorem dig10_is (b : UInt8) : dig10.contains b = true ↔ isD b := by
  unfold dig10 isD
  constructor
  · intro h
    simp at h
    rcases h with rfl | rfl | rfl | rfl | rfl | rfl | rfl | rfl | rfl | rfl <;> decide
  · intro h
    obtain ⟨n, hn⟩ : ∃ n, b.toNat = n := ⟨_, rfl⟩
    have e : b = UInt8.ofNat n := by rw [← hn]; simp
    have : n = 48 ∨ n = 49 ∨ n = 50 ∨ n = 51 ∨ n = 52 ∨ n = 53 ∨ n = 54 ∨ n = 55 ∨ n = 56 ∨ n = 57 := by omega
    rcases this with rfl | rfl | rfl | rfl | rfl | rfl | rfl | rfl | rfl | rfl <;> subst e <;> rfl
set_option maxRecDepth 100000 in
set_option maxHeartbeats 4000000 in
theorem lite_cut (t : ByteArray) (ht : t.size ≤ 16384) (w : World) :
    Calls Tryd.prog 31 #[.string t, .string ⟨#[58]⟩] w fun e w' => Below w.heap.size w w' ∧ ((∃ p r, t.data.toList = p ++ 58 :: r ∧ (∀ b ∈ p, b ≠ 58) ∧ e = .returned (.tuple #[.string (str p), .string (str r), .bool true])) ∨ ((∀ b ∈ t.data.toList, b ≠ 58) ∧ e = .returned (.tuple #[.string t, .string .empty, .bool false]))) := by
  have HI := Lib.hid (fun w => Tryd.stringslite_Index_one t 58 w)
  rcases ib_spec 58 t.data.toList with ⟨h1, h2⟩ | ⟨p, r, h1, h2, h3⟩
  · have HN := Lib.hid h2
    rw [h1] at HI
    clear h1 h2
    go_enter Tryd.func31, Tryd.ntmps31
    go_wp2_with fail
    refine (HI.out _).mono ?_
    rintro e w' ⟨rfl, rfl⟩
    go_wp2_with fail
    go_ret3
    exact ⟨Below.refl _ _, .inr ⟨HN.out, rfl⟩⟩
  · obtain ⟨k, hk⟩ : ∃ k, p.length = k := ⟨_, rfl⟩
    have hlen : t.size = k + 1 + r.length := by rw [← len_s, h1, List.length_append, List.length_cons]; omega
    have e1 : t.extract 0 k = str p := by rw [ext_take, h1]; simp [← hk]
    have e2 : t.extract (k + 1) t.size = str r := by
      rw [ext_take, h1, hlen, List.drop_append, ← hk, List.drop_eq_nil_of_le (by omega)]
      simp
    rw [h3, hk] at HI
    have HN := Lib.hid (And.intro h1 h2)
    clear h1 h2 h3 hk
    have x0 : (0 : Int) ≤ (k : Int) := by omega
    have x1 : (k : Int) ≤ (t.size : Int) := by omega
    have x2 : (k : Int) + 1 ≤ (t.size : Int) := by omega
    have hw : IntKind.i64.wrap ((k : Int) + 1) = (k : Int) + 1 := IntWalk.i64_in _ (by omega)
    have x3 : (0 : Int) ≤ (k : Int) + 1 := by omega
    clear hlen
    go_enter Tryd.func31, Tryd.ntmps31
    go_wp2_with fail
    refine (HI.out _).mono ?_
    rintro e w' ⟨rfl, rfl⟩
    go_wp2_with fail
    have mixed : Tryd.prog.follows Departure.mixedOrders = true := by kernel_rfl
    go_region_o
    go_wp2_with fail
    go_ret3
    refine ⟨(Below.refl _ _).drew, .inl ?_⟩
    exact ⟨p, r, HN.out.1, HN.out.2, rfl⟩
set_option maxRecDepth 100000 in
set_option maxHeartbeats 4000000 in
theorem colon_cut (t : ByteArray) (ht : t.size ≤ 16384) (w : World) :
    Calls Tryd.prog 26 #[.string t, .string ⟨#[58]⟩] w fun e w' => Below w.heap.size w w' ∧ ((∃ p r, t.data.toList = p ++ 58 :: r ∧ (∀ b ∈ p, b ≠ 58) ∧ e = .returned (.tuple #[.string (str p), .string (str r), .bool true])) ∨ ((∀ b ∈ t.data.toList, b ≠ 58) ∧ e = .returned (.tuple #[.string t, .string .empty, .bool false]))) := by
  have HI := Lib.hid (fun w => lite_cut t ht w)
  go_enter Tryd.func26, Tryd.ntmps26
  go_wp2_with fail
  refine (HI.out _).mono ?_
  rintro e w' ⟨hb, h⟩
  rcases h with ⟨p, r, h1, h2, rfl⟩ | ⟨h1, rfl⟩
  · have HH := Lib.hid (And.intro h1 h2)
    clear h1
    go_wp2_with fail
    go_ret3
    exact ⟨hb, .inl ⟨p, r, HH.out.1, HH.out.2, rfl⟩⟩
  · have HH := Lib.hid h1
    clear h1
    go_wp2_with fail
    go_ret3
    exact ⟨hb, .inr ⟨HH.out, rfl⟩⟩
theorem arr256 : (Tryd.prog.info? 73).map (fun i => (i.zero, i.size)) = some (some (.agg (Array.replicate 256 (.bool false))), 256) := by kernel_rfl
theorem trim_any (s cs : ByteArray) (w : World) (hs : s.size ≤ 9223372036854775807) (hcs : cs.size < 4294967281) (hascii : ∀ (j : Nat) b, cs.data.toList[j]? = some b → b.toNat < 128) :
    Calls Tryd.prog 27 #[.string s, .string cs] w fun e w' => e = .returned (.string ⟨(Lib.trimS s.data.toList cs.data.toList).toArray⟩) ∧ Below w.heap.size w w' :=
  Any.strings_Trim_laid Tryd.lays160 arr256 s cs w hs hcs hascii
theorem hd_split {p r : List UInt8} (hp : ∀ b ∈ p, b ≠ 58) (h : Hd (p ++ 58 :: r)) : ∃ N, p = Lib.decDigits N ∧ N ≤ r.length := by
  obtain ⟨s, x, hu⟩ := h
  rw [lnT_eq, List.append_assoc, List.cons_append] at hu
  obtain ⟨h1, h2⟩ := colon_inj hp (dd_colon _) hu
  refine ⟨s.size, h1, ?_⟩
  rw [h2, List.length_append, len_s]
  omega
theorem hd_of {N : Nat} {r : List UInt8} (h : N ≤ r.length) : Lib.decDigits N ++ 58 :: r = lnT (str (r.take N)) ++ r.drop N := by
  have e : (str (r.take N)).size = N := by rw [str_size, List.length_take]; omega
  rw [lnT_eq, e, str_list, List.append_assoc, List.cons_append, List.take_append_drop]
def LnAns (w : World) (T : List UInt8) (e : Ending) (w' : World) : Prop := ∃ n r b, e = .returned (.tuple #[.int .i64 n, .string r, .bool b]) ∧ Below w.heap.size w w' ∧ ((b = true ∧ ∃ N : Nat, n = N ∧ T = Lib.decDigits N ++ 58 :: r.data.toList ∧ N ≤ r.size) ∨ (b = false ∧ ¬ Hd T))
theorem ln_no {w w' : World} {T : List UInt8} {n : Int} {r : ByteArray} (h : ¬ Hd T) (hb : Below w.heap.size w w') : LnAns w T (.returned (.tuple #[.int .i64 n, .string r, .bool false])) w' := ⟨n, r, false, rfl, hb, .inr ⟨rfl, h⟩⟩
theorem bytes_below (w : World) (t : TypeId) (s : ByteArray) : Below w.heap.size w (Lib.bytesWorld w t s) := Joins.below_bytesWorld _ w t s (Nat.le_refl _)
def dLit : ByteArray := ⟨#[48, 49, 50, 51, 52, 53, 54, 55, 56, 57]⟩
set_option maxRecDepth 100000 in
set_option maxHeartbeats 4000000 in
theorem length_any (t : ByteArray) (ht : t.size ≤ 16384) (w : World) :
    Calls Tryd.prog 16 #[.string t] w (LnAns w t.data.toList) := by
  have HC := Lib.hid (fun w => colon_cut t ht w)
  have HT := Lib.hid (fun (s : ByteArray) (hs : s.size ≤ 16384) w => trim_any s dLit w (by omega) (by decide) (Go.Proofs.ascii_of_all (by decide)))
  have HTL := Lib.hid (len_s t)
  obtain ⟨T, hT⟩ : ∃ T, t.data.toList = T := ⟨_, rfl⟩
  rw [hT] at HC HTL ⊢
  clear hT
  go_enter Tryd.func16, Tryd.ntmps16
  go_wp2_with fail
  refine (HC.out _).mono ?_
  rintro e w1 ⟨hb1, h⟩
  rcases h with ⟨p, r, h1, h2, rfl⟩ | ⟨h1, rfl⟩
  · obtain ⟨q, hq⟩ : ∃ q, str p = q := ⟨_, rfl⟩
    obtain ⟨R, hR⟩ : ∃ R, str r = R := ⟨_, rfl⟩
    have hqs : q.size = p.length := by rw [← hq]; exact str_size p
    have hRs : R.size = r.length := by rw [← hR]; exact str_size r
    have HQL := Lib.hid (show q.data.toList = p from by rw [← hq, str_list])
    have HRL := Lib.hid (show R.data.toList = r from by rw [← hR, str_list])
    have hTl := HTL.out
    rw [h1, List.length_append, List.length_cons] at hTl
    have HH := Lib.hid (show Hd T → ∃ N, p = Lib.decDigits N ∧ N ≤ r.length from fun h => by rw [h1] at h; exact hd_split h2 h)
    have HTe := Lib.hid h1
    rw [hq, hR]
    clear h1 h2 hq hR
    by_cases hp0 : p = []
    · have HN := Lib.hid (show ¬ Hd T from fun h => by
        obtain ⟨N, h1, _⟩ := HH.out h
        exact dd_ne N (by rw [← h1, hp0]))
      have hq0 : q = .empty := ByteArray.ext (Array.ext' (by rw [HQL.out, hp0]; rfl))
      subst hq0
      clear hp0
      go_wp2_with fail
      go_ret3
      exact ln_no HN.out hb1
    · have hemp : q.toList.isEmpty = false := by
        rw [ByteArray.toList_eq, HQL.out]
        cases p with
        | nil => exact absurd rfl hp0
        | cons a b => rfl
      have hp1 : 1 ≤ p.length := List.length_pos_iff.2 hp0
      clear hp0
      by_cases h5 : 5 < p.length
      · have HN := Lib.hid (show ¬ Hd T from fun h => by
          obtain ⟨N, h1, h2⟩ := HH.out h
          have := dd_len (n := N) (by omega)
          rw [← h1] at this
          omega)
        have x1 : (5 : Int) < (q.size : Int) := by omega
        go_wp2_with fail
        go_ret3
        exact ln_no HN.out hb1
      · have x1 : ¬ (5 : Int) < (q.size : Int) := by omega
        have x2 : (0 : Int) < (q.size : Int) := by omega
        have x3 : 0 < q.size := by omega
        have HP := Lib.hid (And.intro hqs (And.intro hRs (And.intro hTl (And.intro hp1 h5))))
        have hh := bget q 0 x3
        rw [HQL.out] at hh
        have HZ := Lib.hid hh
        clear hqs hRs hTl hp1 h5 hh
        by_cases hz : (q[0].toNat : Int) = 48 ∧ (1 : Int) < (q.size : Int)
        · have HN := Lib.hid (show ¬ Hd T from fun h => by
            obtain ⟨N, h1, h2⟩ := HH.out h
            have hz1 : p.head? = some 48 := by
              rw [List.head?_eq_getElem?, HZ.out]
              have : q[0].toNat = 48 := by omega
              rw [show q[0] = 48 from UInt8.toNat_inj.1 this]
            have h3 := HP.out.1
            by_cases hN : 1 ≤ N
            · exact dd_head hN (by rw [← h1]; exact hz1)
            · have : N = 0 := by omega
              rw [h1, this, Lib.decDigits_one (by omega), List.length_singleton] at h3
              omega)
          obtain ⟨z1, z2⟩ := hz
          go_wp2_with fail
          go_ret3
          exact ln_no HN.out hb1
        · have HZ2 := Lib.hid (show p.head? = some 48 → p.length = 1 from fun h => by
            have h3 := HP.out
            rw [List.head?_eq_getElem?, HZ.out] at h
            have : q[0].toNat = 48 := by rw [Option.some.inj h]; rfl
            refine Classical.byContradiction fun hc => hz ⟨by omega, by omega⟩)
          have hq16 : q.size ≤ 16384 := by have := HP.out; omega
          have HTR := HT.out q hq16
          rw [HQL.out] at HTR
          by_cases hD : ∀ b ∈ p, isD b
          · obtain ⟨N, hN⟩ := dd_canon p.length p rfl (fun h => by have := HP.out; rw [h] at this; simp at this) hD HZ2.out
            have htr : Lib.trimS p dLit.data.toList = [] := (trims_nil p _).2 fun b hb => (dig10_is b).2 (hD b hb)
            rw [htr] at HTR
            have hat : Lib.atoi q.data.toList = some (N : Int) := by rw [HQL.out, hN]; exact dd_atoi N
            have HAT := Lib.hid (fun w => Tryd.strconv_Atoi q N (by have := HP.out; omega) hat w)
            have HTR2 := Lib.hid HTR
            have HNn := Lib.hid hN
            have HD5 := Lib.hid (fun (k : Nat) (hk : k ≤ 16384) => dd_len (n := k) (by omega))
            clear HTR htr hD hat hN
            have HK := Lib.hid (show (decide (N ≤ R.size) = true ∧ ∃ M : Nat, (N : Int) = M ∧ T = Lib.decDigits M ++ 58 :: R.data.toList ∧ M ≤ R.size) ∨ (decide (N ≤ R.size) = false ∧ ¬ Hd T) from by
              by_cases hle : N ≤ R.size
              · exact .inl ⟨decide_eq_true (by omega), N, rfl, by rw [HTe.out, HRL.out, HNn.out], hle⟩
              · refine .inr ⟨decide_eq_false (by omega), fun h => ?_⟩
                obtain ⟨M, h1, h2⟩ := HH.out h
                have h3 := HP.out
                rw [HNn.out] at h1
                have := dd_inj h1
                omega)
            have HQ : (q[0].toNat : Int) = 48 → ¬ (1 : Int) < (q.size : Int) := fun h1 h2 => hz ⟨h1, h2⟩
            clear hz
            by_cases hz1 : (q[0].toNat : Int) = 48
            · have hz2 := HQ hz1
              clear HQ
              go_wp2_with fail
              refine (HTR2.out _).mono ?_
              rintro e w2 ⟨rfl, hb2⟩
              go_wp2_with fail
              refine (HAT.out _).mono ?_
              rintro e w3 ⟨rfl, bs, rfl⟩
              go_wp2_with fail
              go_ret3
              exact ⟨_, _, _, rfl, bnx (bnx hb1 hb2) (bytes_below _ _ _), HK.out⟩
            · clear HQ
              go_wp2_with fail
              refine (HTR2.out _).mono ?_
              rintro e w2 ⟨rfl, hb2⟩
              go_wp2_with fail
              refine (HAT.out _).mono ?_
              rintro e w3 ⟨rfl, bs, rfl⟩
              go_wp2_with fail
              go_ret3
              exact ⟨_, _, _, rfl, bnx (bnx hb1 hb2) (bytes_below _ _ _), HK.out⟩
          · have HN := Lib.hid (show ¬ Hd T from fun h => by
              obtain ⟨N, h1, h2⟩ := HH.out h
              exact hD (by rw [h1]; exact dd_isD N))
            have htr : Lib.trimS p dLit.data.toList ≠ [] := fun h => hD fun b hb => (dig10_is b).1 ((trims_nil p _).1 h b hb)
            have hne : (⟨(Lib.trimS p dLit.data.toList).toArray⟩ : ByteArray).toList.isEmpty = false := by
              rw [ByteArray.toList_eq]
              cases hx : Lib.trimS p dLit.data.toList with
              | nil => exact absurd hx htr
              | cons a b => rfl
            generalize (⟨(Lib.trimS p dLit.data.toList).toArray⟩ : ByteArray) = tr at *
            have HTR2 := Lib.hid HTR
            clear HTR htr hD
            by_cases hz1 : (q[0].toNat : Int) = 48
            · have hz2 : ¬ (1 : Int) < (q.size : Int) := fun h => hz ⟨hz1, h⟩
              clear hz
              go_wp2_with fail
              refine (HTR2.out _).mono ?_
              rintro e w2 ⟨rfl, hb2⟩
              go_wp2_with fail
              go_ret3
              exact ln_no HN.out (bnx hb1 hb2)
            · clear hz
              go_wp2_with fail
              refine (HTR2.out _).mono ?_
              rintro e w2 ⟨rfl, hb2⟩
              go_wp2_with fail
              go_ret3
              exact ln_no HN.out (bnx hb1 hb2)
  · have HN := Lib.hid (show ¬ Hd T from by
      rintro ⟨s, x, hu⟩
      exact h1 58 (by rw [hu]; simp [lnT]) rfl)
    clear h1
    go_wp2_with fail
    go_ret3
    exact ln_no HN.out hb1
end Go.Proofs.YtndclkphglpknaaDoor.Lg
