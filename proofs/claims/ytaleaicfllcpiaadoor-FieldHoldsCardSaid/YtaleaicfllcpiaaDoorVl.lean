/- What a test holds for: the plain law; the program's one. -/
import Derived.Test.YtaleaicfllcpiaaDoorFe
namespace Go.Proofs.YtaleaicfllcpiaaDoor.Fl
open Go.RowKit Mm Law
set_option linter.unusedSimpArgs false
set_option linter.unusedSectionVars false
set_option linter.unusedVariables false
theorem fit_zero {T : Tst} {b : Nat} (h : fitE T b = 0) : ¬ badForm T ∧ ¬ badUse T ∧ ¬ badVal T b ∧ ¬ badPre T b ∧ ¬ badRng T ∧ ¬ badPat T b := by
  unfold fitE at h
  by_cases h1 : badForm T
  · rw [if_pos h1] at h; exact absurd h (by decide)
  rw [if_neg h1] at h
  by_cases h2 : badUse T
  · rw [if_pos h2] at h; exact absurd h (by decide)
  rw [if_neg h2] at h
  by_cases h3 : badVal T b
  · rw [if_pos h3] at h; exact absurd h (by decide)
  rw [if_neg h3] at h
  by_cases h4 : badPre T b
  · rw [if_pos h4] at h; exact absurd h (by decide)
  rw [if_neg h4] at h
  by_cases h5 : badRng T
  · rw [if_pos h5] at h; exact absurd h (by decide)
  rw [if_neg h5] at h
  by_cases h6 : badPat T b
  · rw [if_pos h6] at h; exact absurd h (by decide)
  exact ⟨h1, h2, h3, h4, h5, h6⟩
/-- A test that fits, by its forms. -/
inductive Good (b : Nat) : Tst → Prop
  | num (nm : ByteArray) (op : Int) (lo : Nat) (h1 : 1 ≤ op) (h2 : op ≤ 6) (hlo : lo ≤ topN b) : Good b ⟨nm, op, 1, lo, 0, 0, ⟨#[]⟩⟩
  | pre (nm : ByteArray) (op : Int) (lo ln : Nat) (h1 : op = 1 ∨ op = 2) (hlo : lo ≤ topN b) (hln : ln ≤ b) (hp : lo % 2 ^ (b - ln) = 0) : Good b ⟨nm, op, 2, lo, 0, ln, ⟨#[]⟩⟩
  | rng (nm : ByteArray) (op : Int) (lo hi : Nat) (h1 : op = 1 ∨ op = 2) (hlo : lo ≤ hi) (hhi : hi ≤ topN b) : Good b ⟨nm, op, 3, lo, hi, 0, ⟨#[]⟩⟩
  | pat (nm : ByteArray) (op : Int) (pt : ByteArray) (h1 : op = 1 ∨ op = 2) (hs : pt.size = b) (hd : ∀ x ∈ pt.data.toList, x ∈ dShow) : Good b ⟨nm, op, 4, 0, 0, 0, pt⟩
theorem good_of {T : Tst} {b : Nat} (h : fitE T b = 0) : Good b T := by
  obtain ⟨h1, h2, h3, h4, h5, h6⟩ := fit_zero h
  obtain ⟨nm, op, fo, lo, hi, ln, pt⟩ := T
  unfold badForm at h1
  unfold badUse at h2
  unfold badVal at h3
  unfold badPre at h4
  unfold badRng at h5
  unfold badPat at h6
  simp only at h1 h2 h3 h4 h5 h6
  obtain ⟨lo, rfl⟩ := Int.eq_ofNat_of_zero_le (show 0 ≤ lo by omega)
  obtain ⟨hi, rfl⟩ := Int.eq_ofNat_of_zero_le (show 0 ≤ hi by omega)
  obtain ⟨ln, rfl⟩ := Int.eq_ofNat_of_zero_le (show 0 ≤ ln by omega)
  have hf : fo = 1 ∨ fo = 2 ∨ fo = 3 ∨ fo = 4 := by omega
  rcases hf with rfl | rfl | rfl | rfl
  · obtain ⟨rfl, rfl, rfl⟩ : hi = 0 ∧ ln = 0 ∧ pt = ⟨#[]⟩ := by simpa using h2
    exact .num nm op lo (by omega) (by omega) (by omega)
  · obtain ⟨rfl, rfl⟩ : hi = 0 ∧ pt = ⟨#[]⟩ := by simpa using h2
    have hp : lo % 2 ^ (b - ln) = 0 := by simpa using h4
    exact .pre nm op lo ln (by omega) (by omega) (by omega) hp
  · obtain ⟨rfl, rfl⟩ : ln = 0 ∧ pt = ⟨#[]⟩ := by simpa using h2
    exact .rng nm op lo hi (by omega) (by omega) (by omega)
  · obtain ⟨rfl, rfl, rfl⟩ : lo = 0 ∧ hi = 0 ∧ ln = 0 := by simpa using h2
    have h7 : pt.size = b ∧ ∀ x ∈ pt.data.toList, x ∈ dShow := Classical.byContradiction fun h => h6 ⟨rfl, h⟩
    exact .pat nm op pt (by omega) h7.1 h7.2
noncomputable def oneT (T : Tst) (b : Nat) : List UInt8 := if T.fo = 4 then T.pt.data.toList else if T.fo = 2 then preT b (T.lo.toNat, b - T.ln.toNat) else preT b (T.lo.toNat, 0)
def othT (c : List UInt8) : List (List UInt8) := Tn.partsT (List.replicate c.length 120) c c.length
noncomputable def valT (T : Tst) (b : Nat) : List (List UInt8) :=
  if T.op = 3 then (gre b 0 T.lo.toNat).map (preT b)
  else if T.op = 4 then (gre b 0 (T.lo.toNat + 1)).map (preT b)
  else if T.op = 5 then (gre b (T.lo.toNat + 1) (2 ^ b)).map (preT b)
  else if T.op = 6 then (gre b T.lo.toNat (2 ^ b)).map (preT b)
  else if T.fo = 3 then (if T.op = 1 then (gre b T.lo.toNat (T.hi.toNat + 1)).map (preT b) else (gre b 0 T.lo.toNat).map (preT b) ++ (gre b (T.hi.toNat + 1) (2 ^ b)).map (preT b))
  else if T.op = 1 then [oneT T b] else othT (oneT T b)
def StrRow (w : World) (L : List (List UInt8)) (e : Ending) (w' : World) : Prop := ∃ u, e = .returned u ∧ w'.ownsRow w.heap.size 9 1 u L.length (sC L) ∧ Below w.heap.size w w'
theorem cov_at (b x0 e : Nat) (x1 hi : Int) (hb : b ≤ 32) (hx0 : x0 ≤ 4294967296) (he : e ≤ 2 ^ b) (h1 : x1 = (x0 : Int)) (hhi : hi + 1 = (e : Int)) (w : World) :
    Calls Tryd.prog 79 #[.int .i64 (b : Int), .int .i64 x1, .int .i64 hi] w (StrRow w ((gre b x0 e).map (preT b))) := by
  subst h1
  have h := cover_any b x0 e hi hb hx0 he hhi w
  unfold StrRow
  rw [List.length_map]
  exact h
set_option maxRecDepth 100000 in
set_option maxHeartbeats 4000000 in
theorem one_num (nm : ByteArray) (op : Int) (lo b : Nat) (hb : b ≤ 32) (hlo : lo ≤ topN b) (w : World) :
    Calls Tryd.prog 106 #[.agg #[.string nm, .int .i64 op, .int .i64 1, .int .i64 (lo : Int), .int .i64 0, .int .i64 0, .string ⟨#[]⟩], .int .i64 (b : Int)] w fun e w' => e = .returned (.string (str (preT b (lo, 0)))) ∧ Below w.heap.size w w' := by
  have htb := top_lt b hb
  have HP := Lib.hid (fun w => prefix_any lo b b (by omega) hb (Nat.le_refl _) w)
  rw [Nat.sub_self] at HP
  clear htb
  go_enter Tryd.func106, Tryd.ntmps106
  go_wp2_with fail
  refine (HP.out _).mono ?_
  rintro e w1 ⟨rfl, hb1⟩
  go_wp2_with fail
  go_ret
  exact ⟨rfl, bnx (bal (Below.refl _ _) _) hb1⟩
set_option maxRecDepth 100000 in
set_option maxHeartbeats 4000000 in
theorem one_pre (nm : ByteArray) (op : Int) (lo ln b : Nat) (hb : b ≤ 32) (hlo : lo ≤ topN b) (hln : ln ≤ b) (w : World) :
    Calls Tryd.prog 106 #[.agg #[.string nm, .int .i64 op, .int .i64 2, .int .i64 (lo : Int), .int .i64 0, .int .i64 (ln : Int), .string ⟨#[]⟩], .int .i64 (b : Int)] w fun e w' => e = .returned (.string (str (preT b (lo, b - ln)))) ∧ Below w.heap.size w w' := by
  have htb := top_lt b hb
  have HP := Lib.hid (fun w => prefix_any lo b ln (by omega) hb hln w)
  clear htb
  go_enter Tryd.func106, Tryd.ntmps106
  go_wp2_with fail
  refine (HP.out _).mono ?_
  rintro e w1 ⟨rfl, hb1⟩
  go_wp2_with fail
  go_ret
  exact ⟨rfl, bnx (bal (Below.refl _ _) _) hb1⟩
set_option maxRecDepth 100000 in
set_option maxHeartbeats 4000000 in
theorem one_pat (nm : ByteArray) (op : Int) (pt : ByteArray) (b : Nat) (w : World) :
    Calls Tryd.prog 106 #[.agg #[.string nm, .int .i64 op, .int .i64 4, .int .i64 0, .int .i64 0, .int .i64 0, .string pt], .int .i64 (b : Int)] w fun e w' => e = .returned (.string pt) ∧ Below w.heap.size w w' := by
  go_enter Tryd.func106, Tryd.ntmps106
  go_wp2_with fail
  go_ret
  exact ⟨rfl, bal (Below.refl _ _) _⟩
theorem one_any (T : Tst) (b : Nat) (hb : b ≤ 32) (h : Good b T) (h3 : T.fo ≠ 3) (w : World) :
    Calls Tryd.prog 106 #[T.val, .int .i64 (b : Int)] w fun e w' => e = .returned (.string (str (oneT T b))) ∧ Below w.heap.size w w' := by
  cases h with
  | num nm op lo h1 h2 hlo => exact one_num nm op lo b hb hlo w
  | pre nm op lo ln h1 hlo hln hp => exact one_pre nm op lo ln b hb hlo hln w
  | rng nm op lo hi h1 hlo hhi => exact absurd rfl h3
  | pat nm op pt h1 hs hd => exact one_pat nm op pt b w
end Go.Proofs.YtaleaicfllcpiaaDoor.Fl
