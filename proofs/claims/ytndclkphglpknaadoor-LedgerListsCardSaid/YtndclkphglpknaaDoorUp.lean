/- Unpack: the plain law, no program in sight. -/
import Derived.Test.YtndclkphglpknaaDoorKP
import Derived.Lib.Atoi
namespace Go.Proofs.YtndclkphglpknaaDoor.Lg
open Go.RowKit Mm Law
def isD (b : UInt8) : Prop := 48 ≤ b.toNat ∧ b.toNat ≤ 57
def numI (a : Int) (l : List UInt8) : Int := l.foldl (fun n b => 10 * n + (b.toNat : Int) - 48) a
theorem numI_snoc (a : Int) (l : List UInt8) (b : UInt8) : numI a (l ++ [b]) = 10 * numI a l + (b.toNat : Int) - 48 := by simp [numI]
theorem dg_toNat {d : Nat} (h : d < 10) : (UInt8.ofNat (48 + d)).toNat = 48 + d := by
  rw [UInt8.toNat_ofNat']
  exact Nat.mod_eq_of_lt (by omega)
theorem dd_big {n : Nat} (h : ¬ n < 10) : Lib.decDigits n = Lib.decDigits (n / 10) ++ [UInt8.ofNat (48 + n % 10)] := by rw [Lib.decDigits, dif_neg h]
theorem dd_isD (n : Nat) : ∀ b ∈ Lib.decDigits n, isD b := by
  induction n using Nat.strongRecOn with
  | _ n ih =>
    by_cases h : n < 10
    · rw [Lib.decDigits_one h]
      intro b hb
      simp only [List.mem_singleton] at hb
      subst hb
      unfold isD
      rw [dg_toNat h]
      omega
    · rw [dd_big h]
      intro b hb
      rcases List.mem_append.1 hb with hb | hb
      · exact ih _ (by omega) b hb
      · simp only [List.mem_singleton] at hb
        subst hb
        unfold isD
        rw [dg_toNat (by omega)]
        omega
theorem dd_ne (n : Nat) : Lib.decDigits n ≠ [] := by
  intro h
  have := Lib.decDigits_length n
  have := Lib.nDigits_pos n
  rw [h] at *
  simp at *
  omega
theorem dd_num (n : Nat) : numI 0 (Lib.decDigits n) = n := by
  induction n using Nat.strongRecOn with
  | _ n ih =>
    by_cases h : n < 10
    · rw [Lib.decDigits_one h]
      simp only [numI, List.foldl_cons, List.foldl_nil]
      rw [dg_toNat h]
      omega
    · rw [dd_big h, numI_snoc, ih _ (by omega), dg_toNat (by omega)]
      omega
theorem dd_inj {m n : Nat} (h : Lib.decDigits m = Lib.decDigits n) : m = n := by
  have h1 := dd_num m
  rw [h, dd_num n] at h1
  omega
theorem dd_len {n : Nat} (h : n < 100000) : (Lib.decDigits n).length ≤ 5 := by
  rw [Lib.decDigits_length]
  refine Nat.le_of_not_lt fun hc => ?_
  have h1 : ∀ k n, k + 1 < Lib.nDigits n → 10 ^ (k + 1) ≤ n := by
    intro k
    induction k with
    | zero =>
      intro n hn
      refine Nat.le_of_not_lt fun h => ?_
      rw [Lib.nDigits_small (by omega)] at hn
      omega
    | succ k ih =>
      intro n hn
      by_cases h : n < 10
      · rw [Lib.nDigits_small h] at hn; omega
      · rw [Lib.nDigits_big h] at hn
        have := ih (n / 10) (by omega)
        rw [Nat.pow_succ]
        omega
  have := h1 4 n hc
  omega
theorem head_app {p q : List UInt8} (h : p ≠ []) : (p ++ q).head? = p.head? := by
  cases p with
  | nil => exact absurd rfl h
  | cons a r => rfl
theorem dd_head {n : Nat} (h : 1 ≤ n) : (Lib.decDigits n).head? ≠ some 48 := by
  induction n using Nat.strongRecOn with
  | _ n ih =>
    by_cases h1 : n < 10
    · rw [Lib.decDigits_one h1]
      simp only [List.head?_cons, ne_eq, Option.some.injEq]
      intro hc
      have := congrArg UInt8.toNat hc
      rw [dg_toNat h1] at this
      have h48 : (48 : UInt8).toNat = 48 := rfl
      omega
    · rw [dd_big h1, head_app (dd_ne _)]
      exact ih _ (by omega) (by omega)
theorem dd_canon : ∀ (k : Nat) (l : List UInt8), l.length = k → l ≠ [] → (∀ b ∈ l, isD b) → (l.head? = some 48 → l.length = 1) → ∃ n : Nat, l = Lib.decDigits n := by
  intro k
  induction k with
  | zero => intro l hl hne; exact absurd (List.eq_nil_of_length_eq_zero hl) hne
  | succ k ih =>
    intro l hl hne hD hh
    obtain ⟨p, b, rfl⟩ : ∃ p b, l = p ++ [b] := ⟨l.dropLast, l.getLast hne, (List.dropLast_concat_getLast hne).symm⟩
    have hb := hD b (by simp)
    unfold isD at hb
    have e1 : b = UInt8.ofNat (48 + (b.toNat - 48)) := by
      apply UInt8.toNat_inj.1
      rw [dg_toNat (by omega)]
      omega
    by_cases hp : p = []
    · subst hp
      refine ⟨b.toNat - 48, ?_⟩
      rw [Lib.decDigits_one (by omega), ← e1]
      rfl
    · have hhp : p.head? ≠ some 48 := fun hc => by
        have := hh (by rw [head_app hp]; exact hc)
        rw [List.length_append, List.length_singleton] at this
        exact hp (List.eq_nil_of_length_eq_zero (by omega))
      obtain ⟨m, hm⟩ := ih p (by rw [List.length_append, List.length_singleton] at hl; omega) hp (fun x hx => hD x (List.mem_append_left _ hx)) (fun hc => absurd hc hhp)
      have hm1 : 1 ≤ m := by
        refine Nat.one_le_iff_ne_zero.2 fun hc => hhp ?_
        rw [hm, hc]
        rw [Lib.decDigits_one (by omega)]
        rfl
      refine ⟨10 * m + (b.toNat - 48), ?_⟩
      rw [dd_big (by omega), show (10 * m + (b.toNat - 48)) / 10 = m from by omega, show (10 * m + (b.toNat - 48)) % 10 = b.toNat - 48 from by omega, ← e1, ← hm]
theorem decFrom_snoc : ∀ (l : List UInt8) (a : Nat) (b : UInt8), Lib.decFrom a (l ++ [b]) = match Lib.decFrom a l with | some n => (Lib.digitVal b).map fun d => n * 10 + d | none => none := by
  intro l
  induction l with
  | nil => intro a b; simp only [List.nil_append, Lib.decFrom]; cases Lib.digitVal b <;> rfl
  | cons x r ih =>
    intro a b
    simp only [List.cons_append, Lib.decFrom]
    cases Lib.digitVal x with
    | none => rfl
    | some d => exact ih _ b
theorem dd_atoi (n : Nat) : Lib.atoi (Lib.decDigits n) = some (n : Int) := by
  have h1 : ∀ n : Nat, Lib.decFrom 0 (Lib.decDigits n) = some n := by
    intro n
    induction n using Nat.strongRecOn with
    | _ n ih =>
      by_cases h : n < 10
      · rw [Lib.decDigits_one h]
        simp only [Lib.decFrom, Lib.digitVal, dg_toNat h]
        rw [if_pos (by omega)]
        simp
      · rw [dd_big h, decFrom_snoc, ih _ (by omega)]
        simp only [Lib.digitVal, dg_toNat (show n % 10 < 10 by omega)]
        rw [if_pos (by omega)]
        simp only [Option.map_some, Option.some.injEq]
        omega
  have h2 := h1 n
  have h3 := dd_ne n
  have h4 := dd_isD n
  generalize Lib.decDigits n = l at *
  cases l with
  | nil => exact absurd rfl h3
  | cons b r =>
    have hb := h4 b (by simp)
    unfold isD at hb
    have n1 : (b == 45) = false := by
      rw [beq_eq_false_iff_ne]; intro hc; subst hc; exact absurd hb.1 (by decide)
    have n2 : (b == 43) = false := by
      rw [beq_eq_false_iff_ne]; intro hc; subst hc; exact absurd hb.1 (by decide)
    simp only [Lib.atoi, n1, n2, Bool.false_eq_true, if_false, Lib.decNat, List.isEmpty_cons, h2, Option.map_some]
/-! Where the first colon stands. -/
theorem colon_inj : ∀ {p q x y : List UInt8}, (∀ b ∈ p, b ≠ 58) → (∀ b ∈ q, b ≠ 58) → p ++ 58 :: x = q ++ 58 :: y → p = q ∧ x = y := by
  intro p
  induction p with
  | nil =>
    intro q x y _ hq h
    cases q with
    | nil => simp at h; exact ⟨rfl, h⟩
    | cons b r => simp at h; exact absurd h.1.symm (hq b (by simp))
  | cons a p ih =>
    intro q x y hp hq h
    cases q with
    | nil => simp at h; exact absurd h.1 (hp a (by simp))
    | cons b r =>
      simp at h
      obtain ⟨h1, h2⟩ := ih (fun b hb => hp b (by simp [hb])) (fun b hb => hq b (by simp [hb])) h.2
      exact ⟨by rw [h.1, h1], h2⟩
theorem dd_colon (n : Nat) : ∀ b ∈ Lib.decDigits n, b ≠ 58 := fun b hb hc => by
  have := (dd_isD n b hb).2
  subst hc
  exact absurd this (by decide)
theorem lnT_eq (s : ByteArray) : lnT s = Lib.decDigits s.size ++ (58 :: s.data.toList) := by unfold lnT; rw [Lib.itoa_nonneg]
theorem lnT_inj {a b : ByteArray} {x y : List UInt8} (h : lnT a ++ x = lnT b ++ y) : a = b ∧ x = y := by
  rw [lnT_eq, lnT_eq, List.append_assoc, List.append_assoc, List.cons_append, List.cons_append] at h
  obtain ⟨h1, h2⟩ := colon_inj (dd_colon _) (dd_colon _) h
  have hs := dd_inj h1
  obtain ⟨h3, h4⟩ := List.append_inj h2 (by rw [len_s, len_s, hs])
  exact ⟨ByteArray.ext (Array.ext' h3), h4⟩
/-- A text's head: one line's text, as Pack writes it. -/
def Hd (u : List UInt8) : Prop := ∃ s r, u = lnT s ++ r
theorem pkL_cons (s : ByteArray) (l : List ByteArray) : pkL (s :: l) = lnT s ++ pkL l := by simp [pkL]
theorem pkL_snoc (l : List ByteArray) (s : ByteArray) : pkL (l ++ [s]) = pkL l ++ lnT s := by simp [pkL]
theorem pkL_more : ∀ {l m : List ByteArray} {u : List UInt8}, pkL l ++ u = pkL m → u = [] ∨ Hd u := by
  intro l
  induction l with
  | nil =>
    intro m u h
    simp only [pkL, List.map_nil, List.flatten_nil, List.nil_append] at h
    cases m with
    | nil => left; simpa using h
    | cons s r => right; exact ⟨s, pkL r, by rw [h]; simp [pkL]⟩
  | cons a l ih =>
    intro m u h
    rw [pkL_cons, List.append_assoc] at h
    cases m with
    | nil => simp [pkL, lnT] at h
    | cons s r =>
      rw [pkL_cons] at h
      exact ih (lnT_inj h).2
theorem pkL_inj : ∀ {l m : List ByteArray}, pkL l = pkL m → l = m := by
  intro l
  induction l with
  | nil =>
    intro m h
    cases m with
    | nil => rfl
    | cons s r => rw [pkL_cons] at h; simp [pkL, lnT] at h
  | cons a l ih =>
    intro m h
    cases m with
    | nil => rw [pkL_cons] at h; simp [pkL, lnT] at h
    | cons s r =>
      rw [pkL_cons, pkL_cons] at h
      obtain ⟨h1, h2⟩ := lnT_inj h
      rw [h1, ih h2]
open Classical in
noncomputable def upE (t : List UInt8) : Int := if 16384 < t.length then 2 else if ∃ l, pkL l = t then 0 else 193
open Classical in
noncomputable def upL (t : List UInt8) : List ByteArray := if h : ∃ l, pkL l = t then (if 16384 < t.length then [] else h.choose) else []
theorem up_long {t : List UInt8} (h : 16384 < t.length) : upE t = 2 ∧ upL t = [] := by
  unfold upE upL
  rw [if_pos h]
  refine ⟨rfl, ?_⟩
  split <;> simp
theorem up_ok {l : List ByteArray} (h : (pkL l).length ≤ 16384) : upE (pkL l) = 0 ∧ upL (pkL l) = l := by
  have hex : ∃ m, pkL m = pkL l := ⟨l, rfl⟩
  unfold upE upL
  rw [if_neg (by omega), if_pos hex, dif_pos hex, if_neg (by omega)]
  exact ⟨rfl, pkL_inj hex.choose_spec⟩
theorem up_bad {t u : List UInt8} {l : List ByteArray} (h : t.length ≤ 16384) (ht : t = pkL l ++ u) (hu : u ≠ []) (hh : ¬ Hd u) : upE t = 193 ∧ upL t = [] := by
  have hno : ¬ ∃ m, pkL m = t := by
    rintro ⟨m, hm⟩
    rcases pkL_more (ht.symm.trans hm.symm) with h | h
    · exact hu h
    · exact hh h
  unfold upE upL
  rw [if_neg (by omega), if_neg hno, dif_neg hno]
  exact ⟨rfl, rfl⟩
end Go.Proofs.YtndclkphglpknaaDoor.Lg
