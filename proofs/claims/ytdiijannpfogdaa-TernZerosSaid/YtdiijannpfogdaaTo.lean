import Derived.Test.YtdiijannpfogdaaTm
import Derived.Test.YtdiijannpfogdaaLp
namespace Go.Proofs.Ytdiijannpfogdaa.Tn
open Go.RowKit
attribute [local go_sem] cv cs wv or_wd and_wd xor_wd andNot_wd

/-! What the calls answer, on texts. -/
def fitT (t u : List UInt8) : Prop := t ≠ [] ∧ t.length = u.length
instance (t u : List UInt8) : Decidable (fitT t u) := by unfold fitT; infer_instance
def clash (x y : UInt8) : Prop := x ≠ 120 ∧ y ≠ 120 ∧ x ≠ y
instance (x y : UInt8) : Decidable (clash x y) := by unfold clash; infer_instance
def meetOk (t u : List UInt8) : Prop := fitT t u ∧ ∀ i, i < t.length → ¬ clash (byt t i) (byt u i)
instance (t u : List UInt8) : Decidable (meetOk t u) := by unfold meetOk; infer_instance
def meetF (t u : List UInt8) (i : Nat) : UInt8 := if byt t i = 120 then byt u i else byt t i
def meetT (t u : List UInt8) : List UInt8 := if meetOk t u then up (meetF t u) t.length else []
def writeF (t u : List UInt8) (i : Nat) : UInt8 := if byt u i = 120 then byt t i else byt u i
def writeT (t u : List UInt8) : List UInt8 := if fitT t u then up (writeF t u) t.length else []
def beforeF (t u : List UInt8) (i : Nat) : UInt8 := if byt u i = 120 then byt t i else 120
def beforeT (t u : List UInt8) : List UInt8 := if meetOk t u then up (beforeF t u) t.length else []
def withinOk (t u : List UInt8) : Prop := fitT t u ∧ ∀ i, i < t.length → byt u i = 120 ∨ byt t i = byt u i
instance (t u : List UInt8) : Decidable (withinOk t u) := by unfold withinOk; infer_instance

section
variable {t u : List UInt8} {n m : Nat} {c o d p : Nat → Bool}
theorem fit_iff (h : Cub t n c o) (h' : Cub u m d p) : fitT t u ↔ (n = m ∧ 0 < n) := by
  have e1 := h.hn
  have e2 := h'.hn
  unfold fitT
  constructor
  · rintro ⟨h0, h1⟩
    refine ⟨by omega, ?_⟩
    cases t with
    | nil => exact absurd rfl h0
    | cons b l => simp at e1; omega
  · rintro ⟨h0, h1⟩
    refine ⟨?_, by omega⟩
    rintro rfl
    simp at e1; omega
theorem clash_dig (c o d p : Bool) (h : o = true → c = true) (h' : p = true → d = true) : clash (dig c o) (dig d p) ↔ (((o ^^ p) && c) && d) = true := by
  cases c <;> cases o <;> cases d <;> cases p <;> simp_all [clash, dig]
theorem clash_conf (h : Cub t n c o) (h' : Cub u n d p) (i : Nat) (hi : i < n) : clash (byt t i) (byt u i) ↔ conf c o d p i = true := by
  rw [h.at_ i hi, h'.at_ i hi, clash_dig _ _ _ _ (h.nrm.sub i) (h'.nrm.sub i)]
  rfl
theorem noconf_iff (h : Cub t n c o) (h' : Cub u n d p) : (∀ i, i < t.length → ¬ clash (byt t i) (byt u i)) ↔ ∀ i, i < 256 → conf c o d p i = false := by
  have e := h.hn
  constructor
  · intro H i hi
    by_cases hn : i < n
    · have := H i (by omega)
      rw [clash_conf h h' i hn] at this
      simpa using this
    · have h1 := h.nrm.hi i (by omega)
      simp [conf, band, h1]
  · intro H i hi
    rw [clash_conf h h' i (by omega), H i (by have := h.le; omega)]
    simp
theorem Nrm.bor (h : Nrm n c o) (h' : Nrm n d p) : Nrm n (bor c d) (bor o p) := by
  refine ⟨h.le, fun i hi => by simp [Tn.bor, h.hi i hi, h'.hi i hi], fun i hi => ?_⟩
  simp only [Tn.bor, Bool.or_eq_true] at hi ⊢
  exact hi.imp (h.sub i) (h'.sub i)
theorem meet_cub (h : Cub t n c o) (h' : Cub u n d p) (hno : ∀ i, i < 256 → conf c o d p i = false) (hok : meetOk t u) : Cub (meetT t u) n (bor c d) (bor o p) := by
  unfold meetT
  rw [if_pos hok, ← h.hn]
  refine (h.nrm.bor h'.nrm).of_places fun i hi => ?_
  have hc := hno i (by have := h.nrm.le; omega)
  have s1 := h.nrm.sub i
  have s2 := h'.nrm.sub i
  unfold meetF
  rw [h.at_ i hi, h'.at_ i hi]
  simp only [conf, band, bxor, Tn.bor] at hc ⊢
  generalize c i = a at *; generalize o i = b at *; generalize d i = e at *; generalize p i = f at *
  cases a <;> cases b <;> cases e <;> cases f <;> simp_all [dig]
theorem write_cub (h : Cub t n c o) (h' : Cub u n d p) (hok : fitT t u) : Cub (writeT t u) n (bor c d) (bor (bnot o d) p) := by
  unfold writeT
  rw [if_pos hok, ← h.hn]
  have hN : Nrm n (bor c d) (bor (bnot o d) p) := by
    refine ⟨h.nrm.le, fun i hi => by simp [bor, h.nrm.hi i hi, h'.nrm.hi i hi], fun i hi => ?_⟩
    have s1 := h.nrm.sub i
    have s2 := h'.nrm.sub i
    simp only [bor, bnot] at hi ⊢
    generalize c i = a at *; generalize o i = b at *; generalize d i = e at *; generalize p i = f at *
    cases a <;> cases b <;> cases e <;> cases f <;> simp_all
  refine hN.of_places fun i hi => ?_
  have s1 := h.nrm.sub i
  have s2 := h'.nrm.sub i
  unfold writeF
  rw [h.at_ i hi, h'.at_ i hi]
  simp only [bnot, Tn.bor]
  generalize c i = a at *; generalize o i = b at *; generalize d i = e at *; generalize p i = f at *
  cases a <;> cases b <;> cases e <;> cases f <;> simp_all [dig]
theorem before_cub (h : Cub t n c o) (h' : Cub u n d p) (hno : ∀ i, i < 256 → conf c o d p i = false) (hok : meetOk t u) : Cub (beforeT t u) n (bnot c d) (bnot o d) := by
  unfold beforeT
  rw [if_pos hok, ← h.hn]
  have hN : Nrm n (bnot c d) (bnot o d) := by
    refine ⟨h.nrm.le, fun i hi => by simp [bnot, h.nrm.hi i hi], fun i hi => ?_⟩
    have s1 := h.nrm.sub i
    simp only [bnot, Bool.and_eq_true] at hi ⊢
    exact ⟨s1 hi.1, hi.2⟩
  refine hN.of_places fun i hi => ?_
  have hc := hno i (by have := h.nrm.le; omega)
  have s1 := h.nrm.sub i
  have s2 := h'.nrm.sub i
  unfold beforeF
  rw [h.at_ i hi, h'.at_ i hi]
  simp only [conf, band, bxor, bnot] at hc ⊢
  generalize c i = a at *; generalize o i = b at *; generalize d i = e at *; generalize p i = f at *
  cases a <;> cases b <;> cases e <;> cases f <;> simp_all [dig]
theorem within_cub (hok : meetOk t u) : meetT t u = t ↔ withinOk t u := by
  unfold meetT
  rw [if_pos hok]
  unfold withinOk
  constructor
  · intro H
    refine ⟨hok.1, fun i hi => ?_⟩
    have h1 : byt (up (meetF t u) t.length) i = byt t i := by rw [H]
    rw [byt_up _ _ _ hi] at h1
    unfold meetF at h1
    by_cases ht : byt t i = 120
    · rw [if_pos ht] at h1
      exact .inr h1.symm
    · by_cases hu : byt u i = 120
      · exact .inl hu
      · by_cases he : byt t i = byt u i
        · exact .inr he
        · exact absurd ⟨ht, hu, he⟩ (hok.2 i hi)
  · rintro ⟨_, H⟩
    rw [← up_byt t]
    simp only [up_length]
    refine up_congr fun i hi => ?_
    rw [up_byt]
    unfold meetF
    split
    · rename_i ht
      rcases H i hi with h1 | h1
      · rw [h1, ht]
      · exact h1.symm
    · rfl
end
theorem within_meet {t u : List UInt8} (h : withinOk t u) : meetOk t u := by
  refine ⟨h.1, fun i hi hc => ?_⟩
  rcases h.2 i hi with h1 | h1
  · exact hc.2.1 h1
  · exact hc.2.2 h1

theorem write_any {t u : List UInt8} {n m : Nat} {c o d p : Nat → Bool} (h : Cub t n c o) (h' : Cub u m d p) (w : World) :
    Calls Try.prog 31 #[cv n c o, cv m d p] w fun e w' => ∃ n' c' o', Cub (writeT t u) n' c' o' ∧ e = .returned (cv n' c' o') ∧ Below w.heap.size w w' := by
  by_cases hf : fitT t u
  · obtain ⟨rfl, h0⟩ := (fit_iff h h').1 hf
    exact (write_yes n c o d p w h0).mono fun e w' ⟨he, hb⟩ => ⟨_, _, _, write_cub h h' hf, he, hb⟩
  · have h1 : ¬ (n = m ∧ 0 < n) := fun e => hf ((fit_iff h h').2 e)
    have e1 : writeT t u = [] := by unfold writeT; rw [if_neg hf]
    rw [e1]
    exact (write_no n m c o d p w h1).mono fun e w' ⟨he, hb⟩ => ⟨_, _, _, nilCub, he, hb⟩
theorem meet_any {t u : List UInt8} {n m : Nat} {c o d p : Nat → Bool} (h : Cub t n c o) (h' : Cub u m d p) (w : World) :
    Calls Try.prog 36 #[cv n c o, cv m d p] w fun e w' => ∃ n' c' o', Cub (meetT t u) n' c' o' ∧ e = .returned (.tuple #[cv n' c' o', .bool (decide (meetOk t u))]) ∧ Below w.heap.size w w' := by
  by_cases hf : fitT t u
  · obtain ⟨rfl, h0⟩ := (fit_iff h h').1 hf
    by_cases hc : ∀ i, i < 256 → conf c o d p i = false
    · have hok : meetOk t u := ⟨hf, (noconf_iff h h').2 hc⟩
      have hz : ∀ k, wd (conf c o d p) k = 0 := fun k => wd_eq_zero.2 fun j hj => by
        by_cases h256 : 64 * k + j < 256
        · exact hc _ h256
        · have := h.nrm.hi (64 * k + j) (by have := h.nrm.le; omega)
          simp [conf, band, this]
      rw [decide_eq_true hok]
      exact (meet_yes n c o d p w h0 hz).mono fun e w' ⟨he, hb⟩ => ⟨_, _, _, meet_cub h h' hc hok, he, hb⟩
    · have hok : ¬ meetOk t u := fun H => hc ((noconf_iff h h').1 H.2)
      have e1 : meetT t u = [] := by unfold meetT; rw [if_neg hok]
      rw [e1, decide_eq_false hok]
      have ⟨i, hi, hci⟩ : ∃ i, i < 256 ∧ conf c o d p i = true := by
        simp only [Classical.not_forall] at hc
        obtain ⟨i, hi, hci⟩ := hc
        exact ⟨i, hi, by simpa using hci⟩
      exact (meet_conf n c o d p w h0 i hi hci).mono fun e w' ⟨he, hb⟩ => ⟨_, _, _, nilCub, he, hb⟩
  · have h1 : ¬ (n = m ∧ 0 < n) := fun e => hf ((fit_iff h h').2 e)
    have hok : ¬ meetOk t u := fun H => hf H.1
    have e1 : meetT t u = [] := by unfold meetT; rw [if_neg hok]
    rw [e1, decide_eq_false hok]
    exact (meet_unfit n m c o d p w h1).mono fun e w' ⟨he, hb⟩ => ⟨_, _, _, nilCub, he, hb⟩
end Go.Proofs.Ytdiijannpfogdaa.Tn
