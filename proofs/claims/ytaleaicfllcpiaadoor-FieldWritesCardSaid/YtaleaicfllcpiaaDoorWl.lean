/- FieldWrites: the plain law: what Word writes over a header. -/
import Derived.Test.YtaleaicfllcpiaaDoorBl
import Derived.Test.YtaleaicfllcpiaaDoorWo
namespace Go.Proofs.YtaleaicfllcpiaaDoor.Fl
open Go.RowKit Mm Law
set_option linter.unusedVariables false
set_option linter.unusedSimpArgs false
set_option linter.unusedSectionVars false
theorem lay_name {l : List Fld} (h : Lay l) {j k : Nat} (hj : j < l.length) (hk : k < l.length) (e : l[j].1 = l[k].1) : j = k := by
  rw [(h.2.2 j hj).1, (h.2.2 k hk).1] at e
  have := h.2.1
  exact letter_inj (by omega) (by omega) e
theorem lay_idx {l : List Fld} (h : Lay l) {k : Nat} (hk : k < l.length) : idxF l l[k].1 = k :=
  idxF_at hk rfl (fun j hj hlt e => by have := lay_name h hj hk e; omega)
def SetOk (l S : List Fld) : Prop := S.length ≤ 12 ∧ (∀ j, (hj : j < S.length) → ∃ k, ∃ hk : k < l.length, S[j].1 = l[k].1 ∧ 0 ≤ S[j].2 ∧ S[j].2 < ((2 ^ bitsAt l k : Nat) : Int)) ∧ ∀ j, (hj : j < S.length) → ¬ ∃ g ∈ S.take j, g.1 = S[j].1
def wK (l S : List Fld) (j : Nat) : List UInt8 := (S.take j).foldl (stepW l) (List.replicate (widN l) 120)
theorem wK_succ {l S : List Fld} {j : Nat} (h : j < S.length) : wK l S (j + 1) = stepW l (wK l S j) S[j] := by
  unfold wK
  rw [List.take_succ_eq_append_getElem h, List.foldl_append]
  rfl
theorem wid_pos {l : List Fld} : widN l = posN l l.length := rfl
theorem top_pow (n : Nat) : (topN n : Int) + 1 = ((2 ^ n : Nat) : Int) := by
  have := Nat.pow_pos (n := n) (show 0 < 2 by omega)
  unfold topN
  omega
theorem set_step {l S : List Fld} (hl : Lay l) (hS : SetOk l S) {j : Nat} (hj : j < S.length) :
    ∃ k, ∃ _ : k < l.length, S[j].1 = l[k].1 ∧ 0 ≤ S[j].2 ∧ S[j].2 < ((2 ^ bitsAt l k : Nat) : Int) ∧ idxF l S[j].1 = k ∧ plcN l S[j] = posN l k ∧ bitN l S[j] = bitsAt l k ∧ badW l (S.take j) S[j] = 0 := by
  obtain ⟨k, hk, h1, h2, h3⟩ := hS.2.1 j hj
  have hi : idxF l S[j].1 = k := by rw [h1]; exact lay_idx hl hk
  have hp : plcN l S[j] = posN l k := by unfold plcN posN; rw [hi]
  have hb : bitN l S[j] = bitsAt l k := by unfold bitN; rw [hi]
  refine ⟨k, hk, h1, h2, h3, hi, hp, hb, ?_⟩
  refine bad_0 (by omega) (hS.2.2 j hj) ?_
  have := top_pow (bitsAt l k)
  rw [hb]
  omega
theorem wd_word {l S : List Fld} (hl : Lay l) (hS : SetOk l S) : wdA l S = (0, wK l S S.length) := by
  rw [wd_go (by have := hS.1; omega) (by rw [lay_chk hl])]
  have h : ∀ k, k ≤ S.length → wdR l [] S (List.replicate (widN l) 120) = wdR l (S.take k) (S.drop k) (wK l S k) := by
    intro k
    induction k with
    | zero => intro _; rfl
    | succ k ih =>
      intro hk
      obtain ⟨_, _, _, _, _, _, _, _, hb⟩ := set_step hl hS (j := k) (by omega)
      rw [ih (by omega), wd_ok (by omega) hb, ← wK_succ]
  rw [h S.length (Nat.le_refl _), wd_end _ _ _ (Nat.le_refl _)]
theorem wK_len {l S : List Fld} (hl : Lay l) (hS : SetOk l S) : ∀ j, j ≤ S.length → (wK l S j).length = posN l l.length := by
  intro j
  induction j with
  | zero => intro _; unfold wK; simp; rfl
  | succ j ih =>
    intro hj
    obtain ⟨k, hk, _, _, _, _, hp, hb, _⟩ := set_step hl hS (j := j) (by omega)
    rw [wK_succ (by omega), stepW_len, ih (by omega)]
    rw [hp, hb, ih (by omega), ← pos_succ hl.wide hk]
    exact pos_mono hl.wide (by omega) (Nat.le_refl _)
theorem wK_in {l S : List Fld} : ∀ j, j ≤ S.length → ∀ b ∈ wK l S j, b ∈ dBits ∨ b = 120 := by
  intro j
  induction j with
  | zero =>
    intro _ b hb
    right
    unfold wK at hb
    simp at hb
    exact hb.2
  | succ j ih =>
    intro hj b hb
    rw [wK_succ (by omega)] at hb
    unfold stepW at hb
    rcases List.mem_append.1 hb with h | h
    · rcases List.mem_append.1 h with h | h
      · exact ih (by omega) b (List.mem_of_mem_take h)
      · left
        obtain ⟨i, _, rfl⟩ := List.mem_map.1 h
        unfold bitB dBits
        split <;> simp
    · exact ih (by omega) b (List.mem_of_mem_drop h)
def mixF (h w : UInt8) : UInt8 := if w = 120 then h else w
def mix (H W : List UInt8) : List UInt8 := List.zipWith mixF H W
theorem mix_len {H W : List UInt8} (h : H.length = W.length) : (mix H W).length = H.length := by unfold mix; rw [List.length_zipWith]; omega
theorem mix_fld (l : List Fld) (H W : List UInt8) (k : Nat) : fldB l (mix H W) k = mix (fldB l H k) (fldB l W k) := by
  unfold fldB mix
  rw [List.drop_zipWith, List.take_zipWith]
theorem mix_x (H : List UInt8) : mix H (List.replicate H.length 120) = H := by
  apply List.ext_getElem?
  intro i
  unfold mix
  rw [List.getElem?_zipWith]
  by_cases hi : i < H.length
  · rw [List.getElem?_eq_getElem hi, List.getElem?_replicate, if_pos hi]
    rfl
  · rw [List.getElem?_eq_none (by omega)]
theorem mix_d {H W : List UInt8} (hl : H.length = W.length) (h : ∀ b ∈ W, b ∈ dBits) : mix H W = W := by
  apply List.ext_getElem?
  intro i
  unfold mix
  rw [List.getElem?_zipWith]
  by_cases hi : i < W.length
  · rw [List.getElem?_eq_getElem (show i < H.length by omega), List.getElem?_eq_getElem hi]
    have h1 := h _ (List.getElem_mem hi)
    show some (mixF H[i] W[i]) = some W[i]
    unfold mixF
    rw [if_neg]
    intro e
    rw [e] at h1
    exact absurd h1 (by decide)
  · rw [List.getElem?_eq_none (show H.length ≤ i by omega), List.getElem?_eq_none (show W.length ≤ i by omega)]
theorem mix_bits {H W : List UInt8} (hH : ∀ b ∈ H, b ∈ dBits) (hW : ∀ b ∈ W, b ∈ dBits ∨ b = 120) : ∀ b ∈ mix H W, b ∈ dBits := by
  intro b hb
  obtain ⟨i, hi⟩ := List.mem_iff_getElem?.1 hb
  unfold mix at hi
  rw [List.getElem?_zipWith] at hi
  cases h1 : H[i]? with
  | none => rw [h1] at hi; simp at hi
  | some a =>
    cases h2 : W[i]? with
    | none => rw [h1, h2] at hi; simp at hi
    | some c =>
      rw [h1, h2] at hi
      have e : mixF a c = b := Option.some.inj hi
      have ha := hH a (List.mem_of_getElem? h1)
      unfold mixF at e
      split at e
      · rw [← e]; exact ha
      · rename_i hc
        rw [← e]
        rcases hW c (List.mem_of_getElem? h2) with h | h
        · exact h
        · exact absurd h hc
theorem step_at {l : List Fld} (hw : Wide l) {W : List UInt8} {s : Fld} {i k : Nat} (hi : i < l.length) (hk : k < l.length) (hp : plcN l s = posN l i) (hb : bitN l s = bitsAt l i) (hW : W.length = posN l l.length) :
    fldB l (stepW l W s) k = if k = i then hiB s.2.toNat (bitsAt l i) (bitsAt l i) else fldB l W k := by
  have hpi := pos_succ hw hi
  have hpk := pos_succ hw hk
  have hmi := pos_mono hw (j := i + 1) (k := l.length) (by omega) (Nat.le_refl _)
  have hlt : (W.take (posN l i)).length = posN l i := by rw [List.length_take]; omega
  unfold fldB stepW
  rw [hp, hb]
  split
  · rename_i e
    subst e
    rw [List.append_assoc, List.drop_left' hlt, List.take_left' (hiB_len _ _ _)]
  · rename_i e
    rcases Nat.lt_or_ge k i with h | h
    · have hm := pos_mono hw (j := k + 1) (k := i) (by omega) (by omega)
      rw [List.append_assoc, List.drop_append_of_le_length (by rw [hlt]; omega), List.take_append_of_le_length (by rw [List.length_drop, hlt]; omega)]
      rw [List.drop_take, List.take_take, Nat.min_eq_left (by omega)]
    · have hm := pos_mono hw (j := i + 1) (k := k) (by omega) (by omega)
      have hl2 : (W.take (posN l i) ++ hiB s.2.toNat (bitsAt l i) (bitsAt l i)).length = posN l i + bitsAt l i := by rw [List.length_append, hlt, hiB_len]
      rw [List.drop_append, List.drop_eq_nil_of_le (by rw [hl2]; omega), List.nil_append, List.drop_drop, hl2]
      congr 2
      omega
def wantF (nm : ByteArray) (a : Int) (s : Fld) : Int := if s.1 = nm then s.2 else a
open Classical in
theorem want_ok {l S : List Fld} (hl : Lay l) (hS : SetOk l S) {H : List UInt8} (hH : H.length = posN l l.length) {k : Nat} (hk : k < l.length) :
    ∀ j, j ≤ S.length → (numB (fldB l (mix H (wK l S j)) k) : Int) = (S.take j).foldl (wantF l[k].1) (numB (fldB l H k) : Int) := by
  have hfl := fldB_len hl.wide (H := H) (by omega) hk
  intro j
  induction j with
  | zero =>
    intro _
    have e : fldB l (wK l S 0) k = List.replicate (fldB l H k).length 120 := by
      unfold wK
      rw [hfl]
      unfold fldB
      simp only [List.take_zero, List.foldl_nil]
      rw [List.drop_replicate, List.take_replicate]
      congr 1
      have h1 := pos_succ hl.wide hk
      have h2 := pos_mono hl.wide (j := k + 1) (k := l.length) (by omega) (Nat.le_refl _)
      rw [wid_pos]
      omega
    rw [mix_fld, e, mix_x]
    rfl
  | succ j ih =>
    intro hj
    obtain ⟨i, hi, h1, h2, h3, _, hp, hb, _⟩ := set_step hl hS (j := j) (by omega)
    have hi1 := ih (by omega)
    have hst := step_at hl.wide (s := S[j]) hi hk hp hb (wK_len hl hS j (by omega))
    rw [List.take_succ_eq_append_getElem (by omega), List.foldl_append, ← hi1, wK_succ (by omega), mix_fld, hst]
    show _ = wantF l[k].1 _ S[j]
    unfold wantF
    by_cases e : k = i
    · subst e
      rw [if_pos rfl, if_pos h1, mix_d (by rw [hfl, hiB_len]) (fun b hb => by obtain ⟨q, _, rfl⟩ := List.mem_map.1 hb; unfold bitB dBits; split <;> simp), numB_hiB _ _ (by omega)]
      omega
    · rw [if_neg e, if_neg (fun h => e (lay_name hl hi hk (h1.symm.trans h)).symm), mix_fld]
end Go.Proofs.YtaleaicfllcpiaaDoor.Fl
