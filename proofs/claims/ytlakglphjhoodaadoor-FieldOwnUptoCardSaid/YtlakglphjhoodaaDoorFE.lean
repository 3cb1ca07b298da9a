/- Merged for FieldOwn -/
import Derived.Test.YtlakglphjhoodaaDoorFD
import Derived.Deep.DeepCutAuto
import Derived.Lib.Bytealg
import Derived.Shelf.Strings.SlTrimAscii
namespace Go.Proofs.YtlakglphjhoodaaDoor.Fl
open Go.RowKit Mm Law
set_option linter.unusedVariables false
set_option linter.unusedSimpArgs false
set_option linter.unusedSectionVars false
def idxF : List Fld → ByteArray → Nat
  | [], _ => 0
  | f :: r, t => if f.1 = t then 0 else idxF r t + 1
theorem idxF_le (l : List Fld) (t : ByteArray) : idxF l t ≤ l.length := by
  induction l with
  | nil => exact Nat.le_refl _
  | cons f r ih => unfold idxF; split <;> simp <;> omega
theorem idxF_at {l : List Fld} {t : ByteArray} {k : Nat} (hk : k < l.length) (h : l[k].1 = t) (hn : ∀ (j : Nat) (hj : j < l.length), j < k → ¬ l[j].1 = t) : idxF l t = k := by
  induction l generalizing k with
  | nil => simp at hk
  | cons f r ih =>
    unfold idxF
    cases k with
    | zero => rw [if_pos (show f.1 = t from h)]
    | succ k =>
      rw [if_neg (show ¬ f.1 = t from hn 0 (by simp) (by omega)), ih (k := k) (by simpa using hk) (show (r[k]'(by simpa using hk)).1 = t from h) (fun j hj hjk => show ¬ r[j].1 = t from hn (j + 1) (by simp; omega) (by omega))]
theorem idxF_none {l : List Fld} {t : ByteArray} (hn : ∀ (j : Nat) (hj : j < l.length), ¬ l[j].1 = t) : idxF l t = l.length := by
  induction l with
  | nil => rfl
  | cons f r ih =>
    unfold idxF
    rw [if_neg (show ¬ f.1 = t from hn 0 (by simp)), ih (fun j hj => show ¬ r[j].1 = t from hn (j + 1) (by simp; omega))]
    rfl
def idxI (l : List Fld) (t : ByteArray) : Int := if idxF l t < l.length then (idxF l t : Int) else -1
def plcI (l : List Fld) (t : ByteArray) : Int := if idxF l t < l.length then sumTo l (idxF l t) else -1
theorem idx_yes {l : List Fld} {t : ByteArray} {k : Nat} (hk : k < l.length) (h : l[k].1 = t) (hn : ∀ (j : Nat) (hj : j < l.length), j < k → ¬ l[j].1 = t) : idxI l t = (k : Int) ∧ plcI l t = sumTo l k := by
  have e := idxF_at hk h hn
  unfold idxI plcI
  rw [e, if_pos hk, if_pos hk]
  exact ⟨rfl, rfl⟩
theorem idx_no {l : List Fld} {t : ByteArray} (hn : ∀ (j : Nat) (hj : j < l.length), ¬ l[j].1 = t) : idxI l t = -1 ∧ plcI l t = -1 := by
  have e := idxF_none hn
  unfold idxI plcI
  rw [e, if_neg (by omega), if_neg (by omega)]
  exact ⟨rfl, rfl⟩
set_option maxRecDepth 100000 in
set_option maxHeartbeats 2000000 in
theorem find_at (l : List Fld) (v : Value) (t : ByteArray) (w : World) (hv : SeesF w v l) :
    Calls Tryd.prog 28 #[v, .string t] w fun e w' => e = .returned (.int .i64 (idxI l t)) ∧ Below w.heap.size w w' := by
  obtain ⟨a0, cap0, rfl, hcap, hcm, hx, _⟩ := hv
  have HX := Lib.hid hx
  unfold maxLen at hcm
  clear hx
  go_enter Tryd.func28, Tryd.ntmps28
  go_wp2
  go_loopw [9] (fun i wr => ∃ k : Nat, k ≤ l.length ∧ i = .int .i64 k ∧ Below w.heap.size w wr ∧ ∀ (j : Nat) (h : j < l.length), j < k → ¬ l[j].1 = t) (fun i _ => l.length - (intOf i).toNat)
  case atStart => exact ⟨0, Nat.zero_le _, rfl, Below.refl _ _, fun j _ hj => absurd hj (by omega)⟩
  case round =>
    obtain ⟨k, hk, rfl, hbel, hno⟩ := hrel
    have HN := Lib.hid hno
    clear hno
    by_cases hlt : k < l.length
    · obtain ⟨g, off, rfl, hg, hq⟩ : ∃ g off, a0 = some ⟨g, off, none⟩ ∧ g < w.heap.size ∧ ∀ j f, l[j]? = some f → w.cell? ⟨g, off + j * 2, none⟩ = some (.string f.1) ∧ w.cell? ⟨g, off + (j * 2 + 1), none⟩ = some (.int .i64 f.2) := by
        rcases HX.out with h0 | h0
        · rw [h0] at hlt; simp at hlt
        · exact h0
      have q0 := (hq k l[k] (by simp [hlt])).1
      have q1 := (hq k l[k] (by simp [hlt])).2
      rw [← hbel.cell (p := ⟨g, off + k * 2, none⟩) hg] at q0
      rw [← hbel.cell (p := ⟨g, off + (k * 2 + 1), none⟩) hg] at q1
      rw [← Nat.add_assoc] at q1
      have HY := Lib.hid (fun h => (idx_yes (l := l) (t := t) hlt h HN.out).1)
      generalize hf : l[k] = f at *
      have HF := Lib.hid hf
      obtain ⟨s, b⟩ := f
      simp only at q0 q1 HY
      clear hq hf
      by_cases hst : s = t
      · have HR := Lib.hid (HY.out hst)
        subst hst
        have he := str_eq s
        go_wp2
        go_ret
        exact ⟨by rw [HR.out]; rfl, bnx hbel (by go_grown)⟩
      · have he := str_ne hst
        have HS := Lib.hid hst
        clear hst
        go_wp2
        go_roundw
        case rel => exact ⟨k + 1, by omega, by go_num, bnx hbel (by go_grown), fun j h hj => by rcases Nat.lt_succ_iff_lt_or_eq.1 hj with h1 | rfl; exact HN.out j h h1; rw [HF.out]; exact HS.out⟩
        case measure => simp [intOf]; omega
    · have HN2 := Lib.hid (idx_no (l := l) (t := t) fun j hj => HN.out j hj (by omega)).1
      go_wp2
      go_ret
      exact ⟨by rw [HN2.out]; rfl, hbel⟩
theorem sum_bd {l : List Fld} (h : ∀ j, (hj : j < l.length) → 1 ≤ l[j].2 ∧ l[j].2 ≤ 32) : ∀ k, k ≤ l.length → (k : Int) ≤ sumTo l k ∧ sumTo l k ≤ 32 * (k : Int) := by
  intro k
  induction k with
  | zero => intro _; rw [sumTo_zero]; omega
  | succ k ih =>
    intro hk
    have h1 := ih (by omega)
    have h2 := h k (by omega)
    rw [sumTo_succ (by omega)]
    omega
set_option maxRecDepth 100000 in
set_option maxHeartbeats 2000000 in
theorem width_any (l : List Fld) (v : Value) (w : World) (hv : SeesF w v l) (h12 : l.length ≤ 12) (hbd : ∀ j, (hj : j < l.length) → 1 ≤ l[j].2 ∧ l[j].2 ≤ 32) :
    Calls Tryd.prog 31 #[v] w fun e w' => e = .returned (.int .i64 (sumTo l l.length)) ∧ Below w.heap.size w w' := by
  obtain ⟨a0, cap0, rfl, hcap, hcm, hx, _⟩ := hv
  have HX := Lib.hid hx
  have HSB := Lib.hid (sum_bd hbd)
  unfold maxLen at hcm
  clear hx hbd
  go_enter Tryd.func31, Tryd.ntmps31
  go_wp2
  go_loopw [3, 8] (fun p i wr => ∃ k : Nat, k ≤ l.length ∧ i = .int .i64 k ∧ p = .int .i64 (sumTo l k) ∧ Below w.heap.size w wr) (fun _ i _ => l.length - (intOf i).toNat)
  case atStart => exact ⟨0, Nat.zero_le _, rfl, by rw [sumTo_zero], Below.refl _ _⟩
  case round =>
    obtain ⟨k, hk, rfl, rfl, hbel⟩ := hrel
    by_cases hlt : k < l.length
    · obtain ⟨g, off, rfl, hg, hq⟩ : ∃ g off, a0 = some ⟨g, off, none⟩ ∧ g < w.heap.size ∧ ∀ j f, l[j]? = some f → w.cell? ⟨g, off + j * 2, none⟩ = some (.string f.1) ∧ w.cell? ⟨g, off + (j * 2 + 1), none⟩ = some (.int .i64 f.2) := by
        rcases HX.out with h0 | h0
        · rw [h0] at hlt; simp at hlt
        · exact h0
      have q0 := (hq k l[k] (by simp [hlt])).1
      have q1 := (hq k l[k] (by simp [hlt])).2
      rw [← hbel.cell (p := ⟨g, off + k * 2, none⟩) hg] at q0
      rw [← hbel.cell (p := ⟨g, off + (k * 2 + 1), none⟩) hg] at q1
      rw [← Nat.add_assoc] at q1
      have HSS := Lib.hid (sumTo_succ hlt)
      have hs0 := HSB.out k (by omega)
      have hs1 := HSB.out (k + 1) (by omega)
      rw [HSS.out] at hs1
      generalize l[k] = f at *
      obtain ⟨s, b⟩ := f
      simp only at q0 q1 HSS hs1
      generalize hsk : sumTo l k = sk at *
      clear hq hsk
      go_wp2
      go_roundw
      case rel => exact ⟨k + 1, by omega, by go_num, by rw [HSS.out], bnx hbel (by go_grown)⟩
      case measure => simp [intOf]; omega
    · have HK := Lib.hid (show k = l.length by omega)
      go_wp2
      go_ret
      exact ⟨by rw [HK.out]; rfl, hbel⟩
end Go.Proofs.YtlakglphjhoodaaDoor.Fl

namespace Go.Proofs.YtlakglphjhoodaaDoor.Fl
open Go.RowKit Mm Law
def bit1 (b : UInt8) : Nat := if b = 49 then 1 else 0
def numB (l : List UInt8) : Nat := l.foldl (fun n b => 2 * n + bit1 b) 0
theorem numB_snoc (l : List UInt8) (b : UInt8) : numB (l ++ [b]) = 2 * numB l + bit1 b := by simp [numB]
theorem numB_lt : ∀ (n : Nat) (l : List UInt8), l.length = n → numB l < 2 ^ n := by
  intro n
  induction n with
  | zero =>
    intro l hl
    rw [List.eq_nil_of_length_eq_zero hl]
    simp [numB]
  | succ n ih =>
    intro l hl
    have hne : l ≠ [] := fun h => by rw [h] at hl; simp at hl
    obtain ⟨q, b, rfl⟩ : ∃ q b, l = q ++ [b] := ⟨l.dropLast, l.getLast hne, (List.dropLast_concat_getLast hne).symm⟩
    rw [List.length_append, List.length_singleton] at hl
    have := ih q (by omega)
    rw [numB_snoc, Nat.pow_succ]
    have : bit1 b ≤ 1 := by unfold bit1; split <;> omega
    omega
theorem numB_take {l : List UInt8} {k : Nat} (h : k < l.length) : numB (l.take (k + 1)) = 2 * numB (l.take k) + bit1 l[k] := by
  rw [List.take_succ_eq_append_getElem h, numB_snoc]
theorem numB_bd {l : List UInt8} (hl : l.length ≤ 32) (k : Nat) : numB (l.take k) < 4294967296 := by
  have h := numB_lt _ (l.take k) rfl
  have h2 : 2 ^ (l.take k).length ≤ 2 ^ 32 := Nat.pow_le_pow_right (by omega) (by rw [List.length_take]; omega)
  omega
def posN (l : List Fld) (k : Nat) : Nat := (sumTo l k).toNat
def fldB (l : List Fld) (h : List UInt8) (k : Nat) : List UInt8 := (h.drop (posN l k)).take (bitsAt l k)
def unT (l : List Fld) (h : List UInt8) : Nat → List Int
  | 0 => []
  | k + 1 => unT l h k ++ [(numB (fldB l h k) : Int)]
theorem unT_len (l : List Fld) (h : List UInt8) (k : Nat) : (unT l h k).length = k := by
  induction k with
  | zero => rfl
  | succ k ih => unfold unT; rw [List.length_append, ih, List.length_singleton]
def dShow : List UInt8 := [48, 49, 120]
def ofB (D h : List UInt8) (n : Int) : Prop := (h.length : Int) = n ∧ ∀ b ∈ h, b ∈ D
def dBits : List UInt8 := [48, 49]
open Classical in
noncomputable def unE (l : List Fld) (h : List UInt8) : Int := if (chk l).1 ≠ 0 then (chk l).1 else if ofB dBits h (sumTo l l.length) then 0 else 46
open Classical in
noncomputable def unV (l : List Fld) (h : List UInt8) : List Int := if unE l h = 0 then unT l h l.length else []
theorem un_chk {l : List Fld} {h : List UInt8} {c : Int} (h1 : (chk l).1 = c) (h0 : c ≠ 0) : unE l h = c ∧ unV l h = [] := by
  have e : unE l h = c := by unfold unE; rw [if_pos (by rw [h1]; exact h0), h1]
  exact ⟨e, by unfold unV; rw [e, if_neg h0]⟩
theorem un_bad {l : List Fld} {h : List UInt8} (h1 : (chk l).1 = 0) (h0 : ¬ ofB dBits h (sumTo l l.length)) : unE l h = 46 ∧ unV l h = [] := by
  have e : unE l h = 46 := by unfold unE; rw [if_neg (by rw [h1]; simp), if_neg h0]
  exact ⟨e, by unfold unV; rw [e, if_neg (by decide)]⟩
theorem un_ok {l : List Fld} {h : List UInt8} (h1 : (chk l).1 = 0) (h0 : ofB dBits h (sumTo l l.length)) : unE l h = 0 ∧ unV l h = unT l h l.length := by
  have e : unE l h = 0 := by unfold unE; rw [if_neg (by rw [h1]; simp), if_pos h0]
  exact ⟨e, by unfold unV; rw [if_pos e]⟩
theorem un_form (l : List Fld) (h : List UInt8) : -9223372036854775808 ≤ unE l h ∧ unE l h ≤ 9223372036854775807 := by
  unfold unE
  split
  · have := chk_form l; omega
  · split <;> decide
theorem un_len (l : List Fld) (h : List UInt8) : (unV l h).length ≤ 12 := by
  unfold unV
  split
  · rename_i h1
    rw [unT_len]
    have : (chk l).1 = 0 := by
      refine Classical.byContradiction fun hc => ?_
      rw [(un_chk (h := h) rfl hc).1] at h1
      exact hc h1
    exact (chk_zero this).2.1
  · simp
theorem dropW_nil {p : UInt8 → Bool} : ∀ {l : List UInt8}, l.dropWhile p = [] ↔ ∀ b ∈ l, p b = true := by
  intro l
  induction l with
  | nil => simp
  | cons a l ih =>
    by_cases h : p a = true
    · simp [List.dropWhile, h, ih]
    · simp [List.dropWhile, h]
theorem trims_nil (l cs : List UInt8) : Lib.trimS l cs = [] ↔ ∀ b ∈ l, b ∈ cs := by
  unfold Lib.trimS Lib.trimLeftS Lib.trimRightS
  rw [dropW_nil]
  constructor
  · intro h b hb
    refine Classical.byContradiction fun hc => ?_
    have hne : l.reverse.dropWhile (cs.contains ·) ≠ [] := fun h0 => hc (by simpa using dropW_nil.1 h0 b (by simpa using hb))
    obtain ⟨a, r, har⟩ := List.exists_cons_of_ne_nil hne
    have h1 := h a (by rw [har]; simp)
    have h2 := List.head_dropWhile_not (p := (cs.contains ·)) (l := l.reverse) (by simpa using hne)
    simp only [har, List.head_cons] at h2
    rw [h1] at h2
    exact absurd h2 (by simp)
  · intro h b hb
    have := (List.dropWhile_sublist (p := (cs.contains ·)) (l := l.reverse)).subset (List.mem_reverse.1 hb)
    simpa using h b (by simpa using this)
theorem arr256 : (Tryd.prog.info? 98).map (fun i => (i.zero, i.size)) = some (some (.agg (Array.replicate 256 (.bool false))), 256) := by kernel_rfl
theorem trim_any (s cs : ByteArray) (w : World) (hs : s.size ≤ 9223372036854775807) (hcs : cs.size < 4294967281) (hascii : ∀ (j : Nat) b, cs.data.toList[j]? = some b → b.toNat < 128) :
    Calls Tryd.prog 34 #[.string s, .string cs] w fun e w' => e = .returned (.string ⟨(Lib.trimS s.data.toList cs.data.toList).toArray⟩) ∧ Below w.heap.size w w' :=
  Any.strings_Trim_laid Tryd.lays160 arr256 s cs w hs hcs hascii
theorem emp_is {s : ByteArray} (h : s.data.toList = []) : s = .empty := ByteArray.ext (Array.ext' h)
theorem emp_not {s : ByteArray} (h : s.data.toList ≠ []) : s.toList.isEmpty = false := by
  rw [ByteArray.toList_eq]
  cases hx : s.data.toList with
  | nil => exact absurd hx h
  | cons a b => rfl
theorem bget (s : ByteArray) (k : Nat) (h : k < s.size) : s.data.toList[k]? = some s[k] := by
  have : k < s.data.toList.length := by rw [len_s]; exact h
  rw [List.getElem?_eq_getElem this]
  rfl
theorem ext_take (s : ByteArray) (a b : Nat) : s.extract a b = str ((s.data.toList.drop a).take (b - a)) := by
  apply ByteArray.ext
  rw [← Array.toList_inj]
  simp [str, ByteArray.data_extract, List.extract_eq_take_drop]
theorem bit_one (b : UInt8) : (b.toNat : Int) = 49 ↔ b = 49 := by
  constructor
  · intro h
    exact UInt8.toNat_inj.1 (by have h58 : (49 : UInt8).toNat = 49 := rfl; omega)
  · rintro rfl; rfl
end Go.Proofs.YtlakglphjhoodaaDoor.Fl

namespace Go.Proofs.YtlakglphjhoodaaDoor.Fl
open Go.RowKit Mm Law
theorem numB_app (a b : List UInt8) : numB (a ++ b) = numB a * 2 ^ b.length + numB b := by
  obtain ⟨n, hn⟩ : ∃ n, b.length = n := ⟨_, rfl⟩
  induction n generalizing b with
  | zero =>
    rw [List.eq_nil_of_length_eq_zero hn]
    simp [numB]
  | succ n ih =>
    have hne : b ≠ [] := fun h => by rw [h] at hn; simp at hn
    obtain ⟨q, c, rfl⟩ : ∃ q c, b = q ++ [c] := ⟨b.dropLast, b.getLast hne, (List.dropLast_concat_getLast hne).symm⟩
    rw [List.length_append, List.length_singleton] at hn
    rw [← List.append_assoc, numB_snoc, ih q (by omega), numB_snoc, List.length_append, List.length_singleton, Nat.pow_succ]
    rw [Nat.mul_add, ← Nat.mul_assoc, ← Nat.mul_assoc]
    rw [Nat.mul_comm 2 (numB a), Nat.mul_assoc (numB a) 2, Nat.mul_comm 2 (2 ^ q.length), ← Nat.mul_assoc]
    omega
theorem numB_top {s : List UInt8} {k : Nat} (_ : k ≤ s.length) : numB s / 2 ^ (s.length - k) = numB (s.take k) := by
  have e : numB s = numB (s.take k) * 2 ^ (s.length - k) + numB (s.drop k) := by
    conv => lhs; rw [← List.take_append_drop k s]
    rw [numB_app, List.length_drop]
  have h := numB_lt _ (s.drop k) rfl
  rw [List.length_drop] at h
  rw [e, Nat.mul_comm, Nat.mul_add_div (Nat.pow_pos (by omega)), Nat.div_eq_of_lt h, Nat.add_zero]
theorem bit_back {c : UInt8} (h : c ∈ dBits) : (if bit1 c = 1 then (49 : UInt8) else 48) = c := by
  unfold dBits at h
  simp at h
  rcases h with rfl | rfl <;> rfl
theorem hiB_numB {s : List UInt8} (h : ∀ b ∈ s, b ∈ dBits) : hiB (numB s) s.length s.length = s := by
  apply List.ext_getElem?
  intro k
  by_cases hk : k < s.length
  · rw [hiB_get _ _ _ _ hk, List.getElem?_eq_getElem hk]
    congr 1
    unfold bitB
    have h1 := numB_top (s := s) (k := k + 1) (by omega)
    rw [show s.length - 1 - k = s.length - (k + 1) from by omega, h1, numB_take hk]
    have h2 : bit1 s[k] ≤ 1 := by unfold bit1; split <;> omega
    rw [show (2 * numB (s.take k) + bit1 s[k]) % 2 = bit1 s[k] from by omega]
    exact bit_back (h _ (List.getElem_mem hk))
  · rw [List.getElem?_eq_none (by rw [hiB_len]; omega), List.getElem?_eq_none (by omega)]
theorem bit1_B (v i : Nat) : bit1 (bitB v i) = v / 2 ^ i % 2 := by
  unfold bit1 bitB
  by_cases h : v / 2 ^ i % 2 = 1
  · rw [if_pos h, h]; rfl
  · rw [if_neg h]
    have : v / 2 ^ i % 2 = 0 := by omega
    rw [this]; rfl
theorem numB_hi (v b : Nat) (hv : v < 2 ^ b) : ∀ k, k ≤ b → numB (hiB v b k) = v / 2 ^ (b - k) := by
  intro k
  induction k with
  | zero =>
    intro _
    rw [Nat.sub_zero, Nat.div_eq_of_lt hv]
    rfl
  | succ k ih =>
    intro hk
    have e : hiB v b (k + 1) = hiB v b k ++ [bitB v (b - 1 - k)] := by
      unfold hiB
      rw [List.range_succ, List.map_append]
      rfl
    rw [e, numB_snoc, ih (by omega), bit1_B]
    have e2 : b - k = (b - (k + 1)) + 1 := by omega
    have e3 : b - 1 - k = b - (k + 1) := by omega
    rw [e2, e3, Nat.pow_succ, ← Nat.div_div_eq_div_mul]
    omega
theorem numB_hiB (v b : Nat) (hv : v < 2 ^ b) : numB (hiB v b b) = v := by
  rw [numB_hi v b hv b (Nat.le_refl _), Nat.sub_self]
  simp
def Wide (l : List Fld) : Prop := ∀ j, (hj : j < l.length) → 1 ≤ l[j].2 ∧ l[j].2 ≤ 32
theorem bitsAt_get {l : List Fld} (h : Wide l) {k : Nat} (hk : k < l.length) : (bitsAt l k : Int) = l[k].2 ∧ 1 ≤ bitsAt l k ∧ bitsAt l k ≤ 32 := by
  have h1 := h k hk
  have h2 := bitsAt_of (l := l) (k := k) (f := l[k]) (by simp [hk]) h1.1
  exact ⟨h2, by omega, by omega⟩
theorem pos_int {l : List Fld} (h : Wide l) {k : Nat} (hk : k ≤ l.length) : sumTo l k = (posN l k : Int) := by
  have := sum_bd h k hk
  unfold posN
  omega
theorem pos_zero (l : List Fld) : posN l 0 = 0 := by unfold posN; rw [sumTo_zero]; rfl
theorem pos_succ {l : List Fld} (h : Wide l) {k : Nat} (hk : k < l.length) : posN l (k + 1) = posN l k + bitsAt l k := by
  have h1 := pos_int h (k := k) (by omega)
  have h2 := pos_int h (k := k + 1) (by omega)
  rw [sumTo_succ hk] at h2
  have h3 := (bitsAt_get h hk).1
  omega
theorem pos_mono {l : List Fld} (h : Wide l) : ∀ {j k : Nat}, j ≤ k → k ≤ l.length → posN l j ≤ posN l k := by
  intro j k hjk
  induction k with
  | zero => intro _; have : j = 0 := by omega
            rw [this]; exact Nat.le_refl _
  | succ k ih =>
    intro hk
    rcases Nat.lt_or_ge k j with h1 | h1
    · have : j = k + 1 := by omega
      rw [this]; exact Nat.le_refl _
    · have := ih h1 (by omega)
      have h2 := pos_succ h (k := k) (by omega)
      omega
theorem pkT_pos {l : List Fld} (h : Wide l) (x : List Int) : ∀ k, k ≤ l.length → (pkT l x k).length = posN l k := by
  intro k
  induction k with
  | zero => intro _; rw [pos_zero]; rfl
  | succ k ih =>
    intro hk
    rw [show pkT l x (k + 1) = pkT l x k ++ hiB (valAt x k).toNat (bitsAt l k) (bitsAt l k) from rfl, List.length_append, ih (by omega), hiB_len, pos_succ h (by omega)]
theorem pkT_pre (l : List Fld) (x : List Int) (k : Nat) : ∀ m, ∃ r, pkT l x (k + m) = pkT l x k ++ r := by
  intro m
  induction m with
  | zero => exact ⟨[], by simp⟩
  | succ m ih =>
    obtain ⟨r, hr⟩ := ih
    exact ⟨r ++ hiB (valAt x (k + m)).toNat (bitsAt l (k + m)) (bitsAt l (k + m)), by
      rw [show pkT l x (k + (m + 1)) = pkT l x (k + m) ++ hiB (valAt x (k + m)).toNat (bitsAt l (k + m)) (bitsAt l (k + m)) from rfl, hr, List.append_assoc]⟩
theorem fld_pk {l : List Fld} (h : Wide l) (x : List Int) {k : Nat} (hk : k < l.length) : fldB l (pkT l x l.length) k = hiB (valAt x k).toNat (bitsAt l k) (bitsAt l k) := by
  obtain ⟨r, hr⟩ := pkT_pre l x (k + 1) (l.length - (k + 1))
  rw [show k + 1 + (l.length - (k + 1)) = l.length from by omega] at hr
  unfold fldB
  rw [hr, show pkT l x (k + 1) = pkT l x k ++ hiB (valAt x k).toNat (bitsAt l k) (bitsAt l k) from rfl, List.append_assoc, ← pkT_pos h x k (by omega), List.drop_left, List.take_left' (hiB_len _ _ _)]
theorem un_pk {l : List Fld} (h : Wide l) {x : List Int} (hx : x.length = l.length) (hb : ∀ k, k < l.length → ¬ tooB l x k) : ∀ k, k ≤ l.length → unT l (pkT l x l.length) k = x.take k := by
  intro k
  induction k with
  | zero => intro _; rfl
  | succ k ih =>
    intro hk
    rw [show unT l (pkT l x l.length) (k + 1) = unT l (pkT l x l.length) k ++ [(numB (fldB l (pkT l x l.length) k) : Int)] from rfl, ih (by omega), fld_pk h x (by omega), List.take_succ_eq_append_getElem (by omega)]
    congr 2
    have h1 := hb k (by omega)
    unfold tooB at h1
    have h2 : valAt x k = x[k]'(by omega) := by unfold valAt; simp [show k < x.length by omega]
    rw [h2] at h1 ⊢
    have h3 := (bitsAt_get h (k := k) (by omega)).2
    have h4 : (topN (bitsAt l k) : Int) + 1 = ((2 ^ bitsAt l k : Nat) : Int) := by
      have := Nat.pow_pos (n := bitsAt l k) (show 0 < 2 by omega)
      unfold topN
      omega
    rw [numB_hiB _ _ (by omega)]
    omega
theorem unT_at {l : List Fld} {H : List UInt8} {k : Nat} : ∀ n, k < n → valAt (unT l H n) k = (numB (fldB l H k) : Int) := by
  intro n
  induction n with
  | zero => intro h; omega
  | succ n ih =>
    intro h
    unfold valAt
    rw [show unT l H (n + 1) = unT l H n ++ [(numB (fldB l H n) : Int)] from rfl, List.getD_eq_getElem?_getD]
    rcases Nat.lt_or_ge k n with h1 | h1
    · rw [List.getElem?_append_left (by rw [unT_len]; exact h1), ← List.getD_eq_getElem?_getD]
      exact ih h1
    · have : k = n := by omega
      subst this
      rw [List.getElem?_append_right (by rw [unT_len]; exact Nat.le_refl _), unT_len, Nat.sub_self]
      rfl
theorem fldB_len {l : List Fld} (h : Wide l) {H : List UInt8} (hH : posN l l.length ≤ H.length) {k : Nat} (hk : k < l.length) : (fldB l H k).length = bitsAt l k := by
  have h1 := pos_succ h hk
  have h2 := pos_mono h (j := k + 1) (k := l.length) (by omega) (Nat.le_refl _)
  unfold fldB
  rw [List.length_take, List.length_drop]
  omega
theorem fldB_sub {l : List Fld} {H : List UInt8} (h : ∀ b ∈ H, b ∈ dBits) (k : Nat) : ∀ b ∈ fldB l H k, b ∈ dBits := fun b hb => h b (List.mem_of_mem_drop (List.mem_of_mem_take hb))
theorem pk_un {l : List Fld} (h : Wide l) {H : List UInt8} (hH : H.length = posN l l.length) (hd : ∀ b ∈ H, b ∈ dBits) : ∀ k, k ≤ l.length → pkT l (unT l H l.length) k = H.take (posN l k) := by
  intro k
  induction k with
  | zero => intro _; rw [pos_zero]; rfl
  | succ k ih =>
    intro hk
    rw [show pkT l (unT l H l.length) (k + 1) = pkT l (unT l H l.length) k ++ hiB (valAt (unT l H l.length) k).toNat (bitsAt l k) (bitsAt l k) from rfl, ih (by omega), unT_at _ (by omega), Int.toNat_natCast]
    have h1 := fldB_len h (H := H) (by omega) (k := k) (by omega)
    have h2 := hiB_numB (fldB_sub (l := l) hd k)
    rw [h1] at h2
    rw [h2, pos_succ h (by omega)]
    unfold fldB
    rw [List.take_add]
theorem un_low {l : List Fld} (h : Wide l) {H : List UInt8} (hH : H.length = posN l l.length) : ∀ k, k < l.length → ¬ tooB l (unT l H l.length) k := by
  intro k hk
  unfold tooB
  rw [unT_at _ hk]
  have h1 := fldB_len h (H := H) (by omega) hk
  have h2 := numB_lt _ (fldB l H k) h1
  have h4 : (topN (bitsAt l k) : Int) + 1 = ((2 ^ bitsAt l k : Nat) : Int) := by
    have := Nat.pow_pos (n := bitsAt l k) (show 0 < 2 by omega)
    unfold topN
    omega
  omega
def letterK (k : Nat) : ByteArray := str [UInt8.ofNat (97 + k)]
def Lay (l : List Fld) : Prop := 0 < l.length ∧ l.length ≤ 8 ∧ ∀ k, (hk : k < l.length) → l[k].1 = letterK k ∧ 1 ≤ l[k].2 ∧ l[k].2 ≤ 32
theorem letter_size (k : Nat) : (letterK k).size = 1 := str_size _
theorem letter_ok {k : Nat} (hk : k < 26) : nameOk (letterK k) := by
  have e : (UInt8.ofNat (97 + k)).toNat = 97 + k := by rw [UInt8.toNat_ofNat']; exact Nat.mod_eq_of_lt (by omega)
  refine ⟨by rw [letter_size]; decide, by rw [letter_size]; decide, fun j hj => ?_⟩
  rw [letter_size] at hj
  have : j = 0 := by omega
  subst this
  left
  show letterN ((letterK k).data.toList.getD 0 0).toNat
  rw [show (letterK k).data.toList = [UInt8.ofNat (97 + k)] from str_list _]
  show letterN (UInt8.ofNat (97 + k)).toNat
  rw [e]
  unfold letterN
  omega
theorem letter_inj {j k : Nat} (hj : j < 26) (hk : k < 26) (h : letterK j = letterK k) : j = k := by
  have h1 := congrArg (fun s : ByteArray => s.data.toList) h
  have h2 : [UInt8.ofNat (97 + j)] = [UInt8.ofNat (97 + k)] := h1
  have h3 := congrArg UInt8.toNat (List.cons.inj h2).1
  rw [UInt8.toNat_ofNat', UInt8.toNat_ofNat', Nat.mod_eq_of_lt (by omega), Nat.mod_eq_of_lt (by omega)] at h3
  omega
theorem Lay.wide {l : List Fld} (h : Lay l) : Wide l := fun j hj => (h.2.2 j hj).2
theorem lay_good {l : List Fld} (h : Lay l) {k : Nat} (hk : k < l.length) : ¬ badAt l k l[k] := by
  obtain ⟨h0, h8, ha⟩ := h
  have hw : Wide l := fun j hj => (ha j hj).2
  obtain ⟨hn, hb1, hb2⟩ := ha k hk
  have hs := sum_bd hw k (by omega)
  rintro (h1 | h1 | h1 | ⟨g, hg, h1⟩ | h1 | h1 | h1)
  · exact h1 (by rw [hn]; exact letter_ok (by omega))
  · have := congrArg ByteArray.size (hn.symm.trans h1)
    rw [letter_size] at this
    exact absurd this (by decide)
  · have := congrArg ByteArray.size (hn.symm.trans h1)
    rw [letter_size] at this
    exact absurd this (by decide)
  · obtain ⟨j, hj⟩ := List.mem_iff_getElem?.1 hg
    have hjl := (List.getElem?_eq_some_iff.1 hj).1
    rw [List.length_take] at hjl
    rw [List.getElem?_take, if_pos (by omega), List.getElem?_eq_getElem (by omega)] at hj
    have := (ha j (by omega)).1
    rw [Option.some.inj hj, h1, hn] at this
    have := letter_inj (by omega) (by omega) this
    omega
  · omega
  · omega
  · omega
theorem lay_chkFrom {l : List Fld} (h : Lay l) : ∀ n k, l.length - k ≤ n → chkFrom l k = (0, 0) := by
  intro n
  induction n with
  | zero => intro k hk; exact chkFrom_end (by omega)
  | succ n ih =>
    intro k hk
    by_cases hlt : k < l.length
    · rw [chkFrom_ok hlt (lay_good h hlt)]
      exact ih (k + 1) (by omega)
    · exact chkFrom_end hlt
theorem lay_chk {l : List Fld} (h : Lay l) : chk l = (0, 0) := by
  have h1 := h.1
  have h2 := h.2.1
  unfold chk
  rw [if_neg (by omega), if_neg (fun e => by rw [e] at h1; simp at h1)]
  exact lay_chkFrom h l.length 0 (by omega)
end Go.Proofs.YtlakglphjhoodaaDoor.Fl

namespace Go.Proofs.YtlakglphjhoodaaDoor.Fl
open Go.RowKit Mm Law
theorem any_step {D : List UInt8} {c : UInt8} {q : Nat} {f : Bool} (hq : q < D.length) (h : f = true ↔ ∃ j, j < q ∧ D[j]? = some c) : (f || decide (c = D[q])) = true ↔ ∃ j, j < q + 1 ∧ D[j]? = some c := by
  rw [Bool.or_eq_true, decide_eq_true_iff, h]
  constructor
  · rintro (⟨j, h1, h2⟩ | h1)
    · exact ⟨j, by omega, h2⟩
    · exact ⟨q, by omega, by rw [h1]; exact List.getElem?_eq_getElem hq⟩
  · rintro ⟨j, h1, h2⟩
    rcases Nat.lt_succ_iff_lt_or_eq.1 h1 with h | rfl
    · exact .inl ⟨j, h, h2⟩
    · right
      rw [List.getElem?_eq_getElem hq] at h2
      exact (Option.some.inj h2).symm
theorem byte_dec (b c : UInt8) : decide ((b.toNat : Int) = (c.toNat : Int)) = decide (b = c) := by
  by_cases h : b = c
  · subst h; simp
  · rw [decide_eq_false h, decide_eq_false]
    intro hc
    exact h (UInt8.toNat_inj.1 (by omega))
theorem beq_dec (b c : UInt8) : ((b.toNat : Int) == (c.toNat : Int)) = decide (b = c) := by
  by_cases h : b = c
  · subst h; simp
  · rw [decide_eq_false h, beq_eq_false_iff_ne]
    intro hc
    exact h (UInt8.toNat_inj.1 (by omega))
set_option maxRecDepth 100000 in
set_option maxHeartbeats 4000000 in
theorem number_any (s : ByteArray) (hs : s.size ≤ 32) (w : World) :
    Calls Tryd.prog 35 #[.string s] w fun e w' => e = .returned (.int .i64 (numB s.data.toList : Int)) ∧ w' = w := by
  have hl : s.data.toList.length = s.size := len_s s
  have HB := Lib.hid (bget s)
  obtain ⟨S, hS⟩ : ∃ S, s.data.toList = S := ⟨_, rfl⟩
  rw [hS] at hl HB ⊢
  clear hS
  have HBD := Lib.hid (numB_bd (l := S) (by omega))
  go_enter Tryd.func35, Tryd.ntmps35
  go_wp2
  go_loopw [3, 7] (fun v i wr => ∃ k : Nat, k ≤ s.size ∧ i = .int .i64 (k : Int) ∧ v = .int .i64 (numB (S.take k) : Int) ∧ wr = w) (fun _ i _ => s.size - (intOf i).toNat)
  case atStart => exact ⟨0, Nat.zero_le _, rfl, rfl, rfl⟩
  case round =>
    obtain ⟨k, hk, rfl, rfl, rfl⟩ := hrel
    by_cases hlt : k < s.size
    · have hbd := HBD.out k
      have hb := HB.out k hlt
      have HN := Lib.hid (show numB (S.take (k + 1)) = 2 * numB (S.take k) + bit1 s[k] from by
        rw [numB_take (by omega)]
        rw [List.getElem?_eq_getElem (by omega)] at hb
        rw [Option.some.inj hb])
      clear hb
      have x0 : (0 : Int) ≤ (k : Int) := by omega
      have x1 : (k : Int) < (s.size : Int) := by omega
      generalize numB (S.take k) = n at *
      by_cases h1 : s[k] = 49
      · have h2 : (s[k].toNat : Int) = 49 := (bit_one _).2 h1
        have HN2 := Lib.hid (show bit1 s[k] = 1 from by unfold bit1; rw [if_pos h1])
        clear h1
        go_wp2
        go_roundw
        case rel => exact ⟨k + 1, by omega, by go_num, by rw [HN.out, HN2.out]; go_num, by trivial⟩
        case measure => simp [intOf]; omega
      · have h2 : ¬ (s[k].toNat : Int) = 49 := fun h => h1 ((bit_one _).1 h)
        have HN2 := Lib.hid (show bit1 s[k] = 0 from by unfold bit1; rw [if_neg h1])
        clear h1
        go_wp2
        go_roundw
        case rel => exact ⟨k + 1, by omega, by go_num, by rw [HN.out, HN2.out]; go_num, by trivial⟩
        case measure => simp [intOf]; omega
    · have HK := Lib.hid (show S.take k = S from by rw [show k = S.length by omega, List.take_length])
      go_wp2
      go_ret
      exact ⟨by rw [HK.out]; rfl, rfl⟩
end Go.Proofs.YtlakglphjhoodaaDoor.Fl
