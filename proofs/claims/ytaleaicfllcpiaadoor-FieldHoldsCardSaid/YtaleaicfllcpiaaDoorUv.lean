/- Unpack: the plain law, and the reading of bits. -/
import Derived.Test.YtaleaicfllcpiaaDoorPl
import Derived.Test.YtaleaicfllcpiaaDoorWd
import Derived.Lib.Bytealg
import Derived.Shelf.Strings.SlTrimAscii
namespace Go.Proofs.YtaleaicfllcpiaaDoor.Fl
open Go.RowKit Mm Law
set_option linter.unusedVariables false
set_option linter.unusedSimpArgs false
set_option linter.unusedSectionVars false
def bit1 (b : UInt8) : Nat := if b = 49 then 1 else 0
def numB (l : List UInt8) : Nat := l.foldl (fun n b => 2 * n + bit1 b) 0
theorem numB_snoc (l : List UInt8) (b : UInt8) : numB (l ++ [b]) = 2 * numB l + bit1 b := by simp [numB]
theorem numB_lt : ∀ (n : Nat) (l : List UInt8), l.length = n → numB l < 2 ^ n := by
  intro n
  induction n with
  | zero =>
    intro l hl
    rw [List.eq_nil_of_length_eq_zero hl]
    simp [numB]
  | succ n ih =>
    intro l hl
    have hne : l ≠ [] := fun h => by rw [h] at hl; simp at hl
    obtain ⟨q, b, rfl⟩ : ∃ q b, l = q ++ [b] := ⟨l.dropLast, l.getLast hne, (List.dropLast_concat_getLast hne).symm⟩
    rw [List.length_append, List.length_singleton] at hl
    have := ih q (by omega)
    rw [numB_snoc, Nat.pow_succ]
    have : bit1 b ≤ 1 := by unfold bit1; split <;> omega
    omega
theorem numB_take {l : List UInt8} {k : Nat} (h : k < l.length) : numB (l.take (k + 1)) = 2 * numB (l.take k) + bit1 l[k] := by
  rw [List.take_succ_eq_append_getElem h, numB_snoc]
theorem numB_bd {l : List UInt8} (hl : l.length ≤ 32) (k : Nat) : numB (l.take k) < 4294967296 := by
  have h := numB_lt _ (l.take k) rfl
  have h2 : 2 ^ (l.take k).length ≤ 2 ^ 32 := Nat.pow_le_pow_right (by omega) (by rw [List.length_take]; omega)
  omega
def posN (l : List Fld) (k : Nat) : Nat := (sumTo l k).toNat
def fldB (l : List Fld) (h : List UInt8) (k : Nat) : List UInt8 := (h.drop (posN l k)).take (bitsAt l k)
def unT (l : List Fld) (h : List UInt8) : Nat → List Int
  | 0 => []
  | k + 1 => unT l h k ++ [(numB (fldB l h k) : Int)]
theorem unT_len (l : List Fld) (h : List UInt8) (k : Nat) : (unT l h k).length = k := by
  induction k with
  | zero => rfl
  | succ k ih => unfold unT; rw [List.length_append, ih, List.length_singleton]
def dShow : List UInt8 := [48, 49, 120]
def ofB (D h : List UInt8) (n : Int) : Prop := (h.length : Int) = n ∧ ∀ b ∈ h, b ∈ D
def dBits : List UInt8 := [48, 49]
open Classical in
noncomputable def unE (l : List Fld) (h : List UInt8) : Int := if (chk l).1 ≠ 0 then (chk l).1 else if ofB dBits h (sumTo l l.length) then 0 else 46
open Classical in
noncomputable def unV (l : List Fld) (h : List UInt8) : List Int := if unE l h = 0 then unT l h l.length else []
theorem un_chk {l : List Fld} {h : List UInt8} {c : Int} (h1 : (chk l).1 = c) (h0 : c ≠ 0) : unE l h = c ∧ unV l h = [] := by
  have e : unE l h = c := by unfold unE; rw [if_pos (by rw [h1]; exact h0), h1]
  exact ⟨e, by unfold unV; rw [e, if_neg h0]⟩
theorem un_bad {l : List Fld} {h : List UInt8} (h1 : (chk l).1 = 0) (h0 : ¬ ofB dBits h (sumTo l l.length)) : unE l h = 46 ∧ unV l h = [] := by
  have e : unE l h = 46 := by unfold unE; rw [if_neg (by rw [h1]; simp), if_neg h0]
  exact ⟨e, by unfold unV; rw [e, if_neg (by decide)]⟩
theorem un_ok {l : List Fld} {h : List UInt8} (h1 : (chk l).1 = 0) (h0 : ofB dBits h (sumTo l l.length)) : unE l h = 0 ∧ unV l h = unT l h l.length := by
  have e : unE l h = 0 := by unfold unE; rw [if_neg (by rw [h1]; simp), if_pos h0]
  exact ⟨e, by unfold unV; rw [if_pos e]⟩
theorem un_form (l : List Fld) (h : List UInt8) : -9223372036854775808 ≤ unE l h ∧ unE l h ≤ 9223372036854775807 := by
  unfold unE
  split
  · have := chk_form l; omega
  · split <;> decide
theorem un_len (l : List Fld) (h : List UInt8) : (unV l h).length ≤ 12 := by
  unfold unV
  split
  · rename_i h1
    rw [unT_len]
    have : (chk l).1 = 0 := by
      refine Classical.byContradiction fun hc => ?_
      rw [(un_chk (h := h) rfl hc).1] at h1
      exact hc h1
    exact (chk_zero this).2.1
  · simp
/-- The texts of trims. -/
theorem dropW_nil {p : UInt8 → Bool} : ∀ {l : List UInt8}, l.dropWhile p = [] ↔ ∀ b ∈ l, p b = true := by
  intro l
  induction l with
  | nil => simp
  | cons a l ih =>
    by_cases h : p a = true
    · simp [List.dropWhile, h, ih]
    · simp [List.dropWhile, h]
theorem trims_nil (l cs : List UInt8) : Lib.trimS l cs = [] ↔ ∀ b ∈ l, b ∈ cs := by
  unfold Lib.trimS Lib.trimLeftS Lib.trimRightS
  rw [dropW_nil]
  constructor
  · intro h b hb
    refine Classical.byContradiction fun hc => ?_
    have hne : l.reverse.dropWhile (cs.contains ·) ≠ [] := fun h0 => hc (by simpa using dropW_nil.1 h0 b (by simpa using hb))
    obtain ⟨a, r, har⟩ := List.exists_cons_of_ne_nil hne
    have h1 := h a (by rw [har]; simp)
    have h2 := List.head_dropWhile_not (p := (cs.contains ·)) (l := l.reverse) (by simpa using hne)
    simp only [har, List.head_cons] at h2
    rw [h1] at h2
    exact absurd h2 (by simp)
  · intro h b hb
    have := (List.dropWhile_sublist (p := (cs.contains ·)) (l := l.reverse)).subset (List.mem_reverse.1 hb)
    simpa using h b (by simpa using this)
theorem arr256 : (Tryd.prog.info? 119).map (fun i => (i.zero, i.size)) = some (some (.agg (Array.replicate 256 (.bool false))), 256) := by kernel_rfl
theorem trim_any (s cs : ByteArray) (w : World) (hs : s.size ≤ 9223372036854775807) (hcs : cs.size < 4294967281) (hascii : ∀ (j : Nat) b, cs.data.toList[j]? = some b → b.toNat < 128) :
    Calls Tryd.prog 44 #[.string s, .string cs] w fun e w' => e = .returned (.string ⟨(Lib.trimS s.data.toList cs.data.toList).toArray⟩) ∧ Below w.heap.size w w' :=
  Any.strings_Trim_laid Tryd.lays160 arr256 s cs w hs hcs hascii
theorem emp_is {s : ByteArray} (h : s.data.toList = []) : s = .empty := ByteArray.ext (Array.ext' h)
theorem emp_not {s : ByteArray} (h : s.data.toList ≠ []) : s.toList.isEmpty = false := by
  rw [ByteArray.toList_eq]
  cases hx : s.data.toList with
  | nil => exact absurd hx h
  | cons a b => rfl
theorem bget (s : ByteArray) (k : Nat) (h : k < s.size) : s.data.toList[k]? = some s[k] := by
  have : k < s.data.toList.length := by rw [len_s]; exact h
  rw [List.getElem?_eq_getElem this]
  rfl
theorem ext_take (s : ByteArray) (a b : Nat) : s.extract a b = str ((s.data.toList.drop a).take (b - a)) := by
  apply ByteArray.ext
  rw [← Array.toList_inj]
  simp [str, ByteArray.data_extract, List.extract_eq_take_drop]
theorem bit_one (b : UInt8) : (b.toNat : Int) = 49 ↔ b = 49 := by
  constructor
  · intro h
    exact UInt8.toNat_inj.1 (by have h58 : (49 : UInt8).toNat = 49 := rfl; omega)
  · rintro rfl; rfl
set_option maxRecDepth 100000 in
set_option maxHeartbeats 4000000 in
theorem rvalue_any (s : ByteArray) (hs : s.size ≤ 32) (w : World) :
    Calls Tryd.prog 49 #[.string s] w fun e w' => e = .returned (.int .i64 (numB s.data.toList : Int)) ∧ w' = w := by
  have hl : s.data.toList.length = s.size := len_s s
  have HB := Lib.hid (bget s)
  obtain ⟨S, hS⟩ : ∃ S, s.data.toList = S := ⟨_, rfl⟩
  rw [hS] at hl HB ⊢
  clear hS
  have HBD := Lib.hid (numB_bd (l := S) (by omega))
  go_enter Tryd.func49, Tryd.ntmps49
  go_wp2
  go_loopw [3, 4] (fun v i wr => ∃ k : Nat, k ≤ s.size ∧ i = .int .i64 (k : Int) ∧ v = .int .i64 (numB (S.take k) : Int) ∧ wr = w) (fun _ i _ => s.size - (intOf i).toNat)
  case atStart => exact ⟨0, Nat.zero_le _, rfl, rfl, rfl⟩
  case round =>
    obtain ⟨k, hk, rfl, rfl, rfl⟩ := hrel
    by_cases hlt : k < s.size
    · have hbd := HBD.out k
      have hb := HB.out k hlt
      have HN := Lib.hid (show numB (S.take (k + 1)) = 2 * numB (S.take k) + bit1 s[k] from by
        rw [numB_take (by omega)]
        rw [List.getElem?_eq_getElem (by omega)] at hb
        rw [Option.some.inj hb])
      clear hb
      have x0 : (0 : Int) ≤ (k : Int) := by omega
      have x1 : (k : Int) < (s.size : Int) := by omega
      generalize numB (S.take k) = n at *
      by_cases h1 : s[k] = 49
      · have h2 : (s[k].toNat : Int) = 49 := (bit_one _).2 h1
        have HN2 := Lib.hid (show bit1 s[k] = 1 from by unfold bit1; rw [if_pos h1])
        clear h1
        go_wp2
        go_roundw
        case rel => exact ⟨k + 1, by omega, by go_num, by rw [HN.out, HN2.out]; go_num, by trivial⟩
        case measure => simp [intOf]; omega
      · have h2 : ¬ (s[k].toNat : Int) = 49 := fun h => h1 ((bit_one _).1 h)
        have HN2 := Lib.hid (show bit1 s[k] = 0 from by unfold bit1; rw [if_neg h1])
        clear h1
        go_wp2
        go_roundw
        case rel => exact ⟨k + 1, by omega, by go_num, by rw [HN.out, HN2.out]; go_num, by trivial⟩
        case measure => simp [intOf]; omega
    · have HK := Lib.hid (show S.take k = S from by rw [show k = S.length by omega, List.take_length])
      go_wp2
      go_ret
      exact ⟨by rw [HK.out]; rfl, rfl⟩
end Go.Proofs.YtaleaicfllcpiaaDoor.Fl
