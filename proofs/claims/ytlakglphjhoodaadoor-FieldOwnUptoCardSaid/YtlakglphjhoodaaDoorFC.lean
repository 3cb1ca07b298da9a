/- Merged for FieldOwn -/
import Derived.WalkKit
import Derived.Test.YtlakglphjhoodaaDoorFB
import Derived.Test.YtlakglphjhoodaaDoorMm
import Derived.Test.YtlakglphjhoodaaDoorRows
import Derived.BigQuiet
import Derived.Deep.QuietTactic
import Derived.Handy
import Derived.Laws.BitsAllLaws
namespace Go.Proofs.YtlakglphjhoodaaDoor.Fl
set_option linter.unusedVariables false
set_option linter.unusedSimpArgs false
set_option linter.unusedSectionVars false
def okB (x e f : Nat) : Prop := x % 2 ^ f = 0 ∧ x + 2 ^ f ≤ e
instance (x e f : Nat) : Decidable (okB x e f) := by unfold okB; infer_instance
theorem okB_zero {x e : Nat} (h : x < e) : okB x e 0 := ⟨by simp [Nat.mod_one], by rw [Nat.pow_zero]; exact h⟩
theorem okB_pred {x e f : Nat} (h : okB x e (f + 1)) : okB x e f := by
  obtain ⟨h1, h2⟩ := h
  have hp : 0 < 2 ^ f := Nat.pow_pos (by omega)
  rw [Nat.pow_succ] at h1 h2
  refine ⟨?_, by omega⟩
  exact Nat.mod_eq_zero_of_dvd (Nat.dvd_trans (Nat.dvd_mul_right _ _) (Nat.dvd_of_mod_eq_zero h1))
def fr (b x e f : Nat) : Nat := if f < b ∧ okB x e (f + 1) then fr b x e (f + 1) else f
termination_by b - f
theorem fr_yes {b x e f : Nat} (h1 : f < b) (h2 : okB x e (f + 1)) : fr b x e f = fr b x e (f + 1) := by
  rw [fr, if_pos ⟨h1, h2⟩]
theorem fr_no {b x e f : Nat} (h : ¬ (f < b ∧ okB x e (f + 1))) : fr b x e f = f := by
  rw [fr, if_neg h]
theorem fr_spec {b x e : Nat} : ∀ (n f : Nat), b - f ≤ n → f ≤ b → okB x e f → okB x e (fr b x e f) ∧ f ≤ fr b x e f ∧ fr b x e f ≤ b ∧ (fr b x e f < b → ¬ okB x e (fr b x e f + 1)) := by
  intro n
  induction n with
  | zero =>
    intro f hn hf hk
    rw [fr_no (by omega)]
    exact ⟨hk, Nat.le_refl _, hf, fun h => by omega⟩
  | succ n ih =>
    intro f hn hf hk
    by_cases h : f < b ∧ okB x e (f + 1)
    · rw [fr_yes h.1 h.2]
      obtain ⟨a1, a2, a3, a4⟩ := ih (f + 1) (by omega) (by omega) h.2
      exact ⟨a1, by omega, a3, a4⟩
    · rw [fr_no h]
      exact ⟨hk, Nat.le_refl _, hf, fun hb h2 => h ⟨hb, h2⟩⟩
theorem fr_congr {b x e e' : Nat} (h : ∀ f, okB x e f ↔ okB x e' f) : ∀ (n f : Nat), b - f ≤ n → fr b x e f = fr b x e' f := by
  intro n
  induction n with
  | zero => intro f hn; rw [fr_no (by omega), fr_no (by omega)]
  | succ n ih =>
    intro f hn
    by_cases hk : f < b ∧ okB x e (f + 1)
    · rw [fr_yes hk.1 hk.2, fr_yes hk.1 ((h _).1 hk.2)]
      exact ih _ (by omega)
    · rw [fr_no hk, fr_no (fun hh => hk ⟨hh.1, (h _).2 hh.2⟩)]
def gre (b x e : Nat) : List (Nat × Nat) := if x < e then (x, fr b x e 0) :: gre b (x + 2 ^ fr b x e 0) e else []
termination_by e - x
decreasing_by have : 0 < 2 ^ fr b x e 0 := Nat.pow_pos (by omega); omega
theorem gre_yes {b x e : Nat} (h : x < e) : gre b x e = (x, fr b x e 0) :: gre b (x + 2 ^ fr b x e 0) e := by
  rw [gre, if_pos h]
theorem gre_no {b x e : Nat} (h : e ≤ x) : gre b x e = [] := by
  rw [gre, if_neg (by omega)]
theorem cross {k m x e f : Nat} (hm : m % 2 ^ k = 0) (hk : 2 ^ k ≤ m) (hx : m - 2 ^ k ≤ x) (hxm : x < m) (he : e ≤ m + 2 ^ k) (hw : ¬ (x = m - 2 ^ k ∧ e = m + 2 ^ k)) (h : okB x e f) : x + 2 ^ f ≤ m := by
  obtain ⟨h1, h2⟩ := h
  rcases Nat.lt_or_ge k f with hf | hf
  · have : 2 ^ (k + 1) ≤ 2 ^ f := Nat.pow_le_pow_right (by omega) hf
    rw [Nat.pow_succ] at this
    exfalso
    apply hw
    omega
  · have hd : 2 ^ f ∣ m := Nat.dvd_trans (Nat.pow_dvd_pow 2 hf) (Nat.dvd_of_mod_eq_zero hm)
    obtain ⟨q, hq⟩ := hd
    obtain ⟨r, hr⟩ := Nat.dvd_of_mod_eq_zero h1
    have hp : 0 < 2 ^ f := Nat.pow_pos (by omega)
    have hlt : r < q := by
      rw [hq, hr] at hxm
      exact Nat.lt_of_mul_lt_mul_left hxm
    have : 2 ^ f * (r + 1) ≤ 2 ^ f * q := Nat.mul_le_mul_left _ hlt
    rw [Nat.mul_add, Nat.mul_one, ← hq, ← hr] at this
    exact this
theorem gre_split {b k m e : Nat} (hm : m % 2 ^ k = 0) (hk : 2 ^ k ≤ m) (hme : m ≤ e) (he : e ≤ m + 2 ^ k) : ∀ (n x : Nat), m - x ≤ n → m - 2 ^ k ≤ x → x ≤ m → ¬ (x = m - 2 ^ k ∧ e = m + 2 ^ k) → gre b x e = gre b x m ++ gre b m e := by
  intro n
  induction n with
  | zero =>
    intro x hn hx hxm hw
    have : x = m := by omega
    subst this
    rw [gre_no (e := x) (Nat.le_refl _), List.nil_append]
  | succ n ih =>
    intro x hn hx hxm hw
    rcases Nat.lt_or_ge x m with hlt | hge
    · have hiff : ∀ f, okB x e f ↔ okB x m f := fun f => ⟨fun h => ⟨h.1, cross hm hk hx hlt he hw h⟩, fun h => ⟨h.1, by have := h.2; omega⟩⟩
      have hf := fr_congr (b := b) hiff b 0 (by omega)
      have hs := fr_spec (b := b) (x := x) (e := m) b 0 (by omega) (by omega) (okB_zero hlt)
      have hp : 0 < 2 ^ fr b x m 0 := Nat.pow_pos (by omega)
      rw [gre_yes (e := e) (by omega), gre_yes (e := m) hlt, hf, List.cons_append]
      congr 1
      have hle := hs.1.2
      exact ih _ (by omega) (by omega) hle (by omega)
    · have : x = m := by omega
      subst this
      rw [gre_no (e := x) (Nat.le_refl _), List.nil_append]
theorem gre_whole {b k x : Nat} (hk : k ≤ b) (hx : x % 2 ^ k = 0) : gre b x (x + 2 ^ k) = [(x, k)] := by
  have hp : 0 < 2 ^ k := Nat.pow_pos (by omega)
  have hs := fr_spec (b := b) (x := x) (e := x + 2 ^ k) b 0 (by omega) (by omega) (okB_zero (by omega))
  have hle : fr b x (x + 2 ^ k) 0 ≤ k := by
    rcases Nat.lt_or_ge k (fr b x (x + 2 ^ k) 0) with h | h
    · have := hs.1.2
      have h2 := Nat.pow_lt_pow_right (a := 2) (by omega) h
      omega
    · exact h
  have hge : k ≤ fr b x (x + 2 ^ k) 0 := by
    rcases Nat.lt_or_ge (fr b x (x + 2 ^ k) 0) k with h | h
    · exfalso
      apply hs.2.2.2 (by omega)
      refine ⟨?_, ?_⟩
      · exact Nat.mod_eq_zero_of_dvd (Nat.dvd_trans (Nat.pow_dvd_pow 2 h) (Nat.dvd_of_mod_eq_zero hx))
      · have := Nat.pow_le_pow_right (n := 2) (by omega) h
        omega
    · exact h
  have e : fr b x (x + 2 ^ k) 0 = k := Nat.le_antisymm hle hge
  rw [gre_yes (by omega), e, gre_no (Nat.le_refl _)]
def hal : Nat → Nat → Nat → Nat → List (Nat × Nat)
  | 0, x, lo, e => if lo ≤ x ∧ x + 1 ≤ e then [(x, 0)] else []
  | k + 1, x, lo, e => if lo ≤ x ∧ x + 2 ^ (k + 1) ≤ e then [(x, k + 1)] else if e ≤ x ∨ x + 2 ^ (k + 1) ≤ lo then [] else hal k x lo e ++ hal k (x + 2 ^ k) lo e
theorem hal_gre (b lo e : Nat) : ∀ (k x : Nat), k ≤ b → x % 2 ^ k = 0 → hal k x lo e = gre b (max lo x) (min e (x + 2 ^ k)) := by
  intro k
  induction k with
  | zero =>
    intro x hk hx
    unfold hal
    by_cases h : lo ≤ x ∧ x + 1 ≤ e
    · rw [if_pos h, show max lo x = x by omega, show min e (x + 2 ^ 0) = x + 2 ^ 0 by simp; omega]
      exact (gre_whole hk hx).symm
    · rw [if_neg h, gre_no (by simp; omega)]
  | succ k ih =>
    intro x hk hx
    have hp : 0 < 2 ^ k := Nat.pow_pos (by omega)
    have h2 : 2 ^ (k + 1) = 2 ^ k + 2 ^ k := by rw [Nat.pow_succ]; omega
    unfold hal
    by_cases h : lo ≤ x ∧ x + 2 ^ (k + 1) ≤ e
    · rw [if_pos h, show max lo x = x by omega, show min e (x + 2 ^ (k + 1)) = x + 2 ^ (k + 1) by omega]
      exact (gre_whole hk hx).symm
    · rw [if_neg h]
      by_cases h3 : e ≤ x ∨ x + 2 ^ (k + 1) ≤ lo
      · rw [if_pos h3, gre_no (by omega)]
      · rw [if_neg h3]
        have hxk : x % 2 ^ k = 0 := Nat.mod_eq_zero_of_dvd (Nat.dvd_trans (Nat.pow_dvd_pow 2 (Nat.le_succ k)) (Nat.dvd_of_mod_eq_zero hx))
        have hmk : (x + 2 ^ k) % 2 ^ k = 0 := by rw [Nat.add_mod_right]; exact hxk
        rw [ih x (by omega) hxk, ih (x + 2 ^ k) (by omega) hmk]
        by_cases hA : e ≤ x + 2 ^ k
        · rw [gre_no (x := max lo (x + 2 ^ k)) (by omega), List.append_nil]
          congr 1
          omega
        · by_cases hB : x + 2 ^ k ≤ lo
          · rw [gre_no (x := max lo x) (e := min e (x + 2 ^ k)) (by omega), List.nil_append]
            congr 1 <;> omega
          · rw [show min e (x + 2 ^ k) = x + 2 ^ k by omega, show max lo (x + 2 ^ k) = x + 2 ^ k by omega, show x + 2 ^ k + 2 ^ k = x + 2 ^ (k + 1) by omega]
            symm
            refine gre_split (k := k) hmk (by omega) (by omega) (by omega) _ _ (Nat.le_refl _) (by omega) (by omega) ?_
            intro hh
            apply h
            omega
theorem hal_top (b lo e : Nat) (h : e ≤ 2 ^ b) : hal b 0 lo e = gre b lo e := by
  rw [hal_gre b lo e b 0 (Nat.le_refl _) (by simp)]
  congr 1 <;> omega
def bitB (v i : Nat) : UInt8 := if v / 2 ^ i % 2 = 1 then 49 else 48
def hiB (v b n : Nat) : List UInt8 := (List.range n).map fun i => bitB v (b - 1 - i)
def preT (b : Nat) (p : Nat × Nat) : List UInt8 := hiB p.1 b (b - p.2) ++ List.replicate p.2 120
theorem hiB_len (v b n : Nat) : (hiB v b n).length = n := by simp [hiB]
theorem preT_len {b : Nat} {p : Nat × Nat} (h : p.2 ≤ b) : (preT b p).length = b := by simp [preT, hiB_len]; omega
theorem bit_shift (v i j : Nat) : bitB (v / 2 ^ j) i = bitB v (i + j) := by
  unfold bitB
  rw [Nat.div_div_eq_div_mul, ← Nat.pow_add, Nat.add_comm j i]
theorem hiB_shift (v b n : Nat) (h : n ≤ b) : hiB (v / 2 ^ (b - n)) n n = hiB v b n := by
  unfold hiB
  apply List.map_congr_left
  intro i hi
  rw [List.mem_range] at hi
  rw [bit_shift]
  congr 1
  omega
end Go.Proofs.YtlakglphjhoodaaDoor.Fl

namespace Go.Proofs.YtlakglphjhoodaaDoor.Fl
open Go.RowKit Mm Law
def topN (n : Nat) : Nat := 2 ^ n - 1
theorem topN_pos (n : Nat) : 0 < 2 ^ n := Nat.pow_pos (by decide)
theorem pow_int (n : Nat) : (2 : Int) ^ n = ((2 ^ n : Nat) : Int) := by simp
theorem pow_33 {n m : Nat} (h : n ≤ m) : 2 ^ n ≤ 2 ^ m := Nat.pow_le_pow_right (by decide) h
theorem topN_int (n : Nat) : (topN n : Int) = (2 : Int) ^ n - 1 := by
  have := topN_pos n
  rw [pow_int]
  unfold topN
  omega
theorem pow_bd (n : Nat) (h : n ≤ 33) : 0 < (2 : Int) ^ n ∧ (2 : Int) ^ n ≤ 8589934592 := by
  have h1 := topN_pos n
  have h2 := pow_33 h
  rw [pow_int]
  have h3 : (2 : Nat) ^ 33 = 8589934592 := by decide
  omega
theorem ret_i {a b : Int} (h : a = b) : Ending.returned (.int .i64 a) = .returned (.int .i64 b) := by rw [h]
theorem top_any (n : Nat) (h : n ≤ 33) (w : World) : Calls Tryd.prog 25 #[.int .i64 (n : Int)] w fun e w' => e = .returned (.int .i64 (topN n : Int)) ∧ w = w' := by
  obtain ⟨p0, p1⟩ := pow_bd n h
  go_enter Tryd.func25, Tryd.ntmps25
  go_wp2
  go_ret
  exact ⟨ret_i (topN_int n).symm, rfl⟩
end Go.Proofs.YtlakglphjhoodaaDoor.Fl

namespace Go.Proofs.YtlakglphjhoodaaDoor.Mm
open Go.RowKit
section
variable {P : Program} {w : World}
theorem run_string_own {base : Nat} {e src dst : TypeId} {v : Value} {n : Nat} {l : List UInt8} (hs : P.underlying src = some (.slice e)) (he : P.underlying e = some (.int .u8)) (hd : P.underlying dst = some .string)
    (h : w.ownsRow base e 1 v n (l.map bv)) : (convert src dst v).run P w = .ok (.string (str l)) w := by
  have hl : l.length = n := by simpa using h.1
  rcases h.2 with ⟨rfl, hn⟩ | ⟨g, cap, cur, rfl, _, hg, _, _, _, htake⟩
  · have : l = [] := List.eq_nil_of_length_eq_zero (by omega)
    subst this
    exact run_convert_bytes_nil w src e hs he _ _ dst hd
  · have := run_convert_bytes_arg (P := P) w src e hs he g 0 n cap (l.map fun b => (b.toNat : Int)) (by simpa using hl) (fun i hi => by
      rw [Nat.zero_add, cell_of_row w g i cur e (0, 0) hg, ← bv_getD l i (by omega), ← htake, List.getElem?_take_of_lt (by omega), Array.getElem?_toList]) dst hd
    rw [this, strOf_map]
theorem run_string_blk {e src dst : TypeId} {g n cap : Nat} {l : List UInt8} (hs : P.underlying src = some (.slice e)) (he : P.underlying e = some (.int .u8)) (hd : P.underlying dst = some .string)
    (hl : l.length = n) (h : Blk w g e (l.map bv).toArray) : (convert src dst (.slice (some ⟨g, 0, none⟩) n cap)).run P w = .ok (.string (str l)) w := by
  have := run_convert_bytes_arg (P := P) w src e hs he g 0 n cap (l.map fun b => (b.toNat : Int)) (by simpa using hl) (fun i hi => by
      rw [Nat.zero_add, h.cell, ← bv_getD l i (by omega), List.getElem?_toArray]) dst hd
  rw [this, strOf_map]
end

theorem made_bytes (n : Nat) : madeCells #[Value.int .u8 0] n = ((List.replicate n (0 : UInt8)).map bv).toArray := by
  apply Array.toList_inj.1
  rw [toList_madeCells_one, List.map_replicate]; rfl

theorem set_take {l t : List UInt8} {k : Nat} {b : UInt8} (hk : k < l.length) (h : l.take k = t.take k) (hb : t[k]? = some b) : (l.set k b).take (k + 1) = t.take (k + 1) := by
  rw [List.take_add_one, List.take_add_one, List.take_set_of_le (by omega), h, hb]
  simp [hk]

theorem blk_put {w : World} {g : Nat} {e : TypeId} {l : List UInt8} (k : Nat) (b : UInt8) (h : Blk w g e (l.map bv).toArray) : Blk (w.setCell ⟨g, k, none⟩ (bv b)) g e ((l.set k b).map bv).toArray := by
  have := h.set_ k (bv b)
  rw [List.map_set]
  simpa using this
theorem info_u8 : (Tryd.prog.info? 5).map (fun i => (i.zero, i.size, i.bytes)) = some (some (.int .u8 0), 1, 1) := by kernel_rfl
theorem app_byte {B : Nat} {v : Value} {n : Nat} {l : List UInt8} {w : World} (b : UInt8) {ops : Array Oper} {rest : List Oper} {o : Oper} {a : Act} {Q : Exit → Act → World → Prop} {s x : Operand}
    (hown : w.ownsRow B 5 1 v n (l.map bv)) (hgd : o.guard = none) (ho : o.op = .call { callee := .builtin .append, args := #[s, x], argTypes := #[77, 77] })
    (hs : a.eval s = v) (hx : a.eval x = .slice (some ⟨w.heap.size, 0, none⟩) 1 1) (hn : n ≤ 1000000) (hB : B ≤ w.heap.size)
    (h : ∀ v' w', w'.ownsRow B 5 1 v' (n + 1) ((l ++ [b]).map bv) → Below B w w' → wpList Tryd.prog ops Q rest (a.put o.dst v') w') : wpList Tryd.prog ops Q (o :: rest) a (w.alloc (.cells #[bv b] 5)) := by
  obtain ⟨i0, hi, hz0, hz1, hz2⟩ := info_parts info_u8
  refine wpList_append_own _ hgd s x 77 ho B 5 i0 (.int .u8 0) 1 1 Tryd.underlying77 hi hz0 hz1 hz2 rfl (by decide) v n _ hs (hown.alloc _) ⟨w.heap.size, 0, none⟩ 1 1 [bv b] hx rfl (cell_one_new _ _ _)
    (by simp [bv, Value.oneCell']) (by simp only [maxLen]; omega) (by omega) (by simp; omega) ?_
  intro v' w1 hown' hg _
  refine h v' w1 (by rw [List.map_append]; exact hown') ?_
  have h1 : Below B w (w.alloc (.cells #[bv b] 5)) := (Below.refl _ _).alloc hB _
  exact h1.grown hg (by simp; omega) (fun k hk => (hown.lt k hk).1)
theorem str_own {w : World} {B : Nat} {v : Value} {n : Nat} {l : List UInt8} (h : w.ownsRow B 5 1 v n (l.map bv)) : (convert 77 9 v).run Tryd.prog w = .ok (.string (str l)) w :=
  run_string_own Tryd.underlying77 Tryd.underlying5 Tryd.underlying9 h
theorem own_nilB (w : World) (B : Nat) : w.ownsRow B 5 1 (.slice none 0 0) 0 (([] : List UInt8).map bv) := World.ownsRow_nil w B 5 1

theorem make_bytes (n : Nat) (h : n ≤ 1000000) (u : World) : (Instr.makeSlice 77 (.int .i64 (n : Int)) (.int .i64 (n : Int))).run Tryd.prog u =
    .ok (.slice (some ⟨u.heap.size, 0, none⟩) n n) (u.alloc (.cells ((List.replicate n (0 : UInt8)).map bv).toArray 5)) := by
  obtain ⟨i0, hi, hz0, hz1, hz2⟩ := info_parts info_u8
  have h := run_make (P := Tryd.prog) u 77 5 i0 (.int .u8 0) Tryd.underlying77 hi hz0 .i64 .i64 (n : Int) (n : Int) (by omega) (Int.le_refl _) (by rw [hz2]; omega) (by omega)
  rw [← made_bytes]
  simpa [hz1, Value.cells] using h
end Go.Proofs.YtlakglphjhoodaaDoor.Mm

namespace Go.Proofs.YtlakglphjhoodaaDoor.Fl
open Go.RowKit Mm Law
theorem bits_i64 (x y : Nat) (h : x < 4294967296) (k : y < 4294967296) : bits .xor .i64 (x : Int) (y : Int) = ((x ^^^ y : Nat) : Int) := by
  have hx : x ^^^ y < 2 ^ 32 := Nat.xor_lt_two_pow (by omega) (by omega)
  show IntKind.i64.wrap ((BitVec.ofInt 64 (x : Int) ^^^ BitVec.ofInt 64 (y : Int)).toNat : Int) = _
  have e1 : (BitVec.ofInt 64 (x : Int)).toNat = x := by rw [BitVec.toNat_ofInt]; omega
  have e2 : (BitVec.ofInt 64 (y : Int)).toNat = y := by rw [BitVec.toNat_ofInt]; omega
  rw [BitVec.toNat_xor, e1, e2]
  exact IntWalk.i64_in _ (by omega)
theorem and1_i64 (x : Nat) (h : x < 4294967296) : bits .and .i64 (x : Int) 1 = ((x % 2 : Nat) : Int) := by
  show IntKind.i64.wrap ((BitVec.ofInt 64 (x : Int) &&& BitVec.ofInt 64 (1 : Int)).toNat : Int) = _
  have e1 : (BitVec.ofInt 64 (x : Int)).toNat = x := by rw [BitVec.toNat_ofInt]; omega
  have e2 : (BitVec.ofInt 64 (1 : Int)).toNat = 1 := by decide
  rw [BitVec.toNat_and, e1, e2, Nat.and_one_is_mod]
  exact IntWalk.i64_in _ (by omega)
theorem bit_val (v j : Nat) (hv : v < 4294967296) : wrap64 (48 + bits BinOp.and IntKind.i64 ((v : Int) / 2 ^ j) 1) % 256 = ((bitB v j).toNat : Int) := by
  have h0 : (v : Int) / 2 ^ j = ((v / 2 ^ j : Nat) : Int) := by rw [pow_int]; simp
  have h1 : v / 2 ^ j ≤ v := Nat.div_le_self _ _
  have h2 : bits BinOp.and IntKind.i64 ((v : Int) / 2 ^ j) 1 = ((v / 2 ^ j % 2 : Nat) : Int) := by
    rw [h0]
    exact and1_i64 (v / 2 ^ j) (by omega)
  rw [h2]
  have h3 : v / 2 ^ j % 2 = 0 ∨ v / 2 ^ j % 2 = 1 := by omega
  unfold bitB
  rcases h3 with h3 | h3 <;> rw [h3] <;> simp [wrap64]
theorem hiB_get (v b n k : Nat) (h : k < n) : (hiB v b n)[k]? = some (bitB v (b - 1 - k)) := by simp [hiB, h]
theorem new_bytes (w : World) (n : Nat) : Blk (w.alloc (.cells (Array.replicate n (bv 0)) 5)) w.heap.size 5 ((List.replicate n (0 : UInt8)).map bv).toArray := by
  have e : ((List.replicate n (0 : UInt8)).map bv).toArray = Array.replicate n (bv 0) := by simp
  rw [e]
  exact Blk.new w _ _
set_option maxRecDepth 100000 in
set_option maxHeartbeats 1000000 in
theorem binary_any (v b n : Nat) (hv : v < 4294967296) (hb : b ≤ 32) (hn : n ≤ b) (w : World) :
    Calls Tryd.prog 36 #[.int .i64 (v : Int), .int .i64 (b : Int), .int .i64 (n : Int)] w fun e w' => e = .returned (.string (str (hiB v b n))) ∧ Below w.heap.size w w' := by
  have hmk := make_bytes n (by omega)
  go_enter Tryd.func36, Tryd.ntmps36
  go_wp2
  clear hmk
  go_loopw [13] (fun i wr => ∃ (k : Nat) (l : List UInt8), k ≤ n ∧ i = .int .i64 k ∧ l.length = n ∧ l.take k = (hiB v b n).take k ∧ Blk wr w.heap.size 5 (l.map bv).toArray ∧ Below w.heap.size w wr) (fun i _ => n - (intOf i).toNat)
  case atStart => exact ⟨0, List.replicate n 0, Nat.zero_le _, rfl, by simp, rfl, new_bytes w n, bal (Below.refl _ _) _⟩
  case round =>
    obtain ⟨k, l, hk, rfl, hl, htk, hb1, hbel⟩ := hrel
    by_cases hlt : k < n
    · have hcell : wr.cell? ⟨w.heap.size, k, none⟩ = some (bv (l.getD k 0)) := by
        rw [hb1.cell]; simp [hl, hlt]
      have hfz := hb1.frozen k
      have HT := Lib.hid (And.intro htk hl)
      clear htk hl
      have hval := bit_val v (b - 1 - k) hv
      go_wp2
      go_roundw
      case rel =>
        obtain ⟨h1, h2⟩ := HT.out
        refine ⟨k + 1, l.set k (bitB v (b - 1 - k)), by omega, by go_num, by simpa using h2, set_take (by omega) h1 (hiB_get v b n k hlt), blk_put k _ hb1, hbel.setCell (by simp) _⟩
      case measure => simp [intOf]; omega
    · have hkn : k = n := by omega
      have hL : l = hiB v b n := by
        rw [hkn, List.take_of_length_le (by omega), List.take_of_length_le (by rw [hiB_len]; omega)] at htk
        exact htk
      subst hL
      have hst := run_string_blk (cap := n) Tryd.underlying77 Tryd.underlying5 Tryd.underlying9 hl hb1
      clear htk hl hkn
      go_wp2
      go_ret
      exact ⟨rfl, hbel⟩
theorem bit_test (v j : Nat) (hv : v < 4294967296) : bits BinOp.and IntKind.i64 ((v : Int) / 2 ^ j) 1 = ((v / 2 ^ j % 2 : Nat) : Int) := by
  have h0 : (v : Int) / 2 ^ j = ((v / 2 ^ j : Nat) : Int) := by rw [pow_int]; simp
  have h1 : v / 2 ^ j ≤ v := Nat.div_le_self _ _
  rw [h0]
  exact and1_i64 (v / 2 ^ j) (by omega)
theorem hiB_snoc (v b k j : Nat) (h : b = k + 1 + j) : (hiB v b b).take (k + 1) = (hiB v b b).take k ++ [bitB v j] := by
  have hg := hiB_get v b b k (by omega)
  rw [show b - 1 - k = j by omega] at hg
  have hlt : k < (hiB v b b).length := by rw [hiB_len]; omega
  rw [List.take_succ_eq_append_getElem hlt]
  rw [List.getElem?_eq_getElem hlt] at hg
  rw [Option.some.inj hg]
end Go.Proofs.YtlakglphjhoodaaDoor.Fl
