/- Number, the document's and the program's. -/
import Derived.Test.YtcikhbbljhkheaaDoorPn
import Derived.Test.YtcikhbbljhkheaaDoorBt
import Derived.Test.YtcikhbbljhkheaaDoorShelf
import Derived.Lib.AppendIntMem
namespace Go.Proofs.YtcikhbbljhkheaaDoor.Sn
open Go.RowKit Mm
abbrev dd (n : Nat) : List UInt8 := Lib.decDigits n
def quadL (v : Nat) : List UInt8 := dd (v / 16777216) ++ [46] ++ dd (v / 65536 % 256) ++ [46] ++ dd (v / 256 % 256) ++ [46] ++ dd (v % 256)
def numB (v : Int) : Prop := 0 ≤ v ∧ v ≤ 4294967295
instance (v : Int) : Decidable (numB v) := by unfold numB; infer_instance
def numE (v : Int) : Int := if numB v then 0 else 31
def numT (v : Int) (d : Bool) : ByteArray := if numB v then (if d then str (quadL v.toNat) else str (dd v.toNat)) else ⟨#[]⟩
def NumAns (w : World) (v : Int) (d : Bool) (e : Ending) (w' : World) : Prop := e = .returned (.tuple #[.string (numT v d), .int .i64 (numE v)]) ∧ Below w.heap.size w w'
theorem num_bad {w w' : World} {v : Int} {d : Bool} (h : ¬ numB v) (hb : Below w.heap.size w w') : NumAns w v d (.returned (.tuple #[.string ⟨#[]⟩, .int .i64 31])) w' := by
  unfold NumAns numT numE
  rw [if_neg h, if_neg h]
  exact ⟨rfl, hb⟩
theorem num_ok {w w' : World} {n : Nat} {d : Bool} {s : ByteArray} (h : n ≤ 4294967295) (hs : s = if d then str (quadL n) else str (dd n)) (hb : Below w.heap.size w w') : NumAns w (n : Int) d (.returned (.tuple #[.string s, .int .i64 0])) w' := by
  have hB : numB (n : Int) := ⟨by omega, by omega⟩
  unfold NumAns numT numE
  rw [if_pos hB, if_pos hB, hs]
  exact ⟨rfl, hb⟩
theorem dd_len (n : Nat) (h : n < 4294967296) : (str (dd n)).size ≤ 20 := by
  rw [str_size, Lib.decDigits_length]
  exact Lib.nDigits_le20 _ (by omega)
theorem plain_bel (n : Nat) (h : n < 4294967296) (w : World) : Calls Tryd.prog 17 #[.int .i64 (n : Int)] w fun e w' => e = .returned (.string (str (dd n))) ∧ Below w.heap.size w w' := by
  refine (plain_any n h w).mono ?_
  rintro e w' ⟨he, m, rfl⟩
  exact ⟨he, below_drewN (Below.refl _ _) m⟩
set_option maxRecDepth 100000 in
set_option maxHeartbeats 4000000 in
theorem rnumber_any (v : Int) (d : Bool) (w : World) : Calls Tryd.prog 8 #[.int .i64 v, .bool d] w (NumAns w v d) := by
  by_cases hv : v < 0
  · have HB := Lib.hid (num_bad (w := w) (w' := w) (d := d) (show ¬ numB v from fun h => by have := h.1; omega) (Below.refl _ _))
    go_enter Tryd.func8, Tryd.ntmps8
    go_wp2
    go_ret2
    exact HB.out
  by_cases hm : 4294967295 < v
  · have HB := Lib.hid (num_bad (w := w) (w' := w) (d := d) (show ¬ numB v from fun h => by have := h.2; omega) (Below.refl _ _))
    go_enter Tryd.func8, Tryd.ntmps8
    go_wp2
    go_ret2
    exact HB.out
  obtain ⟨n, rfl⟩ : ∃ n : Nat, v = (n : Int) := ⟨v.toNat, by omega⟩
  have hn : n ≤ 4294967295 := by omega
  cases d
  · have HP := Lib.hid (plain_bel n (by omega) w)
    have HO := Lib.hid (fun w' => num_ok (w := w) (w' := w') (d := false) hn (s := str (dd n)) (by simp))
    generalize str (dd n) = s at *
    go_enter Tryd.func8, Tryd.ntmps8
    go_wp2_with fail
    refine HP.out.mono ?_
    rintro e w' ⟨rfl, hb⟩
    go_wp2_with fail
    go_ret2
    exact HO.out _ hb
  · have H1 := Lib.hid (plain_bel (n / 16777216) (by omega))
    have H2 := Lib.hid (plain_bel (n / 65536 % 256) (by omega))
    have H3 := Lib.hid (plain_bel (n / 256 % 256) (by omega))
    have H4 := Lib.hid (plain_bel (n % 256) (by omega))
    rw [show ((n / 16777216 : Nat) : Int) = (n : Int) / 16777216 from by omega] at H1
    rw [show ((n / 65536 % 256 : Nat) : Int) = (n : Int) / 65536 % 256 from by omega] at H2
    rw [show ((n / 256 % 256 : Nat) : Int) = (n : Int) / 256 % 256 from by omega] at H3
    rw [show ((n % 256 : Nat) : Int) = (n : Int) % 256 from by omega] at H4
    have d1 := dd_len (n / 16777216) (by omega)
    have d2 := dd_len (n / 65536 % 256) (by omega)
    have d3 := dd_len (n / 256 % 256) (by omega)
    have d4 := dd_len (n % 256) (by omega)
    have HO := Lib.hid (fun w' => num_ok (w := w) (w' := w') (d := true) hn (s := str (dd (n / 16777216)) ++ ⟨#[46]⟩ ++ str (dd (n / 65536 % 256)) ++ ⟨#[46]⟩ ++ str (dd (n / 256 % 256)) ++ ⟨#[46]⟩ ++ str (dd (n % 256))) (by
      rw [if_pos rfl, show (⟨#[46]⟩ : ByteArray) = str [46] from rfl, str_app, str_app, str_app, str_app, str_app, str_app]; rfl))
    generalize str (dd (n / 16777216)) = z1 at *
    generalize str (dd (n / 65536 % 256)) = z2 at *
    generalize str (dd (n / 256 % 256)) = z3 at *
    generalize str (dd (n % 256)) = z4 at *
    have HZ := Lib.hid (And.intro d1 (And.intro d2 (And.intro d3 d4)))
    clear d1 d2 d3 d4
    go_enter Tryd.func8, Tryd.ntmps8
    go_wp2_with fail
    refine (H1.out _).mono ?_
    rintro e w1 ⟨rfl, hb1⟩
    have s1 : ¬ 9223372036854775807 < z1.size + 1 := by have := HZ.out; omega
    have s2 : ¬ 9223372036854775807 < z1.size + 1 + z2.size := by have := HZ.out; omega
    have s3 : ¬ 9223372036854775807 < z1.size + 1 + z2.size + 1 := by have := HZ.out; omega
    have s4 : ¬ 9223372036854775807 < z1.size + 1 + z2.size + 1 + z3.size := by have := HZ.out; omega
    have s5 : ¬ 9223372036854775807 < z1.size + 1 + z2.size + 1 + z3.size + 1 := by have := HZ.out; omega
    have s6 : ¬ 9223372036854775807 < z1.size + 1 + z2.size + 1 + z3.size + 1 + z4.size := by have := HZ.out; omega
    go_wp2_with fail
    refine (H2.out _).mono ?_
    rintro e w2 ⟨rfl, hb2⟩
    go_wp2_with fail
    refine (H3.out _).mono ?_
    rintro e w3 ⟨rfl, hb3⟩
    go_wp2_with fail
    refine (H4.out _).mono ?_
    rintro e w4 ⟨rfl, hb4⟩
    go_wp2_with fail
    go_ret2
    exact HO.out _ (bnx (bnx (bnx hb1 hb2) hb3) hb4)
def prt (n : Nat) : Nat → List UInt8
  | 0 => dd (n / 16777216) ++ [46]
  | 1 => dd (n / 65536 % 256) ++ [46]
  | 2 => dd (n / 256 % 256) ++ [46]
  | _ => dd (n % 256)
def pre (n : Nat) : Nat → List UInt8
  | 0 => []
  | k + 1 => pre n k ++ prt n k
theorem pre_4 (n : Nat) : pre n 4 = quadL n := by simp [pre, prt, quadL]
theorem dl (n : Nat) (h : n < 4294967296) : (dd n).length ≤ 20 := by rw [Lib.decDigits_length]; exact Lib.nDigits_le20 _ (by omega)
theorem pre_len (n : Nat) (h : n ≤ 4294967295) : ∀ k, (pre n k).length ≤ 21 * k := by
  intro k
  induction k with
  | zero => simp [pre]
  | succ k ih =>
    have hp : (prt n k).length ≤ 21 := by
      have a := dl (n / 16777216) (by omega)
      have b := dl (n / 65536 % 256) (by omega)
      have c := dl (n / 256 % 256) (by omega)
      have d := dl (n % 256) (by omega)
      unfold prt
      split <;> simp [List.length_append] at * <;> omega
    simp only [pre, List.length_append]
    omega
end Go.Proofs.YtcikhbbljhkheaaDoor.Sn
