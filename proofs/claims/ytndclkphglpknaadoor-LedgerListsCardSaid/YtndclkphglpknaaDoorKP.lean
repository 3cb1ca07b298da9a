/- Tables, lines and lists of texts, ported -/
import Derived.Test.YtndclkphglpknaaDoorBt
import Derived.Shelf.Strings.Builder1
import Derived.Test.YtndclkphglpknaaDoorShelf
import Derived.Test.YtndclkphglpknaaDoorAs
import Derived.Test.YtndclkphglpknaaDoorHd
import Derived.Lib.SmallJoins
import Derived.Lib.AppendIntMem
import Derived.Lib.ItoaLen
import Derived.Lib.QuietBelow
import Derived.Deep.DeepCutAuto
import Derived.StillTailTactics
namespace Go.Proofs.YtndclkphglpknaaDoor.Mm
open Go.RowKit Go.Shelf
end Go.Proofs.YtndclkphglpknaaDoor.Mm

namespace Go.Proofs.YtndclkphglpknaaDoor.Lg
open Go.RowKit Mm Law
abbrev Tab (w : World) : Prop := Lib.TabIs Tryd.prog w "internal/strconv.uint64pow10" .u64 Lib.pow10Tab
theorem tab_named : ∃ g, Tryd.prog.globalNamed "internal/strconv.uint64pow10" = some g := Option.isSome_iff_exists.1 (by kernel_rfl)
theorem tab_below {w w' : World} (h : Tab w) (hb : Below w.heap.size w w') : Tab w' := by
  obtain ⟨g, hg⟩ := tab_named
  exact Joins.tab_stays hg h hb (Nat.le_refl _)
theorem itoa_any (n : Nat) (hn : n ≤ 9223372036854775807) (w : World) (h : Tab w) :
    Calls Tryd.prog 14 #[.int .i64 (n : Int)] w fun e w' => e = .returned (.string (str (Lib.itoa (n : Int)))) ∧ Below w.heap.size w w' := by
  refine (Tryd.strconv_Itoa (n : Int) (by omega) (by omega) w h).mono ?_
  rintro e w' ⟨he, k, os, rfl⟩
  exact ⟨he, Lib.below_grow _ _ (Nat.le_refl _) _ _⟩
def lnT (s : ByteArray) : List UInt8 := Lib.itoa (s.size : Int) ++ (58 :: s.data.toList)
def pkL (l : List ByteArray) : List UInt8 := (l.map lnT).flatten
theorem pkL_succ {l : List ByteArray} {k : Nat} (h : k < l.length) : pkL (l.take (k + 1)) = pkL (l.take k) ++ lnT l[k] := by
  rw [List.take_succ_eq_append_getElem h]
  unfold pkL
  rw [List.map_append, List.flatten_append]
  simp
theorem pkL_le (l : List ByteArray) (k : Nat) : (pkL (l.take k)).length ≤ (pkL l).length := by
  have e : pkL l = pkL (l.take k) ++ pkL (l.drop k) := by
    unfold pkL
    rw [← List.flatten_append, ← List.map_append, List.take_append_drop]
  rw [e, List.length_append]
  omega
theorem lnT_len (s : ByteArray) : (lnT s).length = (Lib.itoa (s.size : Int)).length + 1 + s.size := by
  unfold lnT
  rw [List.length_append, List.length_cons, len_s]
  omega
def pkE (l : List ByteArray) : Int := if 16384 < (pkL l).length then 2 else 0
def pkS (l : List ByteArray) : List UInt8 := if 16384 < (pkL l).length then [] else pkL l
theorem pk_big {l : List ByteArray} {k : Nat} (h : 16384 < (pkL (l.take k)).length) : pkE l = 2 ∧ pkS l = [] := by
  have := pkL_le l k
  unfold pkE pkS
  rw [if_pos (by omega), if_pos (by omega)]
  exact ⟨rfl, rfl⟩
theorem pk_ok {l : List ByteArray} (h : (pkL l).length ≤ 16384) : pkE l = 0 ∧ pkS l = pkL l := by
  unfold pkE pkS
  rw [if_neg (by omega), if_neg (by omega)]
  exact ⟨rfl, rfl⟩
theorem pk_form (l : List ByteArray) : -9223372036854775808 ≤ pkE l ∧ pkE l ≤ 9223372036854775807 := by
  unfold pkE
  split <;> decide
def PkAns (w : World) (l : List ByteArray) (e : Ending) (w' : World) : Prop := e = .returned (.tuple #[.string (str (pkS l)), .int .i64 (pkE l)]) ∧ Below w.heap.size w w'
theorem pk_ans {w : World} {l : List ByteArray} {s : ByteArray} {c : Int} {t : List UInt8} (h : pkE l = c ∧ pkS l = t) (hs : s = str t) {w' : World} (hb : Below w.heap.size w w') : PkAns w l (.returned (.tuple #[.string s, .int .i64 c])) w' := by
  unfold PkAns
  rw [h.1, h.2, hs]
  exact ⟨rfl, hb⟩
theorem itoa_short (n : Nat) (hn : n ≤ 9223372036854775807) : (Lib.itoa (n : Int)).length ≤ 21 := Lib.itoa_length_le _ (by omega) (by omega)
end Go.Proofs.YtndclkphglpknaaDoor.Lg

namespace Go.Proofs.YtndclkphglpknaaDoor.Lg
open Go.RowKit Mm Law
theorem itoa_cls (n : Nat) (hn : n ≤ 9223372036854775807) (w : World) (h : Tab w) (d : Nat) (os : Array Obj) :
    Calls Tryd.prog 14 #[.int .i64 (n : Int)] (Sort.grow (redrawn w d) os) fun e w'' => e = .returned (.string (str (Lib.itoa (n : Int)))) ∧ ∃ p : Regrown, w'' = Sort.grow (redrawn w p.d) p.os :=
  Calls.regrown_of (itoa_any n hn _ (tab_below h (below_regrown w d os)))
theorem str_cat (a b : List UInt8) (s : ByteArray) : str a ++ str b ++ ⟨#[58]⟩ ++ s = str (a ++ (b ++ (58 :: s.data.toList))) := by
  apply ByteArray.ext
  apply Array.ext'
  simp [str, ByteArray.data_append]
end Go.Proofs.YtndclkphglpknaaDoor.Lg

namespace Go.Proofs.YtndclkphglpknaaDoor.Lg
open Go.RowKit Mm Law
def behind : ByteArray := ⟨#[98, 101, 104, 105, 110, 100]⟩
def farB : ByteArray := ⟨#[102, 97, 114, 32, 98, 101, 104, 105, 110, 100]⟩
theorem info_str : (Tryd.prog.info? 9).map (fun i => (i.zero, i.size, i.bytes)) = some (some (.string .empty), 1, 16) := by kernel_rfl
theorem sC_one (l : List ByteArray) : ∀ u ∈ sC l, u.oneCell' = true := by
  intro u hu
  simp only [sC, List.mem_map] at hu
  obtain ⟨s, _, rfl⟩ := hu
  rfl
theorem app_strs {B : Nat} {v : Value} {n : Nat} {xs : List Value} {l : List ByteArray} {w : World} {sv : Value} {ops : Array Oper} {rest : List Oper} {op : Oper} {a : Act} {Q : Exit → Act → World → Prop} {s x : Operand}
    (hown : w.ownsRow B 9 1 v n xs) (hS : Sees w sv (sC l)) (hgd : op.guard = none) (ho : op.op = .call { callee := .builtin .append, args := #[s, x], argTypes := #[27, 27] })
    (hs : a.eval s = v) (hx : a.eval x = sv) (hn : (n + l.length) * 16 ≤ 140737488355328) (hB : B ≤ w.heap.size)
    (h : ∀ v' w', w'.ownsRow B 9 1 v' (n + l.length) (xs ++ sC l) → w.grownBy w' v.ownBlock → wpList Tryd.prog ops Q rest (a.put op.dst v') w') : wpList Tryd.prog ops Q (op :: rest) a w := by
  refine app_sees 27 Tryd.underlying27 info_str rfl hown hS hgd ho hs hx (sC_one l) (by rw [sC_len]; simp only [maxLen]; omega) (by rw [sC_len]; omega) hB ?_
  intro v' w' h1 h2
  rw [sC_len] at h1
  exact h v' w' h1 h2
theorem own_empty (w : World) (t : TypeId) {B : Nat} (hB : B ≤ w.heap.size) : (w.alloc (.cells #[] t)).ownsRow B t 1 (.slice (some ⟨w.heap.size, 0, none⟩) 0 0) 0 [] := by
  refine ⟨rfl, .inr ⟨_, 0, #[], rfl, hB, heap_alloc_new w _, Nat.le_refl _, by decide, by simp, ?_⟩⟩
  simp
theorem own_cap {w : World} {B : Nat} {e : TypeId} {s n : Nat} {v : Value} {xs : List Value} (h : w.ownsRow B e s v n xs) (hn : 0 < n) : ∃ g cap, v = .slice (some ⟨g, 0, none⟩) n cap ∧ n ≤ cap ∧ cap ≤ maxLen := by
  rcases h.2 with ⟨_, h0⟩ | ⟨g, cap, cur, hv, _, hg, hc, hm, _, _⟩
  · omega
  · exact ⟨g, cap, hv, hc, hm⟩
theorem sees_new (w : World) (t : TypeId) (cs : Array Value) (h : cs.size ≤ maxLen) : Sees (w.alloc (.cells cs t)) (.slice (some ⟨w.heap.size, 0, none⟩) cs.size cs.size) cs.toList := by
  refine ⟨some ⟨w.heap.size, 0, none⟩, cs.size, by simp, (fun h => by cases h), by simp, h, .inr ⟨w.heap.size, 0, rfl, by simp, fun j u hj => ?_⟩⟩
  have := cells_new w cs t j u hj
  rw [add_off] at this
  rw [Nat.zero_add]
  exact this
theorem behind_eq : (behind.toList == [98, 101, 104, 105, 110, 100]) = true := by rw [ByteArray.toList_eq]; decide
theorem farB_eq : (farB.toList == [102, 97, 114, 32, 98, 101, 104, 105, 110, 100]) = true := by rw [ByteArray.toList_eq]; decide
end Go.Proofs.YtndclkphglpknaaDoor.Lg
