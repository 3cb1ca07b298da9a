/- Pack: the plain law; Itoa as a walk wants it. -/
import Derived.Test.YtcofndegcleicaaDoorSb
import Derived.Test.YtcofndegcleicaaDoorAs
import Derived.Test.YtcofndegcleicaaDoorHd
import Derived.Lib.SmallJoins
import Derived.Lib.AppendIntMem
import Derived.Lib.ItoaLen
namespace Go.Proofs.YtcofndegcleicaaDoor.Lg
open Go.RowKit Mm Law
abbrev Tab (w : World) : Prop := Lib.TabIs Tryd.prog w "internal/strconv.uint64pow10" .u64 Lib.pow10Tab
theorem tab_named : ∃ g, Tryd.prog.globalNamed "internal/strconv.uint64pow10" = some g := Option.isSome_iff_exists.1 (by kernel_rfl)
theorem tab_below {w w' : World} (h : Tab w) (hb : Below w.heap.size w w') : Tab w' := by
  obtain ⟨g, hg⟩ := tab_named
  exact Joins.tab_stays hg h hb (Nat.le_refl _)
theorem itoa_any (n : Nat) (hn : n ≤ 9223372036854775807) (w : World) (h : Tab w) :
    Calls Tryd.prog 25 #[.int .i64 (n : Int)] w fun e w' => e = .returned (.string (str (Lib.itoa (n : Int)))) ∧ Below w.heap.size w w' := by
  refine (Tryd.strconv_Itoa (n : Int) (by omega) (by omega) w h).mono ?_
  rintro e w' ⟨he, k, os, rfl⟩
  exact ⟨he, Lib.below_grow _ _ (Nat.le_refl _) _ _⟩
def lnT (s : ByteArray) : List UInt8 := Lib.itoa (s.size : Int) ++ (58 :: s.data.toList)
def pkL (l : List ByteArray) : List UInt8 := (l.map lnT).flatten
theorem pkL_succ {l : List ByteArray} {k : Nat} (h : k < l.length) : pkL (l.take (k + 1)) = pkL (l.take k) ++ lnT l[k] := by
  rw [List.take_succ_eq_append_getElem h]
  unfold pkL
  rw [List.map_append, List.flatten_append]
  simp
theorem pkL_le (l : List ByteArray) (k : Nat) : (pkL (l.take k)).length ≤ (pkL l).length := by
  have e : pkL l = pkL (l.take k) ++ pkL (l.drop k) := by
    unfold pkL
    rw [← List.flatten_append, ← List.map_append, List.take_append_drop]
  rw [e, List.length_append]
  omega
theorem lnT_len (s : ByteArray) : (lnT s).length = (Lib.itoa (s.size : Int)).length + 1 + s.size := by
  unfold lnT
  rw [List.length_append, List.length_cons, len_s]
  omega
def pkE (l : List ByteArray) : Int := if 16384 < (pkL l).length then 2 else 0
def pkS (l : List ByteArray) : List UInt8 := if 16384 < (pkL l).length then [] else pkL l
theorem pk_big {l : List ByteArray} {k : Nat} (h : 16384 < (pkL (l.take k)).length) : pkE l = 2 ∧ pkS l = [] := by
  have := pkL_le l k
  unfold pkE pkS
  rw [if_pos (by omega), if_pos (by omega)]
  exact ⟨rfl, rfl⟩
theorem pk_ok {l : List ByteArray} (h : (pkL l).length ≤ 16384) : pkE l = 0 ∧ pkS l = pkL l := by
  unfold pkE pkS
  rw [if_neg (by omega), if_neg (by omega)]
  exact ⟨rfl, rfl⟩
theorem pk_form (l : List ByteArray) : -9223372036854775808 ≤ pkE l ∧ pkE l ≤ 9223372036854775807 := by
  unfold pkE
  split <;> decide
def PkAns (w : World) (l : List ByteArray) (e : Ending) (w' : World) : Prop := e = .returned (.tuple #[.string (str (pkS l)), .int .i64 (pkE l)]) ∧ Below w.heap.size w w'
theorem pk_ans {w : World} {l : List ByteArray} {s : ByteArray} {c : Int} {t : List UInt8} (h : pkE l = c ∧ pkS l = t) (hs : s = str t) {w' : World} (hb : Below w.heap.size w w') : PkAns w l (.returned (.tuple #[.string s, .int .i64 c])) w' := by
  unfold PkAns
  rw [h.1, h.2, hs]
  exact ⟨rfl, hb⟩
theorem itoa_short (n : Nat) (hn : n ≤ 9223372036854775807) : (Lib.itoa (n : Int)).length ≤ 21 := Lib.itoa_length_le _ (by omega) (by omega)
theorem SB_below {B b : Nat} {l : List UInt8} {w w' : World} (h : SB B b l w) (hb : Below w.heap.size w w') : SB B b l w' := by
  have hh : ∀ p, Lib.BuilderAt 69 5 B b p (Lib.byteCells l) w → Lib.BuilderAt 69 5 B b p (Lib.byteCells l) w' := by
    rintro p ⟨h1, v, h2, h3, h4⟩
    exact ⟨h1, v, (hb.block b (Array.getElem?_eq_some_iff.1 h2).1).trans h2, own_below h3 hb (Nat.le_refl _), h4⟩
  exact h.imp (hh _) (hh _)
theorem SB_new (w : World) (B : Nat) (h : B ≤ w.heap.size) : SB B w.heap.size [] (w.alloc (.cells #[.pointer none, .slice none 0 0] 69)) :=
  .inl ⟨h, .slice none 0 0, Blk.new w _ _, World.ownsRow_nil _ _ _ _, by simp [Value.ownBlock]⟩
theorem sb_len (B b : Nat) (l : List UInt8) (w : World) (h : SB B b l w) :
    Calls Tryd.prog 29 #[.pointer (some ⟨b, 0, none⟩)] w fun e w' => e = .returned (.int .i64 l.length) ∧ w' = w := by
  have e : ((Lib.byteCells l).length : Int) = (l.length : Int) := by rw [Lib.byteCells_length]
  rw [← e]
  exact Tryd.Builder_Len B b _ w h
end Go.Proofs.YtcofndegcleicaaDoor.Lg
