/- The document's Quote. -/
import Derived.Test.YtcikhbbljhkheaaDoorQs
import Derived.Test.YtcikhbbljhkheaaDoorQv
namespace Go.Proofs.YtcikhbbljhkheaaDoor.Sn
open Go.RowKit Mm
set_option linter.unusedVariables false
def quoteFrom (s : ByteArray) : Nat → Nat → List UInt8
  | 0, _ => []
  | f + 1, i => if i < s.size then pieceP s i ++ quoteFrom s f (i + (Utf8.decode s i).2) else []
def quoteL (s : ByteArray) : List UInt8 := 34 :: quoteFrom s s.size 0 ++ [34]
def quE (s : ByteArray) : Int := if s.size ≤ 256 then 0 else 37
def quT (s : ByteArray) : ByteArray := if s.size ≤ 256 then str (quoteL s) else ⟨#[]⟩
def QuAns (w : World) (s : ByteArray) (e : Ending) (w' : World) : Prop := e = .returned (.tuple #[.string (quT s), .int .i64 (quE s)]) ∧ Below w.heap.size w w'
theorem quote_end (s : ByteArray) (f i : Nat) (h : ¬ i < s.size) : quoteFrom s f i = [] := by
  cases f with
  | zero => rfl
  | succ f => simp [quoteFrom, h]
theorem quote_step {s : ByteArray} {f i : Nat} {acc : List UInt8} {T : List UInt8} (hi : i < s.size) (h : acc ++ quoteFrom s (f + 1) i = T) : (acc ++ pieceP s i) ++ quoteFrom s f (i + (Utf8.decode s i).2) = T := by
  rw [← h]
  simp [quoteFrom, hi]
theorem okR_le {r : Nat} (h : okR r) : r ≤ 1114111 := by unfold okR at h; omega
theorem dec_pos (s : ByteArray) (i : Nat) (hi : i < s.size) : 1 ≤ (Utf8.decode s i).2 ∧ i + (Utf8.decode s i).2 ≤ s.size := by
  by_cases h : Utf8.decode s i = (65533, 1)
  · rw [h]; exact ⟨Nat.le_refl _, hi⟩
  · obtain ⟨_, a, b, _⟩ := dec_bytes s i hi h; exact ⟨b, a⟩
theorem piece_len (s : ByteArray) (i : Nat) (hi : i < s.size) : (pieceP s i).length ≤ 10 := by
  unfold pieceP
  split
  · simp [looseP]
  · rename_i h
    exact runeP_len (okR_le (dec_bytes s i hi h).1)
theorem qu_big {w w' : World} {s : ByteArray} (h : ¬ s.size ≤ 256) (hb : Below w.heap.size w w') : QuAns w s (.returned (.tuple #[.string ⟨#[]⟩, .int .i64 37])) w' := by
  unfold QuAns quT quE
  rw [if_neg h, if_neg h]
  exact ⟨rfl, hb⟩
theorem qu_ok {w w' : World} {s : ByteArray} {t : ByteArray} (h : s.size ≤ 256) (ht : t = str (quoteL s)) (hb : Below w.heap.size w w') : QuAns w s (.returned (.tuple #[.string t, .int .i64 0])) w' := by
  unfold QuAns quT quE
  rw [if_pos h, if_pos h, ht]
  exact ⟨rfl, hb⟩
theorem slice_at (s : ByteArray) (i k : Nat) (h : i + k ≤ s.size) (w : World) : (Instr.slice 9 (.string s) (some (.int .i64 (i : Int))) (some (.int .i64 ((i : Int) + (k : Int)))) none).run Tryd.prog w = .ok (.string (s.extract i (i + k))) w := by
  rw [run_slice_string_if w 9 s .i64 .i64 (i : Int) ((i : Int) + (k : Int)) Tryd.underlying9, if_pos (by omega), if_pos (by omega)]
  rfl
set_option maxRecDepth 100000 in
set_option maxHeartbeats 8000000 in
theorem rquote_any (s : ByteArray) (w : World) : Calls Tryd.prog 6 #[.string s] w (QuAns w s) := by
  by_cases hs : s.size ≤ 256
  · have HO := Lib.hid (fun t w' => qu_ok (w := w) (w' := w') (s := s) (t := t) hs)
    have HS := Lib.hid hs
    have hc : ¬ (256 : Int) < (s.size : Int) := by omega
    clear hs
    go_enter Tryd.func6, Tryd.ntmps6
    go_wp2
    go_loopw [4, 5] (fun q i wr => ∃ (p fuel : Nat) (acc : List UInt8), p ≤ s.size ∧ q = .string (str (34 :: acc)) ∧ i = .int .i64 (p : Int) ∧ acc ++ quoteFrom s fuel p = quoteFrom s s.size 0 ∧ s.size ≤ p + fuel ∧ acc.length ≤ 10 * p ∧ Below w.heap.size w wr) (fun _ i _ => s.size - (intOf i).toNat)
    case atStart => exact ⟨0, s.size, [], by omega, rfl, rfl, rfl, by omega, by simp, Below.refl _ _⟩
    case round =>
      obtain ⟨p, fuel, acc, hp, rfl, rfl, hacc, hfu, hal, hbel⟩ := hrel
      by_cases hlt : p < s.size
      · obtain ⟨f, rfl⟩ : ∃ f, fuel = f + 1 := ⟨fuel - 1, by omega⟩
        have HSZ := Lib.hid (fun w' => size_any s p hlt HS.out w')
        rw [szS_dec s p hlt] at HSZ
        have hpl := piece_len s p hlt
        obtain ⟨hd1, hd2⟩ := dec_pos s p hlt
        have hst := quote_step hlt hacc
        have HA := Lib.hid (str_app (34 :: acc) (pieceP s p))
        have hq : (str (34 :: acc)).size = acc.length + 1 := by rw [str_size]; rfl
        have hq2 : (str (pieceP s p)).size ≤ 10 := by rw [str_size]; exact hpl
        by_cases hd : Utf8.decode s p = (65533, 1)
        · have hpc : pieceP s p = looseP (s[p]'hlt).toNat := by unfold pieceP; rw [if_pos hd, get_in s p hlt]
          have HL := Lib.hid (rloose_any (s[p]'hlt).toNat (UInt8.toNat_lt _))
          rw [← hpc] at HL
          rw [hd] at HSZ hst hd2
          simp only [decide_true] at HSZ
          have HF := Lib.hid (And.intro hst (And.intro hfu (And.intro hal (And.intro hpl hd2))))
          generalize hz : str (34 :: acc) = z at *
          generalize hy : str (pieceP s p) = y at *
          have s1 : ¬ 9223372036854775807 < z.size + y.size := by have := HS.out; omega
          have HZ := Lib.hid (And.intro hz hy)
          clear hz hy hq hq2 hst hacc hpc hfu hal hpl hd hd1 hd2
          go_wp2_with fail
          refine (HSZ.out _).mono ?_
          rintro e w' ⟨rfl, rfl⟩
          go_wp2_with fail
          refine (HL.out _).mono ?_
          rintro e w' ⟨rfl, m, rfl⟩
          go_wp2_with fail
          go_roundw
          case rel =>
            refine ⟨p + 1, f, acc ++ pieceP s p, HF.out.2.2.2.2, ?_, by go_num, HF.out.1, by have := HF.out.2.1; omega, by have := HF.out.2.2.1; have := HF.out.2.2.2.1; rw [List.length_append]; omega, below_drewN hbel m⟩
            have := HA.out
            rw [this]; rfl
          case measure => simp [intOf]; omega
        · obtain ⟨hok, _, _, hby⟩ := dec_bytes s p hlt hd
          have hpc : pieceP s p = runeP (Utf8.decode s p).1 := by unfold pieceP; rw [if_neg hd]
          have HSD := Lib.hid (said_any (Utf8.decode s p).1 hok)
          rw [← hpc, ← hby] at HSD
          rw [show decide (Utf8.decode s p = (65533, 1)) = false from by simp [hd]] at HSZ
          generalize (Utf8.decode s p).2 = k at *
          have hsl := slice_at s p k hd2
          have hwk : IntKind.i64.wrap ((p : Int) + (k : Int)) = (p : Int) + (k : Int) := IntWalk.i64_in _ (by have := HS.out; omega)
          generalize s.extract p (p + k) = x at *
          have HF := Lib.hid (And.intro hst (And.intro hfu (And.intro hal (And.intro hpl (And.intro hd1 hd2)))))
          generalize hz : str (34 :: acc) = z at *
          generalize hy : str (pieceP s p) = y at *
          have s1 : ¬ 9223372036854775807 < z.size + y.size := by have := HS.out; omega
          have HZ := Lib.hid (And.intro hz hy)
          clear hz hy hq hq2 hst hacc hpc hfu hal hpl hd hd1 hd2 hok hby
          go_wp2_with fail
          refine (HSZ.out _).mono ?_
          rintro e w' ⟨rfl, rfl⟩
          go_wp2_with fail
          refine (HSD.out _).mono ?_
          rintro e w' ⟨rfl, m, rfl⟩
          go_wp2_with fail
          go_roundw
          case rel =>
            refine ⟨p + k, f, acc ++ pieceP s p, HF.out.2.2.2.2.2, ?_, by go_num, HF.out.1, by have := HF.out.2.1; have := HF.out.2.2.2.2.1; omega, by have := HF.out.2.2.1; have := HF.out.2.2.2.1; have := HF.out.2.2.2.2.1; rw [List.length_append]; omega, below_drewN hbel m⟩
            have := HA.out
            rw [this]; rfl
          case measure => have := HF.out.2.2.2.2.1; simp [intOf]; omega
      · rw [quote_end s fuel p hlt, List.append_nil] at hacc
        have HE := Lib.hid (show str (34 :: acc) ++ ⟨#[34]⟩ = str (quoteL s) from by
          rw [hacc, show (⟨#[34]⟩ : ByteArray) = str [34] from rfl, str_app]; rfl)
        have hq : (str (34 :: acc)).size = acc.length + 1 := by rw [str_size]; rfl
        generalize str (34 :: acc) = z at *
        have s1 : ¬ 9223372036854775807 < z.size + 1 := by have := HS.out; omega
        clear hq hacc hal hfu
        go_wp2
        go_ret2
        exact HO.out _ _ HE.out hbel
  · have HB := Lib.hid (qu_big (w := w) (w' := w) hs (Below.refl _ _))
    have hc : (256 : Int) < (s.size : Int) := by omega
    clear hs
    go_enter Tryd.func6, Tryd.ntmps6
    go_wp2
    go_ret2
    exact HB.out
end Go.Proofs.YtcikhbbljhkheaaDoor.Sn
