import Derived.Test.YtdiijannpfogdaaTf
import Derived.Test.YtdiijannpfogdaaTv
namespace Go.Proofs.Ytdiijannpfogdaa.Tn
open Go.RowKit

theorem gtrans {a b c : World} {row : Option Nat} (h : a.grownBy b row) (k : b.grownBy c row) : a.grownBy c row :=
  ⟨k.os.trans h.os, k.tape.trans h.tape, k.output.trans h.output, Nat.le_trans h.size k.size, fun i hi hn => (k.block i (Nat.lt_of_lt_of_le hi h.size) hn).trans (h.block i hi hn)⟩
theorem put_ones (B i n : Nat) (c o : Nat → Bool) (t : TypeId) (w : World) (hi : i < 256) (h : Blk w B t (cs n c o)) :
    Calls Try.prog 65 #[.pointer (some ⟨B, 5, none⟩), .int .i64 (i : Int)] w fun e w' => e = .returned (.tuple #[]) ∧ Blk w' B t (cs n c (put o i)) ∧ w.grownBy w' (some B) := by
  have hk : i / 64 < 4 := by omega
  refine (put_any B 5 i (wd o (i / 64)) w hi (wd_lt _ _) ((h.cell _).trans (cs_ones n c o _ hk)) (h.frozen _)).mono ?_
  rintro e w' ⟨rfl, rfl⟩
  refine ⟨rfl, ?_, ?_⟩
  · rw [put_wd]
    have h2 := h.set_ (5 + i / 64) (wv (put o i) (i / 64))
    rw [cs_set_ones n c o (put o i) _ hk (fun j hj => put_wd_ne o i j hj)] at h2
    exact h2.drew
  · have h2 := only_set w B (5 + i / 64) (.int .u64 ((wd o (i / 64) ||| 2 ^ (i % 64) : Nat) : Int))
    exact ⟨h2.os, h2.tape, h2.output, h2.size, h2.block⟩
theorem put_care (B i n : Nat) (c o : Nat → Bool) (t : TypeId) (w : World) (hi : i < 256) (h : Blk w B t (cs n c o)) :
    Calls Try.prog 65 #[.pointer (some ⟨B, 1, none⟩), .int .i64 (i : Int)] w fun e w' => e = .returned (.tuple #[]) ∧ Blk w' B t (cs n (put c i) o) ∧ w.grownBy w' (some B) := by
  have hk : i / 64 < 4 := by omega
  refine (put_any B 1 i (wd c (i / 64)) w hi (wd_lt _ _) ((h.cell _).trans (cs_care n c o _ hk)) (h.frozen _)).mono ?_
  rintro e w' ⟨rfl, rfl⟩
  refine ⟨rfl, ?_, ?_⟩
  · rw [put_wd]
    have h2 := h.set_ (1 + i / 64) (wv (put c i) (i / 64))
    rw [cs_set_care n c (put c i) o _ hk (fun j hj => put_wd_ne c i j hj)] at h2
    exact h2.drew
  · have h2 := only_set w B (1 + i / 64) (.int .u64 ((wd c (i / 64) ||| 2 ^ (i % 64) : Nat) : Int))
    exact ⟨h2.os, h2.tape, h2.output, h2.size, h2.block⟩
theorem at_care (B i n : Nat) (c o : Nat → Bool) (t : TypeId) (w : World) (hi : i < 256) (h : Blk w B t (cs n c o)) :
    Calls Try.prog 68 #[.pointer (some ⟨B, 1, none⟩), .int .i64 (i : Int)] w fun e w' => e = .returned (.bool (c i)) ∧ w = w' := by
  have hk : i / 64 < 4 := by omega
  have := at_any B 1 i (wd c (i / 64)) w hi (wd_lt _ _) ((h.cell _).trans (cs_care n c o _ hk))
  rw [at_wd] at this
  exact this
theorem at_ones (B i n : Nat) (c o : Nat → Bool) (t : TypeId) (w : World) (hi : i < 256) (h : Blk w B t (cs n c o)) :
    Calls Try.prog 68 #[.pointer (some ⟨B, 5, none⟩), .int .i64 (i : Int)] w fun e w' => e = .returned (.bool (o i)) ∧ w = w' := by
  have hk : i / 64 < 4 := by omega
  have := at_any B 5 i (wd o (i / 64)) w hi (wd_lt _ _) ((h.cell _).trans (cs_ones n c o _ hk))
  rw [at_wd] at this
  exact this

theorem isEmpty_no (s : ByteArray) (h : 0 < s.size) : s.toList.isEmpty = false := by
  rw [ByteArray.toList_eq]
  have : s.data.toList.length = s.size := by rw [Array.length_toList]; rfl
  cases hl : s.data.toList with
  | nil => rw [hl] at this; simp at this; omega
  | cons b l => rfl
theorem isEmpty_yes (s : ByteArray) (h : s.size = 0) : s.toList.isEmpty = true := by
  rw [ByteArray.toList_eq]
  have : s.data.toList.length = s.size := by rw [Array.length_toList]; rfl
  cases hl : s.data.toList with
  | nil => rfl
  | cons b l => rw [hl] at this; simp at this; omega

set_option maxHeartbeats 400000 in
theorem parse_long (s : ByteArray) (w : World) (hs : s.size ≤ maxLen) (h : 256 < s.size) :
    Calls Try.prog 27 #[.string s] w fun e w' => e = .returned (.tuple #[cv 0 no no, .int .i64 2]) ∧ Below w.heap.size w w' := by
  unfold maxLen at hs
  go_enter Try.func27, Try.ntmps27
  go_wp2
  refine bodyPost_ret (v := .tuple #[.agg #[.int .i64 0, .int .u64 0, .int .u64 0, .int .u64 0, .int .u64 0, .int .u64 0, .int .u64 0, .int .u64 0, .int .u64 0], .int .i64 2]) (by simp [results, Try.results27, go_sem]) rfl ⟨?_, ?_⟩
  · rw [cv_zero]
  · go_grown
set_option maxHeartbeats 400000 in
theorem parse_empty (s : ByteArray) (w : World) (h : s.size = 0) :
    Calls Try.prog 27 #[.string s] w fun e w' => e = .returned (.tuple #[cv 0 no no, .int .i64 10]) ∧ Below w.heap.size w w' := by
  have he := isEmpty_yes s h
  have h1 : s.size ≤ 256 := by omega
  clear h
  go_enter Try.func27, Try.ntmps27
  go_wp2
  refine bodyPost_ret (v := .tuple #[.agg #[.int .i64 0, .int .u64 0, .int .u64 0, .int .u64 0, .int .u64 0, .int .u64 0, .int .u64 0, .int .u64 0, .int .u64 0], .int .i64 10]) (by simp [results, Try.results27, go_sem]) rfl ⟨?_, ?_⟩
  · rw [cv_zero]
  · go_grown
theorem is49 {b : UInt8} (h : b = 49) : ((b.toNat : Int) == 49) = true := by subst h; rfl
theorem is48 {b : UInt8} (h : b = 48) : ((b.toNat : Int) == 48) = true := by subst h; rfl
theorem is120 {b : UInt8} (h : b = 120) : ((b.toNat : Int) == 120) = true := by subst h; rfl
theorem not_byte {b c : UInt8} (h : ¬ b = c) : ((b.toNat : Int) == (c.toNat : Int)) = false := by
  rw [beq_eq_false_iff_ne]
  intro e
  exact h (UInt8.toNat_inj.1 (by omega))
theorem not49 {b : UInt8} (h : ¬ b = 49) : ((b.toNat : Int) == 49) = false := not_byte h
theorem not48 {b : UInt8} (h : ¬ b = 48) : ((b.toNat : Int) == 48) = false := not_byte h
theorem not120 {b : UInt8} (h : ¬ b = 120) : ((b.toNat : Int) == 120) = false := not_byte h
attribute [local go_sem] cs wv
set_option maxHeartbeats 400000 in
theorem parse_loop (s : ByteArray) (w : World) (h : s.size ≤ 256) (h0 : 0 < s.size) :
    Calls Try.prog 27 #[.string s] w fun e w' => e = .returned (.tuple #[cu (cubeT s.data.toList), .int .i64 (parseE s.data.toList)]) ∧ Below w.heap.size w w' := by
  have he := isEmpty_no s h0
  go_enter Try.func27, Try.ntmps27
  go_wp2
  go_loopw [18] (fun i wr => ∃ k : Nat, k ≤ s.size ∧ i = .int .i64 k ∧ Blk wr w.heap.size 30 (cs 0 no no) ∧ Blk wr (w.heap.size + 1) 30 (cs s.size (careF (s.data.toList.take k)) (onesF (s.data.toList.take k))) ∧ (s.data.toList.take k).all okB = true ∧ Below w.heap.size w wr) (fun i _ => s.size - (intOf i).toNat)
  case atStart =>
    refine ⟨0, Nat.zero_le _, rfl, ?_, ?_, rfl, by go_grown⟩
    · rw [cs_zero]
      exact (Blk.new _ _ _).alloc _
    · rw [List.take_zero, careF_nil, onesF_nil, cs_no]
      have := Blk.new (w.alloc (.cells (cs 0 no no) 30)) 30 (cs s.size no no)
      rw [cs_zero, cs_no, World.size_alloc] at this
      exact this
  case round =>
    obtain ⟨k, hk, rfl, hb0, hb1, hall, hbel⟩ := hrel
    by_cases hlt : k < s.size
    · have hb : s.data.toList[k]? = some s[k] := by
        rw [Array.getElem?_toList]; exact Array.getElem?_eq_getElem hlt
      have hlt' : k < 256 := by omega
      have hcs := careF_snoc s.data.toList k s[k] hb
      have hos := onesF_snoc s.data.toList k s[k] hb
      have hal : (s.data.toList.take (k + 1)).all okB = okB s[k] := by
        rw [List.take_add_one, List.all_append, hall, hb]; simp
      have HS := Lib.hid (And.intro hcs (And.intro hos hal))
      clear hcs hos hal
      have HB := Lib.hid hb
      clear hb
      by_cases h49 : s[k] = 49
      · have t49 := is49 h49
        have H49 := Lib.hid h49
        clear h49
        go_wp2_with fail
        refine (put_ones (w.heap.size + 1) k s.size _ _ 30 wr hlt' hb1).mono ?_
        rintro e w1 ⟨rfl, hb2, hg⟩
        go_wp2_with fail
        refine (put_care (w.heap.size + 1) k s.size _ _ 30 w1 hlt' hb2).mono ?_
        rintro e w2 ⟨rfl, hb3, hg2⟩
        go_wp2_with fail
        have hz : w.heap.size + 1 < wr.heap.size := hb1.lt
        have hg3 := gtrans hg hg2
        go_roundw
        case rel =>
          obtain ⟨h1, h2, h3⟩ := HS.out
          have e := H49.out
          refine ⟨k + 1, by omega, by go_num, hb0.grown hg3 (by simp), ?_, by rw [h3, e]; rfl, hbel.grown hg3 (by omega) (fun j hj => by cases hj; omega)⟩
          rw [h1, h2, if_pos (.inr e), if_pos e]
          exact hb3
        case measure => simp [intOf]; omega
      · have t49 := not49 h49
        have H49 := Lib.hid h49
        clear h49
        by_cases h48 : s[k] = 48
        · have t48 := is48 h48
          have H48 := Lib.hid h48
          clear h48
          go_wp2_with fail
          refine (put_care (w.heap.size + 1) k s.size _ _ 30 wr hlt' hb1).mono ?_
          rintro e w1 ⟨rfl, hb2, hg⟩
          go_wp2_with fail
          have hz : w.heap.size + 1 < wr.heap.size := hb1.lt
          go_roundw
          case rel =>
            obtain ⟨h1, h2, h3⟩ := HS.out
            have e := H48.out
            refine ⟨k + 1, by omega, by go_num, hb0.grown hg (by simp), ?_, by rw [h3, e]; rfl, hbel.grown hg (by omega) (fun j hj => by cases hj; omega)⟩
            rw [h1, h2, if_pos (.inl e), if_neg H49.out]
            exact hb2
          case measure => simp [intOf]; omega
        · have t48 := not48 h48
          have H48 := Lib.hid h48
          clear h48
          by_cases h120 : s[k] = 120
          · have t120 := is120 h120
            have H120 := Lib.hid h120
            clear h120
            go_wp2_with fail
            go_roundw
            case rel =>
              obtain ⟨h1, h2, h3⟩ := HS.out
              have e := H120.out
              refine ⟨k + 1, by omega, by go_num, hb0, ?_, by rw [h3, e]; rfl, hbel⟩
              rw [h1, h2, if_neg (fun h => h.elim H48.out H49.out), if_neg H49.out]
              exact hb1
            case measure => simp [intOf]; omega
          · have t120 := not120 h120
            have H120 := Lib.hid h120
            clear h120
            have hc0 := hb0.cell
            have hf0 := hb0.frozen
            rw [cs_zero] at hc0
            go_wp2_with fail
            refine bodyPost_ret (v := .tuple #[.agg #[.int .i64 0, .int .u64 0, .int .u64 0, .int .u64 0, .int .u64 0, .int .u64 0, .int .u64 0, .int .u64 0, .int .u64 0], .int .i64 10]) (by simp [results, Try.results27, go_sem, hc0]) rfl ⟨?_, ?_⟩
            · have hne : parseE s.data.toList = 10 := parse_bad s k hlt h h0 (by simp [okB, H49.out, H48.out, H120.out])
              rw [hne]
              unfold cubeT cu
              rw [if_neg (by omega), careF_nil, onesF_nil, List.length_nil, cv_zero]
            · refine Below.trans hbel ?_
              go_grown
    · have hc0 := hb0.cell
      have hf0 := hb0.frozen
      have hc1 := hb1.cell
      rw [cs_zero] at hc0
      go_wp2
      refine bodyPost_ret (v := .tuple #[.agg (cs s.size (careF (s.data.toList.take k)) (onesF (s.data.toList.take k))), .int .i64 0]) (by simp [results, Try.results27, go_sem, hc0]) rfl ⟨?_, ?_⟩
      · obtain ⟨e1, e2⟩ := parse_done s k hk (by omega) h h0 hall
        rw [e1, e2]; rfl
      · refine Below.trans hbel ?_
        go_grown

/-- Parse at any text: the cube of its text and the error; below the old heap nothing has turned. -/
theorem parse_any (s : ByteArray) (w : World) (hs : s.size ≤ maxLen) :
    Calls Try.prog 27 #[.string s] w fun e w' => e = .returned (.tuple #[cu (cubeT s.data.toList), .int .i64 (parseE s.data.toList)]) ∧ Below w.heap.size w w' := by
  have hl := len_s s
  by_cases h : 256 < s.size
  · have e : parseE s.data.toList = 2 := by unfold parseE; rw [if_pos (by omega)]
    have e2 : cu (cubeT s.data.toList) = cv 0 no no := by unfold cubeT cu; rw [if_neg (by omega), careF_nil, onesF_nil]; rfl
    rw [e, e2]
    exact parse_long s w hs h
  · by_cases h0 : s.size = 0
    · have hn : s.data.toList = [] := List.eq_nil_of_length_eq_zero (by omega)
      have e : parseE s.data.toList = 10 := by rw [hn]; rfl
      have e2 : cu (cubeT s.data.toList) = cv 0 no no := by unfold cubeT cu; rw [if_neg (by omega), careF_nil, onesF_nil]; rfl
      rw [e, e2]
      exact parse_empty s w h0
    · exact parse_loop s w (by omega) (by omega)
end Go.Proofs.Ytdiijannpfogdaa.Tn
