/- Patterns, plain law: steps of the machine by bytes. No program. -/
import Derived.Test.YtlbkacabcfeaiaaPb
namespace Go.Proofs.Ytlbkacabcfeaiaa.Tl
open Go.RowKit Mm
def Ok (n : Nat) (st : St) : Prop := st.pos ≤ n ∧ st.it ≤ 48 ∧ st.stk.length ≤ 32 ∧ bdS st ≤ 16 * st.pos
section
variable {x : List UInt8} {st st' : St}
theorem ok_of (h : stp x st = .inl st') (ok : Ok x.length st) : res x st = res x st' ∧ Ok x.length st' := by
  obtain ⟨h1, h2, h3, h4⟩ := ok
  have ha := stp_on h
  obtain ⟨b1, b2, b3⟩ := stp_bd h h2 h3
  exact ⟨res_inl h, ha.2, b2, b3, by omega⟩
variable {pos it : Nat} {stk : List (List T × List T)} {ch ps : List T}
theorem st_end (h : x[pos]? = none) : res x ⟨pos, it, stk, ch, ps⟩ = if stk = [] then .ok (whole ch ps) else .err pos := res_inr (by unfold stp; rw [h])
theorem st_32 (h : x[pos]? = some 32) : stp x ⟨pos, it, stk, ch, ps⟩ = .inl ⟨pos + 1, it, stk, ch, ps⟩ := by unfold stp; simp only [h]; rfl
theorem st_40 (h : x[pos]? = some 40) (hd : stk.length < 32) : stp x ⟨pos, it, stk, ch, ps⟩ = .inl ⟨pos + 1, it, stk ++ [(ch, ps)], [], []⟩ := by
  unfold stp; simp only [h]; rw [if_neg (by decide), if_pos trivial, if_neg (by omega)]
theorem st_40e (h : x[pos]? = some 40) (hd : 32 ≤ stk.length) : res x ⟨pos, it, stk, ch, ps⟩ = .err pos := res_inr (by
  unfold stp; simp only [h]; rw [if_neg (by decide), if_pos trivial, if_pos hd])
theorem st_41 {k : List (List T × List T)} {o : List T × List T} (h : x[pos]? = some 41) : stp x ⟨pos, it, k ++ [o], ch, ps⟩ = .inl ⟨pos + 1, it, k, o.1, o.2 ++ [whole ch ps]⟩ := by
  unfold stp; simp only [h]; rw [if_neg (by decide), if_neg (by decide), if_pos trivial, List.getLast?_concat, List.dropLast_concat]
theorem st_41e (h : x[pos]? = some 41) : res x ⟨pos, it, [], ch, ps⟩ = .err pos := res_inr (by
  unfold stp; simp only [h]; rw [if_neg (by decide), if_neg (by decide), if_pos trivial]; rfl)
theorem suf_ne {c : UInt8} (hc : c = 42 ∨ c = 43 ∨ c = 63) : c ≠ 32 ∧ c ≠ 40 ∧ c ≠ 41 := by rcases hc with rfl | rfl | rfl <;> decide
theorem st_42 {c : UInt8} {l : List T} {t : T} (hc : c = 42 ∨ c = 43 ∨ c = 63) (h : x[pos]? = some c) (hi : it < 48) : stp x ⟨pos, it, stk, ch, l ++ [t]⟩ = .inl ⟨pos + 1, it + 1, stk, ch, l ++ [.suf t c]⟩ := by
  obtain ⟨n1, n2, n3⟩ := suf_ne hc
  unfold stp; simp only [h]; rw [if_neg n1, if_neg n2, if_neg n3, if_pos hc, List.getLast?_concat, List.dropLast_concat]
  simp only
  rw [if_neg (by omega)]
theorem st_42e {c : UInt8} (hc : c = 42 ∨ c = 43 ∨ c = 63) (h : x[pos]? = some c) (hi : ps = [] ∨ 48 ≤ it) : res x ⟨pos, it, stk, ch, ps⟩ = .err pos := res_inr (by
  obtain ⟨n1, n2, n3⟩ := suf_ne hc
  unfold stp; simp only [h]; rw [if_neg n1, if_neg n2, if_neg n3, if_pos hc]
  rcases hi with rfl | hi
  · rfl
  · cases hl : ps.getLast? with
    | none => rfl
    | some t => simp only; rw [if_pos hi])
theorem st_124 (h : x[pos]? = some 124) (hi : it < 48) : stp x ⟨pos, it, stk, ch, ps⟩ = .inl ⟨pos + 1, it + 1, stk, ch ++ [mkSeq ps], []⟩ := by
  unfold stp; simp only [h]; rw [if_neg (by decide), if_neg (by decide), if_neg (by decide), if_neg (by decide), if_pos trivial, if_neg (by omega)]
theorem st_124e (h : x[pos]? = some 124) (hi : 48 ≤ it) : res x ⟨pos, it, stk, ch, ps⟩ = .err pos := res_inr (by
  unfold stp; simp only [h]; rw [if_neg (by decide), if_neg (by decide), if_neg (by decide), if_neg (by decide), if_pos trivial, if_pos hi])
theorem st_46 (h : x[pos]? = some 46) (hi : it < 48) : stp x ⟨pos, it, stk, ch, ps⟩ = .inl ⟨pos + 1, it + 1, stk, ch, ps ++ [.leaf [46] false false false]⟩ := by
  unfold stp; simp only [h]; rw [if_neg (by decide), if_neg (by decide), if_neg (by decide), if_neg (by decide), if_neg (by decide), if_pos trivial, if_neg (by omega)]
theorem st_46e (h : x[pos]? = some 46) (hi : 48 ≤ it) : res x ⟨pos, it, stk, ch, ps⟩ = .err pos := res_inr (by
  unfold stp; simp only [h]; rw [if_neg (by decide), if_neg (by decide), if_neg (by decide), if_neg (by decide), if_neg (by decide), if_pos trivial, if_pos hi])
/-- a name follows -/
def namR (x : List UInt8) (st : St) (deny : Bool) : Res := if nameLong x st.pos then .err st.pos else res x ⟨nameEnd x st.pos, st.it, st.stk, st.ch, st.ps ++ [nameT x st.pos deny]⟩
theorem res_named {s : St} {i : Nat} {deny : Bool} (h : stp x s = named x s i deny) : res x s = namR x ⟨i, s.it + 1, s.stk, s.ch, s.ps⟩ deny := by
  unfold namR
  unfold named at h
  dsimp only
  split
  · rename_i hl
    rw [if_pos hl] at h
    exact res_inr h
  · rename_i hl
    rw [if_neg hl] at h
    exact res_inl h
theorem st_33 (h : x[pos]? = some 33) (hi : it < 48) (hl : atB isLetter x (pos + 1) = true) : res x ⟨pos, it, stk, ch, ps⟩ = namR x ⟨pos + 1, it + 1, stk, ch, ps⟩ true := res_named (by
  unfold stp; simp only [h]; rw [if_neg (by decide), if_neg (by decide), if_neg (by decide), if_neg (by decide), if_neg (by decide), if_neg (by decide), if_pos trivial, if_neg (by omega), if_pos hl])
theorem st_33e (h : x[pos]? = some 33) (hi : 48 ≤ it) : res x ⟨pos, it, stk, ch, ps⟩ = .err pos := res_inr (by
  unfold stp; simp only [h]; rw [if_neg (by decide), if_neg (by decide), if_neg (by decide), if_neg (by decide), if_neg (by decide), if_neg (by decide), if_pos trivial, if_pos hi])
theorem st_33f (h : x[pos]? = some 33) (hi : it < 48) (hl : atB isLetter x (pos + 1) = false) : res x ⟨pos, it, stk, ch, ps⟩ = .err (pos + 1) := res_inr (by
  unfold stp; simp only [h]; rw [if_neg (by decide), if_neg (by decide), if_neg (by decide), if_neg (by decide), if_neg (by decide), if_neg (by decide), if_pos trivial, if_neg (by omega), if_neg (by rw [hl]; decide)])
def Other (c : UInt8) : Prop := c ≠ 32 ∧ c ≠ 40 ∧ c ≠ 41 ∧ c ≠ 42 ∧ c ≠ 43 ∧ c ≠ 63 ∧ c ≠ 124 ∧ c ≠ 46 ∧ c ≠ 33
theorem st_let {c : UInt8} (hc : Other c) (h : x[pos]? = some c) (hi : it < 48) (hl : isLetter c = true) : res x ⟨pos, it, stk, ch, ps⟩ = namR x ⟨pos, it + 1, stk, ch, ps⟩ false := res_named (by
  obtain ⟨n1, n2, n3, n4, n5, n6, n7, n8, n9⟩ := hc
  unfold stp; simp only [h]; rw [if_neg n1, if_neg n2, if_neg n3, if_neg (by rintro (h | h | h) <;> contradiction), if_neg n7, if_neg n8, if_neg n9, if_pos (by rw [hl]; simpa using hi)])
theorem st_lete {c : UInt8} (hc : Other c) (h : x[pos]? = some c) (hl : (isLetter c && decide (it < 48)) = false) : res x ⟨pos, it, stk, ch, ps⟩ = .err pos := res_inr (by
  obtain ⟨n1, n2, n3, n4, n5, n6, n7, n8, n9⟩ := hc
  unfold stp; simp only [h]; rw [if_neg n1, if_neg n2, if_neg n3, if_neg (by rintro (h | h | h) <;> contradiction), if_neg n7, if_neg n8, if_neg n9, if_neg (by rw [hl]; decide)])
theorem ok_named {deny : Bool} (ok : Ok x.length st) (hl : atB isLetter x st.pos = true) : Ok x.length ⟨nameEnd x st.pos, st.it, st.stk, st.ch, st.ps ++ [nameT x st.pos deny]⟩ := by
  obtain ⟨h1, h2, h3, h4⟩ := ok
  have hn := name_end hl
  refine ⟨hn.2, h2, h3, ?_⟩
  unfold bdS nameT at *
  dsimp only
  rw [bdL_app]
  simp only [bdL, bd, List.length_take, List.length_drop]
  omega
/-- what holds at a label of the reading -/
def Lab (x : List UInt8) (st0 : St) : Nat → Value → St → Prop
  | 0, _, st => res x st0 = res x st
  | 1, _, st => res x st0 = res x st ∧ x[st.pos]? = some 40
  | 2, _, st => res x st0 = res x st ∧ x[st.pos]? = some 41
  | 3, _, st => res x st0 = res x st ∧ ∃ c, (c = 42 ∨ c = 43 ∨ c = 63) ∧ x[st.pos]? = some c
  | 4, _, st => res x st0 = res x st ∧ x[st.pos]? = some 124
  | 5, _, st => res x st0 = res x st ∧ x[st.pos]? = some 46
  | 6, _, st => res x st0 = res x st ∧ x[st.pos]? = some 33
  | 7, d, st => ∃ deny, d = .bool deny ∧ atB isLetter x st.pos = true ∧ res x st0 = namR x st deny
  | _, _, _ => False
end
end Go.Proofs.Ytlbkacabcfeaiaa.Tl
