/- Patterns: the reference's lines. -/
import Derived.Test.YtlbkacabcfeaiaaKi
namespace Go.Proofs.Ytlbkacabcfeaiaa.Tl
open Go.RowKit Mm
set_option linter.unusedVariables false
theorem atom_any {W X : World} {g : Nat} {s : ByteArray} {pos it deep : Nat} {N : List Nd} {nv : Value} {ps : List T} {n : Nat} (hp : ∀ m, m < n → PatC s m) (h : Rf W g s pos it deep (-1) N nv X) {c : UInt8} (hc : (xs s)[pos]? = some c) (h32 : c ≠ 32) (h41 : c ≠ 41) (h124 : c ≠ 124) (hsf : isSuf c → ps = []) (hn : s.size - pos ≤ n) (hit : it ≤ 48) (hdp : deep ≤ 32) (hN : N.length ≤ 4 * pos + 4) (hs : s.size ≤ 256) :
    Calls Try.prog 42 #[.pointer (some ⟨g, 0, none⟩), .int .u8 (c.toNat : Int)] X (AtomQ W X g s deep N pos it ps) := by
  have hpl : pos < s.size := by have := (List.getElem?_eq_some_iff.1 hc).1; rw [xs_len] at this; exact this
  by_cases h46 : c = 46
  · subst h46; exact atom_dot h hc hit hdp (by omega) hs
  by_cases h33 : c = 33
  · subst h33; exact atom_not h hc hit hdp (by omega) hs
  by_cases h40 : c = 40
  · subst h40; exact atom_open hp h hc hn hit hdp hN hs
  cases hl : isLetter c with
  | true => exact atom_let h hc hl hit hdp (by omega) hs
  | false => exact atom_bad h hc hl h46 h33 h40 h32 h41 h124 hsf hit hdp hs
/-- an own row of numbers goes on beside the reader -/
theorem Rf.app {W Y Y' : World} {g : Nat} {s : ByteArray} {pos it deep : Nat} {bad : Int} {N : List Nd} {nv lv lv' : Value} {o : Obj} {B n : Nat} {l : List Value} (h : Rf W g s pos it deep bad N nv Y) (hrow : Y.ownsRow B 3 1 lv n l) (hB : W.heap.size ≤ B) (sep : ∀ d ∈ N, ∀ z, d.kv.ownBlock = some z → lv.ownBlock ≠ some z) (hk : Keeps (Y.alloc o) lv lv' Y') : Rf W g s pos it deep bad N nv Y' := by
  have h1 := h.below ((Below.refl _ Y).alloc (Nat.le_refl _) o)
  have hr := hrow.alloc o
  have hg := hk.by
  have hl := h1.bel.size
  refine ⟨h.lt, ⟨hg.os.trans h1.bel.os, hg.tape.trans h1.bel.tape, hg.output.trans h1.bel.output, Nat.le_trans hl hg.size, fun k hk2 hne => (hg.block k (Nat.lt_of_lt_of_le hk2 hl) (fun e => ?_)).trans (h1.bel.block k hk2 hne)⟩, h1.blk.grown hg (blk_apart h1.blk hr (by decide)), own_grown h1.row hg (own_apart h1.row hr (by decide)), fun d hd => ?_⟩
  · have := (hr.lt k e.symm).1
    omega
  · exact Fz.keep (h1.kid d hd) fun z hz => hg.block z (Fz.lt (h1.kid d hd) z hz) fun e => sep d hd z hz e.symm
theorem Fr.app {X Y Y' : World} {lv lv' : Value} {o : Obj} {B n : Nat} {l : List Value} (h : Fr X Y) (hrow : Y.ownsRow B 3 1 lv n l) (hB : X.heap.size ≤ B) (hk : Keeps (Y.alloc o) lv lv' Y') : Fr X Y' := by
  have hr := hrow.alloc o
  have hg := hk.by
  have h1 := h.trans (Fr.below ((Below.refl _ Y).alloc (Nat.le_refl _) o))
  refine ⟨Nat.le_trans h1.1 hg.size, fun z c hz => ?_⟩
  have hzl := (Array.getElem?_eq_some_iff.1 hz).1
  refine (hg.block z (Nat.lt_of_lt_of_le hzl h1.1) fun e => ?_).trans (h1.2 z c hz)
  have := (hr.lt z e.symm).1
  omega
/-- rows of kids are not the row that grows -/
def Sep (M : List Nd) (lv : Value) : Prop := ∀ d ∈ M, ∀ z, d.kv.ownBlock = some z → lv.ownBlock ≠ some z
theorem Sep.app {M K : List Nd} {lv : Value} (h : Sep M lv) (k : Sep K lv) : Sep (M ++ K) lv := fun d hd => by
  rcases List.mem_append.1 hd with hd | hd
  · exact h d hd
  · exact k d hd
theorem Sep.new {Y : World} {K : List Nd} {lv : Value} {B n : Nat} {l : List Value} (h : NewK Y K) (hr : Y.ownsRow B 3 1 lv n l) : Sep K lv := fun d hd z hz e => by
  have := h d hd z hz
  have := (hr.lt z e).2
  omega
theorem Sep.old {W X Y : World} {g : Nat} {s : ByteArray} {pos it deep : Nat} {bad : Int} {N : List Nd} {nv lv : Value} {n : Nat} {l : List Value} (h : Rf W g s pos it deep bad N nv X) (hr : Y.ownsRow X.heap.size 3 1 lv n l) : Sep N lv := fun d hd z hz e => by
  have := Fz.lt (h.kid d hd) z hz
  have := (hr.lt z e).1
  omega
theorem Sep.keeps {W Y Y' : World} {g : Nat} {s : ByteArray} {pos it deep : Nat} {bad : Int} {N M : List Nd} {nv lv lv' : Value} {o : Obj} (h : Rf W g s pos it deep bad (N ++ M) nv Y) (hs : Sep M lv) (hk : Keeps (Y.alloc o) lv lv' Y') : Sep M lv' := fun d hd z hz e => by
  rcases hk with ⟨h1, _⟩ | ⟨h1, _⟩
  · rw [h1] at e
    exact hs d hd z hz e
  · rw [h1] at e
    have h2 := Fz.lt (h.kid d (List.mem_append_right _ hd)) z hz
    cases e
    rw [World.size_alloc] at h2
    omega
/-- how far a line is read -/
def LineR (s : ByteArray) (deep pos it : Nat) (N M : List Nd) (k pos' it' : Nat) (bad' : Int) : Prop :=
  (bad' = -1 ∧ pos' ≤ s.size ∧ it' ≤ 48 ∧ ∃ ps, Den (N ++ M) k (mkSeq ps) ∧ bdL ps + 16 * pos ≤ 16 * pos' ∧ ((xs s)[pos']? = none ∨ (xs s)[pos']? = some 41 ∨ (xs s)[pos']? = some 124) ∧ ∀ (stk : List (List T × List T)) (ch : List T), stk.length = deep → res (xs s) ⟨pos, it, stk, ch, []⟩ = res (xs s) ⟨pos', it', stk, ch, ps⟩) ∨
  (∃ b : Nat, bad' = (b : Int) ∧ pos' + deep ≤ s.size + 33 ∧ it' ≤ 49 ∧ ∀ (stk : List (List T × List T)) (ch : List T), stk.length = deep → res (xs s) ⟨pos, it, stk, ch, []⟩ = .err b)
def LineQ (W X : World) (g : Nat) (s : ByteArray) (deep : Nat) (N : List Nd) (pos it : Nat) (e : Ending) (w' : World) : Prop :=
  ∃ (k : Nat) (M : List Nd) (nv' : Value) (pos' it' : Nat) (bad' : Int), e = .returned (.int .i64 (k : Int)) ∧ Out W g s deep N X pos' it' bad' M nv' w' ∧ pos ≤ pos' ∧ M.length + 4 * pos ≤ 4 * pos' + 1 ∧ LineR s deep pos it N M k pos' it' bad'
/-- what holds between the atoms of a line -/
structure LineI (s : ByteArray) (deep pos it : Nat) (N M : List Nd) (ks : List Nat) (ps : List T) (pos' it' : Nat) (bad' : Int) : Prop where
  den : DenL (N ++ M) ks ps
  wt : bdL ps + 16 * pos ≤ 16 * pos'
  ge : pos ≤ pos'
  cnt : M.length + 4 * pos ≤ 4 * pos'
  r : (bad' = -1 ∧ pos' ≤ s.size ∧ it' ≤ 48 ∧ (∀ (stk : List (List T × List T)) (ch : List T), stk.length = deep → res (xs s) ⟨pos, it, stk, ch, []⟩ = res (xs s) ⟨pos', it', stk, ch, ps⟩) ∧ (ps ≠ [] → (∀ c, (xs s)[pos']? = some c → ¬ isSuf c) ∧ (xs s)[pos']? ≠ some 32)) ∨
    (∃ b : Nat, bad' = (b : Int) ∧ pos' ≤ s.size ∧ it' ≤ 49 ∧ ∀ (stk : List (List T × List T)) (ch : List T), stk.length = deep → res (xs s) ⟨pos, it, stk, ch, []⟩ = .err b)
section
variable {s : ByteArray} {deep pos it : Nat} {N M : List Nd} {ks : List Nat} {ps : List T} {p i : Nat}
/-- a line ends -/
theorem line_ends {b : Int} {K : List Nd} {k : Nat} (h : LineI s deep pos it N M ks ps p i b) (hden : Den (N ++ (M ++ K)) k (mkSeq ps)) (hdp : deep ≤ 32) {q : Nat} (hq : Same (xs s) p q) (hge : p ≤ q) (hle : q ≤ s.size) (hend : b = -1 → ((xs s)[q]? = none ∨ (xs s)[q]? = some 41 ∨ (xs s)[q]? = some 124)) : LineR s deep pos it N (M ++ K) k q i b := by
  rcases h.r with ⟨rfl, h1, h2, h3, h4⟩ | ⟨b0, rfl, h1, h2, h3⟩
  · exact .inl ⟨rfl, hle, h2, ps, hden, by have := h.wt; omega, hend rfl, fun stk ch hl => (h3 stk ch hl).trans (hq i stk ch _)⟩
  · exact .inr ⟨b0, rfl, by omega, h2, h3⟩
/-- an atom and its suffixes behind the others -/
theorem line_goes {M2 M3 : List Nd} {k k' q p2 i2 p3 i3 : Nat} {b3 : Int} {t t' : T} (h : LineI s deep pos it N M ks ps p i (-1)) (hq : Same (xs s) p q) (hge : p ≤ q)
    (hden : Den (N ++ M ++ M2 ++ M3) k' t') (hw1 : bd t + 16 * q ≤ 16 * p2) (hw2 : bd t' + 16 * p2 ≤ bd t + 16 * p3) (hg1 : q ≤ p2) (hg2 : p2 ≤ p3) (hc1 : M2.length + 4 * q ≤ 4 * p2) (hc2 : M3.length + 4 * p2 ≤ 4 * p3)
    (hr1 : ∀ (stk : List (List T × List T)) (ch : List T), stk.length = deep → res (xs s) ⟨q, i, stk, ch, ps⟩ = res (xs s) ⟨p2, i2, stk, ch, ps ++ [t]⟩) (hr2 : SufR s p2 i2 t p3 i3 b3 t') (hns : b3 = -1 → (∀ c, (xs s)[p3]? = some c → ¬ isSuf c) ∧ (xs s)[p3]? ≠ some 32) :
    LineI s deep pos it N (M ++ M2 ++ M3) (ks ++ [k']) (ps ++ [t']) p3 i3 b3 := by
  have e : N ++ (M ++ M2 ++ M3) = N ++ M ++ M2 ++ M3 := by simp
  refine ⟨?_, ?_, ?_, ?_, ?_⟩
  · rw [e]
    exact (h.den.more.more).app (.one hden)
  · have := h.wt
    rw [bdL_app]
    simp only [bdL]
    omega
  · have := h.ge; omega
  · have := h.cnt
    rw [List.length_append, List.length_append]
    omega
  · rcases h.r with ⟨_, h1, h2, h3, h4⟩ | ⟨b0, hb, _⟩
    · have hall : ∀ (stk : List (List T × List T)) (ch : List T), stk.length = deep → res (xs s) ⟨pos, it, stk, ch, []⟩ = res (xs s) ⟨p2, i2, stk, ch, ps ++ [t]⟩ := fun stk ch hl => ((h3 stk ch hl).trans (hq i stk ch _)).trans (hr1 stk ch hl)
      rcases hr2 with ⟨rfl, k1, k2, k3⟩ | ⟨b0, rfl, k1, k2, k3⟩
      · exact .inl ⟨rfl, k1, k2, fun stk ch hl => (hall stk ch hl).trans (k3 stk ch ps), fun _ => hns rfl⟩
      · exact .inr ⟨b0, rfl, k1, k2, fun stk ch hl => (hall stk ch hl).trans (k3 stk ch ps)⟩
    · omega
end
end Go.Proofs.Ytlbkacabcfeaiaa.Tl
