/- Turns: what patterns keep while rows of patterns are gone on from. -/
import Derived.Test.YtlbkacabcfeaiaaZOC
import Derived.Test.YtlbkacabcfeaiaaVd
namespace Go.Proofs.Ytlbkacabcfeaiaa.Tl
open Go.RowKit Mm
set_option linter.unusedVariables false
/-- blocks stay, but for those of patterns in rows -/
def Ty (X Y : World) : Prop := X.heap.size ≤ Y.heap.size ∧ ∀ (g : Nat) (c : Array Value) (t : TypeId), t ≠ 22 → t ≠ 28 → X.heap[g]? = some (.cells c t (0, 0)) → Y.heap[g]? = some (.cells c t (0, 0))
section
variable {X Y Z : World}
theorem Ty.refl (X : World) : Ty X X := ⟨Nat.le_refl _, fun _ _ _ _ _ h => h⟩
theorem Ty.trans (h : Ty X Y) (k : Ty Y Z) : Ty X Z := ⟨Nat.le_trans h.1 k.1, fun g c t h1 h2 hg => k.2 g c t h1 h2 (h.2 g c t h1 h2 hg)⟩
theorem Ty.below (h : Below X.heap.size X Y) : Ty X Y := ⟨h.size, fun g c t _ _ hg => (h.block g (Array.getElem?_eq_some_iff.1 hg).1).trans hg⟩
theorem Ty.row {B s n : Nat} {e : TypeId} {v : Value} {xs : List Value} (h : X.grownBy Y v.ownBlock) (hb : X.ownsRow B e s v n xs) (he : e = 22 ∨ e = 28) : Ty X Y :=
  ⟨h.size, fun g c t h1 h2 hg => (h.block g (Array.getElem?_eq_some_iff.1 hg).1 (fun e0 => by
    obtain ⟨_, _, cur, h3⟩ := own_ty hb e0.symm
    rw [hg] at h3
    have h4 := (Obj.cells.inj (Option.some.inj h3)).2.1
    rcases he with he | he
    · exact h1 (h4.trans he)
    · exact h2 (h4.trans he))).trans hg⟩
theorem own_tyf {B s n : Nat} {e : TypeId} {v : Value} {xs : List Value} (h : X.ownsRow B e s v n xs) (hf : Ty X Y) (h1 : e ≠ 22) (h2 : e ≠ 28) : Y.ownsRow B e s v n xs := by
  refine ⟨h.1, ?_⟩
  rcases h.2 with h0 | ⟨g, cap, cur, hv, hbg, hg, rest⟩
  · exact .inl h0
  · exact .inr ⟨g, cap, cur, hv, hbg, hf.2 g cur e h1 h2 hg, rest⟩
theorem Fz.tyf {s n : Nat} {e : TypeId} {v : Value} {xs : List Value} (h : Fz X e s v n xs) (hf : Ty X Y) (h1 : e ≠ 22) (h2 : e ≠ 28) : Fz Y e s v n xs := by
  obtain ⟨a, cap, rfl, hc, hm, hl, hx⟩ := h
  refine ⟨a, cap, rfl, hc, hm, hl, hx.imp id ?_⟩
  rintro ⟨g, cur, rfl, hg, hx⟩
  exact ⟨g, cur, rfl, hf.2 g cur e h1 h2 hg, hx⟩
theorem Pat.ty {B : Nat} {t : T} {v : Value} (h : Pat X B t v) (hf : Ty X Y) : Pat Y B t v := by
  obtain ⟨g, cs, hv, hB, hl, hb, hr⟩ := h.pat
  exact ⟨g, cs, hv, hB, Nat.lt_of_lt_of_le hl hf.1, hf.2 g _ _ (by decide) (by decide) hb, own_tyf hr hf (by decide) (by decide)⟩
theorem RPat.ty {B : Nat} {t : T} {v : Value} (h : RPat X B t v) (hf : Ty X Y) : RPat Y B t v := by
  obtain ⟨nv, root, N, hv, hr, hk, hd, hl⟩ := h.pat
  exact ⟨nv, root, N, hv, own_tyf hr hf (by decide) (by decide), fun d hd => Fz.tyf (hk d hd) hf (by decide) (by decide), hd, hl⟩
end
/-- what a pattern answers, whatever rows of patterns are gone on from -/
structure PT (w : World) (v : Value) (M : List ByteArray → Bool) (z : ByteArray) : Prop where
  ty : ∀ Y, Ty w Y → PM Y v M z
structure RT2 (w : World) (v : Value) (M : List ByteArray → Bool) (z : ByteArray) : Prop where
  ty : ∀ Y, Ty w Y → RM Y v M z
theorem PT.on {w w' : World} {v : Value} {M : List ByteArray → Bool} {z : ByteArray} (h : PT w v M z) (hf : Ty w w') : PT w' v M z := ⟨fun Y hy => h.ty Y (hf.trans hy)⟩
theorem RT2.on {w w' : World} {v : Value} {M : List ByteArray → Bool} {z : ByteArray} (h : RT2 w v M z) (hf : Ty w w') : RT2 w' v M z := ⟨fun Y hy => h.ty Y (hf.trans hy)⟩
/-- what the reference's Compile answers beside the program's -/
structure RAns2 (text : ByteArray) (c : Int) (M : List ByteArray → Bool) (z : ByteArray) : Prop where
  run : ∀ w, Calls Try.prog 7 #[.string text] w fun e w' => Below w.heap.size w w' ∧ ∃ (a : Option Addr) (n cp : Nat) (root k : Int), e = .returned (.tuple #[.agg #[.slice a n cp, .int .i64 root], .int .i64 c, .int .i64 k]) ∧ RT2 w' (.agg #[.slice a n cp, .int .i64 root]) M z
theorem both_ty (text : ByteArray) (hsz : text.size ≤ 9223372036854775807) (w : World) : Calls Try.prog 6 #[.string text] w fun e w' => Below w.heap.size w w' ∧ ∃ (a : Option Addr) (c k : Int) (M : List ByteArray → Bool) (z : ByteArray), e = .returned (.tuple #[.pointer a, .int .i64 c, .int .i64 k]) ∧ PT w' (.pointer a) M z ∧ RAns2 text c M z := by
  refine (compile_any text w hsz).mono ?_
  rintro e w' ⟨hb, hc⟩
  refine ⟨hb, ?_⟩
  rcases hc with ⟨hl, rfl⟩ | ⟨hl, k, hk, rfl⟩ | ⟨hl, t, p, ht, hg, hbt, rfl, hp⟩
  · refine ⟨none, 2, 0, _, _, rfl, ⟨fun Y _ => pm_none Y⟩, ⟨fun X => (rcompile_any text X hsz).mono ?_⟩⟩
    rintro e2 X2 ⟨hb2, hc2⟩
    refine ⟨hb2, ?_⟩
    rcases hc2 with ⟨_, rfl⟩ | ⟨h, _⟩ | ⟨h, _⟩
    · exact ⟨none, 0, 0, 0, 0, rfl, ⟨fun Y _ => rm_none Y⟩⟩
    · omega
    · omega
  · refine ⟨none, 140, k, _, _, rfl, ⟨fun Y _ => pm_none Y⟩, ⟨fun X => (rcompile_any text X hsz).mono ?_⟩⟩
    rintro e2 X2 ⟨hb2, hc2⟩
    refine ⟨hb2, ?_⟩
    rcases hc2 with ⟨h, _⟩ | ⟨_, k2, hk2, rfl⟩ | ⟨_, t2, p2, ht2, _⟩
    · omega
    · exact ⟨none, 0, 0, 0, k2, rfl, ⟨fun Y _ => rm_none Y⟩⟩
    · rw [hk] at ht2
      cases ht2
  · obtain ⟨g, cs, rfl, _⟩ := hp.pat
    refine ⟨_, 0, 0, _, _, rfl, ⟨fun Y hy => pm_of (hp.ty hy) hbt (fine_res st0_fine ht)⟩, ⟨fun X => (rcompile_any text X hsz).mono ?_⟩⟩
    rintro e2 X2 ⟨hb2, hc2⟩
    refine ⟨hb2, ?_⟩
    rcases hc2 with ⟨h, _⟩ | ⟨_, k2, hk2, _⟩ | ⟨_, t2, p2, ht2, rfl, hp2⟩
    · omega
    · rw [ht] at hk2
      cases hk2
    · rw [ht] at ht2
      cases ht2
      obtain ⟨nv, root, N, rfl, hr1, _⟩ := hp2.pat
      obtain ⟨an, cn, rfl⟩ := own_len hr1
      exact ⟨an, _, cn, root, 0, rfl, ⟨fun Y hy => rm_of (hp2.ty hy) hg hbt⟩⟩
/-- a pattern of both sides -/
structure PQ where
  a : Option Addr
  qa : Option Addr
  qn : Nat
  qc : Nat
  root : Int
  M : List ByteArray → Bool
  z : ByteArray
def pqV (o : PQ) : Value := .agg #[.slice o.qa o.qn o.qc, .int .i64 o.root]
def pC (L : List PQ) : List Value := L.map fun o => .pointer o.a
def qV (o : PQ) : List Value := [.slice o.qa o.qn o.qc, .int .i64 o.root]
def qC (L : List PQ) : List Value := L.flatMap qV
theorem pC_at {L : List PQ} {k : Nat} {o : PQ} (h : L[k]? = some o) : (pC L)[k]? = some (.pointer o.a) := by simp [pC, h]
theorem qC_cons (d : PQ) (N : List PQ) : qC (d :: N) = .slice d.qa d.qn d.qc :: .int .i64 d.root :: qC N := rfl
theorem qC_at {N : List PQ} {i : Nat} {d : PQ} (h : N[i]? = some d) : (qC N)[i * 2]? = some (.slice d.qa d.qn d.qc) ∧ (qC N)[i * 2 + 1]? = some (.int .i64 d.root) := by
  induction N generalizing i with
  | nil => simp at h
  | cons e N ih =>
    cases i with
    | zero =>
      have h2 : e = d := by simpa using h
      subst h2
      exact ⟨rfl, rfl⟩
    | succ i =>
      have h2 := ih (i := i) (by simpa using h)
      rw [qC_cons, show (i + 1) * 2 = i * 2 + 1 + 1 by omega]
      exact h2
/-- the rows of patterns: LP in the program's, LQ in the reference's; all of L answer alike -/
structure Tu (w : World) (L LP LQ : List PQ) (p q : Value) (X : World) : Prop where
  bel : Below w.heap.size w X
  rp : X.ownsRow w.heap.size 22 1 p LP.length (pC LP)
  rq : X.ownsRow w.heap.size 28 2 q LQ.length (qC LQ)
  pt : ∀ o ∈ L, PT X (.pointer o.a) o.M o.z ∧ RT2 X (pqV o) o.M o.z
theorem Tu.below {w X Y : World} {L LP LQ : List PQ} {p q : Value} (h : Tu w L LP LQ p q X) (hb : Below X.heap.size X Y) : Tu w L LP LQ p q Y :=
  ⟨bnx h.bel hb, own_below h.rp hb (Nat.le_refl _), own_below h.rq hb (Nat.le_refl _), fun o ho => ⟨(h.pt o ho).1.on (Ty.below hb), (h.pt o ho).2.on (Ty.below hb)⟩⟩
theorem Tu.start (w : World) : Tu w [] [] [] (.slice none 0 0) (.slice none 0 0) w :=
  ⟨Below.refl _ _, World.ownsRow_nil _ _ _ _, World.ownsRow_nil _ _ _ _, fun o ho => by cases ho⟩
theorem Tu.more {w X : World} {L LP LQ : List PQ} {p q : Value} (h : Tu w L LP LQ p q X) {o : PQ} (h1 : PT X (.pointer o.a) o.M o.z) (h2 : RT2 X (pqV o) o.M o.z) : Tu w (L ++ [o]) LP LQ p q X :=
  ⟨h.bel, h.rp, h.rq, fun x hx => by
    rcases List.mem_append.1 hx with hx | hx
    · exact h.pt x hx
    · rw [List.mem_singleton] at hx
      subst hx
      exact ⟨h1, h2⟩⟩
theorem Tu.keepP {w X Y : World} {L LP LP' LQ : List PQ} {p p' q : Value} (h : Tu w L LP LQ p q X) (hr : Y.ownsRow w.heap.size 22 1 p' LP'.length (pC LP')) (hk : Keeps X p p' Y) : Tu w L LP' LQ p' q Y :=
  ⟨h.bel.grown hk.by h.bel.size (fun z hz => (own_ty h.rp hz).1), hr, own_keeps h.rq hk (apart_ty h.rq h.rp (by decide)), fun o ho => ⟨(h.pt o ho).1.on (Ty.row hk.by h.rp (.inl rfl)), (h.pt o ho).2.on (Ty.row hk.by h.rp (.inl rfl))⟩⟩
theorem Tu.keepQ {w X Y : World} {L LP LQ LQ' : List PQ} {p q q' : Value} (h : Tu w L LP LQ p q X) (hr : Y.ownsRow w.heap.size 28 2 q' LQ'.length (qC LQ')) (hk : Keeps X q q' Y) : Tu w L LP LQ' p q' Y :=
  ⟨h.bel.grown hk.by h.bel.size (fun z hz => (own_ty h.rq hz).1), own_keeps h.rp hk (apart_ty h.rp h.rq (by decide)), hr, fun o ho => ⟨(h.pt o ho).1.on (Ty.row hk.by h.rq (.inr rfl)), (h.pt o ho).2.on (Ty.row hk.by h.rq (.inr rfl))⟩⟩
theorem info_pp : (Try.prog.info? 22).map (fun i => (i.zero, i.size, i.bytes)) = some (some (.pointer none), 1, 8) := by kernel_rfl
theorem info_rp : (Try.prog.info? 28).map (fun i => (i.zero, i.size, i.bytes)) = some (some (.agg #[.slice none 0 0, .int .i64 0]), 2, 32) := by kernel_rfl
theorem app_p {w X : World} {L LP LQ : List PQ} {p q : Value} (hT : Tu w L LP LQ p q X) (d : PQ) {ops : Array Oper} {rest : List Oper} {op : Oper} {a : Act} {Q : Exit → Act → World → Prop} {s x : Operand}
    (hgd : op.guard = none) (ho : op.op = .call { callee := .builtin .append, args := #[s, x], argTypes := #[43, 43] })
    (hs : a.eval s = p) (hx : a.eval x = .slice (some ⟨X.heap.size, 0, none⟩) 1 1) (hn : LP.length ≤ 100)
    (h : ∀ p' Y, Tu w L (LP ++ [d]) LQ p' q Y → (∀ g cs, Blk X g 28 cs → Blk Y g 28 cs) → wpList Try.prog ops Q rest (a.put op.dst p') Y) : wpList Try.prog ops Q (op :: rest) a (X.alloc (.cells #[.pointer d.a] 22)) := by
  obtain ⟨i0, hi, hz0, hz1, hz2⟩ := info_parts info_pp
  have hA := (Below.refl _ X).alloc (Nat.le_refl _) (.cells #[.pointer d.a] 22)
  have hT1 := hT.below hA
  have hb := hT1.bel.size
  refine wpList_append_keep _ hgd s x 43 ho w.heap.size 22 i0 _ 1 8 Try.underlying43 hi hz0 hz1 hz2 rfl (by decide) p LP.length (pC LP) hs hT1.rp ⟨X.heap.size, 0, none⟩ 1 1 [.pointer d.a] hx rfl (cells_new _ #[.pointer d.a] _)
    (by simp [Value.oneCell']) (by omega) (by simp only [maxLen]; omega) (by omega) hb ?_
  intro p' Y hr hk
  refine h p' Y (hT1.keepP ?_ hk) (fun g cs hB => (hB.below hA hB.lt).grown (show Keeps _ _ _ _ from hk).by (fun e => by
    obtain ⟨_, _, cur, h3⟩ := own_ty hT1.rp e.symm
    have h4 := hB.below hA hB.lt
    unfold Blk at h4
    rw [h4] at h3
    have h5 := (Obj.cells.inj (Option.some.inj h3)).2.1
    revert h5
    decide))
  rw [List.length_append, pC, List.map_append]
  exact hr
theorem app_q {w X : World} {L LP LQ : List PQ} {p q : Value} (hT : Tu w L LP LQ p q X) (d : PQ) {ops : Array Oper} {rest : List Oper} {op : Oper} {a : Act} {Q : Exit → Act → World → Prop} {s x : Operand}
    (hgd : op.guard = none) (ho : op.op = .call { callee := .builtin .append, args := #[s, x], argTypes := #[44, 44] })
    (hs : a.eval s = q) (hx : a.eval x = .slice (some ⟨X.heap.size, 0, none⟩) 1 1) (hn : LQ.length ≤ 100)
    (h : ∀ q' Y, Tu w L LP (LQ ++ [d]) p q' Y → wpList Try.prog ops Q rest (a.put op.dst q') Y) : wpList Try.prog ops Q (op :: rest) a (X.alloc (.cells #[.slice d.qa d.qn d.qc, .int .i64 d.root] 28)) := by
  obtain ⟨i0, hi, hz0, hz1, hz2⟩ := info_parts info_rp
  have hA := (Below.refl _ X).alloc (Nat.le_refl _) (.cells #[.slice d.qa d.qn d.qc, .int .i64 d.root] 28)
  have hT1 := hT.below hA
  have hb := hT1.bel.size
  refine wpList_append_keep _ hgd s x 44 ho w.heap.size 28 i0 _ 2 32 Try.underlying44 hi hz0 hz1 hz2 rfl (by decide) q LQ.length (qC LQ) hs hT1.rq ⟨X.heap.size, 0, none⟩ 1 1 (qV d) hx rfl (cells_new _ #[.slice d.qa d.qn d.qc, .int .i64 d.root] _)
    (by simp [qV, Value.oneCell']) (by omega) (by simp only [maxLen]; omega) (by omega) hb ?_
  intro q' Y hr hk
  refine h q' Y (hT1.keepQ ?_ hk)
  rw [List.length_append, qC, List.flatMap_append]
  simpa [qC] using hr
end Go.Proofs.Ytlbkacabcfeaiaa.Tl
