/- A range over a function whose values are known beforehand, and whose iterator may keep m blocks of cells of its own, laid when it is called: what such an iterator promises (SeqX), and the loop's rule, outside of every round (range_out) and inside of one (range_in). -/
import Derived.RangeFuncNested
import Derived.RangeFuncBound
namespace Go.Proofs.Ytdiijannpfogdaa.Mm
open Go.RowKit
variable {F : Fence} {n : Nat} {P : Program} {α : Type}
/-- what is said abides what is written into the blocks s .. s + m - 1 -/
def Abd {β : Type} (s m : Nat) (J : β → World → Prop) : Prop := ∀ b A B r, J b A → A.grownBy B (some r) → s ≤ r → r < s + m → J b B
theorem Abd.none {β : Type} (s : Nat) (J : β → World → Prop) : Abd s 0 J := fun b A B r _ _ h1 h2 => absurd h2 (by omega)
/-- the blocks s .. s + m - 1 lie as they lay -/
def Kept (s m : Nat) (A B : World) : Prop := A.heap.size ≤ B.heap.size ∧ ∀ r, s ≤ r → r < s + m → B.heap[r]? = A.heap[r]?
theorem Kept.trans {s m : Nat} {A B C : World} (h : Kept s m A B) (k : Kept s m B C) : Kept s m A C := ⟨Nat.le_trans h.1 k.1, fun r a b => (k.2 r a b).trans (h.2 r a b)⟩
theorem Kept.refl (s m : Nat) (A : World) : Kept s m A A := ⟨Nat.le_refl _, fun _ _ _ => rfl⟩
theorem Kept.put {s m l : Nat} (A : World) (o : Obj) (h : l < s) : Kept s m A (A.putObj l o) := ⟨(grownBy_putObj' A l o).size, fun r a _ => World.putObj_heap_other (by omega)⟩
theorem Kept.none {s : Nat} {A B : World} (h : A.heap.size ≤ B.heap.size) : Kept s 0 A B := ⟨h, fun r a b => absurd b (by omega)⟩
def SeqX (F : Fence) (n : Nat) (P : Program) (g : Nat) (lb : Array Value) (encs : α → Array Value) (Kp : World → World → Prop) (xs : List α) (m : Nat) (w : World) : Prop :=
  ∀ (l : Nat) (J Jx : List α → World → Prop) (W : World), Below w.heap.size w W → AbidesFrom W.heap.size J → AbidesFrom W.heap.size Jx → Abd W.heap.size m J → Abd W.heap.size m Jx →
    (∀ pre x W1, J pre W1 → pre ++ [x] <+: xs → W.heap.size + m ≤ W1.heap.size → YieldAt F (n - 1) P l (encs x) W1 fun e W' =>
      (e = .returned (.bool true) ∧ J (pre ++ [x]) W' ∧ Kp W1 W' ∧ Kept W.heap.size m W1 W') ∨ (e = .returned (.bool false) ∧ Jx (pre ++ [x]) W')) →
    J [] W →
    CallsIn F n P g (#[.func (.yield l) #[] #[]] ++ lb) W fun e W' => (∃ v, e = .returned v) ∧ (J xs W' ∨ ∃ pre, pre <+: xs ∧ Jx pre W')
theorem SeqX.inRound {g : Nat} {lb : Array Value} {encs : α → Array Value} {Kp : World → World → Prop} {xs : List α} {m : Nat} {w₀ : World} (l : Nat) (h : SeqX F n P g lb encs Kp xs m w₀) : SeqX (F.inRound l) n P g lb encs Kp xs m w₀ := h
/-- how a round's body may be left -/
def bodyEnd (B s m : Nat) (Kp : World → World → Prop) (I : List α → World → Prop) (Ix : Code → List α → World → Prop) (xs : List α) (W : World) : Exit → Act → World → Prop
  | .normal, _, W' => KeepsFrom B W W' ∧ Kp W W' ∧ Kept s m W W' ∧ I xs W'
  | .ret, _, W' => KeepsFrom B W W' ∧ Ix .ret xs W'
  | .exit id, _, W' => KeepsFrom B W W' ∧ Ix (.exit id) xs W'
  | .goto t, _, W' => KeepsFrom B W W' ∧ Ix (.goto t) xs W'
  | .panic _, _, _ => False
  | .outgrown, _, _ => False
/-- one round: the loop's record lies in block l -/
theorem one_round {B s m l : Nat} {Kp : World → World → Prop} {I : List α → World → Prop} {Ix : Code → List α → World → Prop} {xs : List α} {encs : α → Array Value} {ps : Array Tmp} {assign body : Code} {fn : FuncId} {tm : Array Value} {dl : Nat}
    (E : World → Prop) (hE1 : ∀ A C, E A → KeepsFrom B A C → E C) (hE2 : ∀ A o, E A → E (A.putObj l o))
    (hBl : B ≤ l) (hls : l < s) (hfn : F.fn fn) (hps : ∀ x, (encs x).size = ps.size)
    (hKt : ∀ {A B C : World}, Kp A B → Kp B C → Kp A C) (hKb : ∀ (W : World) (o o' : Obj), W.heap[l]? = some o → o.isCells = false → o.isWalk = false → Kp W (W.putObj l o'))
    (hI : OwnFrom B I) (hIx : ∀ c, OwnFrom B (Ix c)) (Ax : α → Act → World → Prop) (hAx : ∀ x a', OwnFrom B (fun (_ : Unit) W => Ax x a' W))
    (hassign : ∀ (pre : List α) (x : α) (W : World) (K : Act → World → Prop), I pre W → pre ++ [x] <+: xs → s + m ≤ W.heap.size → (∀ a' W', KeepsFrom B W W' → Kp W W' → Kept s m W W' → I pre W' → Ax x a' W' → K a' W') →
      assign.wpIn (F.inRound l) (n - 1 - 1) P (Exit.then K (fun _ _ _ => False)) { tmps := (ps.zip (encs x)).foldl (fun t (p, v) => t.setIfInBounds p v) tm, defers := [] } W)
    (hbody : ∀ (pre : List α) (x : α) (a' : Act) (W : World), (∃ r, W.heap[l]? = some (.loop r)) → I pre W → Ax x a' W → pre ++ [x] <+: xs → s + m ≤ W.heap.size → body.wpIn (F.inRound l) (n - 1 - 1) P (bodyEnd B s m Kp I Ix (pre ++ [x]) W) a' W)
    (pre : List α) (x : α) (W : World) (hi : I pre W) (hx : pre ++ [x] <+: xs) (hsz : s + m ≤ W.heap.size) (hE : E W)
    (hl : W.heap[l]? = some (.loop { state := .ready, pending := none, fn := fn, tmps := tm, params := ps, assign := assign, body := body, defers := dl })) :
    YieldAt F (n - 1 - 1) P l (encs x) W fun e W' =>
      (e = .returned (.bool true) ∧ (I (pre ++ [x]) W' ∧ W'.heap[l]? = some (.loop { state := .ready, pending := none, fn := fn, tmps := tm, params := ps, assign := assign, body := body, defers := dl }) ∧ E W') ∧ Kp W W' ∧ Kept s m W W') ∨
      (e = .returned (.bool false) ∧ ∃ c, Ix c (pre ++ [x]) W' ∧ W'.heap[l]? = some (.loop { state := .done, pending := some c, fn := fn, tmps := tm, params := ps, assign := assign, body := body, defers := dl }) ∧ E W') := by
  have hy := run_yield (P := P) (args := encs x) hl (hps x)
  refine ⟨fn, _, assign, body, hy, roundIn_of_wpIn hfn (hassign pre x W _ hi hx hsz ?_)⟩
  intro a' V hk hkp hkt hi2 hax
  have hl2 := hk.same _ _ hBl hl rfl
  have hlt : l < V.heap.size := (Array.getElem?_eq_some_iff.1 hl2).1
  have hE2' := hE1 _ _ hE hk
  refine ⟨_, run_beginRound hl2 rfl, ?_⟩
  have hl3 := World.putObj_heap_same (o := .loop { state := .busy, pending := none, fn := fn, tmps := tm, params := ps, assign := assign, body := body, defers := dl }) hlt
  refine wpIn_mono (hbody pre x a' _ ⟨_, hl3⟩ (hI.putObj _ hi2 hBl hl2 rfl) ((hAx x a').putObj (s := ()) _ hax hBl hl2 rfl) hx (Nat.le_trans hsz (Nat.le_trans hkt.1 (grownBy_putObj' V l _).size))) ?_
  have kp0 : Kp V (V.putObj l (.loop { state := .busy, pending := none, fn := fn, tmps := tm, params := ps, assign := assign, body := body, defers := dl })) := hKb _ _ _ hl2 rfl rfl
  have kt0 : Kept s m V (V.putObj l (.loop { state := .busy, pending := none, fn := fn, tmps := tm, params := ps, assign := assign, body := body, defers := dl })) := Kept.put V _ hls
  have hE3 := hE2 _ (.loop { state := .busy, pending := none, fn := fn, tmps := tm, params := ps, assign := assign, body := body, defers := dl }) hE2'
  generalize V.putObj l (.loop { state := .busy, pending := none, fn := fn, tmps := tm, params := ps, assign := assign, body := body, defers := dl }) = U at *
  rintro e a3 X hp
  cases e with
  | normal =>
    obtain ⟨k3, kp3, kt3, i3⟩ := hp
    have l3 := k3.same _ _ hBl hl3 rfl
    have hlt3 : l < X.heap.size := (Array.getElem?_eq_some_iff.1 l3).1
    exact ⟨_, _, run_endRound none l3, .inl ⟨rfl, ⟨hI.putObj _ i3 hBl l3 rfl, World.putObj_heap_same hlt3, hE2 _ _ (hE1 _ _ hE3 k3)⟩, hKt hkp (hKt (hKt kp0 kp3) (hKb _ _ _ l3 rfl rfl)), (hkt.trans (kt0.trans kt3)).trans (Kept.put X _ hls)⟩⟩
  | ret =>
    obtain ⟨k3, i3⟩ := hp
    have l3 := k3.same _ _ hBl hl3 rfl
    have hlt3 : l < X.heap.size := (Array.getElem?_eq_some_iff.1 l3).1
    exact ⟨_, _, run_endRound (some .ret) l3, .inr ⟨rfl, .ret, (hIx _).putObj _ i3 hBl l3 rfl, World.putObj_heap_same hlt3, hE2 _ _ (hE1 _ _ hE3 k3)⟩⟩
  | exit id =>
    obtain ⟨k3, i3⟩ := hp
    have l3 := k3.same _ _ hBl hl3 rfl
    have hlt3 : l < X.heap.size := (Array.getElem?_eq_some_iff.1 l3).1
    exact ⟨_, _, run_endRound (some (.exit id)) l3, .inr ⟨rfl, .exit id, (hIx _).putObj _ i3 hBl l3 rfl, World.putObj_heap_same hlt3, hE2 _ _ (hE1 _ _ hE3 k3)⟩⟩
  | goto t =>
    obtain ⟨k3, i3⟩ := hp
    have l3 := k3.same _ _ hBl hl3 rfl
    have hlt3 : l < X.heap.size := (Array.getElem?_eq_some_iff.1 l3).1
    exact ⟨_, _, run_endRound (some (.goto t)) l3, .inr ⟨rfl, .goto t, (hIx _).putObj _ i3 hBl l3 rfl, World.putObj_heap_same hlt3, hE2 _ _ (hE1 _ _ hE3 k3)⟩⟩
  | panic ch => exact hp.elim
  | outgrown => exact hp.elim
/-- the loop, outside of every round -/
theorem range_out {g : Operand} {ps : Array Tmp} {assign body : Code} {Q : Exit → Act → World → Prop} {a : Act} {w : World} {m : Nat}
    (hro : F.round = none) (h1 : 1 ≤ n) {gf : Nat} {lb : Array Value} (hg : a.eval g = .func (.func gf) #[] lb) (hFg : F.fn gf) (eg : ∀ args w, (callFunc gf args).run P w = .ok (.enter gf args) w)
    {encs : α → Array Value} {Kp : World → World → Prop} {xs : List α} {w0 : World} (hseq : SeqX F (n - 1) P gf lb encs Kp xs m w0)
    (hKt : ∀ {A B C : World}, Kp A B → Kp B C → Kp A C) (hKb : ∀ (W : World) (l : Nat) (o o' : Obj), w.heap.size ≤ l → W.heap[l]? = some o → o.isCells = false → o.isWalk = false → Kp W (W.putObj l o')) (hb0 : Below w0.heap.size w0 w) (hps : ∀ x, (encs x).size = ps.size)
    (I : List α → World → Prop) (Ix : Code → List α → World → Prop) (hI : OwnFrom w.heap.size I) (hIx : ∀ c, OwnFrom w.heap.size (Ix c)) (hIa : Abd (w.heap.size + 2) m I) (hIxa : ∀ c, Abd (w.heap.size + 2) m (Ix c)) (h0 : I [] w)
    (Ax : α → Act → World → Prop) (hAx : ∀ x a', OwnFrom w.heap.size (fun (_ : Unit) W => Ax x a' W))
    (hassign : ∀ (l : Nat) (pre : List α) (x : α) (W : World) (K : Act → World → Prop), I pre W → pre ++ [x] <+: xs → w.heap.size + 2 + m ≤ W.heap.size → (∀ a' W', KeepsFrom w.heap.size W W' → Kp W W' → Kept (w.heap.size + 2) m W W' → I pre W' → Ax x a' W' → K a' W') →
      assign.wpIn (F.inRound l) (n - 1 - 1) P (Exit.then K (fun _ _ _ => False)) { tmps := (ps.zip (encs x)).foldl (fun t (p, v) => t.setIfInBounds p v) a.tmps, defers := [] } W)
    (hbody : ∀ (l : Nat) (pre : List α) (x : α) (a' : Act) (W : World), w.heap.size ≤ l → l < w.heap.size + 2 → (∃ r, W.heap[l]? = some (.loop r)) → I pre W → Ax x a' W → pre ++ [x] <+: xs → w.heap.size + 2 + m ≤ W.heap.size → body.wpIn (F.inRound l) (n - 1 - 1) P (bodyEnd w.heap.size (w.heap.size + 2) m Kp I Ix (pre ++ [x]) W) a' W)
    (hdone : ∀ (D : Nat) (W : World), w.heap.size ≤ D → I xs W → W.heap[D]? = some (.deferred (some [])) → Q .normal { a with defers := { target := .collected D, args := #[] } :: a.defers } W)
    (hstop : ∀ (D : Nat) (c : Code) (pre : List α) (W : World), w.heap.size ≤ D → pre <+: xs → Ix c pre W → W.heap[D]? = some (.deferred (some [])) → c.wpIn F n P Q { a with defers := { target := .collected D, args := #[] } :: a.defers } W) :
    (Code.rangeFunc g ps assign body).wpIn F n P Q a w := by
  refine wpIn_rangeFunc ?_
  intro fn hfn
  rw [hro]
  obtain ⟨R, hR⟩ : ∃ R : LoopState → Option Code → Loop, R = fun st pe => { state := st, pending := pe, fn := fn, tmps := a.tmps, params := ps, assign := assign, body := body, defers := w.heap.size } := ⟨_, rfl⟩
  obtain ⟨V, hV⟩ : ∃ V, (w.alloc (.deferred (some []))).alloc (.loop (R .ready none)) = V := ⟨_, rfl⟩
  have hVs : V.heap.size = w.heap.size + 2 := by rw [← hV]; simp
  have hL : V.heap[w.heap.size + 1]? = some (.loop (R .ready none)) := by
    rw [← hV]; have := World.alloc_heap_new (w.alloc (.deferred (some []))) (.loop (R .ready none)); rwa [World.size_alloc] at this
  have hK : V.heap[w.heap.size]? = some (.deferred (some [])) := by
    rw [← hV]; exact (Below.heap_alloc _ _ _ (by simp)).trans (World.alloc_heap_new w _)
  have hIV : I [] V := by rw [← hV]; exact hI.alloc _ (hI.alloc _ h0)
  have hbV : Below w0.heap.size w0 V := by
    rw [← hV]; exact hb0.trans ((((Below.refl _ w).alloc (Nat.le_refl _) _).alloc (by simp) _).mono hb0.size)
  refine ⟨w.heap.size + 1, [{ target := .collected w.heap.size, args := #[] }], V, { target := .fn (.func gf) lb, args := #[.func (.yield (w.heap.size + 1)) #[] #[]] }, V, gf,
    #[.func (.yield (w.heap.size + 1)) #[] #[]] ++ lb, V, ?_, ?_, ?_, ?_, fun _ => h1, ?_⟩
  · rw [← hV, hR]; exact run_enterLoop_outer _ _ _ _ _
  · simp only [resolve, hg]
    simp [go_sem]
  · intro f' hf'; simp [Target.leads] at hf'; subst hf'; exact hFg
  · simp [invoke, go_sem, eg]
  · have far : ∀ {A : World} {row : Option Nat}, (∀ r, row = some r → V.heap.size ≤ r ∧ ∃ o : Obj, A.heap[r]? = some o ∧ o.isWalk = true) → (∀ r, row = some r → w.heap.size ≤ r ∧ ∃ o : Obj, A.heap[r]? = some o ∧ o.isCells = false) :=
      fun hr r e => by obtain ⟨hB, o, ho, hw⟩ := hr r e; exact ⟨by omega, o, ho, Obj.not_cells_of_walk hw⟩
    have own : ∀ {A C : World} {r k : Nat} {o : Obj}, A.grownBy C (some r) → V.heap.size ≤ r → k < V.heap.size → A.heap[k]? = some o → C.heap[k]? = some o :=
      fun hg' h1 h2 hk => (hg'.block _ (Array.getElem?_eq_some_iff.1 hk).1 (fun e => by cases e; omega)).trans hk
    refine (hseq (w.heap.size + 1)
      (fun pre W => I pre W ∧ W.heap[w.heap.size + 1]? = some (.loop (R .ready none)) ∧ W.heap[w.heap.size]? = some (.deferred (some [])))
      (fun pre W => ∃ c, Ix c pre W ∧ W.heap[w.heap.size + 1]? = some (.loop (R .done (some c))) ∧ W.heap[w.heap.size]? = some (.deferred (some []))) V hbV ?_ ?_ ?_ ?_ ?_ ⟨hIV, hL, hK⟩).mono ?_
    · exact fun s A C row hs hg' hr => ⟨hI s A C row hs.1 hg' (far hr), (grownBy_keeps hg' (fun r e => (hr r e).2) hs.2.1 rfl).trans hs.2.1, (grownBy_keeps hg' (fun r e => (hr r e).2) hs.2.2 rfl).trans hs.2.2⟩
    · intro s A C row hs hg' hr
      obtain ⟨c, hc, hl, hk⟩ := hs
      exact ⟨c, hIx c s A C row hc hg' (far hr), (grownBy_keeps hg' (fun r e => (hr r e).2) hl rfl).trans hl, (grownBy_keeps hg' (fun r e => (hr r e).2) hk rfl).trans hk⟩
    · intro s A C r hs hg' h1 h2
      exact ⟨hIa s A C r hs.1 hg' (by omega) (by omega), own hg' h1 (by omega) hs.2.1, own hg' h1 (by omega) hs.2.2⟩
    · intro s A C r hs hg' h1 h2
      obtain ⟨c, hc, hl, hk⟩ := hs
      exact ⟨c, hIxa c s A C r hc hg' (by omega) (by omega), own hg' h1 (by omega) hl, own hg' h1 (by omega) hk⟩
    · rintro pre x W ⟨hi, hl, hk⟩ hx hsz
      rw [hVs] at hsz ⊢
      rw [hR] at hl ⊢
      exact one_round (n := n) (P := P) (Kp := Kp) (l := w.heap.size + 1) (E := fun W => W.heap[w.heap.size]? = some (.deferred (some []))) (fun A C h k => k.same _ _ (Nat.le_refl _) h rfl) (fun A o h => (World.putObj_heap_other (by omega)).trans h) (by omega) (by omega) hfn hps (fun h k => hKt h k) (fun W o o' => hKb W (w.heap.size + 1) o o' (by omega)) hI hIx Ax hAx
        (fun pre x W K => hassign (w.heap.size + 1) pre x W K) (fun pre x a' W => hbody (w.heap.size + 1) pre x a' W (by omega) (by omega)) pre x W hi hx hsz hk hl
    · rintro e U ⟨⟨v, rfl⟩, (⟨hi, hl, hk⟩ | ⟨pre, hSp, c, hi, hl, hk⟩)⟩
      · exact ⟨none, _, by have := run_endLoop (P := P) hl (by rw [hR]; simp); rw [hR] at this; exact this, hdone _ _ (Nat.le_refl _) (hI.putObj _ hi (by omega) hl rfl) ((World.putObj_heap_other (by omega)).trans hk)⟩
      · exact ⟨some c, _, by have := run_endLoop (P := P) hl (by rw [hR]; simp); rw [hR] at this; exact this, hstop _ c pre _ (Nat.le_refl _) hSp ((hIx c).putObj _ hi (by omega) hl rfl) ((World.putObj_heap_other (by omega)).trans hk)⟩
/-- the loop, inside of a round of the loop l₀ -/
theorem range_in {g : Operand} {ps : Array Tmp} {assign body : Code} {Q : Exit → Act → World → Prop} {a : Act} {w : World} {m : Nat}
    {l₀ : Nat} {r₀ : Loop} (hro : F.round = some l₀) (hl₀ : w.heap[l₀]? = some (.loop r₀)) (h1 : 1 ≤ n) {gf : Nat} {lb : Array Value} (hg : a.eval g = .func (.func gf) #[] lb) (hFg : F.fn gf) (eg : ∀ args w, (callFunc gf args).run P w = .ok (.enter gf args) w)
    {encs : α → Array Value} {Kp : World → World → Prop} {xs : List α} {w0 : World} (hseq : SeqX F (n - 1) P gf lb encs Kp xs m w0)
    (hKt : ∀ {A B C : World}, Kp A B → Kp B C → Kp A C) (hKb : ∀ (W : World) (l : Nat) (o o' : Obj), w.heap.size ≤ l → W.heap[l]? = some o → o.isCells = false → o.isWalk = false → Kp W (W.putObj l o')) (hb0 : Below w0.heap.size w0 w) (hps : ∀ x, (encs x).size = ps.size)
    (I : List α → World → Prop) (Ix : Code → List α → World → Prop) (hI : OwnFrom w.heap.size I) (hIx : ∀ c, OwnFrom w.heap.size (Ix c)) (hIa : Abd (w.heap.size + 1) m I) (hIxa : ∀ c, Abd (w.heap.size + 1) m (Ix c)) (h0 : I [] w)
    (Ax : α → Act → World → Prop) (hAx : ∀ x a', OwnFrom w.heap.size (fun (_ : Unit) W => Ax x a' W))
    (hassign : ∀ (l : Nat) (pre : List α) (x : α) (W : World) (K : Act → World → Prop), I pre W → pre ++ [x] <+: xs → w.heap.size + 1 + m ≤ W.heap.size → (∀ a' W', KeepsFrom w.heap.size W W' → Kp W W' → Kept (w.heap.size + 1) m W W' → I pre W' → Ax x a' W' → K a' W') →
      assign.wpIn (F.inRound l) (n - 1 - 1) P (Exit.then K (fun _ _ _ => False)) { tmps := (ps.zip (encs x)).foldl (fun t (p, v) => t.setIfInBounds p v) a.tmps, defers := [] } W)
    (hbody : ∀ (l : Nat) (pre : List α) (x : α) (a' : Act) (W : World), w.heap.size ≤ l → l < w.heap.size + 1 → (∃ r, W.heap[l]? = some (.loop r)) → I pre W → Ax x a' W → pre ++ [x] <+: xs → w.heap.size + 1 + m ≤ W.heap.size → body.wpIn (F.inRound l) (n - 1 - 1) P (bodyEnd w.heap.size (w.heap.size + 1) m Kp I Ix (pre ++ [x]) W) a' W)
    (hdone : ∀ (W : World), I xs W → Q .normal a W)
    (hstop : ∀ (c : Code) (pre : List α) (W : World), pre <+: xs → Ix c pre W → c.wpIn F n P Q a W) :
    (Code.rangeFunc g ps assign body).wpIn F n P Q a w := by
  refine wpIn_rangeFunc ?_
  intro fn hfn
  rw [hro]
  obtain ⟨R, hR⟩ : ∃ R : LoopState → Option Code → Loop, R = fun st pe => { state := st, pending := pe, fn := fn, tmps := a.tmps, params := ps, assign := assign, body := body, defers := r₀.defers } := ⟨_, rfl⟩
  obtain ⟨V, hV⟩ : ∃ V, w.alloc (.loop (R .ready none)) = V := ⟨_, rfl⟩
  have hVs : V.heap.size = w.heap.size + 1 := by rw [← hV]; simp
  have hL : V.heap[w.heap.size]? = some (.loop (R .ready none)) := by rw [← hV]; exact World.alloc_heap_new w _
  have hIV : I [] V := by rw [← hV]; exact hI.alloc _ h0
  have hbV : Below w0.heap.size w0 V := by
    rw [← hV]; exact hb0.trans (((Below.refl _ w).alloc (Nat.le_refl _) _).mono hb0.size)
  refine ⟨w.heap.size, [], V, { target := .fn (.func gf) lb, args := #[.func (.yield w.heap.size) #[] #[]] }, V, gf,
    #[.func (.yield w.heap.size) #[] #[]] ++ lb, V, ?_, ?_, ?_, ?_, fun _ => h1, ?_⟩
  · rw [← hV, hR]; exact run_enterLoop_inner hl₀ _ _ _ _ _
  · simp only [resolve, hg]
    simp [go_sem]
  · intro f' hf'; simp [Target.leads] at hf'; subst hf'; exact hFg
  · simp [invoke, go_sem, eg]
  · have far : ∀ {A : World} {row : Option Nat}, (∀ r, row = some r → V.heap.size ≤ r ∧ ∃ o : Obj, A.heap[r]? = some o ∧ o.isWalk = true) → (∀ r, row = some r → w.heap.size ≤ r ∧ ∃ o : Obj, A.heap[r]? = some o ∧ o.isCells = false) :=
      fun hr r e => by obtain ⟨hB, o, ho, hw⟩ := hr r e; exact ⟨by omega, o, ho, Obj.not_cells_of_walk hw⟩
    have own : ∀ {A C : World} {r k : Nat} {o : Obj}, A.grownBy C (some r) → V.heap.size ≤ r → k < V.heap.size → A.heap[k]? = some o → C.heap[k]? = some o :=
      fun hg' h1 h2 hk => (hg'.block _ (Array.getElem?_eq_some_iff.1 hk).1 (fun e => by cases e; omega)).trans hk
    refine (hseq w.heap.size
      (fun pre W => I pre W ∧ W.heap[w.heap.size]? = some (.loop (R .ready none)))
      (fun pre W => ∃ c, Ix c pre W ∧ W.heap[w.heap.size]? = some (.loop (R .done (some c)))) V hbV ?_ ?_ ?_ ?_ ?_ ⟨hIV, hL⟩).mono ?_
    · exact fun s A C row hs hg' hr => ⟨hI s A C row hs.1 hg' (far hr), (grownBy_keeps hg' (fun r e => (hr r e).2) hs.2 rfl).trans hs.2⟩
    · intro s A C row hs hg' hr
      obtain ⟨c, hc, hl⟩ := hs
      exact ⟨c, hIx c s A C row hc hg' (far hr), (grownBy_keeps hg' (fun r e => (hr r e).2) hl rfl).trans hl⟩
    · intro s A C r hs hg' h1 h2
      exact ⟨hIa s A C r hs.1 hg' (by omega) (by omega), own hg' h1 (by omega) hs.2⟩
    · intro s A C r hs hg' h1 h2
      obtain ⟨c, hc, hl⟩ := hs
      exact ⟨c, hIxa c s A C r hc hg' (by omega) (by omega), own hg' h1 (by omega) hl⟩
    · rintro pre x W ⟨hi, hl⟩ hx hsz
      rw [hVs] at hsz ⊢
      rw [hR] at hl ⊢
      refine (one_round (n := n) (P := P) (Kp := Kp) (l := w.heap.size) (E := fun _ => True) (fun A C h k => trivial) (fun A o h => trivial) (by omega) (by omega) hfn hps (fun h k => hKt h k) (fun W o o' => hKb W w.heap.size o o' (by omega)) hI hIx Ax hAx
        (fun pre x W K => hassign w.heap.size pre x W K) (fun pre x a' W => hbody w.heap.size pre x a' W (by omega) (by omega)) pre x W hi hx hsz trivial hl).mono ?_
      rintro e W' (⟨h1, ⟨h2, h3, _⟩, h4⟩ | ⟨h1, c, h2, h3, _⟩)
      · exact .inl ⟨h1, ⟨h2, h3⟩, h4⟩
      · exact .inr ⟨h1, c, h2, h3⟩
    · rintro e U ⟨⟨v, rfl⟩, (⟨hi, hl⟩ | ⟨pre, hSp, c, hi, hl⟩)⟩
      · exact ⟨none, _, by have := run_endLoop (P := P) hl (by rw [hR]; simp); rw [hR] at this; exact this, hdone _ (hI.putObj _ hi (by omega) hl rfl)⟩
      · exact ⟨some c, _, by have := run_endLoop (P := P) hl (by rw [hR]; simp); rw [hR] at this; exact this, hstop c pre _ hSp ((hIx c).putObj _ hi (by omega) hl rfl)⟩
end Go.Proofs.Ytdiijannpfogdaa.Mm
