/- A region that draws its order, only reads and calls quietly, inside of a round: walked as outside. -/
import Derived.Test.YtdiijannpfogdaaRg
import Derived.Sort.QuietIn
import Derived.StillTailTactics
namespace Go.Proofs.Ytdiijannpfogdaa.Mm
open Go.RowKit
variable {F : Fence} {n : Nat} {P : Program} {ops : Array Oper}
/-- no operation of the list is a 'defer' statement -/
def noDefer (l : List Oper) : Bool := l.all fun o => match o.op with | .defer _ => false | _ => true
theorem noDefer_at {l : List Oper} (h : noDefer l = true) {o : Oper} (ho : o ∈ l) : ∀ c, o.op ≠ .defer c := by
  intro c e
  have := List.all_eq_true.1 h o ho
  rw [e] at this
  cases this
theorem op_round {o : Oper} {a : Act} {K : Act → World → Prop} {Q : Exit → Act → World → Prop} {w : World} (l : Nat) (hd : ∀ c, o.op ≠ .defer c) (h : o.wpIn F n P a w K Q) : o.wpIn (F.inRound l) n P a w K Q := by
  unfold Oper.wpIn at h ⊢
  rw [Oper.semAt_eq _ _ _ hd] at h ⊢
  exact h
theorem any_round {Q : Exit → Act → World → Prop} {md : Region.Mode} (l : Nat) (hd : ∀ (i : Nat) (o : Oper), ops[i]? = some o → ∀ c, o.op ≠ .defer c) : ∀ (fuel : Nat) (listed : Array Bool) (a : Act) (w : World), wpAnyIn F n P md ops Q fuel listed a w → wpAnyIn (F.inRound l) n P md ops Q fuel listed a w
  | 0, _, _, _, h => h
  | fuel + 1, listed, a, w, h => ⟨h.1, fun i hi => by
      have h2 := h.2 i hi
      unfold wpOpIn at h2 ⊢
      split
      · rename_i ho
        simp only [ho] at h2
        exact any_round l hd fuel _ _ _ h2
      · rename_i o ho
        simp only [ho] at h2
        split
        · rename_i hw
          simp only [hw, if_true] at h2
          exact op_round l (hd i o ho) (Oper.wpIn_mono (fun a w h3 => any_round l hd fuel _ a w h3) h2)
        · rename_i hw
          simp only [hw] at h2
          exact ⟨h2.1, any_round l hd fuel _ _ _ h2.2⟩⟩
theorem quiet_round {id : Nat} {Q : Exit → Act → World → Prop} {a : Act} {w : World} {l : List Oper} {lp : Nat} (hro : F.round = none) (hm : P.follows .mixedOrders = true) (hd : noDefer l = true) (hB : Region.lexB .any l.toArray = true)
    (h : wpQuietIn F n P l.toArray (fun w' => ∃ n, w' = w.drewN n) (fun a' => ∀ w', (∃ n, w' = w.drewN n) → Q .normal a' w') l a) : (Code.region id l.toArray true).wpIn (F.inRound lp) n P Q a w := by
  simp only [Region.lexB, Bool.and_eq_true] at hB
  refine wpIn_region_any hm (any_round lp (fun i o ho => noDefer_at hd (by rw [List.getElem?_toArray] at ho; exact List.mem_of_getElem? ho)) _ _ _ _ ?_)
  refine wpAnyIn_of_quiet (C := fun w' => ∃ n, w' = w.drewN n) (Q := fun a' => ∀ w', (∃ n, w' = w.drewN n) → Q .normal a' w') hro (fun _ w' hw' h => h w' hw') _ _ _ _ ⟨1, rfl⟩ ?_
  have := wpAnyQIn_lex (F := F) (n := n) (C := fun w' => ∃ n, w' = w.drewN n) (md := .any) hB.1 l 0 (Array.replicate l.toArray.size false) a (by simp) (by simpa using hB.2) h
  simpa using this
/-! What an outer walk says of the operations of a drawn region holds inside of a round too, at the wide fence. -/
theorem op_wide {o : Oper} {a : Act} {K : Act → World → Prop} {Q : Exit → Act → World → Prop} {w : World} {lp : Nat} (hd : ∀ c, o.op ≠ .defer c) (h : o.wp P a w K Q) : o.wpIn (Fence.wide.inRound lp) n P a w K Q := by
  unfold Oper.wpIn
  refine ⟨fun _ _ => trivial, ?_⟩
  rw [Oper.semAt_eq _ _ _ hd]
  unfold Oper.wp at h
  generalize (execOp a.eval o).run P w = r at *
  cases r with
  | ok x w1 =>
    cases x with
    | enter f args => exact ⟨fun h0 => by simp [Fence.wide, Fence.inRound] at h0, CallsIn.inRound lp (callsIn_wide.2 h)⟩
    | row row args => exact ⟨fun h0 => by simp [Fence.wide, Fence.inRound] at h0, fun c cs _ => let ⟨v, w', r, s⟩ := h c cs; ⟨v, w', r, stepsIn_wide.2 s⟩⟩
    | value v => exact h
    | skip => exact h
    | defer d => exact h
    | round => exact h.elim
    | _ => exact h.elim
  | halt x w1 =>
    cases x with
    | panic v => exact h
    | _ => exact h.elim
theorem any_wide {Q : Exit → Act → World → Prop} {md : Region.Mode} {lp : Nat} (hQ : ¬ LetsOut Q) (hd : ∀ (i : Nat) (o : Oper), ops[i]? = some o → ∀ c, o.op ≠ .defer c) : ∀ (fuel : Nat) (listed : Array Bool) (a : Act) (w : World), wpAny P md ops Q fuel listed a w → wpAnyIn (Fence.wide.inRound lp) n P md ops Q fuel listed a w
  | 0, _, _, _, h => h
  | fuel + 1, listed, a, w, h => ⟨h.1, fun i hi => by
      have h2 := h.2 i hi
      unfold wpOp at h2
      unfold wpOpIn
      split
      · rename_i ho
        simp only [ho] at h2
        exact any_wide hQ hd fuel _ _ _ h2
      · rename_i o ho
        simp only [ho] at h2
        split
        · rename_i hw
          simp only [hw, if_true] at h2
          exact op_wide (hd i o ho) (Oper.wp_mono (fun a w h3 => any_wide hQ hd fuel _ a w h3) (h2.resolve_right fun h3 => hQ h3.2))
        · rename_i hw
          simp only [hw] at h2
          exact ⟨fun _ _ => trivial, any_wide hQ hd fuel _ _ _ h2⟩⟩
theorem no_defer_at {l : List Oper} (hd : noDefer l = true) (i : Nat) (o : Oper) (ho : l.toArray[i]? = some o) : ∀ c, o.op ≠ .defer c :=
  noDefer_at hd (by rw [List.getElem?_toArray] at ho; exact List.mem_of_getElem? ho)
theorem still_round {id : Nat} {Q : Exit → Act → World → Prop} {a : Act} {w : World} {l : List Oper} {lp : Nat} (k : Nat) (hQ : ¬ LetsOut Q) (hm : P.follows .mixedOrders = true) (hd : noDefer l = true) (hB : Region.lexTailB .any l.toArray k = true)
    (h : wpStill P l.toArray w.drew (fun a' => wpList P l.toArray Q (l.drop k) a' w.drew) (l.take k) a) : (Code.region id l.toArray true).wpIn (Fence.wide.inRound lp) n P Q a w := by
  refine wpIn_region_any hm (any_wide hQ (no_defer_at hd) _ _ _ _ ?_)
  simp only [Region.lexTailB, Bool.and_eq_true, decide_eq_true_eq] at hB
  obtain ⟨⟨⟨⟨hsel, hn⟩, hs⟩, hc⟩, hlex⟩ := hB
  have hn' : k < l.length := by simpa using hn
  have htl : (l.take k).length = k := by simp; omega
  have hdl : (l.drop k).length = l.toArray.size - k := by simp
  have inv0 : HeadInv .any l.toArray k (Array.replicate l.toArray.size false) :=
    ⟨by simp, fun j oj _ hl => (by rw [getD_replicate_false] at hl; cases hl), fun t _ ht => getD_in (by simpa using ht) (getD_replicate_false _ _)⟩
  have H := wpAnyL_lex (md := .any) (g := l.toArray.size - k) hsel hs hc hn (l.take k) 0 _ a (fun j hj => by
    have hj' : j < k := by rw [htl] at hj; exact hj
    simp [hj']) (by simpa using htl) inv0 (by rw [htl]; exact hlex) h
  have := wpAny_of_head (Q' := Q) (g := l.toArray.size - k) (fun listed a' hL => by
    have := wpAny_of_seq (md := .any) (Q' := Q) (l.drop k) k listed a' w.drew (fun j => by simp [List.getElem?_drop]) (by rw [hdl]; exact hL.1) hL.2
    rwa [hdl] at this) _ _ _ H
  rw [htl, show k + (l.toArray.size - k) = l.toArray.size by omega] at this
  exact this
/-- the post at a normal end alone -/
def Fine (Q : Exit → Act → World → Prop) (e : Exit) (a : Act) (w : World) : Prop := e = .normal ∧ Q .normal a w
theorem still_fine {id : Nat} {Q : Exit → Act → World → Prop} {a : Act} {w : World} {l : List Oper} {lp : Nat} (k : Nat) (hm : P.follows .mixedOrders = true) (hd : noDefer l = true) (hB : Region.lexTailB .any l.toArray k = true)
    (h : wpStill P l.toArray w.drew (fun a' => wpList P l.toArray (Fine Q) (l.drop k) a' w.drew) (l.take k) a) : (Code.region id l.toArray true).wpIn (Fence.wide.inRound lp) n P Q a w :=
  wpIn_mono (still_round k (Q := Fine Q) (by rintro ⟨a, w, h, _⟩; cases h) hm hd hB h) (by rintro e a w ⟨rfl, h⟩; exact h)
end Go.Proofs.Ytdiijannpfogdaa.Mm
