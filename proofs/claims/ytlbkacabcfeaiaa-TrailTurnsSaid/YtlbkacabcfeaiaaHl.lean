/- A region that draws its order and ends in a store into a cell that it loads: what is held of the world need not be shown anew behind that last operation, which waits for each of the others. -/
import Derived.Test.YtlbkacabcfeaiaaMm
import Derived.Deep.RegionHeld3
namespace Go.Proofs.Ytlbkacabcfeaiaa.Mm
open Go.RowKit
section
variable {P : Program} {ops : Array Oper} {Q : Exit → Act → World → Prop} {md : Region.Mode} {S : World → Prop} {L : Nat}
/-- in whatever order; behind every operation but number L the world meets S -/
def wpLast (P : Program) (md : Region.Mode) (ops : Array Oper) (Q : Exit → Act → World → Prop) (S : World → Prop) (L : Nat) : Nat → Array Bool → Act → World → Prop
  | 0, ls, a, w => Region.ready md ops ls = [] ∧ Q .normal a w
  | n + 1, ls, a, w => (Region.ready md ops ls = [] → Q .normal a w) ∧ ∀ i ∈ Region.ready md ops ls, wpOp P ops Q i (fun b x => (i ≠ L → S x) ∧ wpLast P md ops Q S L n (ls.setIfInBounds i true) b x) a w
theorem wpAny_of_last : ∀ (n : Nat) (ls : Array Bool) (a : Act) (w : World), wpLast P md ops Q S L n ls a w → wpAny P md ops Q n ls a w := by
  intro n
  induction n with
  | zero => exact fun _ _ _ h => h
  | succ n ih => exact fun ls a w h => ⟨h.1, fun i hi => wpOp_mono (fun b x hx => ih _ b x hx.2) (h.2 i hi)⟩
/-- number L waits for number i -/
def Waits (md : Region.Mode) (ops : Array Oper) (L i : Nat) : Prop := ∃ o e, ops[L]? = some o ∧ e ∈ o.after ∧ Region.binds md e = true ∧ e.on = i
theorem last_take {i : Nat} {oi : Oper} {v : Value} (hi : ops[i]? = some oi) (hs : Region.noSelect ops = true) (hQ : ∀ c a w, Q (.panic c) (a.put oi.dst v) w → Q (.panic c) a w) (hL : Waits md ops L i) :
    ∀ (n : Nat) (ls : Array Bool) (a : Act) (w : World), (∀ j oj, ops[j]? = some oj → j ≠ i → ls.getD j true = false → (∀ e ∈ oj.after, Region.binds md e = true → e.on ≠ i) → oi.apart ops oj = true) → i ∈ Region.ready md ops ls → YieldsIf P ops S oi v a → S w →
      wpLast P md ops Q S L n (ls.setIfInBounds i true) (a.put oi.dst v) w → wpLast P md ops Q S L (n + 1) ls a w := by
  have sel := Region.noSelect_spec hs
  intro n
  induction n with
  | zero =>
    intro ls a w _ hr hy hS H
    refine ⟨fun h => (by rw [h] at hr; cases hr), fun j hj => ?_⟩
    by_cases e : j = i
    · rw [e]
      exact hy.wpOp hi hS ⟨fun _ => hS, H⟩
    · have := ready_mono hj e
      rw [H.1] at this
      cases this
  | succ n ih =>
    intro ls a w hfree hr hy hS H
    have hun : ls.getD i true = false := (mem_ready.1 hr).1
    have hnl : ls.getD i false ≠ true := fun h => by
      rcases Nat.lt_or_ge i ls.size with hlt | hge
      · simp [hlt] at hun h
        rw [hun] at h
        cases h
      · simp [Array.getElem?_eq_none hge] at hun
    refine ⟨fun h => (by rw [h] at hr; cases hr), fun j hj => ?_⟩
    by_cases e : j = i
    · rw [e]
      exact hy.wpOp hi hS ⟨fun _ => hS, H⟩
    · obtain ⟨hju, oj, hoj, hall⟩ := mem_ready.1 hj
      have hjL : j ≠ L := fun e2 => by
        obtain ⟨o, d, ho, hd, hb, hon⟩ := hL
        rw [e2, ho] at hoj
        cases hoj
        have := hall d hd hb
        rw [hon] at this
        exact hnl this
      have hno : ∀ d ∈ oj.after, Region.binds md d = true → d.on ≠ i := fun d hd hb hon => by
        have := hall d hd hb
        rw [hon] at this
        exact hnl this
      have h2 := wpOp_putIf hoj (hfree j oj hoj e hju hno) (fun cs b => sel i oi cs b hi) (fun cs b => sel j oj cs b hoj) hQ hy (H.2 j (ready_mono hj e))
      refine wpOp_mono (fun b x h3 => ⟨fun _ => h3.2.1 hjL, ?_⟩) h2
      refine ih (ls.setIfInBounds j true) b x (fun k ok hk hki hku hkn => hfree k ok hk hki ?_ hkn) (ready_mono hr (Ne.symm e)) h3.1 (h3.2.1 hjL) ?_
      · by_cases hjk : j = k
        · rw [← hjk]
          exact hju
        · rw [getD_set_ne true hjk] at hku
          exact hku
      · rw [Array.setIfInBounds_comm _ _ e]
        exact h3.2.2
theorem wpLast_take {i : Nat} {oi : Oper} {v : Value} {n : Nat} {ls : Array Bool} {a : Act} {w : World} (hi : ops[i]? = some oi) (hs : Region.noSelect ops = true) (hf : Region.free md ops ls i = true) (hr : (Region.ready md ops ls).contains i = true)
    (hL : ((ops[L]?.map fun o => o.after.any fun e => Region.binds md e && e.on == i).getD false) = true) (hQ : ∀ c a w, Q (.panic c) (a.put oi.dst v) w → Q (.panic c) a w) (hy : YieldsIf P ops S oi v a) (hS : S w)
    (h : wpLast P md ops Q S L n (ls.setIfInBounds i true) (a.put oi.dst v) w) : wpLast P md ops Q S L (n + 1) ls a w := by
  refine last_take hi hs hQ ?_ n ls a w (Region.free_spec hi hf) (by simpa using hr) hy hS h
  cases ho : ops[L]? with
  | none => rw [ho] at hL; cases hL
  | some o =>
    rw [ho] at hL
    simp only [Option.map_some, Option.getD_some, Array.any_eq_true', Bool.and_eq_true, beq_iff_eq] at hL
    obtain ⟨e, he, hb, hon⟩ := hL
    exact ⟨o, e, ho, he, hb, hon⟩
theorem wpLast_done {ls : Array Bool} {a : Act} {w : World} (hr : Region.ready md ops ls = []) (h : Q .normal a w) : ∀ n, wpLast P md ops Q S L n ls a w
  | 0 => ⟨hr, h⟩
  | _ + 1 => ⟨fun _ => h, by rw [hr]; simp⟩
/-- those that may come up -/
def EachLast (P : Program) (md : Region.Mode) (ops : Array Oper) (Q : Exit → Act → World → Prop) (S : World → Prop) (L n : Nat) (ls : Array Bool) (a : Act) (w : World) (rs : List Nat) : Prop :=
  ∀ i ∈ rs, wpOp P ops Q i (fun b x => (i ≠ L → S x) ∧ wpLast P md ops Q S L n (ls.setIfInBounds i true) b x) a w
theorem EachLast.nil {n : Nat} {ls : Array Bool} {a : Act} {w : World} : EachLast P md ops Q S L n ls a w [] := fun _ h => by cases h
theorem EachLast.cons {n : Nat} {ls : Array Bool} {a : Act} {w : World} {i : Nat} {o : Oper} {rs : List Nat} (ho : ops[i]? = some o)
    (h : ∀ K : Act → World → Prop, Shut (∀ b x, (i ≠ L → S x) → wpLast P md ops Q S L n (ls.setIfInBounds i true) b x → K b x) → if Region.wanted o (yielded ops a.tmps) = true then Oper.wp P o a w K Q else K (a.put o.dst undef) w)
    (hs : EachLast P md ops Q S L n ls a w rs) : EachLast P md ops Q S L n ls a w (i :: rs) := fun j hj => by
  rcases List.mem_cons.1 hj with rfl | hj
  · exact wpOp_step ho (fun K hK => h K (fun b x hS hW => hK b x ⟨hS, hW⟩))
  · exact hs j hj
theorem wpLast_ready {rs : List Nat} {n : Nat} {ls : Array Bool} {a : Act} {w : World} (hr : Region.ready md ops ls = rs) (hne : rs ≠ []) (h : EachLast P md ops Q S L n ls a w rs) : wpLast P md ops Q S L (n + 1) ls a w :=
  ⟨fun h0 => absurd (hr ▸ h0) hne, hr ▸ h⟩
theorem wp_region_last {id : Nat} {a : Act} {w : World} (L : Nat) (S : World → Prop) (hm : P.follows .mixedOrders = true)
    (h : wpLast P .any ops Q S L ops.size (Array.replicate ops.size false) a w.drew) : (Code.region id ops true).wp P Q a w :=
  wp_region_any hm (wpAny_of_last _ _ _ _ h)
end
end Go.Proofs.Ytlbkacabcfeaiaa.Mm
