/- Patterns: the program's code of a sequence. Printed by mkem.py. -/
import Derived.Test.YtlbkacabcfeaiaaZEm
namespace Go.Proofs.Ytlbkacabcfeaiaa.Tl
open Go.RowKit Mm
set_option linter.unusedVariables false
theorem emS_app (a b : List T) : ∀ c, emS (a ++ b) c = emS b (emS a c) := by
  induction a with
  | nil => exact fun c => rfl
  | cons t a ih => exact fun c => by rw [List.cons_append, emS, ih, emS]
theorem bdL_at {l : List T} {k : Nat} (h : k < l.length) : bdL (l.take k) + bd l[k] ≤ bdL l := by
  have e : l = l.take k ++ l[k] :: l.drop (k + 1) := by rw [← List.drop_eq_getElem_cons h, List.take_append_drop]
  have h2 := bdL_app (l.take k) (l[k] :: l.drop (k + 1))
  rw [← e, bdL] at h2
  omega
theorem emS_step {l : List T} {k : Nat} (h : k < l.length) (c : List Sp) : emS (l.take (k + 1)) c = em l[k] (emS (l.take k) c) := by
  rw [List.take_succ_eq_append_getElem h, emS_app, emS, emS]
set_option maxRecDepth 100000 in
set_option maxHeartbeats 8000000 in
theorem sequence_emit {l : List T} (hall : ∀ t ∈ l, EmC t) (w : World) (S : Nat → Prop) (u : Value) (vs : List Value) (B : Nat) (v : Value) (c : List Sp) (hf : Fz w 57 1 u l.length vs) (hsu : ∀ g, u.ownBlock = some g → S g) (hA : AllT w S vs l)
    (hSB : ∀ g, S g → g < B) (hB : B ≤ w.heap.size) (hrow : w.ownsRow B 64 4 v c.length (spC c)) (hbd : c.length + bdL l ≤ 90000) :
    Calls Try.prog 75 #[u, v] w fun e w' => ∃ v', e = .returned v' ∧ EmW w B v (emS l c) v' w' := by
  obtain ⟨a0, cap, rfl, hcap, hcm⟩ := hf.form
  unfold maxLen at hcm
  have HC := Lib.hid (fun h : 0 < l.length => Fz.cells hf h)
  have HA := Lib.hid hA
  have HW := Lib.hid hall
  have hlen := bdL_len l
  have HB := Lib.hid (fun (X : World) (c1 : List Sp) (v1 : Value) (h : EmW w B v c1 v1 X) => h.below hrow hB)
  have HS := Lib.hid (EmW.start hrow)
  have HSU := Lib.hid hsu
  clear hf hA hall hrow hsu
  go_enter Try.func75, Try.ntmps75
  go_wp2_with fail
  go_loopw [1, 9] (fun s i wr => ∃ k : Nat, k ≤ l.length ∧ i = .int .i64 (k : Int) ∧ EmW w B v (emS (l.take k) c) s wr) (fun _ i _ => l.length - (intOf i).toNat)
  case atStart => exact ⟨0, Nat.zero_le _, rfl, HS.out⟩
  case round =>
    obtain ⟨k, hk, rfl, hE⟩ := hrel
    by_cases hlt : k < l.length
    · obtain ⟨g, rfl, hg, hc⟩ := HC.out (by omega)
      obtain ⟨x, hx, ht⟩ := HA.out.at hlt
      have hbel := HB.out _ _ _ hE
      have hgB := hSB g (HSU.out g rfl)
      have q := hc k x hx
      have q0 : wr.cell? ⟨g, k, none⟩ = some x := (Below.cell hbel (p := ⟨g, k, none⟩) hgB).trans q
      have hem := HW.out _ (List.getElem_mem hlt)
      have hb1 := bdL_at hlt
      have hb2 := (emS_len (l.take k) c).2
      have HT := Lib.hid (emS_step hlt c)
      have ht2 := ht.keep (w' := wr) (fun _ h => h) (fun g h _ => hbel.block g (hSB g h))
      obtain ⟨a1, cap1, rfl⟩ := hE.len
      generalize l[k] = t at *
      obtain ⟨ty, pay, rfl⟩ := ht2.form
      have HX := Lib.hid (hem wr S ty pay B _ _ ht2 hSB (Nat.le_trans hB hbel.size) hE.row (by omega))
      have HE := Lib.hid hE
      clear hE hc hx q ht hbel hem
      cases ht2
      all_goals
        go_wp2_with fail
        refine HX.out.mono ?_
        rintro e w3 ⟨v', rfl, hE3⟩
        have HF := Lib.hid (HE.out.trans hE3)
        clear hE3
        go_wp2_with fail
        go_roundw
        case rel => exact ⟨k + 1, by omega, by go_num, by rw [HT.out]; exact HF.out⟩
        case measure => simp [intOf]; omega
    · obtain rfl : k = l.length := by omega
      rw [List.take_length] at hE
      have HE := Lib.hid hE
      clear hE
      go_wp2_with fail
      go_ret
      exact ⟨_, rfl, HE.out⟩
end Go.Proofs.Ytlbkacabcfeaiaa.Tl
