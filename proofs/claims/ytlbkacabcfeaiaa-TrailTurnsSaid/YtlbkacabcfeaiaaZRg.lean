/- Patterns: the program's run. -/
import Derived.Test.YtlbkacabcfeaiaaZRe
namespace Go.Proofs.Ytlbkacabcfeaiaa.Tl
open Go.RowKit Mm
set_option linter.unusedVariables false
set_option maxRecDepth 100000 in
set_option maxHeartbeats 4000000 in
theorem run_any {W X : World} {g : Nat} {s : ByteArray} {st0 : St} {out : Value} {R : List Rw} {c p : Rw} {S : Nat → Prop} (h : Rd W g s st0 out R c p S X) (ok : Ok (xs s).length st0) (hs : s.size ≤ 1000) :
    Calls Try.prog 17 #[.pointer (some ⟨g, 0, none⟩)] X (PR W g s st0) := by
  go_enter Try.func17, Try.ntmps17
  go_wp2_with fail
  refine wp_scope_many (JR W g s st0) (muR g) ?_ ?_
  · have hJ : JR W g s st0 0 _ X := ⟨undef, .bool false, List.replicate 223 undef, st0, out, R, c, p, S, by simp, rfl, h, ok, rfl⟩
    go_wp2_with fail
    go_step3
    rename_i K hK
    refine hK _ _ ?_
    refine Code.wp_mono (fun e a w hq => ?_) (pass0b hs _ X hJ _ rfl)
    cases e with
    | goto l => exact ⟨hq.1, hq.2.1⟩
    | normal => exact hq
    | exit id => exact hq
    | ret => exact hq
    | panic ch => exact hq
    | outgrown => exact hq
  · intro l rest a w hf hJ
    match l, hf, hJ with
    | 0, hf, hJ => exact pass0 hs a w hJ rest hf
    | 1, hf, hJ => exact pass1 hs a w hJ rest hf
    | 2, hf, hJ => exact pass2 hs a w hJ rest hf
    | 3, hf, hJ => exact pass3 hs a w hJ rest hf
    | 4, hf, hJ => exact pass4 hs a w hJ rest hf
    | 5, hf, hJ => exact pass5 hs a w hJ rest hf
    | 6, hf, hJ => exact pass6 hs a w hJ rest hf
    | 7, hf, hJ => exact pass7 hs a w hJ rest hf
    | l + 8, hf, hJ =>
      obtain ⟨u1, d, us, st, out, R, c, p, S, _, _, _, _, hL⟩ := hJ
      exact hL.elim
end Go.Proofs.Ytlbkacabcfeaiaa.Tl
