/-
  No cell of these rows narrows 'for every input' (looked for: loops, veiled, ifaces, maps, wideKeys, modest, calm, conditions, laid).
  DERIVED. THE GIVEN ROWS OF THIS SEAT. 3 by the template 'for every input the law returns true; each argument reads behind the call as it read before'; 0 by the template 'total and deterministic' (their statements: YtlbkacabcfeaiaaTotals.lean).
  GIVEN WITH THE SEED: the statements are not yours to turn. If you find one false, say at which input.
  Laid BY PROGRAM, IN A SANDBOX (cutbox-rows.mjs): the forced cells as the released guide's own fill.sh prints them over the translation 21e24e13e8ede16f… (all of the seat's roots in one cut). By AI agents, Wed Nov 11 2026. No macro, syntax, notation, axiom, sorry.
-/
import Derived.Test.YtlbkacabcfeaiaaChecked
import GoSem.Claim
import GoSem.ClaimJoined
import GoSem.ClaimMapViews
import Derived.JoinedTies
import Derived.KernelRfl
namespace Go.Proofs.Ytlbkacabcfeaiaa
/- THE CELL 'sum', in the pinned program and in every row, IS THE sha256 OF THE DUMP (.gsa) THAT YtlbkacabcfeaiaaProg.lean LOADS. Nothing in Lean hashes anything: it is a label: what it is worth is what the hold of that sum in a sandbox is worth. -/
noncomputable def Try.pinned : Pinned := { name := "ytlbkacabcfeaiaa", sum := "21e24e13e8ede16fcc1c29f5f20b6f6b74e20266ec8dbbf6a95253ee7e061b11", checked := Try.checked }
namespace Rows
def none {H : Type} : Left H := { results := [], args := [] }

/-- 'reachlaw14.TrailCompiles': WHATEVER THE INPUT: true; the input reads as it did. -/
def trailCompilesSpec : ChangeSpec := { name := "trailCompiles", fn := fun _ => fun
  | [d] => { results := [.lit (.bool true)], args := [d] }
  | _ => none }
def trailCompilesRow : OpenClaim := { program := "ytlbkacabcfeaiaa", sum := "21e24e13e8ede16fcc1c29f5f20b6f6b74e20266ec8dbbf6a95253ee7e061b11", func := "reach/reachlaw14.TrailCompiles", spec := "trailCompiles", unfollowed := true, recurses := true, apart := false }
def TrailCompilesSaid : Prop := trailCompilesRow.holds Try.pinned (OpenSpec.ofChange trailCompilesSpec)

/-- ITS FALSE NEIGHBOUR: 'it returns false'. Refute it at one input. -/
def trailCompilesWrong : ChangeSpec := { name := "trailCompiles", fn := fun _ => fun
  | [d] => { results := [.lit (.bool false)], args := [d] }
  | _ => none }
def TrailCompilesWrongFalsely : Prop := trailCompilesRow.holds Try.pinned (OpenSpec.ofChange trailCompilesWrong)

/-- 'reachlaw14.TrailMatches': WHATEVER THE INPUT: true; the input reads as it did. -/
def trailMatchesSpec : ChangeSpec := { name := "trailMatches", fn := fun _ => fun
  | [d1, d2] => { results := [.lit (.bool true)], args := [d1, d2] }
  | _ => none }
def trailMatchesRow : OpenClaim := { program := "ytlbkacabcfeaiaa", sum := "21e24e13e8ede16fcc1c29f5f20b6f6b74e20266ec8dbbf6a95253ee7e061b11", func := "reach/reachlaw14.TrailMatches", spec := "trailMatches", unfollowed := true, recurses := true, apart := false }
def TrailMatchesSaid : Prop := trailMatchesRow.holds Try.pinned (OpenSpec.ofChange trailMatchesSpec)

/-- ITS FALSE NEIGHBOUR: 'it returns false'. Refute it at one input. -/
def trailMatchesWrong : ChangeSpec := { name := "trailMatches", fn := fun _ => fun
  | [d1, d2] => { results := [.lit (.bool false)], args := [d1, d2] }
  | _ => none }
def TrailMatchesWrongFalsely : Prop := trailMatchesRow.holds Try.pinned (OpenSpec.ofChange trailMatchesWrong)

/-- 'reachlaw14.TrailTurns': WHATEVER THE INPUT: true; the input reads as it did. -/
def trailTurnsSpec : ChangeSpec := { name := "trailTurns", fn := fun _ => fun
  | [d1, d2, d3] => { results := [.lit (.bool true)], args := [d1, d2, d3] }
  | _ => none }
def trailTurnsRow : OpenClaim := { program := "ytlbkacabcfeaiaa", sum := "21e24e13e8ede16fcc1c29f5f20b6f6b74e20266ec8dbbf6a95253ee7e061b11", func := "reach/reachlaw14.TrailTurns", spec := "trailTurns", unfollowed := true, recurses := true, apart := false }
def TrailTurnsSaid : Prop := trailTurnsRow.holds Try.pinned (OpenSpec.ofChange trailTurnsSpec)

/-- ITS FALSE NEIGHBOUR: 'it returns false'. Refute it at one input. -/
def trailTurnsWrong : ChangeSpec := { name := "trailTurns", fn := fun _ => fun
  | [d1, d2, d3] => { results := [.lit (.bool false)], args := [d1, d2, d3] }
  | _ => none }
def TrailTurnsWrongFalsely : Prop := trailTurnsRow.holds Try.pinned (OpenSpec.ofChange trailTurnsWrong)

/- THE SECOND FORM. 'bulk': how many values and letters a reading holds, each counted each time it is reached (what is shared counts as often as it is met; a slice's spare places count too). A statement '..UptoSaid' is the law's where the arguments, and the package variables that the reading takes, are together of bulk at most 1048576: NARROWER than '..Said'. Prove '..Said' where nothing that the law and all that it calls make is longer than what came in: it says more and counts as full. Else prove '..UptoSaid'. A law counts once. -/
mutual
def uptoBulk {H : Type} : DataW H → Nat
  | .lit (.string bytes) => bytes.length + 1
  | .lit _ => 1
  | .nil => 1
  | .ptr d => uptoBulk d + 1
  | .slice elems spare => uptoBulkAll elems + uptoBulkAll spare + 1
  | .agg parts => uptoBulkAll parts + 1
  | .iface _ d => uptoBulk d + 1
  | .map entries => uptoBulkEntries entries + 1
  | .held _ => 1
def uptoBulkAll {H : Type} : List (DataW H) → Nat
  | [] => 0
  | d :: r => uptoBulk d + uptoBulkAll r
def uptoBulkEntries {H : Type} : List (Lit × DataW H) → Nat
  | [] => 0
  | x :: r => uptoBulkEntry x + uptoBulkEntries r
def uptoBulkEntry {H : Type} : Lit × DataW H → Nat
  | (.string bytes, d) => bytes.length + uptoBulk d + 1
  | (_, d) => uptoBulk d + 1
 end
def uptoSmall : (H : Type) → List (DataW H) → Bool := fun _ ds => decide (uptoBulkAll ds ≤ 1048576)
def OpenSpec.upto (s : _root_.Go.ChangeSpec) : _root_.Go.OpenSpec := { _root_.Go.OpenSpec.ofChange s with cond := some uptoSmall }

/-- 'reachlaw14.TrailCompiles', WHERE WHAT IT READS IS OF BULK AT MOST 1048576: true; the input reads as it did. -/
def trailCompilesUptoRow : OpenClaim := { program := "ytlbkacabcfeaiaa", sum := "21e24e13e8ede16fcc1c29f5f20b6f6b74e20266ec8dbbf6a95253ee7e061b11", func := "reach/reachlaw14.TrailCompiles", spec := "trailCompiles", unfollowed := true, recurses := true, apart := false, narrowed := true }
def TrailCompilesUptoSaid : Prop := trailCompilesUptoRow.holds Try.pinned (OpenSpec.upto trailCompilesSpec)

/-- 'reachlaw14.TrailMatches', WHERE WHAT IT READS IS OF BULK AT MOST 1048576: true; the input reads as it did. -/
def trailMatchesUptoRow : OpenClaim := { program := "ytlbkacabcfeaiaa", sum := "21e24e13e8ede16fcc1c29f5f20b6f6b74e20266ec8dbbf6a95253ee7e061b11", func := "reach/reachlaw14.TrailMatches", spec := "trailMatches", unfollowed := true, recurses := true, apart := false, narrowed := true }
def TrailMatchesUptoSaid : Prop := trailMatchesUptoRow.holds Try.pinned (OpenSpec.upto trailMatchesSpec)

/-- 'reachlaw14.TrailTurns', WHERE WHAT IT READS IS OF BULK AT MOST 1048576: true; the input reads as it did. -/
def trailTurnsUptoRow : OpenClaim := { program := "ytlbkacabcfeaiaa", sum := "21e24e13e8ede16fcc1c29f5f20b6f6b74e20266ec8dbbf6a95253ee7e061b11", func := "reach/reachlaw14.TrailTurns", spec := "trailTurns", unfollowed := true, recurses := true, apart := false, narrowed := true }
def TrailTurnsUptoSaid : Prop := trailTurnsUptoRow.holds Try.pinned (OpenSpec.upto trailTurnsSpec)

end Rows
end Go.Proofs.Ytlbkacabcfeaiaa
