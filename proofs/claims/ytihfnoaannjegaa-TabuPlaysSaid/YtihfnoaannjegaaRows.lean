/-
  No cell of these rows narrows 'for every input' (looked for: loops, veiled, ifaces, maps, wideKeys, modest, calm, conditions, laid).
  DERIVED. THE GIVEN ROWS OF THIS SEAT. 5 by the template 'for every input the law returns true; each argument reads behind the call as it read before'; 0 by the template 'total and deterministic' (their statements: YtihfnoaannjegaaTotals.lean).
  GIVEN WITH THE SEED: the statements are not yours to turn. If you find one false, say at which input.
  Laid BY PROGRAM, IN A SANDBOX (cutbox-rows.mjs): the forced cells as the released guide's own fill.sh prints them over the translation ed6b234784a657fe… (all of the seat's roots in one cut). By AI agents, Wed Nov 11 2026. No macro, syntax, notation, axiom, sorry.
-/
import Derived.Test.YtihfnoaannjegaaChecked
import GoSem.Claim
import GoSem.ClaimJoined
import GoSem.ClaimMapViews
import Derived.JoinedTies
import Derived.KernelRfl
namespace Go.Proofs.Ytihfnoaannjegaa
/- THE CELL 'sum', in the pinned program and in every row, IS THE sha256 OF THE DUMP (.gsa) THAT YtihfnoaannjegaaProg.lean LOADS. Nothing in Lean hashes anything: it is a label: what it is worth is what the hold of that sum in a sandbox is worth. -/
noncomputable def Try.pinned : Pinned := { name := "ytihfnoaannjegaa", sum := "ed6b234784a657feb8ae1c8105e7c612e80a44152c31164625ccd741c359f149", checked := Try.checked }
namespace Rows
def none {H : Type} : Left H := { results := [], args := [] }

/-- 'jitneylaw20.TabuPlays': WHATEVER THE INPUT: true; the input reads as it did. -/
def tabuPlaysSpec : ChangeSpec := { name := "tabuPlays", fn := fun _ => fun
  | [d] => { results := [.lit (.bool true)], args := [d] }
  | _ => none }
def tabuPlaysRow : OpenClaim := { program := "ytihfnoaannjegaa", sum := "ed6b234784a657feb8ae1c8105e7c612e80a44152c31164625ccd741c359f149", func := "jitney/jitneylaw20.TabuPlays", spec := "tabuPlays", unfollowed := true, recurses := true, plainKeys := false, apart := false }
def TabuPlaysSaid : Prop := tabuPlaysRow.holds Try.pinned (OpenSpec.ofChange tabuPlaysSpec)

/-- ITS FALSE NEIGHBOUR: 'it returns false'. Refute it at one input. -/
def tabuPlaysWrong : ChangeSpec := { name := "tabuPlays", fn := fun _ => fun
  | [d] => { results := [.lit (.bool false)], args := [d] }
  | _ => none }
def TabuPlaysWrongFalsely : Prop := tabuPlaysRow.holds Try.pinned (OpenSpec.ofChange tabuPlaysWrong)

/-- 'jitneylaw20.TabuWeights': WHATEVER THE INPUT: true; the input reads as it did. -/
def tabuWeightsSpec : ChangeSpec := { name := "tabuWeights", fn := fun _ => fun
  | [d1, d2, d3] => { results := [.lit (.bool true)], args := [d1, d2, d3] }
  | _ => none }
def tabuWeightsRow : OpenClaim := { program := "ytihfnoaannjegaa", sum := "ed6b234784a657feb8ae1c8105e7c612e80a44152c31164625ccd741c359f149", func := "jitney/jitneylaw20.TabuWeights", spec := "tabuWeights", unfollowed := true, recurses := true, plainKeys := false, apart := false }
def TabuWeightsSaid : Prop := tabuWeightsRow.holds Try.pinned (OpenSpec.ofChange tabuWeightsSpec)

/-- ITS FALSE NEIGHBOUR: 'it returns false'. Refute it at one input. -/
def tabuWeightsWrong : ChangeSpec := { name := "tabuWeights", fn := fun _ => fun
  | [d1, d2, d3] => { results := [.lit (.bool false)], args := [d1, d2, d3] }
  | _ => none }
def TabuWeightsWrongFalsely : Prop := tabuWeightsRow.holds Try.pinned (OpenSpec.ofChange tabuWeightsWrong)

/-- 'jitneylaw20.TabuEnds': WHATEVER THE INPUT: true; the input reads as it did. -/
def tabuEndsSpec : ChangeSpec := { name := "tabuEnds", fn := fun _ => fun
  | [d1, d2, d3, d4, d5] => { results := [.lit (.bool true)], args := [d1, d2, d3, d4, d5] }
  | _ => none }
def tabuEndsRow : OpenClaim := { program := "ytihfnoaannjegaa", sum := "ed6b234784a657feb8ae1c8105e7c612e80a44152c31164625ccd741c359f149", func := "jitney/jitneylaw20.TabuEnds", spec := "tabuEnds", unfollowed := true, recurses := true, plainKeys := false, apart := false }
def TabuEndsSaid : Prop := tabuEndsRow.holds Try.pinned (OpenSpec.ofChange tabuEndsSpec)

/-- ITS FALSE NEIGHBOUR: 'it returns false'. Refute it at one input. -/
def tabuEndsWrong : ChangeSpec := { name := "tabuEnds", fn := fun _ => fun
  | [d1, d2, d3, d4, d5] => { results := [.lit (.bool false)], args := [d1, d2, d3, d4, d5] }
  | _ => none }
def TabuEndsWrongFalsely : Prop := tabuEndsRow.holds Try.pinned (OpenSpec.ofChange tabuEndsWrong)

/-- 'jitneylaw20.TabuOrders': WHATEVER THE INPUT: true; the input reads as it did. -/
def tabuOrdersSpec : ChangeSpec := { name := "tabuOrders", fn := fun _ => fun
  | [d1, d2, d3, d4] => { results := [.lit (.bool true)], args := [d1, d2, d3, d4] }
  | _ => none }
def tabuOrdersRow : OpenClaim := { program := "ytihfnoaannjegaa", sum := "ed6b234784a657feb8ae1c8105e7c612e80a44152c31164625ccd741c359f149", func := "jitney/jitneylaw20.TabuOrders", spec := "tabuOrders", unfollowed := true, recurses := true, plainKeys := false, apart := false }
def TabuOrdersSaid : Prop := tabuOrdersRow.holds Try.pinned (OpenSpec.ofChange tabuOrdersSpec)

/-- ITS FALSE NEIGHBOUR: 'it returns false'. Refute it at one input. -/
def tabuOrdersWrong : ChangeSpec := { name := "tabuOrders", fn := fun _ => fun
  | [d1, d2, d3, d4] => { results := [.lit (.bool false)], args := [d1, d2, d3, d4] }
  | _ => none }
def TabuOrdersWrongFalsely : Prop := tabuOrdersRow.holds Try.pinned (OpenSpec.ofChange tabuOrdersWrong)

/-- 'jitneylaw20.TabuTurns': WHATEVER THE INPUT: true; the input reads as it did. -/
def tabuTurnsSpec : ChangeSpec := { name := "tabuTurns", fn := fun _ => fun
  | [d1, d2] => { results := [.lit (.bool true)], args := [d1, d2] }
  | _ => none }
def tabuTurnsRow : OpenClaim := { program := "ytihfnoaannjegaa", sum := "ed6b234784a657feb8ae1c8105e7c612e80a44152c31164625ccd741c359f149", func := "jitney/jitneylaw20.TabuTurns", spec := "tabuTurns", unfollowed := true, recurses := true, plainKeys := false, apart := false }
def TabuTurnsSaid : Prop := tabuTurnsRow.holds Try.pinned (OpenSpec.ofChange tabuTurnsSpec)

/-- ITS FALSE NEIGHBOUR: 'it returns false'. Refute it at one input. -/
def tabuTurnsWrong : ChangeSpec := { name := "tabuTurns", fn := fun _ => fun
  | [d1, d2] => { results := [.lit (.bool false)], args := [d1, d2] }
  | _ => none }
def TabuTurnsWrongFalsely : Prop := tabuTurnsRow.holds Try.pinned (OpenSpec.ofChange tabuTurnsWrong)

/- THE SECOND FORM. 'bulk': how many values and letters a reading holds, each counted each time it is reached (what is shared counts as often as it is met; a slice's spare places count too). A statement '..UptoSaid' is the law's where the arguments, and the package variables that the reading takes, are together of bulk at most 1048576: NARROWER than '..Said'. Prove '..Said' where nothing that the law and all that it calls make is longer than what came in: it says more and counts as full. Else prove '..UptoSaid'. A law counts once. -/
mutual
def uptoBulk {H : Type} : DataW H → Nat
  | .lit (.string bytes) => bytes.length + 1
  | .lit _ => 1
  | .nil => 1
  | .ptr d => uptoBulk d + 1
  | .slice elems spare => uptoBulkAll elems + uptoBulkAll spare + 1
  | .agg parts => uptoBulkAll parts + 1
  | .iface _ d => uptoBulk d + 1
  | .map entries => uptoBulkEntries entries + 1
  | .held _ => 1
def uptoBulkAll {H : Type} : List (DataW H) → Nat
  | [] => 0
  | d :: r => uptoBulk d + uptoBulkAll r
def uptoBulkEntries {H : Type} : List (Lit × DataW H) → Nat
  | [] => 0
  | x :: r => uptoBulkEntry x + uptoBulkEntries r
def uptoBulkEntry {H : Type} : Lit × DataW H → Nat
  | (.string bytes, d) => bytes.length + uptoBulk d + 1
  | (_, d) => uptoBulk d + 1
 end
def uptoSmall : (H : Type) → List (DataW H) → Bool := fun _ ds => decide (uptoBulkAll ds ≤ 1048576)
def OpenSpec.upto (s : _root_.Go.ChangeSpec) : _root_.Go.OpenSpec := { _root_.Go.OpenSpec.ofChange s with cond := some uptoSmall }

/-- 'jitneylaw20.TabuPlays', WHERE WHAT IT READS IS OF BULK AT MOST 1048576: true; the input reads as it did. -/
def tabuPlaysUptoRow : OpenClaim := { program := "ytihfnoaannjegaa", sum := "ed6b234784a657feb8ae1c8105e7c612e80a44152c31164625ccd741c359f149", func := "jitney/jitneylaw20.TabuPlays", spec := "tabuPlays", unfollowed := true, recurses := true, plainKeys := false, apart := false, narrowed := true }
def TabuPlaysUptoSaid : Prop := tabuPlaysUptoRow.holds Try.pinned (OpenSpec.upto tabuPlaysSpec)

/-- 'jitneylaw20.TabuWeights', WHERE WHAT IT READS IS OF BULK AT MOST 1048576: true; the input reads as it did. -/
def tabuWeightsUptoRow : OpenClaim := { program := "ytihfnoaannjegaa", sum := "ed6b234784a657feb8ae1c8105e7c612e80a44152c31164625ccd741c359f149", func := "jitney/jitneylaw20.TabuWeights", spec := "tabuWeights", unfollowed := true, recurses := true, plainKeys := false, apart := false, narrowed := true }
def TabuWeightsUptoSaid : Prop := tabuWeightsUptoRow.holds Try.pinned (OpenSpec.upto tabuWeightsSpec)

/-- 'jitneylaw20.TabuEnds', WHERE WHAT IT READS IS OF BULK AT MOST 1048576: true; the input reads as it did. -/
def tabuEndsUptoRow : OpenClaim := { program := "ytihfnoaannjegaa", sum := "ed6b234784a657feb8ae1c8105e7c612e80a44152c31164625ccd741c359f149", func := "jitney/jitneylaw20.TabuEnds", spec := "tabuEnds", unfollowed := true, recurses := true, plainKeys := false, apart := false, narrowed := true }
def TabuEndsUptoSaid : Prop := tabuEndsUptoRow.holds Try.pinned (OpenSpec.upto tabuEndsSpec)

/-- 'jitneylaw20.TabuOrders', WHERE WHAT IT READS IS OF BULK AT MOST 1048576: true; the input reads as it did. -/
def tabuOrdersUptoRow : OpenClaim := { program := "ytihfnoaannjegaa", sum := "ed6b234784a657feb8ae1c8105e7c612e80a44152c31164625ccd741c359f149", func := "jitney/jitneylaw20.TabuOrders", spec := "tabuOrders", unfollowed := true, recurses := true, plainKeys := false, apart := false, narrowed := true }
def TabuOrdersUptoSaid : Prop := tabuOrdersUptoRow.holds Try.pinned (OpenSpec.upto tabuOrdersSpec)

/-- 'jitneylaw20.TabuTurns', WHERE WHAT IT READS IS OF BULK AT MOST 1048576: true; the input reads as it did. -/
def tabuTurnsUptoRow : OpenClaim := { program := "ytihfnoaannjegaa", sum := "ed6b234784a657feb8ae1c8105e7c612e80a44152c31164625ccd741c359f149", func := "jitney/jitneylaw20.TabuTurns", spec := "tabuTurns", unfollowed := true, recurses := true, plainKeys := false, apart := false, narrowed := true }
def TabuTurnsUptoSaid : Prop := tabuTurnsUptoRow.holds Try.pinned (OpenSpec.upto tabuTurnsSpec)

end Rows
end Go.Proofs.Ytihfnoaannjegaa
