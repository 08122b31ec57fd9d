/-
  No cell of these rows narrows 'for every input' (looked for: loops, veiled, ifaces, maps, wideKeys, modest, calm, conditions, laid).
  DERIVED. THE GIVEN ROWS OF THIS SEAT. 5 by the template 'for every input the law returns true; each argument reads behind the call as it read before'; 0 by the template 'total and deterministic' (their statements: YtfhmfdmcdmcaiaaTotals.lean).
  GIVEN WITH THE SEED: the statements are not yours to turn. If you find one false, say at which input.
  Laid BY PROGRAM, IN A SANDBOX (cutbox-rows.mjs): the forced cells as the released guide's own fill.sh prints them over the translation fde0aca2e10b4f5e… (all of the seat's roots in one cut). By AI agents, Wed Nov 11 2026. No macro, syntax, notation, axiom, sorry.
-/
import Derived.Test.YtfhmfdmcdmcaiaaChecked
import GoSem.Claim
import GoSem.ClaimJoined
import GoSem.ClaimMapViews
import Derived.JoinedTies
import Derived.KernelRfl
namespace Go.Proofs.Ytfhmfdmcdmcaiaa
/- THE CELL 'sum', in the pinned program and in every row, IS THE sha256 OF THE DUMP (.gsa) THAT YtfhmfdmcdmcaiaaProg.lean LOADS. Nothing in Lean hashes anything: it is a label: what it is worth is what the hold of that sum in a sandbox is worth. -/
noncomputable def Try.pinned : Pinned := { name := "ytfhmfdmcdmcaiaa", sum := "fde0aca2e10b4f5eeb04f30e71e7cf1f35382349ce1042e1f2c5487e9986f6ac", checked := Try.checked }
namespace Rows
def none {H : Type} : Left H := { results := [], args := [] }

/-- 'mortiselaw9.GraphOrders': WHATEVER THE INPUT: true; the input reads as it did. -/
def graphOrdersSpec : ChangeSpec := { name := "graphOrders", fn := fun _ => fun
  | [d1, d2] => { results := [.lit (.bool true)], args := [d1, d2] }
  | _ => none }
def graphOrdersRow : OpenClaim := { program := "ytfhmfdmcdmcaiaa", sum := "fde0aca2e10b4f5eeb04f30e71e7cf1f35382349ce1042e1f2c5487e9986f6ac", func := "mortise/mortiselaw9.GraphOrders", spec := "graphOrders", unfollowed := true, recurses := true, apart := false }
def GraphOrdersSaid : Prop := graphOrdersRow.holds Try.pinned (OpenSpec.ofChange graphOrdersSpec)

/-- ITS FALSE NEIGHBOUR: 'it returns false'. Refute it at one input. -/
def graphOrdersWrong : ChangeSpec := { name := "graphOrders", fn := fun _ => fun
  | [d1, d2] => { results := [.lit (.bool false)], args := [d1, d2] }
  | _ => none }
def GraphOrdersWrongFalsely : Prop := graphOrdersRow.holds Try.pinned (OpenSpec.ofChange graphOrdersWrong)

/-- 'mortiselaw9.GraphHolds': WHATEVER THE INPUT: true; the input reads as it did. -/
def graphHoldsSpec : ChangeSpec := { name := "graphHolds", fn := fun _ => fun
  | [d1, d2] => { results := [.lit (.bool true)], args := [d1, d2] }
  | _ => none }
def graphHoldsRow : OpenClaim := { program := "ytfhmfdmcdmcaiaa", sum := "fde0aca2e10b4f5eeb04f30e71e7cf1f35382349ce1042e1f2c5487e9986f6ac", func := "mortise/mortiselaw9.GraphHolds", spec := "graphHolds", unfollowed := true, recurses := true, apart := false }
def GraphHoldsSaid : Prop := graphHoldsRow.holds Try.pinned (OpenSpec.ofChange graphHoldsSpec)

/-- ITS FALSE NEIGHBOUR: 'it returns false'. Refute it at one input. -/
def graphHoldsWrong : ChangeSpec := { name := "graphHolds", fn := fun _ => fun
  | [d1, d2] => { results := [.lit (.bool false)], args := [d1, d2] }
  | _ => none }
def GraphHoldsWrongFalsely : Prop := graphHoldsRow.holds Try.pinned (OpenSpec.ofChange graphHoldsWrong)

/-- 'mortiselaw9.GraphTurned': WHATEVER THE INPUT: true; the input reads as it did. -/
def graphTurnedSpec : ChangeSpec := { name := "graphTurned", fn := fun _ => fun
  | [d1, d2] => { results := [.lit (.bool true)], args := [d1, d2] }
  | _ => none }
def graphTurnedRow : OpenClaim := { program := "ytfhmfdmcdmcaiaa", sum := "fde0aca2e10b4f5eeb04f30e71e7cf1f35382349ce1042e1f2c5487e9986f6ac", func := "mortise/mortiselaw9.GraphTurned", spec := "graphTurned", unfollowed := true, recurses := true, apart := false }
def GraphTurnedSaid : Prop := graphTurnedRow.holds Try.pinned (OpenSpec.ofChange graphTurnedSpec)

/-- ITS FALSE NEIGHBOUR: 'it returns false'. Refute it at one input. -/
def graphTurnedWrong : ChangeSpec := { name := "graphTurned", fn := fun _ => fun
  | [d1, d2] => { results := [.lit (.bool false)], args := [d1, d2] }
  | _ => none }
def GraphTurnedWrongFalsely : Prop := graphTurnedRow.holds Try.pinned (OpenSpec.ofChange graphTurnedWrong)

/-- 'mortiselaw9.GraphRings': WHATEVER THE INPUT: true; the input reads as it did. -/
def graphRingsSpec : ChangeSpec := { name := "graphRings", fn := fun _ => fun
  | [d1, d2] => { results := [.lit (.bool true)], args := [d1, d2] }
  | _ => none }
def graphRingsRow : OpenClaim := { program := "ytfhmfdmcdmcaiaa", sum := "fde0aca2e10b4f5eeb04f30e71e7cf1f35382349ce1042e1f2c5487e9986f6ac", func := "mortise/mortiselaw9.GraphRings", spec := "graphRings", unfollowed := true, recurses := true, apart := false }
def GraphRingsSaid : Prop := graphRingsRow.holds Try.pinned (OpenSpec.ofChange graphRingsSpec)

/-- ITS FALSE NEIGHBOUR: 'it returns false'. Refute it at one input. -/
def graphRingsWrong : ChangeSpec := { name := "graphRings", fn := fun _ => fun
  | [d1, d2] => { results := [.lit (.bool false)], args := [d1, d2] }
  | _ => none }
def GraphRingsWrongFalsely : Prop := graphRingsRow.holds Try.pinned (OpenSpec.ofChange graphRingsWrong)

/-- 'mortiselaw9.GraphBelows': WHATEVER THE INPUT: true; the input reads as it did. -/
def graphBelowsSpec : ChangeSpec := { name := "graphBelows", fn := fun _ => fun
  | [d1, d2, d3] => { results := [.lit (.bool true)], args := [d1, d2, d3] }
  | _ => none }
def graphBelowsRow : OpenClaim := { program := "ytfhmfdmcdmcaiaa", sum := "fde0aca2e10b4f5eeb04f30e71e7cf1f35382349ce1042e1f2c5487e9986f6ac", func := "mortise/mortiselaw9.GraphBelows", spec := "graphBelows", unfollowed := true, recurses := true, apart := false }
def GraphBelowsSaid : Prop := graphBelowsRow.holds Try.pinned (OpenSpec.ofChange graphBelowsSpec)

/-- ITS FALSE NEIGHBOUR: 'it returns false'. Refute it at one input. -/
def graphBelowsWrong : ChangeSpec := { name := "graphBelows", fn := fun _ => fun
  | [d1, d2, d3] => { results := [.lit (.bool false)], args := [d1, d2, d3] }
  | _ => none }
def GraphBelowsWrongFalsely : Prop := graphBelowsRow.holds Try.pinned (OpenSpec.ofChange graphBelowsWrong)

/- THE SECOND FORM. 'bulk': how many values and letters a reading holds, each counted each time it is reached (what is shared counts as often as it is met; a slice's spare places count too). A statement '..UptoSaid' is the law's where the arguments, and the package variables that the reading takes, are together of bulk at most 1048576: NARROWER than '..Said'. Prove '..Said' where nothing that the law and all that it calls make is longer than what came in: it says more and counts as full. Else prove '..UptoSaid'. A law counts once. -/
mutual
def uptoBulk {H : Type} : DataW H → Nat
  | .lit (.string bytes) => bytes.length + 1
  | .lit _ => 1
  | .nil => 1
  | .ptr d => uptoBulk d + 1
  | .slice elems spare => uptoBulkAll elems + uptoBulkAll spare + 1
  | .agg parts => uptoBulkAll parts + 1
  | .iface _ d => uptoBulk d + 1
  | .map entries => uptoBulkEntries entries + 1
  | .held _ => 1
def uptoBulkAll {H : Type} : List (DataW H) → Nat
  | [] => 0
  | d :: r => uptoBulk d + uptoBulkAll r
def uptoBulkEntries {H : Type} : List (Lit × DataW H) → Nat
  | [] => 0
  | x :: r => uptoBulkEntry x + uptoBulkEntries r
def uptoBulkEntry {H : Type} : Lit × DataW H → Nat
  | (.string bytes, d) => bytes.length + uptoBulk d + 1
  | (_, d) => uptoBulk d + 1
 end
def uptoSmall : (H : Type) → List (DataW H) → Bool := fun _ ds => decide (uptoBulkAll ds ≤ 1048576)
def OpenSpec.upto (s : _root_.Go.ChangeSpec) : _root_.Go.OpenSpec := { _root_.Go.OpenSpec.ofChange s with cond := some uptoSmall }

/-- 'mortiselaw9.GraphOrders', WHERE WHAT IT READS IS OF BULK AT MOST 1048576: true; the input reads as it did. -/
def graphOrdersUptoRow : OpenClaim := { program := "ytfhmfdmcdmcaiaa", sum := "fde0aca2e10b4f5eeb04f30e71e7cf1f35382349ce1042e1f2c5487e9986f6ac", func := "mortise/mortiselaw9.GraphOrders", spec := "graphOrders", unfollowed := true, recurses := true, apart := false, narrowed := true }
def GraphOrdersUptoSaid : Prop := graphOrdersUptoRow.holds Try.pinned (OpenSpec.upto graphOrdersSpec)

/-- 'mortiselaw9.GraphHolds', WHERE WHAT IT READS IS OF BULK AT MOST 1048576: true; the input reads as it did. -/
def graphHoldsUptoRow : OpenClaim := { program := "ytfhmfdmcdmcaiaa", sum := "fde0aca2e10b4f5eeb04f30e71e7cf1f35382349ce1042e1f2c5487e9986f6ac", func := "mortise/mortiselaw9.GraphHolds", spec := "graphHolds", unfollowed := true, recurses := true, apart := false, narrowed := true }
def GraphHoldsUptoSaid : Prop := graphHoldsUptoRow.holds Try.pinned (OpenSpec.upto graphHoldsSpec)

/-- 'mortiselaw9.GraphTurned', WHERE WHAT IT READS IS OF BULK AT MOST 1048576: true; the input reads as it did. -/
def graphTurnedUptoRow : OpenClaim := { program := "ytfhmfdmcdmcaiaa", sum := "fde0aca2e10b4f5eeb04f30e71e7cf1f35382349ce1042e1f2c5487e9986f6ac", func := "mortise/mortiselaw9.GraphTurned", spec := "graphTurned", unfollowed := true, recurses := true, apart := false, narrowed := true }
def GraphTurnedUptoSaid : Prop := graphTurnedUptoRow.holds Try.pinned (OpenSpec.upto graphTurnedSpec)

/-- 'mortiselaw9.GraphRings', WHERE WHAT IT READS IS OF BULK AT MOST 1048576: true; the input reads as it did. -/
def graphRingsUptoRow : OpenClaim := { program := "ytfhmfdmcdmcaiaa", sum := "fde0aca2e10b4f5eeb04f30e71e7cf1f35382349ce1042e1f2c5487e9986f6ac", func := "mortise/mortiselaw9.GraphRings", spec := "graphRings", unfollowed := true, recurses := true, apart := false, narrowed := true }
def GraphRingsUptoSaid : Prop := graphRingsUptoRow.holds Try.pinned (OpenSpec.upto graphRingsSpec)

/-- 'mortiselaw9.GraphBelows', WHERE WHAT IT READS IS OF BULK AT MOST 1048576: true; the input reads as it did. -/
def graphBelowsUptoRow : OpenClaim := { program := "ytfhmfdmcdmcaiaa", sum := "fde0aca2e10b4f5eeb04f30e71e7cf1f35382349ce1042e1f2c5487e9986f6ac", func := "mortise/mortiselaw9.GraphBelows", spec := "graphBelows", unfollowed := true, recurses := true, apart := false, narrowed := true }
def GraphBelowsUptoSaid : Prop := graphBelowsUptoRow.holds Try.pinned (OpenSpec.upto graphBelowsSpec)

end Rows
end Go.Proofs.Ytfhmfdmcdmcaiaa
