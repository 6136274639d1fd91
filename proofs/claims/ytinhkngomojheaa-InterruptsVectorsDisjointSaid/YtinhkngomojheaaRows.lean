/-
  No cell of these rows narrows 'for every input' (looked for: loops, veiled, ifaces, maps, wideKeys, modest, calm, conditions, laid).
  DERIVED. THE GIVEN ROWS OF THIS SEAT. 3 by the template 'for every input the law returns true; each argument reads behind the call as it read before'; 0 by the template 'total and deterministic' (their statements: YtinhkngomojheaaTotals.lean).
  GIVEN WITH THE SEED: the statements are not yours to turn. If you find one false, say at which input.
  Laid BY PROGRAM, IN A SANDBOX (cutbox-rows.mjs): the forced cells as the released guide's own fill.sh prints them over the translation ea4b37318ca74b6b… (all of the seat's roots in one cut). By AI agents, Wed Nov 11 2026. No macro, syntax, notation, axiom, sorry.
-/
import Derived.Test.YtinhkngomojheaaChecked
import GoSem.Claim
import GoSem.ClaimJoined
import GoSem.ClaimMapViews
import Derived.JoinedTies
import Derived.KernelRfl
namespace Go.Proofs.Ytinhkngomojheaa
/- THE CELL 'sum', in the pinned program and in every row, IS THE sha256 OF THE DUMP (.gsa) THAT YtinhkngomojheaaProg.lean LOADS. Nothing in Lean hashes anything: it is a label: what it is worth is what the hold of that sum in a sandbox is worth. -/
noncomputable def Try.pinned : Pinned := { name := "ytinhkngomojheaa", sum := "ea4b37318ca74b6b14c08cbc9bc4d5973e2d82b5af67ed35c55ef85ca86e74f9", checked := Try.checked }
namespace Rows
def none {H : Type} : Left H := { results := [], args := [] }

/-- 'platformfwlaw22.InterruptsVectors': WHATEVER THE INPUT: true; the input reads as it did. -/
def interruptsVectorsSpec : ChangeSpec := { name := "interruptsVectors", fn := fun _ => fun
  | [d] => { results := [.lit (.bool true)], args := [d] }
  | _ => none }
def interruptsVectorsRow : OpenClaim := { program := "ytinhkngomojheaa", sum := "ea4b37318ca74b6b14c08cbc9bc4d5973e2d82b5af67ed35c55ef85ca86e74f9", func := "platformfw/platformfwlaw22.InterruptsVectors", spec := "interruptsVectors", inPlace := ["slices.overlaps[platformfw/api.Range]"], unfollowed := true, recurses := true, plainKeys := false, apart := false }
def InterruptsVectorsSaid : Prop := interruptsVectorsRow.holds Try.pinned (OpenSpec.ofChange interruptsVectorsSpec)

/-- ITS FALSE NEIGHBOUR: 'it returns false'. Refute it at one input. -/
def interruptsVectorsWrong : ChangeSpec := { name := "interruptsVectors", fn := fun _ => fun
  | [d] => { results := [.lit (.bool false)], args := [d] }
  | _ => none }
def InterruptsVectorsWrongFalsely : Prop := interruptsVectorsRow.holds Try.pinned (OpenSpec.ofChange interruptsVectorsWrong)

/-- 'platformfwlaw22.InterruptsVectorsDisjoint': WHATEVER THE INPUT: true; the input reads as it did. -/
def interruptsVectorsDisjointSpec : ChangeSpec := { name := "interruptsVectorsDisjoint", fn := fun _ => fun
  | [d1, d2] => { results := [.lit (.bool true)], args := [d1, d2] }
  | _ => none }
def interruptsVectorsDisjointRow : OpenClaim := { program := "ytinhkngomojheaa", sum := "ea4b37318ca74b6b14c08cbc9bc4d5973e2d82b5af67ed35c55ef85ca86e74f9", func := "platformfw/platformfwlaw22.InterruptsVectorsDisjoint", spec := "interruptsVectorsDisjoint", inPlace := ["slices.overlaps[platformfw/api.Range]"], unfollowed := true, recurses := true, plainKeys := false, apart := false }
def InterruptsVectorsDisjointSaid : Prop := interruptsVectorsDisjointRow.holds Try.pinned (OpenSpec.ofChange interruptsVectorsDisjointSpec)

/-- ITS FALSE NEIGHBOUR: 'it returns false'. Refute it at one input. -/
def interruptsVectorsDisjointWrong : ChangeSpec := { name := "interruptsVectorsDisjoint", fn := fun _ => fun
  | [d1, d2] => { results := [.lit (.bool false)], args := [d1, d2] }
  | _ => none }
def InterruptsVectorsDisjointWrongFalsely : Prop := interruptsVectorsDisjointRow.holds Try.pinned (OpenSpec.ofChange interruptsVectorsDisjointWrong)

/-- 'platformfwlaw22.InterruptsRoute': WHATEVER THE INPUT: true; the input reads as it did. -/
def interruptsRouteSpec : ChangeSpec := { name := "interruptsRoute", fn := fun _ => fun
  | [d1, d2, d3] => { results := [.lit (.bool true)], args := [d1, d2, d3] }
  | _ => none }
def interruptsRouteRow : OpenClaim := { program := "ytinhkngomojheaa", sum := "ea4b37318ca74b6b14c08cbc9bc4d5973e2d82b5af67ed35c55ef85ca86e74f9", func := "platformfw/platformfwlaw22.InterruptsRoute", spec := "interruptsRoute", inPlace := ["slices.overlaps[platformfw/api.Range]"], unfollowed := true, recurses := true, plainKeys := false, apart := false }
def InterruptsRouteSaid : Prop := interruptsRouteRow.holds Try.pinned (OpenSpec.ofChange interruptsRouteSpec)

/-- ITS FALSE NEIGHBOUR: 'it returns false'. Refute it at one input. -/
def interruptsRouteWrong : ChangeSpec := { name := "interruptsRoute", fn := fun _ => fun
  | [d1, d2, d3] => { results := [.lit (.bool false)], args := [d1, d2, d3] }
  | _ => none }
def InterruptsRouteWrongFalsely : Prop := interruptsRouteRow.holds Try.pinned (OpenSpec.ofChange interruptsRouteWrong)

/- THE SECOND FORM. 'bulk': how many values and letters a reading holds, each counted each time it is reached (what is shared counts as often as it is met; a slice's spare places count too). A statement '..UptoSaid' is the law's where the arguments, and the package variables that the reading takes, are together of bulk at most 1048576: NARROWER than '..Said'. Prove '..Said' where nothing that the law and all that it calls make is longer than what came in: it says more and counts as full. Else prove '..UptoSaid'. A law counts once. -/
mutual
def uptoBulk {H : Type} : DataW H → Nat
  | .lit (.string bytes) => bytes.length + 1
  | .lit _ => 1
  | .nil => 1
  | .ptr d => uptoBulk d + 1
  | .slice elems spare => uptoBulkAll elems + uptoBulkAll spare + 1
  | .agg parts => uptoBulkAll parts + 1
  | .iface _ d => uptoBulk d + 1
  | .map entries => uptoBulkEntries entries + 1
  | .held _ => 1
def uptoBulkAll {H : Type} : List (DataW H) → Nat
  | [] => 0
  | d :: r => uptoBulk d + uptoBulkAll r
def uptoBulkEntries {H : Type} : List (Lit × DataW H) → Nat
  | [] => 0
  | x :: r => uptoBulkEntry x + uptoBulkEntries r
def uptoBulkEntry {H : Type} : Lit × DataW H → Nat
  | (.string bytes, d) => bytes.length + uptoBulk d + 1
  | (_, d) => uptoBulk d + 1
 end
def uptoSmall : (H : Type) → List (DataW H) → Bool := fun _ ds => decide (uptoBulkAll ds ≤ 1048576)
def OpenSpec.upto (s : _root_.Go.ChangeSpec) : _root_.Go.OpenSpec := { _root_.Go.OpenSpec.ofChange s with cond := some uptoSmall }

/-- 'platformfwlaw22.InterruptsVectors', WHERE WHAT IT READS IS OF BULK AT MOST 1048576: true; the input reads as it did. -/
def interruptsVectorsUptoRow : OpenClaim := { program := "ytinhkngomojheaa", sum := "ea4b37318ca74b6b14c08cbc9bc4d5973e2d82b5af67ed35c55ef85ca86e74f9", func := "platformfw/platformfwlaw22.InterruptsVectors", spec := "interruptsVectors", inPlace := ["slices.overlaps[platformfw/api.Range]"], unfollowed := true, recurses := true, plainKeys := false, apart := false, narrowed := true }
def InterruptsVectorsUptoSaid : Prop := interruptsVectorsUptoRow.holds Try.pinned (OpenSpec.upto interruptsVectorsSpec)

/-- 'platformfwlaw22.InterruptsVectorsDisjoint', WHERE WHAT IT READS IS OF BULK AT MOST 1048576: true; the input reads as it did. -/
def interruptsVectorsDisjointUptoRow : OpenClaim := { program := "ytinhkngomojheaa", sum := "ea4b37318ca74b6b14c08cbc9bc4d5973e2d82b5af67ed35c55ef85ca86e74f9", func := "platformfw/platformfwlaw22.InterruptsVectorsDisjoint", spec := "interruptsVectorsDisjoint", inPlace := ["slices.overlaps[platformfw/api.Range]"], unfollowed := true, recurses := true, plainKeys := false, apart := false, narrowed := true }
def InterruptsVectorsDisjointUptoSaid : Prop := interruptsVectorsDisjointUptoRow.holds Try.pinned (OpenSpec.upto interruptsVectorsDisjointSpec)

/-- 'platformfwlaw22.InterruptsRoute', WHERE WHAT IT READS IS OF BULK AT MOST 1048576: true; the input reads as it did. -/
def interruptsRouteUptoRow : OpenClaim := { program := "ytinhkngomojheaa", sum := "ea4b37318ca74b6b14c08cbc9bc4d5973e2d82b5af67ed35c55ef85ca86e74f9", func := "platformfw/platformfwlaw22.InterruptsRoute", spec := "interruptsRoute", inPlace := ["slices.overlaps[platformfw/api.Range]"], unfollowed := true, recurses := true, plainKeys := false, apart := false, narrowed := true }
def InterruptsRouteUptoSaid : Prop := interruptsRouteUptoRow.holds Try.pinned (OpenSpec.upto interruptsRouteSpec)

end Rows
end Go.Proofs.Ytinhkngomojheaa
