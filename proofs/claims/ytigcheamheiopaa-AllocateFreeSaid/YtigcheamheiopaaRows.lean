/-
  No cell of these rows narrows 'for every input' (looked for: loops, veiled, ifaces, maps, wideKeys, modest, calm, conditions, laid).
  DERIVED. THE GIVEN ROWS OF THIS SEAT. 7 by the template 'for every input the law returns true; each argument reads behind the call as it read before'; 0 by the template 'total and deterministic' (their statements: YtigcheamheiopaaTotals.lean).
  GIVEN WITH THE SEED: the statements are not yours to turn. If you find one false, say at which input.
  Laid BY PROGRAM, IN A SANDBOX (cutbox-rows.mjs): the forced cells as the released guide's own fill.sh prints them over the translation 1603e90934a86ecc… (all of the seat's roots in one cut). By AI agents, Wed Nov 11 2026. No macro, syntax, notation, axiom, sorry.
-/
import Derived.Test.YtigcheamheiopaaChecked
import GoSem.Claim
import GoSem.ClaimJoined
import GoSem.ClaimMapViews
import Derived.JoinedTies
import Derived.KernelRfl
namespace Go.Proofs.Ytigcheamheiopaa
/- THE CELL 'sum', in the pinned program and in every row, IS THE sha256 OF THE DUMP (.gsa) THAT YtigcheamheiopaaProg.lean LOADS. Nothing in Lean hashes anything: it is a label: what it is worth is what the hold of that sum in a sandbox is worth. -/
noncomputable def Try.pinned : Pinned := { name := "ytigcheamheiopaa", sum := "1603e90934a86ecc50e8999befb382273f47ab2afc334b55b72fb84e2f0140a6", checked := Try.checked }
namespace Rows
def none {H : Type} : Left H := { results := [], args := [] }

/-- 'platformfwlaw21.AllocatePlaces': WHATEVER THE INPUT: true; the input reads as it did. -/
def allocatePlacesSpec : ChangeSpec := { name := "allocatePlaces", fn := fun _ => fun
  | [d1, d2, d3] => { results := [.lit (.bool true)], args := [d1, d2, d3] }
  | _ => none }
def allocatePlacesRow : OpenClaim := { program := "ytigcheamheiopaa", sum := "1603e90934a86ecc50e8999befb382273f47ab2afc334b55b72fb84e2f0140a6", func := "platformfw/platformfwlaw21.AllocatePlaces", spec := "allocatePlaces", inPlace := ["slices.overlaps[platformfw/api.Range]"], unfollowed := true, recurses := true, plainKeys := false, apart := false }
def AllocatePlacesSaid : Prop := allocatePlacesRow.holds Try.pinned (OpenSpec.ofChange allocatePlacesSpec)

/-- ITS FALSE NEIGHBOUR: 'it returns false'. Refute it at one input. -/
def allocatePlacesWrong : ChangeSpec := { name := "allocatePlaces", fn := fun _ => fun
  | [d1, d2, d3] => { results := [.lit (.bool false)], args := [d1, d2, d3] }
  | _ => none }
def AllocatePlacesWrongFalsely : Prop := allocatePlacesRow.holds Try.pinned (OpenSpec.ofChange allocatePlacesWrong)

/-- 'platformfwlaw21.AllocatePlacementIsCorrect': WHATEVER THE INPUT: true; the input reads as it did. -/
def allocatePlacementIsCorrectSpec : ChangeSpec := { name := "allocatePlacementIsCorrect", fn := fun _ => fun
  | [d1, d2] => { results := [.lit (.bool true)], args := [d1, d2] }
  | _ => none }
def allocatePlacementIsCorrectRow : OpenClaim := { program := "ytigcheamheiopaa", sum := "1603e90934a86ecc50e8999befb382273f47ab2afc334b55b72fb84e2f0140a6", func := "platformfw/platformfwlaw21.AllocatePlacementIsCorrect", spec := "allocatePlacementIsCorrect", inPlace := ["slices.overlaps[platformfw/api.Range]"], unfollowed := true, recurses := true, plainKeys := false, apart := false }
def AllocatePlacementIsCorrectSaid : Prop := allocatePlacementIsCorrectRow.holds Try.pinned (OpenSpec.ofChange allocatePlacementIsCorrectSpec)

/-- ITS FALSE NEIGHBOUR: 'it returns false'. Refute it at one input. -/
def allocatePlacementIsCorrectWrong : ChangeSpec := { name := "allocatePlacementIsCorrect", fn := fun _ => fun
  | [d1, d2] => { results := [.lit (.bool false)], args := [d1, d2] }
  | _ => none }
def AllocatePlacementIsCorrectWrongFalsely : Prop := allocatePlacementIsCorrectRow.holds Try.pinned (OpenSpec.ofChange allocatePlacementIsCorrectWrong)

/-- 'platformfwlaw21.AllocateIsOptimal': WHATEVER THE INPUT: true; the input reads as it did. -/
def allocateIsOptimalSpec : ChangeSpec := { name := "allocateIsOptimal", fn := fun _ => fun
  | [d1, d2] => { results := [.lit (.bool true)], args := [d1, d2] }
  | _ => none }
def allocateIsOptimalRow : OpenClaim := { program := "ytigcheamheiopaa", sum := "1603e90934a86ecc50e8999befb382273f47ab2afc334b55b72fb84e2f0140a6", func := "platformfw/platformfwlaw21.AllocateIsOptimal", spec := "allocateIsOptimal", inPlace := ["slices.overlaps[platformfw/api.Range]"], unfollowed := true, recurses := true, plainKeys := false, apart := false }
def AllocateIsOptimalSaid : Prop := allocateIsOptimalRow.holds Try.pinned (OpenSpec.ofChange allocateIsOptimalSpec)

/-- ITS FALSE NEIGHBOUR: 'it returns false'. Refute it at one input. -/
def allocateIsOptimalWrong : ChangeSpec := { name := "allocateIsOptimal", fn := fun _ => fun
  | [d1, d2] => { results := [.lit (.bool false)], args := [d1, d2] }
  | _ => none }
def AllocateIsOptimalWrongFalsely : Prop := allocateIsOptimalRow.holds Try.pinned (OpenSpec.ofChange allocateIsOptimalWrong)

/-- 'platformfwlaw21.AllocateRefutationIsSound': WHATEVER THE INPUT: true; the input reads as it did. -/
def allocateRefutationIsSoundSpec : ChangeSpec := { name := "allocateRefutationIsSound", fn := fun _ => fun
  | [d1, d2, d3] => { results := [.lit (.bool true)], args := [d1, d2, d3] }
  | _ => none }
def allocateRefutationIsSoundRow : OpenClaim := { program := "ytigcheamheiopaa", sum := "1603e90934a86ecc50e8999befb382273f47ab2afc334b55b72fb84e2f0140a6", func := "platformfw/platformfwlaw21.AllocateRefutationIsSound", spec := "allocateRefutationIsSound", inPlace := ["slices.overlaps[platformfw/api.Range]"], unfollowed := true, recurses := true, plainKeys := false, apart := false }
def AllocateRefutationIsSoundSaid : Prop := allocateRefutationIsSoundRow.holds Try.pinned (OpenSpec.ofChange allocateRefutationIsSoundSpec)

/-- ITS FALSE NEIGHBOUR: 'it returns false'. Refute it at one input. -/
def allocateRefutationIsSoundWrong : ChangeSpec := { name := "allocateRefutationIsSound", fn := fun _ => fun
  | [d1, d2, d3] => { results := [.lit (.bool false)], args := [d1, d2, d3] }
  | _ => none }
def AllocateRefutationIsSoundWrongFalsely : Prop := allocateRefutationIsSoundRow.holds Try.pinned (OpenSpec.ofChange allocateRefutationIsSoundWrong)

/-- 'platformfwlaw21.AllocateFree': WHATEVER THE INPUT: true; the input reads as it did. -/
def allocateFreeSpec : ChangeSpec := { name := "allocateFree", fn := fun _ => fun
  | [d1, d2, d3] => { results := [.lit (.bool true)], args := [d1, d2, d3] }
  | _ => none }
def allocateFreeRow : OpenClaim := { program := "ytigcheamheiopaa", sum := "1603e90934a86ecc50e8999befb382273f47ab2afc334b55b72fb84e2f0140a6", func := "platformfw/platformfwlaw21.AllocateFree", spec := "allocateFree", inPlace := ["slices.overlaps[platformfw/api.Range]"], unfollowed := true, recurses := true, plainKeys := false, apart := false }
def AllocateFreeSaid : Prop := allocateFreeRow.holds Try.pinned (OpenSpec.ofChange allocateFreeSpec)

/-- ITS FALSE NEIGHBOUR: 'it returns false'. Refute it at one input. -/
def allocateFreeWrong : ChangeSpec := { name := "allocateFree", fn := fun _ => fun
  | [d1, d2, d3] => { results := [.lit (.bool false)], args := [d1, d2, d3] }
  | _ => none }
def AllocateFreeWrongFalsely : Prop := allocateFreeRow.holds Try.pinned (OpenSpec.ofChange allocateFreeWrong)

/-- 'platformfwlaw21.AllocateRefusalsAreJustified': WHATEVER THE INPUT: true; the input reads as it did. -/
def allocateRefusalsAreJustifiedSpec : ChangeSpec := { name := "allocateRefusalsAreJustified", fn := fun _ => fun
  | [d1, d2] => { results := [.lit (.bool true)], args := [d1, d2] }
  | _ => none }
def allocateRefusalsAreJustifiedRow : OpenClaim := { program := "ytigcheamheiopaa", sum := "1603e90934a86ecc50e8999befb382273f47ab2afc334b55b72fb84e2f0140a6", func := "platformfw/platformfwlaw21.AllocateRefusalsAreJustified", spec := "allocateRefusalsAreJustified", inPlace := ["slices.overlaps[platformfw/api.Range]"], unfollowed := true, recurses := true, plainKeys := false, apart := false }
def AllocateRefusalsAreJustifiedSaid : Prop := allocateRefusalsAreJustifiedRow.holds Try.pinned (OpenSpec.ofChange allocateRefusalsAreJustifiedSpec)

/-- ITS FALSE NEIGHBOUR: 'it returns false'. Refute it at one input. -/
def allocateRefusalsAreJustifiedWrong : ChangeSpec := { name := "allocateRefusalsAreJustified", fn := fun _ => fun
  | [d1, d2] => { results := [.lit (.bool false)], args := [d1, d2] }
  | _ => none }
def AllocateRefusalsAreJustifiedWrongFalsely : Prop := allocateRefusalsAreJustifiedRow.holds Try.pinned (OpenSpec.ofChange allocateRefusalsAreJustifiedWrong)

/-- 'platformfwlaw21.AllocateChecks': WHATEVER THE INPUT: true; the input reads as it did. -/
def allocateChecksSpec : ChangeSpec := { name := "allocateChecks", fn := fun _ => fun
  | [d1, d2, d3, d4, d5] => { results := [.lit (.bool true)], args := [d1, d2, d3, d4, d5] }
  | _ => none }
def allocateChecksRow : OpenClaim := { program := "ytigcheamheiopaa", sum := "1603e90934a86ecc50e8999befb382273f47ab2afc334b55b72fb84e2f0140a6", func := "platformfw/platformfwlaw21.AllocateChecks", spec := "allocateChecks", inPlace := ["slices.overlaps[platformfw/api.Range]"], unfollowed := true, recurses := true, plainKeys := false, apart := false }
def AllocateChecksSaid : Prop := allocateChecksRow.holds Try.pinned (OpenSpec.ofChange allocateChecksSpec)

/-- ITS FALSE NEIGHBOUR: 'it returns false'. Refute it at one input. -/
def allocateChecksWrong : ChangeSpec := { name := "allocateChecks", fn := fun _ => fun
  | [d1, d2, d3, d4, d5] => { results := [.lit (.bool false)], args := [d1, d2, d3, d4, d5] }
  | _ => none }
def AllocateChecksWrongFalsely : Prop := allocateChecksRow.holds Try.pinned (OpenSpec.ofChange allocateChecksWrong)

/- THE SECOND FORM. 'bulk': how many values and letters a reading holds, each counted each time it is reached (what is shared counts as often as it is met; a slice's spare places count too). A statement '..UptoSaid' is the law's where the arguments, and the package variables that the reading takes, are together of bulk at most 1048576: NARROWER than '..Said'. Prove '..Said' where nothing that the law and all that it calls make is longer than what came in: it says more and counts as full. Else prove '..UptoSaid'. A law counts once. -/
mutual
def uptoBulk {H : Type} : DataW H → Nat
  | .lit (.string bytes) => bytes.length + 1
  | .lit _ => 1
  | .nil => 1
  | .ptr d => uptoBulk d + 1
  | .slice elems spare => uptoBulkAll elems + uptoBulkAll spare + 1
  | .agg parts => uptoBulkAll parts + 1
  | .iface _ d => uptoBulk d + 1
  | .map entries => uptoBulkEntries entries + 1
  | .held _ => 1
def uptoBulkAll {H : Type} : List (DataW H) → Nat
  | [] => 0
  | d :: r => uptoBulk d + uptoBulkAll r
def uptoBulkEntries {H : Type} : List (Lit × DataW H) → Nat
  | [] => 0
  | x :: r => uptoBulkEntry x + uptoBulkEntries r
def uptoBulkEntry {H : Type} : Lit × DataW H → Nat
  | (.string bytes, d) => bytes.length + uptoBulk d + 1
  | (_, d) => uptoBulk d + 1
 end
def uptoSmall : (H : Type) → List (DataW H) → Bool := fun _ ds => decide (uptoBulkAll ds ≤ 1048576)
def OpenSpec.upto (s : _root_.Go.ChangeSpec) : _root_.Go.OpenSpec := { _root_.Go.OpenSpec.ofChange s with cond := some uptoSmall }

/-- 'platformfwlaw21.AllocatePlaces', WHERE WHAT IT READS IS OF BULK AT MOST 1048576: true; the input reads as it did. -/
def allocatePlacesUptoRow : OpenClaim := { program := "ytigcheamheiopaa", sum := "1603e90934a86ecc50e8999befb382273f47ab2afc334b55b72fb84e2f0140a6", func := "platformfw/platformfwlaw21.AllocatePlaces", spec := "allocatePlaces", inPlace := ["slices.overlaps[platformfw/api.Range]"], unfollowed := true, recurses := true, plainKeys := false, apart := false, narrowed := true }
def AllocatePlacesUptoSaid : Prop := allocatePlacesUptoRow.holds Try.pinned (OpenSpec.upto allocatePlacesSpec)

/-- 'platformfwlaw21.AllocatePlacementIsCorrect', WHERE WHAT IT READS IS OF BULK AT MOST 1048576: true; the input reads as it did. -/
def allocatePlacementIsCorrectUptoRow : OpenClaim := { program := "ytigcheamheiopaa", sum := "1603e90934a86ecc50e8999befb382273f47ab2afc334b55b72fb84e2f0140a6", func := "platformfw/platformfwlaw21.AllocatePlacementIsCorrect", spec := "allocatePlacementIsCorrect", inPlace := ["slices.overlaps[platformfw/api.Range]"], unfollowed := true, recurses := true, plainKeys := false, apart := false, narrowed := true }
def AllocatePlacementIsCorrectUptoSaid : Prop := allocatePlacementIsCorrectUptoRow.holds Try.pinned (OpenSpec.upto allocatePlacementIsCorrectSpec)

/-- 'platformfwlaw21.AllocateIsOptimal', WHERE WHAT IT READS IS OF BULK AT MOST 1048576: true; the input reads as it did. -/
def allocateIsOptimalUptoRow : OpenClaim := { program := "ytigcheamheiopaa", sum := "1603e90934a86ecc50e8999befb382273f47ab2afc334b55b72fb84e2f0140a6", func := "platformfw/platformfwlaw21.AllocateIsOptimal", spec := "allocateIsOptimal", inPlace := ["slices.overlaps[platformfw/api.Range]"], unfollowed := true, recurses := true, plainKeys := false, apart := false, narrowed := true }
def AllocateIsOptimalUptoSaid : Prop := allocateIsOptimalUptoRow.holds Try.pinned (OpenSpec.upto allocateIsOptimalSpec)

/-- 'platformfwlaw21.AllocateRefutationIsSound', WHERE WHAT IT READS IS OF BULK AT MOST 1048576: true; the input reads as it did. -/
def allocateRefutationIsSoundUptoRow : OpenClaim := { program := "ytigcheamheiopaa", sum := "1603e90934a86ecc50e8999befb382273f47ab2afc334b55b72fb84e2f0140a6", func := "platformfw/platformfwlaw21.AllocateRefutationIsSound", spec := "allocateRefutationIsSound", inPlace := ["slices.overlaps[platformfw/api.Range]"], unfollowed := true, recurses := true, plainKeys := false, apart := false, narrowed := true }
def AllocateRefutationIsSoundUptoSaid : Prop := allocateRefutationIsSoundUptoRow.holds Try.pinned (OpenSpec.upto allocateRefutationIsSoundSpec)

/-- 'platformfwlaw21.AllocateFree', WHERE WHAT IT READS IS OF BULK AT MOST 1048576: true; the input reads as it did. -/
def allocateFreeUptoRow : OpenClaim := { program := "ytigcheamheiopaa", sum := "1603e90934a86ecc50e8999befb382273f47ab2afc334b55b72fb84e2f0140a6", func := "platformfw/platformfwlaw21.AllocateFree", spec := "allocateFree", inPlace := ["slices.overlaps[platformfw/api.Range]"], unfollowed := true, recurses := true, plainKeys := false, apart := false, narrowed := true }
def AllocateFreeUptoSaid : Prop := allocateFreeUptoRow.holds Try.pinned (OpenSpec.upto allocateFreeSpec)

/-- 'platformfwlaw21.AllocateRefusalsAreJustified', WHERE WHAT IT READS IS OF BULK AT MOST 1048576: true; the input reads as it did. -/
def allocateRefusalsAreJustifiedUptoRow : OpenClaim := { program := "ytigcheamheiopaa", sum := "1603e90934a86ecc50e8999befb382273f47ab2afc334b55b72fb84e2f0140a6", func := "platformfw/platformfwlaw21.AllocateRefusalsAreJustified", spec := "allocateRefusalsAreJustified", inPlace := ["slices.overlaps[platformfw/api.Range]"], unfollowed := true, recurses := true, plainKeys := false, apart := false, narrowed := true }
def AllocateRefusalsAreJustifiedUptoSaid : Prop := allocateRefusalsAreJustifiedUptoRow.holds Try.pinned (OpenSpec.upto allocateRefusalsAreJustifiedSpec)

/-- 'platformfwlaw21.AllocateChecks', WHERE WHAT IT READS IS OF BULK AT MOST 1048576: true; the input reads as it did. -/
def allocateChecksUptoRow : OpenClaim := { program := "ytigcheamheiopaa", sum := "1603e90934a86ecc50e8999befb382273f47ab2afc334b55b72fb84e2f0140a6", func := "platformfw/platformfwlaw21.AllocateChecks", spec := "allocateChecks", inPlace := ["slices.overlaps[platformfw/api.Range]"], unfollowed := true, recurses := true, plainKeys := false, apart := false, narrowed := true }
def AllocateChecksUptoSaid : Prop := allocateChecksUptoRow.holds Try.pinned (OpenSpec.upto allocateChecksSpec)

end Rows
end Go.Proofs.Ytigcheamheiopaa
