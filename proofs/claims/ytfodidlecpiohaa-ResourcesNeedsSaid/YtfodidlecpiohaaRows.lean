/-
  No cell of these rows narrows 'for every input' (looked for: loops, veiled, ifaces, maps, wideKeys, modest, calm, conditions, laid).
  DERIVED. THE GIVEN ROWS OF THIS SEAT. 6 by the template 'for every input the law returns true; each argument reads behind the call as it read before'; 0 by the template 'total and deterministic' (their statements: YtfodidlecpiohaaTotals.lean).
  GIVEN WITH THE SEED: the statements are not yours to turn. If you find one false, say at which input.
  Laid BY PROGRAM, IN A SANDBOX (cutbox-rows.mjs): the forced cells as the released guide's own fill.sh prints them over the translation 0b79db90e68358d4… (all of the seat's roots in one cut). By AI agents, Wed Nov 11 2026. No macro, syntax, notation, axiom, sorry.
-/
import Derived.Test.YtfodidlecpiohaaChecked
import GoSem.Claim
import GoSem.ClaimJoined
import GoSem.ClaimMapViews
import Derived.JoinedTies
import Derived.KernelRfl
namespace Go.Proofs.Ytfodidlecpiohaa
/- THE CELL 'sum', in the pinned program and in every row, IS THE sha256 OF THE DUMP (.gsa) THAT YtfodidlecpiohaaProg.lean LOADS. Nothing in Lean hashes anything: it is a label: what it is worth is what the hold of that sum in a sandbox is worth. -/
noncomputable def Try.pinned : Pinned := { name := "ytfodidlecpiohaa", sum := "0b79db90e68358d4f3d4b19249131c64b9ff9aa315ca8f5532e4eebd41c78b8b", checked := Try.checked }
namespace Rows
def none {H : Type} : Left H := { results := [], args := [] }

/-- 'platformfwlaw20.ResourcesWindowSize': WHATEVER THE INPUT: true; the input reads as it did. -/
def resourcesWindowSizeSpec : ChangeSpec := { name := "resourcesWindowSize", fn := fun _ => fun
  | [d1, d2, d3] => { results := [.lit (.bool true)], args := [d1, d2, d3] }
  | _ => none }
def resourcesWindowSizeRow : OpenClaim := { program := "ytfodidlecpiohaa", sum := "0b79db90e68358d4f3d4b19249131c64b9ff9aa315ca8f5532e4eebd41c78b8b", func := "platformfw/platformfwlaw20.ResourcesWindowSize", spec := "resourcesWindowSize", plainKeys := false, apart := false }
def ResourcesWindowSizeSaid : Prop := resourcesWindowSizeRow.holds Try.pinned (OpenSpec.ofChange resourcesWindowSizeSpec)

/-- ITS FALSE NEIGHBOUR: 'it returns false'. Refute it at one input. -/
def resourcesWindowSizeWrong : ChangeSpec := { name := "resourcesWindowSize", fn := fun _ => fun
  | [d1, d2, d3] => { results := [.lit (.bool false)], args := [d1, d2, d3] }
  | _ => none }
def ResourcesWindowSizeWrongFalsely : Prop := resourcesWindowSizeRow.holds Try.pinned (OpenSpec.ofChange resourcesWindowSizeWrong)

/-- 'platformfwlaw20.ResourcesEveryRegister': WHATEVER THE INPUT: true; the input reads as it did. -/
def resourcesEveryRegisterSpec : ChangeSpec := { name := "resourcesEveryRegister", fn := fun _ => fun
  | [d1, d2] => { results := [.lit (.bool true)], args := [d1, d2] }
  | _ => none }
def resourcesEveryRegisterRow : OpenClaim := { program := "ytfodidlecpiohaa", sum := "0b79db90e68358d4f3d4b19249131c64b9ff9aa315ca8f5532e4eebd41c78b8b", func := "platformfw/platformfwlaw20.ResourcesEveryRegister", spec := "resourcesEveryRegister", plainKeys := false, apart := false }
def ResourcesEveryRegisterSaid : Prop := resourcesEveryRegisterRow.holds Try.pinned (OpenSpec.ofChange resourcesEveryRegisterSpec)

/-- ITS FALSE NEIGHBOUR: 'it returns false'. Refute it at one input. -/
def resourcesEveryRegisterWrong : ChangeSpec := { name := "resourcesEveryRegister", fn := fun _ => fun
  | [d1, d2] => { results := [.lit (.bool false)], args := [d1, d2] }
  | _ => none }
def ResourcesEveryRegisterWrongFalsely : Prop := resourcesEveryRegisterRow.holds Try.pinned (OpenSpec.ofChange resourcesEveryRegisterWrong)

/-- 'platformfwlaw20.ResourcesPrefetchable': WHATEVER THE INPUT: true; the input reads as it did. -/
def resourcesPrefetchableSpec : ChangeSpec := { name := "resourcesPrefetchable", fn := fun _ => fun
  | [d] => { results := [.lit (.bool true)], args := [d] }
  | _ => none }
def resourcesPrefetchableRow : OpenClaim := { program := "ytfodidlecpiohaa", sum := "0b79db90e68358d4f3d4b19249131c64b9ff9aa315ca8f5532e4eebd41c78b8b", func := "platformfw/platformfwlaw20.ResourcesPrefetchable", spec := "resourcesPrefetchable", plainKeys := false, apart := false }
def ResourcesPrefetchableSaid : Prop := resourcesPrefetchableRow.holds Try.pinned (OpenSpec.ofChange resourcesPrefetchableSpec)

/-- ITS FALSE NEIGHBOUR: 'it returns false'. Refute it at one input. -/
def resourcesPrefetchableWrong : ChangeSpec := { name := "resourcesPrefetchable", fn := fun _ => fun
  | [d] => { results := [.lit (.bool false)], args := [d] }
  | _ => none }
def ResourcesPrefetchableWrongFalsely : Prop := resourcesPrefetchableRow.holds Try.pinned (OpenSpec.ofChange resourcesPrefetchableWrong)

/-- 'platformfwlaw20.ResourcesClasses': WHATEVER THE INPUT: true; the input reads as it did. -/
def resourcesClassesSpec : ChangeSpec := { name := "resourcesClasses", fn := fun _ => fun
  | [d1, d2, d3, d4] => { results := [.lit (.bool true)], args := [d1, d2, d3, d4] }
  | _ => none }
def resourcesClassesRow : OpenClaim := { program := "ytfodidlecpiohaa", sum := "0b79db90e68358d4f3d4b19249131c64b9ff9aa315ca8f5532e4eebd41c78b8b", func := "platformfw/platformfwlaw20.ResourcesClasses", spec := "resourcesClasses", plainKeys := false, apart := false }
def ResourcesClassesSaid : Prop := resourcesClassesRow.holds Try.pinned (OpenSpec.ofChange resourcesClassesSpec)

/-- ITS FALSE NEIGHBOUR: 'it returns false'. Refute it at one input. -/
def resourcesClassesWrong : ChangeSpec := { name := "resourcesClasses", fn := fun _ => fun
  | [d1, d2, d3, d4] => { results := [.lit (.bool false)], args := [d1, d2, d3, d4] }
  | _ => none }
def ResourcesClassesWrongFalsely : Prop := resourcesClassesRow.holds Try.pinned (OpenSpec.ofChange resourcesClassesWrong)

/-- 'platformfwlaw20.ResourcesNeeds': WHATEVER THE INPUT: true; the input reads as it did. -/
def resourcesNeedsSpec : ChangeSpec := { name := "resourcesNeeds", fn := fun _ => fun
  | [d1, d2, d3, d4] => { results := [.lit (.bool true)], args := [d1, d2, d3, d4] }
  | _ => none }
def resourcesNeedsRow : OpenClaim := { program := "ytfodidlecpiohaa", sum := "0b79db90e68358d4f3d4b19249131c64b9ff9aa315ca8f5532e4eebd41c78b8b", func := "platformfw/platformfwlaw20.ResourcesNeeds", spec := "resourcesNeeds", plainKeys := false, apart := false }
def ResourcesNeedsSaid : Prop := resourcesNeedsRow.holds Try.pinned (OpenSpec.ofChange resourcesNeedsSpec)

/-- ITS FALSE NEIGHBOUR: 'it returns false'. Refute it at one input. -/
def resourcesNeedsWrong : ChangeSpec := { name := "resourcesNeeds", fn := fun _ => fun
  | [d1, d2, d3, d4] => { results := [.lit (.bool false)], args := [d1, d2, d3, d4] }
  | _ => none }
def ResourcesNeedsWrongFalsely : Prop := resourcesNeedsRow.holds Try.pinned (OpenSpec.ofChange resourcesNeedsWrong)

/-- 'platformfwlaw20.ResourcesWindowsCover': WHATEVER THE INPUT: true; the input reads as it did. -/
def resourcesWindowsCoverSpec : ChangeSpec := { name := "resourcesWindowsCover", fn := fun _ => fun
  | [d1, d2] => { results := [.lit (.bool true)], args := [d1, d2] }
  | _ => none }
def resourcesWindowsCoverRow : OpenClaim := { program := "ytfodidlecpiohaa", sum := "0b79db90e68358d4f3d4b19249131c64b9ff9aa315ca8f5532e4eebd41c78b8b", func := "platformfw/platformfwlaw20.ResourcesWindowsCover", spec := "resourcesWindowsCover", plainKeys := false, apart := false }
def ResourcesWindowsCoverSaid : Prop := resourcesWindowsCoverRow.holds Try.pinned (OpenSpec.ofChange resourcesWindowsCoverSpec)

/-- ITS FALSE NEIGHBOUR: 'it returns false'. Refute it at one input. -/
def resourcesWindowsCoverWrong : ChangeSpec := { name := "resourcesWindowsCover", fn := fun _ => fun
  | [d1, d2] => { results := [.lit (.bool false)], args := [d1, d2] }
  | _ => none }
def ResourcesWindowsCoverWrongFalsely : Prop := resourcesWindowsCoverRow.holds Try.pinned (OpenSpec.ofChange resourcesWindowsCoverWrong)

/- THE SECOND FORM. 'bulk': how many values and letters a reading holds, each counted each time it is reached (what is shared counts as often as it is met; a slice's spare places count too). A statement '..UptoSaid' is the law's where the arguments, and the package variables that the reading takes, are together of bulk at most 1048576: NARROWER than '..Said'. Prove '..Said' where nothing that the law and all that it calls make is longer than what came in: it says more and counts as full. Else prove '..UptoSaid'. A law counts once. -/
mutual
def uptoBulk {H : Type} : DataW H → Nat
  | .lit (.string bytes) => bytes.length + 1
  | .lit _ => 1
  | .nil => 1
  | .ptr d => uptoBulk d + 1
  | .slice elems spare => uptoBulkAll elems + uptoBulkAll spare + 1
  | .agg parts => uptoBulkAll parts + 1
  | .iface _ d => uptoBulk d + 1
  | .map entries => uptoBulkEntries entries + 1
  | .held _ => 1
def uptoBulkAll {H : Type} : List (DataW H) → Nat
  | [] => 0
  | d :: r => uptoBulk d + uptoBulkAll r
def uptoBulkEntries {H : Type} : List (Lit × DataW H) → Nat
  | [] => 0
  | x :: r => uptoBulkEntry x + uptoBulkEntries r
def uptoBulkEntry {H : Type} : Lit × DataW H → Nat
  | (.string bytes, d) => bytes.length + uptoBulk d + 1
  | (_, d) => uptoBulk d + 1
 end
def uptoSmall : (H : Type) → List (DataW H) → Bool := fun _ ds => decide (uptoBulkAll ds ≤ 1048576)
def OpenSpec.upto (s : _root_.Go.ChangeSpec) : _root_.Go.OpenSpec := { _root_.Go.OpenSpec.ofChange s with cond := some uptoSmall }

/-- 'platformfwlaw20.ResourcesWindowSize', WHERE WHAT IT READS IS OF BULK AT MOST 1048576: true; the input reads as it did. -/
def resourcesWindowSizeUptoRow : OpenClaim := { program := "ytfodidlecpiohaa", sum := "0b79db90e68358d4f3d4b19249131c64b9ff9aa315ca8f5532e4eebd41c78b8b", func := "platformfw/platformfwlaw20.ResourcesWindowSize", spec := "resourcesWindowSize", plainKeys := false, apart := false, narrowed := true }
def ResourcesWindowSizeUptoSaid : Prop := resourcesWindowSizeUptoRow.holds Try.pinned (OpenSpec.upto resourcesWindowSizeSpec)

/-- 'platformfwlaw20.ResourcesEveryRegister', WHERE WHAT IT READS IS OF BULK AT MOST 1048576: true; the input reads as it did. -/
def resourcesEveryRegisterUptoRow : OpenClaim := { program := "ytfodidlecpiohaa", sum := "0b79db90e68358d4f3d4b19249131c64b9ff9aa315ca8f5532e4eebd41c78b8b", func := "platformfw/platformfwlaw20.ResourcesEveryRegister", spec := "resourcesEveryRegister", plainKeys := false, apart := false, narrowed := true }
def ResourcesEveryRegisterUptoSaid : Prop := resourcesEveryRegisterUptoRow.holds Try.pinned (OpenSpec.upto resourcesEveryRegisterSpec)

/-- 'platformfwlaw20.ResourcesPrefetchable', WHERE WHAT IT READS IS OF BULK AT MOST 1048576: true; the input reads as it did. -/
def resourcesPrefetchableUptoRow : OpenClaim := { program := "ytfodidlecpiohaa", sum := "0b79db90e68358d4f3d4b19249131c64b9ff9aa315ca8f5532e4eebd41c78b8b", func := "platformfw/platformfwlaw20.ResourcesPrefetchable", spec := "resourcesPrefetchable", plainKeys := false, apart := false, narrowed := true }
def ResourcesPrefetchableUptoSaid : Prop := resourcesPrefetchableUptoRow.holds Try.pinned (OpenSpec.upto resourcesPrefetchableSpec)

/-- 'platformfwlaw20.ResourcesClasses', WHERE WHAT IT READS IS OF BULK AT MOST 1048576: true; the input reads as it did. -/
def resourcesClassesUptoRow : OpenClaim := { program := "ytfodidlecpiohaa", sum := "0b79db90e68358d4f3d4b19249131c64b9ff9aa315ca8f5532e4eebd41c78b8b", func := "platformfw/platformfwlaw20.ResourcesClasses", spec := "resourcesClasses", plainKeys := false, apart := false, narrowed := true }
def ResourcesClassesUptoSaid : Prop := resourcesClassesUptoRow.holds Try.pinned (OpenSpec.upto resourcesClassesSpec)

/-- 'platformfwlaw20.ResourcesNeeds', WHERE WHAT IT READS IS OF BULK AT MOST 1048576: true; the input reads as it did. -/
def resourcesNeedsUptoRow : OpenClaim := { program := "ytfodidlecpiohaa", sum := "0b79db90e68358d4f3d4b19249131c64b9ff9aa315ca8f5532e4eebd41c78b8b", func := "platformfw/platformfwlaw20.ResourcesNeeds", spec := "resourcesNeeds", plainKeys := false, apart := false, narrowed := true }
def ResourcesNeedsUptoSaid : Prop := resourcesNeedsUptoRow.holds Try.pinned (OpenSpec.upto resourcesNeedsSpec)

/-- 'platformfwlaw20.ResourcesWindowsCover', WHERE WHAT IT READS IS OF BULK AT MOST 1048576: true; the input reads as it did. -/
def resourcesWindowsCoverUptoRow : OpenClaim := { program := "ytfodidlecpiohaa", sum := "0b79db90e68358d4f3d4b19249131c64b9ff9aa315ca8f5532e4eebd41c78b8b", func := "platformfw/platformfwlaw20.ResourcesWindowsCover", spec := "resourcesWindowsCover", plainKeys := false, apart := false, narrowed := true }
def ResourcesWindowsCoverUptoSaid : Prop := resourcesWindowsCoverUptoRow.holds Try.pinned (OpenSpec.upto resourcesWindowsCoverSpec)

end Rows
end Go.Proofs.Ytfodidlecpiohaa
