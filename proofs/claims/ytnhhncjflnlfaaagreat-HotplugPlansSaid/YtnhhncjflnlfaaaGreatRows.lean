/-
  No cell of these rows narrows 'for every input' (looked for: loops, veiled, ifaces, maps, wideKeys, modest, calm, conditions, laid).
  DERIVED. THE GIVEN ROWS OF THIS SEAT. 5 by the template 'for every input the law returns true; each argument reads behind the call as it read before'; 0 by the template 'total and deterministic' (their statements: YtnhhncjflnlfaaaGreatTotals.lean).
  GIVEN WITH THE SEED: the statements are not yours to turn. If you find one false, say at which input.
  Laid BY PROGRAM, IN A SANDBOX (cutbox-rows.mjs): the forced cells as the released guide's own fill.sh prints them over the translation e08f29731a10bbb9… (all of the seat's roots in one cut). By AI agents, Wed Nov 11 2026. No macro, syntax, notation, axiom, sorry.
-/
import Derived.Test.YtnhhncjflnlfaaaGreatChecked
import GoSem.Claim
import GoSem.ClaimJoined
import GoSem.ClaimMapViews
import Derived.JoinedTies
import Derived.KernelRfl
namespace Go.Proofs.YtnhhncjflnlfaaaGreat
/- THE CELL 'sum', in the pinned program and in every row, IS THE sha256 OF THE DUMP (.gsa) THAT YtnhhncjflnlfaaaGreatProg.lean LOADS. Nothing in Lean hashes anything: it is a label: what it is worth is what the hold of that sum in a sandbox is worth. -/
noncomputable def Tryz.pinned : Pinned := { name := "ytnhhncjflnlfaaagreat", sum := "e08f29731a10bbb9c8c9c3bc7d48da6d68754ae4df2ceae9eb929184279c6738", checked := Tryz.checked }
namespace Rows
def none {H : Type} : Left H := { results := [], args := [] }

/-- 'platformfwlaw23.HotplugPlans': WHATEVER THE INPUT: true; the input reads as it did. -/
def hotplugPlansSpec : ChangeSpec := { name := "hotplugPlans", fn := fun _ => fun
  | [d1, d2, d3, d4, d5, d6, d7] => { results := [.lit (.bool true)], args := [d1, d2, d3, d4, d5, d6, d7] }
  | _ => none }
def hotplugPlansRow : OpenClaim := { program := "ytnhhncjflnlfaaagreat", sum := "e08f29731a10bbb9c8c9c3bc7d48da6d68754ae4df2ceae9eb929184279c6738", func := "platformfw/platformfwlaw23.HotplugPlans", spec := "hotplugPlans", inPlace := ["slices.overlaps[platformfw/api.Range]"], unfollowed := true, recurses := true, plainKeys := false, apart := false }
def HotplugPlansSaid : Prop := hotplugPlansRow.holds Tryz.pinned (OpenSpec.ofChange hotplugPlansSpec)

/-- ITS FALSE NEIGHBOUR: 'it returns false'. Refute it at one input. -/
def hotplugPlansWrong : ChangeSpec := { name := "hotplugPlans", fn := fun _ => fun
  | [d1, d2, d3, d4, d5, d6, d7] => { results := [.lit (.bool false)], args := [d1, d2, d3, d4, d5, d6, d7] }
  | _ => none }
def HotplugPlansWrongFalsely : Prop := hotplugPlansRow.holds Tryz.pinned (OpenSpec.ofChange hotplugPlansWrong)

/-- 'platformfwlaw23.HotplugPlanIsCorrect': WHATEVER THE INPUT: true; the input reads as it did. -/
def hotplugPlanIsCorrectSpec : ChangeSpec := { name := "hotplugPlanIsCorrect", fn := fun _ => fun
  | [d1, d2, d3, d4] => { results := [.lit (.bool true)], args := [d1, d2, d3, d4] }
  | _ => none }
def hotplugPlanIsCorrectRow : OpenClaim := { program := "ytnhhncjflnlfaaagreat", sum := "e08f29731a10bbb9c8c9c3bc7d48da6d68754ae4df2ceae9eb929184279c6738", func := "platformfw/platformfwlaw23.HotplugPlanIsCorrect", spec := "hotplugPlanIsCorrect", inPlace := ["slices.overlaps[platformfw/api.Range]"], unfollowed := true, recurses := true, plainKeys := false, apart := false }
def HotplugPlanIsCorrectSaid : Prop := hotplugPlanIsCorrectRow.holds Tryz.pinned (OpenSpec.ofChange hotplugPlanIsCorrectSpec)

/-- ITS FALSE NEIGHBOUR: 'it returns false'. Refute it at one input. -/
def hotplugPlanIsCorrectWrong : ChangeSpec := { name := "hotplugPlanIsCorrect", fn := fun _ => fun
  | [d1, d2, d3, d4] => { results := [.lit (.bool false)], args := [d1, d2, d3, d4] }
  | _ => none }
def HotplugPlanIsCorrectWrongFalsely : Prop := hotplugPlanIsCorrectRow.holds Tryz.pinned (OpenSpec.ofChange hotplugPlanIsCorrectWrong)

/-- 'platformfwlaw23.HotplugDriversAreStopped': WHATEVER THE INPUT: true; the input reads as it did. -/
def hotplugDriversAreStoppedSpec : ChangeSpec := { name := "hotplugDriversAreStopped", fn := fun _ => fun
  | [d1, d2, d3, d4] => { results := [.lit (.bool true)], args := [d1, d2, d3, d4] }
  | _ => none }
def hotplugDriversAreStoppedRow : OpenClaim := { program := "ytnhhncjflnlfaaagreat", sum := "e08f29731a10bbb9c8c9c3bc7d48da6d68754ae4df2ceae9eb929184279c6738", func := "platformfw/platformfwlaw23.HotplugDriversAreStopped", spec := "hotplugDriversAreStopped", inPlace := ["slices.overlaps[platformfw/api.Range]"], unfollowed := true, recurses := true, plainKeys := false, apart := false }
def HotplugDriversAreStoppedSaid : Prop := hotplugDriversAreStoppedRow.holds Tryz.pinned (OpenSpec.ofChange hotplugDriversAreStoppedSpec)

/-- ITS FALSE NEIGHBOUR: 'it returns false'. Refute it at one input. -/
def hotplugDriversAreStoppedWrong : ChangeSpec := { name := "hotplugDriversAreStopped", fn := fun _ => fun
  | [d1, d2, d3, d4] => { results := [.lit (.bool false)], args := [d1, d2, d3, d4] }
  | _ => none }
def HotplugDriversAreStoppedWrongFalsely : Prop := hotplugDriversAreStoppedRow.holds Tryz.pinned (OpenSpec.ofChange hotplugDriversAreStoppedWrong)

/-- 'platformfwlaw23.HotplugSpareSuffices': WHATEVER THE INPUT: true; the input reads as it did. -/
def hotplugSpareSufficesSpec : ChangeSpec := { name := "hotplugSpareSuffices", fn := fun _ => fun
  | [d1, d2, d3, d4] => { results := [.lit (.bool true)], args := [d1, d2, d3, d4] }
  | _ => none }
def hotplugSpareSufficesRow : OpenClaim := { program := "ytnhhncjflnlfaaagreat", sum := "e08f29731a10bbb9c8c9c3bc7d48da6d68754ae4df2ceae9eb929184279c6738", func := "platformfw/platformfwlaw23.HotplugSpareSuffices", spec := "hotplugSpareSuffices", inPlace := ["slices.overlaps[platformfw/api.Range]"], unfollowed := true, recurses := true, plainKeys := false, apart := false }
def HotplugSpareSufficesSaid : Prop := hotplugSpareSufficesRow.holds Tryz.pinned (OpenSpec.ofChange hotplugSpareSufficesSpec)

/-- ITS FALSE NEIGHBOUR: 'it returns false'. Refute it at one input. -/
def hotplugSpareSufficesWrong : ChangeSpec := { name := "hotplugSpareSuffices", fn := fun _ => fun
  | [d1, d2, d3, d4] => { results := [.lit (.bool false)], args := [d1, d2, d3, d4] }
  | _ => none }
def HotplugSpareSufficesWrongFalsely : Prop := hotplugSpareSufficesRow.holds Tryz.pinned (OpenSpec.ofChange hotplugSpareSufficesWrong)

/-- 'platformfwlaw23.HotplugRefusalsAreJustified': WHATEVER THE INPUT: true; the input reads as it did. -/
def hotplugRefusalsAreJustifiedSpec : ChangeSpec := { name := "hotplugRefusalsAreJustified", fn := fun _ => fun
  | [d1, d2, d3, d4] => { results := [.lit (.bool true)], args := [d1, d2, d3, d4] }
  | _ => none }
def hotplugRefusalsAreJustifiedRow : OpenClaim := { program := "ytnhhncjflnlfaaagreat", sum := "e08f29731a10bbb9c8c9c3bc7d48da6d68754ae4df2ceae9eb929184279c6738", func := "platformfw/platformfwlaw23.HotplugRefusalsAreJustified", spec := "hotplugRefusalsAreJustified", inPlace := ["slices.overlaps[platformfw/api.Range]"], unfollowed := true, recurses := true, plainKeys := false, apart := false }
def HotplugRefusalsAreJustifiedSaid : Prop := hotplugRefusalsAreJustifiedRow.holds Tryz.pinned (OpenSpec.ofChange hotplugRefusalsAreJustifiedSpec)

/-- ITS FALSE NEIGHBOUR: 'it returns false'. Refute it at one input. -/
def hotplugRefusalsAreJustifiedWrong : ChangeSpec := { name := "hotplugRefusalsAreJustified", fn := fun _ => fun
  | [d1, d2, d3, d4] => { results := [.lit (.bool false)], args := [d1, d2, d3, d4] }
  | _ => none }
def HotplugRefusalsAreJustifiedWrongFalsely : Prop := hotplugRefusalsAreJustifiedRow.holds Tryz.pinned (OpenSpec.ofChange hotplugRefusalsAreJustifiedWrong)

/- THE SECOND FORM. 'bulk': how many values and letters a reading holds, each counted each time it is reached (what is shared counts as often as it is met; a slice's spare places count too). A statement '..UptoSaid' is the law's where the arguments, and the package variables that the reading takes, are together of bulk at most 1048576: NARROWER than '..Said'. Prove '..Said' where nothing that the law and all that it calls make is longer than what came in: it says more and counts as full. Else prove '..UptoSaid'. A law counts once. -/
mutual
def uptoBulk {H : Type} : DataW H → Nat
  | .lit (.string bytes) => bytes.length + 1
  | .lit _ => 1
  | .nil => 1
  | .ptr d => uptoBulk d + 1
  | .slice elems spare => uptoBulkAll elems + uptoBulkAll spare + 1
  | .agg parts => uptoBulkAll parts + 1
  | .iface _ d => uptoBulk d + 1
  | .map entries => uptoBulkEntries entries + 1
  | .held _ => 1
def uptoBulkAll {H : Type} : List (DataW H) → Nat
  | [] => 0
  | d :: r => uptoBulk d + uptoBulkAll r
def uptoBulkEntries {H : Type} : List (Lit × DataW H) → Nat
  | [] => 0
  | x :: r => uptoBulkEntry x + uptoBulkEntries r
def uptoBulkEntry {H : Type} : Lit × DataW H → Nat
  | (.string bytes, d) => bytes.length + uptoBulk d + 1
  | (_, d) => uptoBulk d + 1
 end
def uptoSmall : (H : Type) → List (DataW H) → Bool := fun _ ds => decide (uptoBulkAll ds ≤ 1048576)
def OpenSpec.upto (s : _root_.Go.ChangeSpec) : _root_.Go.OpenSpec := { _root_.Go.OpenSpec.ofChange s with cond := some uptoSmall }

/-- 'platformfwlaw23.HotplugPlans', WHERE WHAT IT READS IS OF BULK AT MOST 1048576: true; the input reads as it did. -/
def hotplugPlansUptoRow : OpenClaim := { program := "ytnhhncjflnlfaaagreat", sum := "e08f29731a10bbb9c8c9c3bc7d48da6d68754ae4df2ceae9eb929184279c6738", func := "platformfw/platformfwlaw23.HotplugPlans", spec := "hotplugPlans", inPlace := ["slices.overlaps[platformfw/api.Range]"], unfollowed := true, recurses := true, plainKeys := false, apart := false, narrowed := true }
def HotplugPlansUptoSaid : Prop := hotplugPlansUptoRow.holds Tryz.pinned (OpenSpec.upto hotplugPlansSpec)

/-- 'platformfwlaw23.HotplugPlanIsCorrect', WHERE WHAT IT READS IS OF BULK AT MOST 1048576: true; the input reads as it did. -/
def hotplugPlanIsCorrectUptoRow : OpenClaim := { program := "ytnhhncjflnlfaaagreat", sum := "e08f29731a10bbb9c8c9c3bc7d48da6d68754ae4df2ceae9eb929184279c6738", func := "platformfw/platformfwlaw23.HotplugPlanIsCorrect", spec := "hotplugPlanIsCorrect", inPlace := ["slices.overlaps[platformfw/api.Range]"], unfollowed := true, recurses := true, plainKeys := false, apart := false, narrowed := true }
def HotplugPlanIsCorrectUptoSaid : Prop := hotplugPlanIsCorrectUptoRow.holds Tryz.pinned (OpenSpec.upto hotplugPlanIsCorrectSpec)

/-- 'platformfwlaw23.HotplugDriversAreStopped', WHERE WHAT IT READS IS OF BULK AT MOST 1048576: true; the input reads as it did. -/
def hotplugDriversAreStoppedUptoRow : OpenClaim := { program := "ytnhhncjflnlfaaagreat", sum := "e08f29731a10bbb9c8c9c3bc7d48da6d68754ae4df2ceae9eb929184279c6738", func := "platformfw/platformfwlaw23.HotplugDriversAreStopped", spec := "hotplugDriversAreStopped", inPlace := ["slices.overlaps[platformfw/api.Range]"], unfollowed := true, recurses := true, plainKeys := false, apart := false, narrowed := true }
def HotplugDriversAreStoppedUptoSaid : Prop := hotplugDriversAreStoppedUptoRow.holds Tryz.pinned (OpenSpec.upto hotplugDriversAreStoppedSpec)

/-- 'platformfwlaw23.HotplugSpareSuffices', WHERE WHAT IT READS IS OF BULK AT MOST 1048576: true; the input reads as it did. -/
def hotplugSpareSufficesUptoRow : OpenClaim := { program := "ytnhhncjflnlfaaagreat", sum := "e08f29731a10bbb9c8c9c3bc7d48da6d68754ae4df2ceae9eb929184279c6738", func := "platformfw/platformfwlaw23.HotplugSpareSuffices", spec := "hotplugSpareSuffices", inPlace := ["slices.overlaps[platformfw/api.Range]"], unfollowed := true, recurses := true, plainKeys := false, apart := false, narrowed := true }
def HotplugSpareSufficesUptoSaid : Prop := hotplugSpareSufficesUptoRow.holds Tryz.pinned (OpenSpec.upto hotplugSpareSufficesSpec)

/-- 'platformfwlaw23.HotplugRefusalsAreJustified', WHERE WHAT IT READS IS OF BULK AT MOST 1048576: true; the input reads as it did. -/
def hotplugRefusalsAreJustifiedUptoRow : OpenClaim := { program := "ytnhhncjflnlfaaagreat", sum := "e08f29731a10bbb9c8c9c3bc7d48da6d68754ae4df2ceae9eb929184279c6738", func := "platformfw/platformfwlaw23.HotplugRefusalsAreJustified", spec := "hotplugRefusalsAreJustified", inPlace := ["slices.overlaps[platformfw/api.Range]"], unfollowed := true, recurses := true, plainKeys := false, apart := false, narrowed := true }
def HotplugRefusalsAreJustifiedUptoSaid : Prop := hotplugRefusalsAreJustifiedUptoRow.holds Tryz.pinned (OpenSpec.upto hotplugRefusalsAreJustifiedSpec)

end Rows
end Go.Proofs.YtnhhncjflnlfaaaGreat
