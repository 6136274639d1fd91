/-
 AllocateAssigns.
-/
import Derived.Test.YtigcheamheiopaaGreatJQ
import Derived.Test.YtigcheamheiopaaGreatQ1
import Derived.Test.YtigcheamheiopaaGreatJN
namespace Go.Proofs.YtigcheamheiopaaGreat
open Go.Eng
set_option linter.unusedVariables false

theorem AssignIs.len {T : List FS} {h : Host} {e : Int} {A : List Asg} {c : Cert} (ha : AssignIs T h e A c) : A.length ≤ 1000 := by
 rcases ha with ⟨_, _, rfl, _⟩ | ⟨_, e0, N, hN, ⟨_, _, rfl, _⟩ | ⟨_, _, _, rfl, _⟩ | ⟨_, _, _, rfl, _⟩⟩
 ·simp
 ·simp
 ·simp
 ·have := hN.len
  rw [List.length_zip]
  omega

end Go.Proofs.YtigcheamheiopaaGreat
