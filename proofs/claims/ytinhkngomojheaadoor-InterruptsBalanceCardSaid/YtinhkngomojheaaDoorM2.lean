/-
  The contracts of the reference's merge and Free.
-/
import Derived.Test.YtinhkngomojheaaDoorM1
namespace Go.Proofs.YtinhkngomojheaaDoor
open Go.Eng
set_option linter.unusedVariables false

/-- The state between the rounds of merge. -/
def MI (l : List Rg) (H : Heap) (out left : Sl) (H' : Heap) : Prop :=
  ∃ done rest : List Rg, (done ++ rest).Perm l ∧ Srt done ∧ (∀ a ∈ done, ∀ b ∈ rest, a.1 ≤ b.1) ∧ Own H.size t_api_Range 2 H' out ((mergeS done).flatMap encR) ∧ Own H.size t_api_Range 2 H' left (rest.flatMap encR) ∧
    (∀ a, left.p = some a → a.block ∉ blkOf out.p) ∧ Ext H H'

theorem srt_snoc {d : List Rg} {x : Rg} (h : Srt d) (hx : ∀ a ∈ d, a.1 ≤ x.1) : Srt (d ++ [x]) := by
  refine List.pairwise_append.2 ⟨h, by simp, fun a ha b hb => ?_⟩
  simp at hb
  rw [hb]
  exact hx a ha

theorem erase_perm {l : List Rg} {k : Nat} (hk : k < l.length) : l.Perm (l.getD k (0, 0) :: (l.take k ++ l.drop (k + 1))) := by
  have e : l = l.take k ++ l.getD k (0, 0) :: l.drop (k + 1) := by
    have : l.getD k (0, 0) = l[k] := by simp [List.getD, hk]
    rw [this, ← List.drop_eq_getElem_cons hk, List.take_append_drop]
  conv => lhs; rw [e]
  exact List.perm_middle



end Go.Proofs.YtinhkngomojheaaDoor
