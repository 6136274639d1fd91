/-
 Kinds of rows; equality of lists of integers and of registers; the first elements of a slice.
-/
import Derived.Test.YtigcheamheiopaaGreatJG
import Derived.Test.YtigcheamheiopaaGreatEngQ
namespace Go.Proofs.YtigcheamheiopaaGreat
open Go.Eng

theorem rkInt : RK Tryz.prog t_sl_int t_int (.int .i64 0) 1 8 (encI .i64) := ⟨by kernel_rfl, by kernel_rfl, rfl, by omega, by omega, ints_row _, ints_one _⟩
theorem slP0 (p : Option Addr) (m s : Nat) : slP p m 0 s = p := by
 unfold slP
 split
 ·rfl
 ·cases p with
  | none => rfl
  | some a => simp [Addr.add]

theorem IsS.takeS {α : Type} {sz : Nat} {enc : α → List Value} {H : Heap} {s : Sl} {l : List α} (h : IsS sz enc H s l) (m c : Nat) (hm : m ≤ l.length) : IsS sz enc H ⟨s.p, m, c⟩ (l.take m) := by
 refine ⟨by simp; omega, ?_⟩
 rcases h.row with e | ⟨a, hp, hr⟩
 ·subst e; exact .inl (by simp)
 ·refine .inr ⟨a, hp, fun i x hx => hr i x ?_⟩
  rw [List.getElem?_take] at hx
  split at hx
  ·exact hx
  ·cases hx
end Go.Proofs.YtigcheamheiopaaGreat
