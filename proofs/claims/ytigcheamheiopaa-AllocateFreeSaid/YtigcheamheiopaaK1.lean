/-
  Kinds of rows; equality of lists of integers and of registers; the first elements of a slice.
-/
import Derived.Test.YtigcheamheiopaaG7
import Derived.Test.YtigcheamheiopaaEngQ
namespace Go.Proofs.Ytigcheamheiopaa
open Go.Eng

theorem rkBar : RK Try.prog t_sl_api_Bar t_api_Bar (.agg #[.int .i64 0, .int .i64 0]) 2 16 encBar := ⟨by kernel_rfl, by kernel_rfl, rfl, by omega, by omega, encBar_len, encBar_one⟩
theorem rkInt : RK Try.prog t_sl_int t_int (.int .i64 0) 1 8 (encI .i64) := ⟨by kernel_rfl, by kernel_rfl, rfl, by omega, by omega, ints_row _, ints_one _⟩
theorem rkFn : RK Try.prog t_sl_api_Function t_api_Function (.agg #[.int .i64 0, .int .i64 0, .int .i64 0, .int .i64 0, .bool false, .bool false, .bool false, .int .i64 0, .int .i64 0, .int .i64 0, .slice none 0 0]) 11 88 encF :=
  ⟨by kernel_rfl, by kernel_rfl, rfl, by omega, by omega, encF_len, encF_one⟩

theorem slP0 (p : Option Addr) (m s : Nat) : slP p m 0 s = p := by
  unfold slP
  split
  · rfl
  · cases p with
    | none => rfl
    | some a => simp [Addr.add]

theorem IsS.takeS {α : Type} {sz : Nat} {enc : α → List Value} {H : Heap} {s : Sl} {l : List α} (h : IsS sz enc H s l) (m c : Nat) (hm : m ≤ l.length) : IsS sz enc H ⟨s.p, m, c⟩ (l.take m) := by
  refine ⟨by simp; omega, ?_⟩
  rcases h.row with e | ⟨a, hp, hr⟩
  · subst e; exact .inl (by simp)
  · refine .inr ⟨a, hp, fun i x hx => hr i x ?_⟩
    rw [List.getElem?_take] at hx
    split at hx
    · exact hx
    · cases hx
theorem Topo.takeS {H : Heap} {s : Sl} {T : List FS} (h : Topo H s T) (m c : Nat) (hm : m ≤ T.length) : Topo H ⟨s.p, m, c⟩ (T.take m) :=
  ⟨IsS.takeS h.is m c hm, fun x hx => h.bars x (List.mem_of_mem_take hx)⟩


end Go.Proofs.Ytigcheamheiopaa
