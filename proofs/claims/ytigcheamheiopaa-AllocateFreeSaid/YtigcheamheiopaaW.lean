/-
  The shallow readings of this seat's functions, written by a program (gen.py); the kernel holds each against the loaded program.
-/
import Derived.Test.YtigcheamheiopaaProg
import Derived.Test.YtigcheamheiopaaW2
namespace Go.Proofs.Ytigcheamheiopaa
open Go.Eng
set_option linter.unusedVariables false

/-! ### 112: slices.swapRangeCmpFunc[int] -/

def F_slices_swapRangeCmpFunc_int_r1 (R : Value → Heap → Prop) (data : Sl) (a : Int) (b : Int) (n : Int) (I_ : Int → Heap → Prop) (M_ : Int → Heap → Nat) (i : Int) (H1 : Heap) : Prop :=
  iteB (decide (i < n)) (
  0 ≤ (IntKind.i64.wrap (b + i)) ∧ (IntKind.i64.wrap (b + i)) < (data.n : Int) ∧ (unSome data.p (fun a1 =>
  ∃ x : Int, rd H1 (a1.add ((IntKind.i64.wrap (b + i)).toNat * 1)) = some (.int .i64 x) ∧ (
  0 ≤ (IntKind.i64.wrap (a + i)) ∧ (IntKind.i64.wrap (a + i)) < (data.n : Int) ∧ (unSome data.p (fun a2 =>
  ∃ x1 : Int, rd H1 (a2.add ((IntKind.i64.wrap (a + i)).toNat * 1)) = some (.int .i64 x1) ∧ (
  0 ≤ (IntKind.i64.wrap (a + i)) ∧ (IntKind.i64.wrap (a + i)) < (data.n : Int) ∧ (unSome data.p (fun a3 =>
  okRow H1 (a3.add ((IntKind.i64.wrap (a + i)).toNat * 1)) 1 ∧ (
  letH (wrs H1 (a3.add ((IntKind.i64.wrap (a + i)).toNat * 1)) [.int .i64 x]) (fun H2 : Heap =>
  0 ≤ (IntKind.i64.wrap (b + i)) ∧ (IntKind.i64.wrap (b + i)) < (data.n : Int) ∧ (unSome data.p (fun a4 =>
  okRow H2 (a4.add ((IntKind.i64.wrap (b + i)).toNat * 1)) 1 ∧ (
  letH (wrs H2 (a4.add ((IntKind.i64.wrap (b + i)).toNat * 1)) [.int .i64 x1]) (fun H3 : Heap =>
  letV (IntKind.i64.wrap (i + (1 : Int))) (fun i1 : Int =>
  I_ i1 H3 ∧ M_ i1 H3 < M_ i H1)))))))))))))))) (
  R (.tuple #[]) H1)

def F_slices_swapRangeCmpFunc_int (R : Value → Heap → Prop) (data : Sl) (a : Int) (b : Int) (n : Int) (cap : Addr) (H : Heap) : Prop :=
  ∃ I_ : Int → Heap → Prop, ∃ M_ : Int → Heap → Nat, I_ (0 : Int) H ∧ (∀ i : Int, ∀ H1 : Heap, I_ i H1 → F_slices_swapRangeCmpFunc_int_r1 R data a b n I_ M_ i H1)

theorem F_slices_swapRangeCmpFunc_int_eq (R : Value → Heap → Prop) (data : Sl) (a : Int) (b : Int) (n : Int) (cap : Addr) (H : Heap) : wpF Try.prog Try.f112 [(10, .int .i64 0)] [] [(1, [10], [0, 1, 2, 3])] [17] [.slice data.p data.n data.c, .int .i64 a, .int .i64 b, .int .i64 n, .func (.func 35) #[] #[.pointer (some cap)]] H R = F_slices_swapRangeCmpFunc_int R data a b n cap H := by kernel_rfl

theorem F_slices_swapRangeCmpFunc_int_ok {R : Value → Heap → Prop} (data : Sl) (a : Int) (b : Int) (n : Int) (cap : Addr) {H : Heap} (h : F_slices_swapRangeCmpFunc_int R data a b n cap H) : CallsH Try.prog n_slices_swapRangeCmpFunc_int #[.slice data.p data.n data.c, .int .i64 a, .int .i64 b, .int .i64 n, .func (.func 35) #[] #[.pointer (some cap)]] H R :=
  wpF_ok Try.func112 (F_slices_swapRangeCmpFunc_int_eq R data a b n cap H) h

end Go.Proofs.Ytigcheamheiopaa
