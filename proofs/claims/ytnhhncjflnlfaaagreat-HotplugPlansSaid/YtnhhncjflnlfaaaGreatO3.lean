/-
 What the arguments hold: certificates; the ranges of numbers.
-/
import Derived.Test.YtnhhncjflnlfaaaGreatEngZ
import Derived.Test.YtnhhncjflnlfaaaGreatM3
namespace Go.Proofs.YtnhhncjflnlfaaaGreat
open Go.Eng

def RRange (_ : Heap) (cs : List Value) (d : Rg) : Prop := cs = encR d /\ (Lit.int .u64 d.1).wf = true /\ (Lit.int .u64 d.2).wf = true

theorem opens_api_Range : Opens Tryz.prog t_95 RRange := by
 intro H enc w base spare held fuel cs x h
 have hl := opens_len Tryz.underlying95 h
 obtain ⟨a0, ha0, w0⟩ := opens_fields Tryz.underlying95 h 0 (o := 0) (c := 1) rfl (by kernel_rfl) (opens_int Tryz.underlying30)
 obtain ⟨a1, ha1, w1⟩ := opens_fields Tryz.underlying95 h 1 (o := 1) (c := 1) rfl (by kernel_rfl) (opens_int Tryz.underlying30)
 rw [show Tryz.prog.cellsOf t_95 = 2 by kernel_rfl] at hl
 clear h
 match cs, hl, ha0, ha1 with
 | [u0, u1], _, ha0, ha1 =>
  simp at ha0 ha1
  subst ha0 ha1
  exact ⟨(a0, a1), rfl, w0, w1⟩

theorem u64_fit {x : Int} (h : (Lit.int .u64 x).wf = true) : 0 <= x /\ x <= 18446744073709551615 := by
 simp [Lit.wf, IntKind.min, IntKind.max, IntKind.signed, IntKind.bits] at h
 omega
end Go.Proofs.YtnhhncjflnlfaaaGreat
