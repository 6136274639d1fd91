/-
  What the arguments hold: certificates; the ranges of numbers.
-/
import Derived.Test.YtigcheamheiopaaEngZ
import Derived.Test.YtigcheamheiopaaM3
namespace Go.Proofs.Ytigcheamheiopaa
open Go.Eng

def RRange (_ : Heap) (cs : List Value) (d : Rg) : Prop := cs = encR d ∧ (Lit.int .u64 d.1).wf = true ∧ (Lit.int .u64 d.2).wf = true

theorem opens_api_Range : Opens Try.prog t_api_Range RRange := by
  intro H enc w base spare held fuel cs x h
  have hl := opens_len Try.underlying39 h
  obtain ⟨a0, ha0, w0⟩ := opens_fields Try.underlying39 h 0 (o := 0) (c := 1) rfl (by kernel_rfl) (opens_int Try.underlying24)
  obtain ⟨a1, ha1, w1⟩ := opens_fields Try.underlying39 h 1 (o := 1) (c := 1) rfl (by kernel_rfl) (opens_int Try.underlying24)
  rw [show Try.prog.cellsOf t_api_Range = 2 by kernel_rfl] at hl
  clear h
  match cs, hl, ha0, ha1 with
  | [u0, u1], _, ha0, ha1 =>
    simp at ha0 ha1
    subst ha0 ha1
    exact ⟨(a0, a1), rfl, w0, w1⟩

theorem opens_api_Range_z : OpensZ Try.prog t_api_Range RRange := opens_api_Range.z

def RCert (_ : Heap) (cs : List Value) (d : Cert) : Prop := cs = encC d ∧ (Lit.int .i64 d.1).wf = true ∧ (Lit.int .i64 d.2.1).wf = true ∧ (Lit.int .u64 d.2.2.1).wf = true ∧ (Lit.int .u64 d.2.2.2).wf = true ∧ True

theorem opens_api_Certificate : Opens Try.prog t_api_Certificate RCert := by
  intro H enc w base spare held fuel cs x h
  have hl := opens_len Try.underlying26 h
  obtain ⟨a, ha, wa⟩ := opens_fields Try.underlying26 h 0 (o := 0) (c := 1) rfl (by kernel_rfl) (opens_int Try.underlying3)
  obtain ⟨b, hb, wb⟩ := opens_fields Try.underlying26 h 1 (o := 1) (c := 1) rfl (by kernel_rfl) (opens_int Try.underlying3)
  obtain ⟨c, hc, wc⟩ := opens_fields Try.underlying26 h 2 (o := 2) (c := 1) rfl (by kernel_rfl) (opens_int Try.underlying24)
  obtain ⟨d, hd, wd⟩ := opens_fields Try.underlying26 h 3 (o := 3) (c := 1) rfl (by kernel_rfl) (opens_int Try.underlying24)
  rw [show Try.prog.cellsOf t_api_Certificate = 4 by kernel_rfl] at hl
  clear h
  match cs, hl, ha, hb, hc, hd with
  | [u0, u1, u2, u3], _, ha, hb, hc, hd =>
    simp at ha hb hc hd
    subst ha hb hc hd
    exact ⟨(a, b, c, d), rfl, wa, wb, wc, wd, trivial⟩

theorem opens_api_Certificate_z : OpensZ Try.prog t_api_Certificate RCert := opens_api_Certificate.z

theorem u64_fit {x : Int} (h : (Lit.int .u64 x).wf = true) : 0 ≤ x ∧ x ≤ 18446744073709551615 := by
  simp [Lit.wf, IntKind.min, IntKind.max, IntKind.signed, IntKind.bits] at h
  omega
theorem rgs_ofR {H : Heap} {s : Sl} {l : List Rg} (h : SlR 2 RRange H s l) : Rgs H s l := h.isS (fun _ _ hc => hc.1)
theorem u64l_of {H : Heap} {s : Sl} {l : List Rg} (h : SlR 2 RRange H s l) : U64L l := fun r hr => by
  obtain ⟨cs, _, h1, h2⟩ := h.all r hr
  exact ⟨u64_fit h1, u64_fit h2⟩

end Go.Proofs.Ytigcheamheiopaa
