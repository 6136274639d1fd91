/-
 What the arguments hold: ranges, hosts, assignments.
-/
import Derived.Test.YtnhhncjflnlfaaaGreatO
import Derived.Test.YtnhhncjflnlfaaaGreatO3
import Derived.Test.YtnhhncjflnlfaaaGreatM6
namespace Go.Proofs.YtnhhncjflnlfaaaGreat
open Go.Eng

def RLink (_ : Heap) (cs : List Value) (d : Int) : Prop := cs = encI .u32 d /\ (Lit.int .u32 d).wf = true

theorem opens_api_IntLink : Opens Tryz.prog t_114 RLink := by
 intro H enc w base spare held fuel cs x h
 have hl := opens_len Tryz.underlying114 h
 obtain ⟨a0, ha0, w0⟩ := opens_fields Tryz.underlying114 h 0 (o := 0) (c := 1) rfl (by kernel_rfl) (opens_int Tryz.underlying112)
 rw [show Tryz.prog.cellsOf t_114 = 1 by kernel_rfl] at hl
 clear h
 match cs, hl, ha0 with
 | [u0], _, ha0 =>
  simp at ha0
  subst ha0
  exact ⟨a0, rfl, w0⟩

def RRoute (_ : Heap) (cs : List Value) (d : Rt) : Prop := cs = encRt d /\ (Lit.int .i64 d.1).wf = true /\ (Lit.int .i64 d.2.1).wf = true /\ (Lit.int .i64 d.2.2).wf = true

theorem opens_api_Route : Opens Tryz.prog t_116 RRoute := by
 intro H enc w base spare held fuel cs x h
 have hl := opens_len Tryz.underlying116 h
 obtain ⟨a0, ha0, w0⟩ := opens_fields Tryz.underlying116 h 0 (o := 0) (c := 1) rfl (by kernel_rfl) (opens_int Tryz.underlying3)
 obtain ⟨a1, ha1, w1⟩ := opens_fields Tryz.underlying116 h 1 (o := 1) (c := 1) rfl (by kernel_rfl) (opens_int Tryz.underlying3)
 obtain ⟨a2, ha2, w2⟩ := opens_fields Tryz.underlying116 h 2 (o := 2) (c := 1) rfl (by kernel_rfl) (opens_int Tryz.underlying3)
 rw [show Tryz.prog.cellsOf t_116 = 3 by kernel_rfl] at hl
 clear h
 match cs, hl, ha0, ha1, ha2 with
 | [u0, u1, u2], _, ha0, ha1, ha2 =>
  simp at ha0 ha1 ha2
  subst ha0 ha1 ha2
  exact ⟨(a0, a1, a2), rfl, w0, w1, w2⟩

def RNeed (_ : Heap) (cs : List Value) (d : Need) : Prop := cs = encN d /\ (Lit.int .i64 d.1).wf = true /\ (Lit.int .i64 d.2.1).wf = true /\ (Lit.int .i64 d.2.2.1).wf = true /\ (Lit.int .i64 d.2.2.2).wf = true

theorem opens_api_Need : Opens Tryz.prog t_29 RNeed := by
 intro H enc w base spare held fuel cs x h
 have hl := opens_len Tryz.underlying29 h
 obtain ⟨a0, ha0, w0⟩ := opens_fields Tryz.underlying29 h 0 (o := 0) (c := 1) rfl (by kernel_rfl) (opens_int Tryz.underlying3)
 obtain ⟨a1, ha1, w1⟩ := opens_fields Tryz.underlying29 h 1 (o := 1) (c := 1) rfl (by kernel_rfl) (opens_int Tryz.underlying3)
 obtain ⟨a2, ha2, w2⟩ := opens_fields Tryz.underlying29 h 2 (o := 2) (c := 1) rfl (by kernel_rfl) (opens_int Tryz.underlying3)
 obtain ⟨a3, ha3, w3⟩ := opens_fields Tryz.underlying29 h 3 (o := 3) (c := 1) rfl (by kernel_rfl) (opens_int Tryz.underlying3)
 rw [show Tryz.prog.cellsOf t_29 = 4 by kernel_rfl] at hl
 clear h
 match cs, hl, ha0, ha1, ha2, ha3 with
 | [u0, u1, u2, u3], _, ha0, ha1, ha2, ha3 =>
  simp at ha0 ha1 ha2 ha3
  subst ha0 ha1 ha2 ha3
  exact ⟨(a0, a1, a2, a3), rfl, w0, w1, w2, w3⟩

def RAsg (_ : Heap) (cs : List Value) (d : Asg) : Prop := cs = encA d /\ RNeed #[] (encN d.1) d.1 /\ (Lit.int .u64 d.2).wf = true

theorem opens_api_Assignment : Opens Tryz.prog t_32 RAsg := by
 intro H enc w base spare held fuel cs x h
 have hl := opens_len Tryz.underlying32 h
 obtain ⟨n, hn, wn⟩ := opens_fields Tryz.underlying32 h 0 (o := 0) (c := 4) rfl (by kernel_rfl) opens_api_Need
 obtain ⟨a, ha, wa⟩ := opens_fields Tryz.underlying32 h 1 (o := 4) (c := 1) rfl (by kernel_rfl) (opens_int Tryz.underlying30)
 rw [show Tryz.prog.cellsOf t_32 = 5 by kernel_rfl] at hl
 clear h
 match cs, hl, hn, ha with
 | [u0, u1, u2, u3, u4], _, hn, ha =>
  simp [encN] at hn ha
  obtain ⟨rfl, rfl, rfl, rfl⟩ := hn
  subst ha
  exact ⟨(n, a), rfl, ⟨rfl, wn⟩, wa⟩

theorem opens_api_Assignment_z : OpensZ Tryz.prog t_32 RAsg := opens_api_Assignment.z

theorem u64L_of {H : Heap} {s : Sl} {l : List Rg} (h : SlR 2 RRange H s l) : U64L l := fun r hr => by
 obtain ⟨cs, _, h1, h2⟩ := h.all r hr
 simp [Lit.wf, IntKind.min, IntKind.max, IntKind.bits, IntKind.signed] at h1 h2
 omega
theorem rgs_of {H : Heap} {s : Sl} {l : List Rg} (h : SlR 2 RRange H s l) : Rgs H s l := h.isS (fun _ _ hc => hc.1)

def RHost (H : Heap) (cs : List Value) (d : Host × HostS) : Prop := cs = hostL d.1 d.2 /\ HostM H d.1 d.2 /\ (Lit.int .i64 d.1.buses).wf = true /\ d.1.io.length <= 9223372036854775807 /\ d.1.mem.length <= 9223372036854775807 /\ d.1.high.length <= 9223372036854775807 /\ d.1.fio.length <= 9223372036854775807 /\ d.1.fix.length <= 9223372036854775807 /\ d.1.links.length <= 9223372036854775807 /\ d.1.routes.length <= 9223372036854775807 /\ (∀ x ∈ d.1.links, (Lit.int .u32 x).wf = true)

theorem opens_api_Host : Opens Tryz.prog t_27 RHost := by
 intro H enc w base spare held fuel cs x h
 have hl := opens_len Tryz.underlying27 h
 obtain ⟨bu, hbu, wbu⟩ := opens_fields Tryz.underlying27 h 0 (o := 0) (c := 1) rfl (by kernel_rfl) (opens_int Tryz.underlying3)
 obtain ⟨io, sio, hio, rio⟩ := opens_fields Tryz.underlying27 h 1 (o := 1) (c := 1) rfl (by kernel_rfl) (opens_slice (sz := 2) Tryz.underlying23 (by kernel_rfl) opens_api_Range)
 obtain ⟨me, sme, hme, rme⟩ := opens_fields Tryz.underlying27 h 2 (o := 2) (c := 1) rfl (by kernel_rfl) (opens_slice (sz := 2) Tryz.underlying23 (by kernel_rfl) opens_api_Range)
 obtain ⟨hi, shi, hhi, rhi⟩ := opens_fields Tryz.underlying27 h 3 (o := 3) (c := 1) rfl (by kernel_rfl) (opens_slice (sz := 2) Tryz.underlying23 (by kernel_rfl) opens_api_Range)
 obtain ⟨fi, sfi, hfi, rfi⟩ := opens_fields Tryz.underlying27 h 4 (o := 4) (c := 1) rfl (by kernel_rfl) (opens_slice (sz := 2) Tryz.underlying23 (by kernel_rfl) opens_api_Range)
 obtain ⟨fx, sfx, hfx, rfx⟩ := opens_fields Tryz.underlying27 h 5 (o := 5) (c := 1) rfl (by kernel_rfl) (opens_slice (sz := 2) Tryz.underlying23 (by kernel_rfl) opens_api_Range)
 obtain ⟨li, sli, hli, rli⟩ := opens_fields Tryz.underlying27 h 6 (o := 6) (c := 1) rfl (by kernel_rfl) (opens_slice (sz := 1) Tryz.underlying24 (by kernel_rfl) opens_api_IntLink)
 obtain ⟨ro, sro, hro, rro⟩ := opens_fields Tryz.underlying27 h 7 (o := 7) (c := 1) rfl (by kernel_rfl) (opens_slice (sz := 3) Tryz.underlying25 (by kernel_rfl) opens_api_Route)
 rw [show Tryz.prog.cellsOf t_27 = 8 by kernel_rfl] at hl
 clear h
 match cs, hl, hbu, hio, hme, hhi, hfi, hfx, hli, hro with
 | [u0, u1, u2, u3, u4, u5, u6, u7], _, hbu, hio, hme, hhi, hfi, hfx, hli, hro =>
  simp at hbu hio hme hhi hfi hfx hli hro
  subst hbu hio hme hhi hfi hfx hli hro
  exact ⟨(⟨bu, io, me, hi, fi, fx, li, ro⟩, ⟨sio, sme, shi, sfi, sfx, sli, sro⟩), rfl, ⟨rgs_of rio, rgs_of rme, rgs_of rhi, rgs_of rfi, rgs_of rfx, rli.isS (fun _ _ hc => hc.1), rro.isS (fun _ _ hc => hc.1), u64L_of rio, u64L_of rme, u64L_of rhi, u64L_of rfi, u64L_of rfx⟩, wbu, rio.lt, rme.lt, rhi.lt, rfi.lt, rfx.lt, rli.lt, rro.lt, fun x hx => by obtain ⟨cs, _, h⟩ := rli.all x hx; exact h⟩

theorem opens_api_Host_z : OpensZ Tryz.prog t_27 RHost := opens_api_Host.z

end Go.Proofs.YtnhhncjflnlfaaaGreat
