import Derived.Test.YtigcheamheiopaaGreatEngZ
import Derived.Test.YtigcheamheiopaaGreatG1
import Derived.Test.YtigcheamheiopaaGreatM3
import Derived.Test.YtigcheamheiopaaGreatM6

section
/-
 What the arguments hold.
-/
namespace Go.Proofs.YtigcheamheiopaaGreat
open Go.Eng

def RBar (_ : Heap) (cs : List Value) (d : Bar) : Prop := cs = encBar d ∧ (Lit.int .i64 d.1).wf = true ∧ (Lit.int .i64 d.2).wf = true ∧ True

theorem opens_api_Bar : Opens Tryz.prog t_api_Bar RBar := by
 intro H enc w base spare held fuel cs x h
 have hl := opens_len Tryz.underlying101 h
 obtain ⟨a, ha, wa⟩ := opens_fields Tryz.underlying101 h 0 (o := 0) (c := 1) rfl (by kernel_rfl) (opens_int Tryz.underlying3)
 obtain ⟨b, hb, wb⟩ := opens_fields Tryz.underlying101 h 1 (o := 1) (c := 1) rfl (by kernel_rfl) (opens_int Tryz.underlying3)
 rw [show Tryz.prog.cellsOf t_api_Bar = 2 by kernel_rfl] at hl
 clear h
 match cs, hl, ha, hb with
 | [u0, u1], _, ha, hb =>
  simp at ha hb
  subst ha hb
  exact ⟨(a, b), rfl, wa, wb, trivial⟩

def RFn (H : Heap) (cs : List Value) (d : Fn × Sl) : Prop := cs = fnL d.1 d.2 ∧ SlR 2 RBar H d.2 d.1.bars ∧ (Lit.int .i64 d.1.parent).wf = true ∧ (Lit.int .i64 d.1.slot).wf = true ∧ (Lit.int .i64 d.1.vendor).wf = true ∧ (Lit.int .i64 d.1.device).wf = true ∧ (Lit.int .i64 d.1.spare).wf = true ∧ (Lit.int .i64 d.1.pin).wf = true ∧ (Lit.int .i64 d.1.vec).wf = true

theorem opens_api_Function : Opens Tryz.prog t_api_Function RFn := by
 intro H enc w base spare held fuel cs x h
 have hl := opens_len Tryz.underlying55 h
 obtain ⟨pa, hpa, wpa⟩ := opens_fields Tryz.underlying55 h 0 (o := 0) (c := 1) rfl (by kernel_rfl) (opens_int Tryz.underlying3)
 obtain ⟨sl, hsl, wsl⟩ := opens_fields Tryz.underlying55 h 1 (o := 1) (c := 1) rfl (by kernel_rfl) (opens_int Tryz.underlying3)
 obtain ⟨ve, hve, wve⟩ := opens_fields Tryz.underlying55 h 2 (o := 2) (c := 1) rfl (by kernel_rfl) (opens_int Tryz.underlying3)
 obtain ⟨de, hde, wde⟩ := opens_fields Tryz.underlying55 h 3 (o := 3) (c := 1) rfl (by kernel_rfl) (opens_int Tryz.underlying3)
 obtain ⟨br, hbr⟩ := opens_fields Tryz.underlying55 h 4 (o := 4) (c := 1) rfl (by kernel_rfl) (opens_bool Tryz.underlying4)
 obtain ⟨pr, hpr⟩ := opens_fields Tryz.underlying55 h 5 (o := 5) (c := 1) rfl (by kernel_rfl) (opens_bool Tryz.underlying4)
 obtain ⟨ho, hho⟩ := opens_fields Tryz.underlying55 h 6 (o := 6) (c := 1) rfl (by kernel_rfl) (opens_bool Tryz.underlying4)
 obtain ⟨sp, hsp, wsp⟩ := opens_fields Tryz.underlying55 h 7 (o := 7) (c := 1) rfl (by kernel_rfl) (opens_int Tryz.underlying3)
 obtain ⟨pi, hpi, wpi⟩ := opens_fields Tryz.underlying55 h 8 (o := 8) (c := 1) rfl (by kernel_rfl) (opens_int Tryz.underlying3)
 obtain ⟨vc, hvc, wvc⟩ := opens_fields Tryz.underlying55 h 9 (o := 9) (c := 1) rfl (by kernel_rfl) (opens_int Tryz.underlying3)
 obtain ⟨ba, sba, hba, wba⟩ := opens_fields Tryz.underlying55 h 10 (o := 10) (c := 1) rfl (by kernel_rfl) (opens_slice (sz := 2) Tryz.underlying53 (by kernel_rfl) opens_api_Bar)
 rw [show Tryz.prog.cellsOf t_api_Function = 11 by kernel_rfl] at hl
 clear h
 match cs, hl, hpa, hsl, hve, hde, hbr, hpr, hho, hsp, hpi, hvc, hba with
 | [u0, u1, u2, u3, u4, u5, u6, u7, u8, u9, u10], _, hpa, hsl, hve, hde, hbr, hpr, hho, hsp, hpi, hvc, hba =>
  simp at hpa hsl hve hde hbr hpr hho hsp hpi hvc hba
  subst hpa hsl hve hde hbr hpr hho hsp hpi hvc hba
  exact ⟨(⟨pa, sl, ve, de, br, pr, ho, sp, pi, vc, ba⟩, sba), rfl, wba, wpa, wsl, wve, wde, wsp, wpi, wvc⟩

theorem RFn.bars {H : Heap} {cs : List Value} {d : Fn × Sl} (h : RFn H cs d) : Bars H d.2 d.1.bars := h.2.1.isS (fun _ _ hc => hc.1)
theorem RFn.len {H : Heap} {cs : List Value} {d : Fn × Sl} (h : RFn H cs d) : d.1.bars.length ≤ 9223372036854775807 := h.2.1.lt

def RFnZ (H : Heap) (cs : List Value) (d : Fn × Sl) : Prop := RFn H cs d ∧ d.1.bars.length * 16 ≤ reachBytes
theorem opens_api_Function_z : OpensZ Tryz.prog t_api_Function RFnZ := by
 intro H enc w base spare held fuel cs x h hw
 obtain ⟨d, hd⟩ := opens_api_Function H enc w base spare held fuel cs x h
 obtain ⟨l, ⟨s, hs, hr⟩, hz⟩ := opens_fields_z Tryz.underlying55 h hw 10 (o := 10) (c := 1) rfl (by kernel_rfl) (opens_slice_z (sz := 2) Tryz.underlying53 (by kernel_rfl) opens_api_Bar.z)
 refine ⟨d, hd, ?_⟩
 have h1 := hr.len
 have h2 := hd.bars.len
 rw [hd.1] at hs
 simp at hs
 rw [show Tryz.prog.bytesOf 101 = 16 by kernel_rfl] at hz
 rw [← h2, hs.2.1, h1]
 exact hz

theorem topo_ofz {H : Heap} {s : Sl} {l : List FS} (h : SlR 11 RFnZ H s l) : Topo H s l :=
 ⟨h.isS (fun _ _ hc => hc.1.1), fun x hx => by obtain ⟨cs, hc⟩ := h.all x hx; exact hc.1.bars⟩
theorem lens_ofz {H : Heap} {s : Sl} {l : List FS} (h : SlR 11 RFnZ H s l) : ∀ x ∈ l, x.1.bars.length ≤ 9223372036854775807 := fun x hx => by obtain ⟨cs, hc⟩ := h.all x hx; exact hc.1.len
end Go.Proofs.YtigcheamheiopaaGreat
end

section
/-
 What the arguments hold: certificates; the ranges of numbers.
-/
namespace Go.Proofs.YtigcheamheiopaaGreat
open Go.Eng

def RRange (_ : Heap) (cs : List Value) (d : Rg) : Prop := cs = encR d ∧ (Lit.int .u64 d.1).wf = true ∧ (Lit.int .u64 d.2).wf = true

theorem opens_api_Range : Opens Tryz.prog t_api_Range RRange := by
 intro H enc w base spare held fuel cs x h
 have hl := opens_len Tryz.underlying60 h
 obtain ⟨a0, ha0, w0⟩ := opens_fields Tryz.underlying60 h 0 (o := 0) (c := 1) rfl (by kernel_rfl) (opens_int Tryz.underlying30)
 obtain ⟨a1, ha1, w1⟩ := opens_fields Tryz.underlying60 h 1 (o := 1) (c := 1) rfl (by kernel_rfl) (opens_int Tryz.underlying30)
 rw [show Tryz.prog.cellsOf t_api_Range = 2 by kernel_rfl] at hl
 clear h
 match cs, hl, ha0, ha1 with
 | [u0, u1], _, ha0, ha1 =>
  simp at ha0 ha1
  subst ha0 ha1
  exact ⟨(a0, a1), rfl, w0, w1⟩

end Go.Proofs.YtigcheamheiopaaGreat
end

section
/-
 What the arguments hold: ranges, hosts, assignments.
-/
namespace Go.Proofs.YtigcheamheiopaaGreat
open Go.Eng

def RLink (_ : Heap) (cs : List Value) (d : Int) : Prop := cs = encI .u32 d ∧ (Lit.int .u32 d).wf = true

theorem opens_api_IntLink : Opens Tryz.prog t_api_IntLink RLink := by
 intro H enc w base spare held fuel cs x h
 have hl := opens_len Tryz.underlying89 h
 obtain ⟨a0, ha0, w0⟩ := opens_fields Tryz.underlying89 h 0 (o := 0) (c := 1) rfl (by kernel_rfl) (opens_int Tryz.underlying87)
 rw [show Tryz.prog.cellsOf t_api_IntLink = 1 by kernel_rfl] at hl
 clear h
 match cs, hl, ha0 with
 | [u0], _, ha0 =>
  simp at ha0
  subst ha0
  exact ⟨a0, rfl, w0⟩

def RRoute (_ : Heap) (cs : List Value) (d : Rt) : Prop := cs = encRt d ∧ (Lit.int .i64 d.1).wf = true ∧ (Lit.int .i64 d.2.1).wf = true ∧ (Lit.int .i64 d.2.2).wf = true

theorem opens_api_Route : Opens Tryz.prog t_api_Route RRoute := by
 intro H enc w base spare held fuel cs x h
 have hl := opens_len Tryz.underlying85 h
 obtain ⟨a0, ha0, w0⟩ := opens_fields Tryz.underlying85 h 0 (o := 0) (c := 1) rfl (by kernel_rfl) (opens_int Tryz.underlying3)
 obtain ⟨a1, ha1, w1⟩ := opens_fields Tryz.underlying85 h 1 (o := 1) (c := 1) rfl (by kernel_rfl) (opens_int Tryz.underlying3)
 obtain ⟨a2, ha2, w2⟩ := opens_fields Tryz.underlying85 h 2 (o := 2) (c := 1) rfl (by kernel_rfl) (opens_int Tryz.underlying3)
 rw [show Tryz.prog.cellsOf t_api_Route = 3 by kernel_rfl] at hl
 clear h
 match cs, hl, ha0, ha1, ha2 with
 | [u0, u1, u2], _, ha0, ha1, ha2 =>
  simp at ha0 ha1 ha2
  subst ha0 ha1 ha2
  exact ⟨(a0, a1, a2), rfl, w0, w1, w2⟩

theorem u64L_of {H : Heap} {s : Sl} {l : List Rg} (h : SlR 2 RRange H s l) : U64L l := fun r hr => by
 obtain ⟨cs, _, h1, h2⟩ := h.all r hr
 simp [Lit.wf, IntKind.min, IntKind.max, IntKind.bits, IntKind.signed] at h1 h2
 omega
theorem rgs_of {H : Heap} {s : Sl} {l : List Rg} (h : SlR 2 RRange H s l) : Rgs H s l := h.isS (fun _ _ hc => hc.1)

def RHost (H : Heap) (cs : List Value) (d : Host × HostS) : Prop := cs = hostL d.1 d.2 ∧ HostM H d.1 d.2 ∧ (Lit.int .i64 d.1.buses).wf = true ∧ d.1.io.length ≤ 9223372036854775807 ∧ d.1.mem.length ≤ 9223372036854775807 ∧ d.1.high.length ≤ 9223372036854775807 ∧ d.1.fio.length ≤ 9223372036854775807 ∧ d.1.fix.length ≤ 9223372036854775807 ∧ d.1.links.length ≤ 9223372036854775807 ∧ d.1.routes.length ≤ 9223372036854775807 ∧ (∀ x ∈ d.1.links, (Lit.int .u32 x).wf = true)

theorem opens_api_Host : Opens Tryz.prog t_api_Host RHost := by
 intro H enc w base spare held fuel cs x h
 have hl := opens_len Tryz.underlying27 h
 obtain ⟨bu, hbu, wbu⟩ := opens_fields Tryz.underlying27 h 0 (o := 0) (c := 1) rfl (by kernel_rfl) (opens_int Tryz.underlying3)
 obtain ⟨io, sio, hio, rio⟩ := opens_fields Tryz.underlying27 h 1 (o := 1) (c := 1) rfl (by kernel_rfl) (opens_slice (sz := 2) Tryz.underlying23 (by kernel_rfl) opens_api_Range)
 obtain ⟨me, sme, hme, rme⟩ := opens_fields Tryz.underlying27 h 2 (o := 2) (c := 1) rfl (by kernel_rfl) (opens_slice (sz := 2) Tryz.underlying23 (by kernel_rfl) opens_api_Range)
 obtain ⟨hi, shi, hhi, rhi⟩ := opens_fields Tryz.underlying27 h 3 (o := 3) (c := 1) rfl (by kernel_rfl) (opens_slice (sz := 2) Tryz.underlying23 (by kernel_rfl) opens_api_Range)
 obtain ⟨fi, sfi, hfi, rfi⟩ := opens_fields Tryz.underlying27 h 4 (o := 4) (c := 1) rfl (by kernel_rfl) (opens_slice (sz := 2) Tryz.underlying23 (by kernel_rfl) opens_api_Range)
 obtain ⟨fx, sfx, hfx, rfx⟩ := opens_fields Tryz.underlying27 h 5 (o := 5) (c := 1) rfl (by kernel_rfl) (opens_slice (sz := 2) Tryz.underlying23 (by kernel_rfl) opens_api_Range)
 obtain ⟨li, sli, hli, rli⟩ := opens_fields Tryz.underlying27 h 6 (o := 6) (c := 1) rfl (by kernel_rfl) (opens_slice (sz := 1) Tryz.underlying24 (by kernel_rfl) opens_api_IntLink)
 obtain ⟨ro, sro, hro, rro⟩ := opens_fields Tryz.underlying27 h 7 (o := 7) (c := 1) rfl (by kernel_rfl) (opens_slice (sz := 3) Tryz.underlying25 (by kernel_rfl) opens_api_Route)
 rw [show Tryz.prog.cellsOf t_api_Host = 8 by kernel_rfl] at hl
 clear h
 match cs, hl, hbu, hio, hme, hhi, hfi, hfx, hli, hro with
 | [u0, u1, u2, u3, u4, u5, u6, u7], _, hbu, hio, hme, hhi, hfi, hfx, hli, hro =>
  simp at hbu hio hme hhi hfi hfx hli hro
  subst hbu hio hme hhi hfi hfx hli hro
  exact ⟨(⟨bu, io, me, hi, fi, fx, li, ro⟩, ⟨sio, sme, shi, sfi, sfx, sli, sro⟩), rfl, ⟨rgs_of rio, rgs_of rme, rgs_of rhi, rgs_of rfi, rgs_of rfx, rli.isS (fun _ _ hc => hc.1), rro.isS (fun _ _ hc => hc.1), u64L_of rio, u64L_of rme, u64L_of rhi, u64L_of rfi, u64L_of rfx⟩, wbu, rio.lt, rme.lt, rhi.lt, rfi.lt, rfx.lt, rli.lt, rro.lt, fun x hx => by obtain ⟨cs, _, h⟩ := rli.all x hx; exact h⟩

theorem opens_api_Host_z : OpensZ Tryz.prog t_api_Host RHost := opens_api_Host.z

end Go.Proofs.YtigcheamheiopaaGreat
end
