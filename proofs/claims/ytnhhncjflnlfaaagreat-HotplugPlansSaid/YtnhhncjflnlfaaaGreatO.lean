/-
 What the arguments hold.
-/
import Derived.Test.YtnhhncjflnlfaaaGreatEngZ
import Derived.Test.YtnhhncjflnlfaaaGreatG1
namespace Go.Proofs.YtnhhncjflnlfaaaGreat
open Go.Eng

def RBar (_ : Heap) (cs : List Value) (d : Bar) : Prop := cs = encBar d /\ (Lit.int .i64 d.1).wf = true /\ (Lit.int .i64 d.2).wf = true /\ True

theorem opens_api_Bar : Opens Tryz.prog t_101 RBar := by
 intro H enc w base spare held fuel cs x h
 have hl := opens_len Tryz.underlying101 h
 obtain ⟨a, ha, wa⟩ := opens_fields Tryz.underlying101 h 0 (o := 0) (c := 1) rfl (by kernel_rfl) (opens_int Tryz.underlying3)
 obtain ⟨b, hb, wb⟩ := opens_fields Tryz.underlying101 h 1 (o := 1) (c := 1) rfl (by kernel_rfl) (opens_int Tryz.underlying3)
 rw [show Tryz.prog.cellsOf t_101 = 2 by kernel_rfl] at hl
 clear h
 match cs, hl, ha, hb with
 | [u0, u1], _, ha, hb =>
  simp at ha hb
  subst ha hb
  exact ⟨(a, b), rfl, wa, wb, trivial⟩

def RFn (H : Heap) (cs : List Value) (d : Fn × Sl) : Prop := cs = fnL d.1 d.2 /\ SlR 2 RBar H d.2 d.1.bars /\ (Lit.int .i64 d.1.parent).wf = true /\ (Lit.int .i64 d.1.slot).wf = true /\ (Lit.int .i64 d.1.vendor).wf = true /\ (Lit.int .i64 d.1.device).wf = true /\ (Lit.int .i64 d.1.spare).wf = true /\ (Lit.int .i64 d.1.pin).wf = true /\ (Lit.int .i64 d.1.vec).wf = true

theorem opens_api_Function : Opens Tryz.prog t_58 RFn := by
 intro H enc w base spare held fuel cs x h
 have hl := opens_len Tryz.underlying58 h
 obtain ⟨pa, hpa, wpa⟩ := opens_fields Tryz.underlying58 h 0 (o := 0) (c := 1) rfl (by kernel_rfl) (opens_int Tryz.underlying3)
 obtain ⟨sl, hsl, wsl⟩ := opens_fields Tryz.underlying58 h 1 (o := 1) (c := 1) rfl (by kernel_rfl) (opens_int Tryz.underlying3)
 obtain ⟨ve, hve, wve⟩ := opens_fields Tryz.underlying58 h 2 (o := 2) (c := 1) rfl (by kernel_rfl) (opens_int Tryz.underlying3)
 obtain ⟨de, hde, wde⟩ := opens_fields Tryz.underlying58 h 3 (o := 3) (c := 1) rfl (by kernel_rfl) (opens_int Tryz.underlying3)
 obtain ⟨br, hbr⟩ := opens_fields Tryz.underlying58 h 4 (o := 4) (c := 1) rfl (by kernel_rfl) (opens_bool Tryz.underlying4)
 obtain ⟨pr, hpr⟩ := opens_fields Tryz.underlying58 h 5 (o := 5) (c := 1) rfl (by kernel_rfl) (opens_bool Tryz.underlying4)
 obtain ⟨ho, hho⟩ := opens_fields Tryz.underlying58 h 6 (o := 6) (c := 1) rfl (by kernel_rfl) (opens_bool Tryz.underlying4)
 obtain ⟨sp, hsp, wsp⟩ := opens_fields Tryz.underlying58 h 7 (o := 7) (c := 1) rfl (by kernel_rfl) (opens_int Tryz.underlying3)
 obtain ⟨pi, hpi, wpi⟩ := opens_fields Tryz.underlying58 h 8 (o := 8) (c := 1) rfl (by kernel_rfl) (opens_int Tryz.underlying3)
 obtain ⟨vc, hvc, wvc⟩ := opens_fields Tryz.underlying58 h 9 (o := 9) (c := 1) rfl (by kernel_rfl) (opens_int Tryz.underlying3)
 obtain ⟨ba, sba, hba, wba⟩ := opens_fields Tryz.underlying58 h 10 (o := 10) (c := 1) rfl (by kernel_rfl) (opens_slice (sz := 2) Tryz.underlying56 (by kernel_rfl) opens_api_Bar)
 rw [show Tryz.prog.cellsOf t_58 = 11 by kernel_rfl] at hl
 clear h
 match cs, hl, hpa, hsl, hve, hde, hbr, hpr, hho, hsp, hpi, hvc, hba with
 | [u0, u1, u2, u3, u4, u5, u6, u7, u8, u9, u10], _, hpa, hsl, hve, hde, hbr, hpr, hho, hsp, hpi, hvc, hba =>
  simp at hpa hsl hve hde hbr hpr hho hsp hpi hvc hba
  subst hpa hsl hve hde hbr hpr hho hsp hpi hvc hba
  exact ⟨(⟨pa, sl, ve, de, br, pr, ho, sp, pi, vc, ba⟩, sba), rfl, wba, wpa, wsl, wve, wde, wsp, wpi, wvc⟩

theorem RFn.bars {H : Heap} {cs : List Value} {d : Fn × Sl} (h : RFn H cs d) : Bars H d.2 d.1.bars := h.2.1.isS (fun _ _ hc => hc.1)
theorem RFn.len {H : Heap} {cs : List Value} {d : Fn × Sl} (h : RFn H cs d) : d.1.bars.length <= 9223372036854775807 := h.2.1.lt

def RFnZ (H : Heap) (cs : List Value) (d : Fn × Sl) : Prop := RFn H cs d /\ d.1.bars.length * 16 <= reachBytes
theorem opens_api_Function_z : OpensZ Tryz.prog t_58 RFnZ := by
 intro H enc w base spare held fuel cs x h hw
 obtain ⟨d, hd⟩ := opens_api_Function H enc w base spare held fuel cs x h
 obtain ⟨l, ⟨s, hs, hr⟩, hz⟩ := opens_fields_z Tryz.underlying58 h hw 10 (o := 10) (c := 1) rfl (by kernel_rfl) (opens_slice_z (sz := 2) Tryz.underlying56 (by kernel_rfl) opens_api_Bar.z)
 refine ⟨d, hd, ?_⟩
 have h1 := hr.len
 have h2 := hd.bars.len
 rw [hd.1] at hs
 simp at hs
 rw [show Tryz.prog.bytesOf 101 = 16 by kernel_rfl] at hz
 rw [<- h2, hs.2.1, h1]
 exact hz

theorem topo_ofz {H : Heap} {s : Sl} {l : List FS} (h : SlR 11 RFnZ H s l) : Topo H s l :=
 ⟨h.isS (fun _ _ hc => hc.1.1), fun x hx => by obtain ⟨cs, hc⟩ := h.all x hx; exact hc.1.bars⟩
theorem lens_ofz {H : Heap} {s : Sl} {l : List FS} (h : SlR 11 RFnZ H s l) : ∀ x ∈ l, x.1.bars.length <= 9223372036854775807 := fun x hx => by obtain ⟨cs, hc⟩ := h.all x hx; exact hc.1.len
end Go.Proofs.YtnhhncjflnlfaaaGreat
