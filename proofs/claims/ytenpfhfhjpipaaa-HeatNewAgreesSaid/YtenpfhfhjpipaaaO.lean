/-
  What the heat laws' arguments hold.
-/
import Derived.Test.YtenpfhfhjpipaaaEngO
import Derived.Test.YtenpfhfhjpipaaaC1
namespace Go.Proofs.Ytenpfhfhjpipaaa
open Go.Eng Go.Heat

abbrev RDom (_ : Heap) (cs : List Value) (d : Dom) : Prop := cs = encD d
abbrev RLnk (_ : Heap) (cs : List Value) (d : Lnk) : Prop := cs = encL d

theorem opens_api_HeatDomain : Opens Try.prog t_api_HeatDomain RDom := by
  intro H enc w base spare held fuel cs x h
  have hl := opens_len Try.underlying45 h
  obtain ⟨a, ha, _⟩ := opens_fields Try.underlying45 h 0 (o := 0) (c := 1) rfl (by kernel_rfl) (opens_int Try.underlying2)
  obtain ⟨b, hb, _⟩ := opens_fields Try.underlying45 h 1 (o := 1) (c := 1) rfl (by kernel_rfl) (opens_int Try.underlying2)
  rw [show Try.prog.cellsOf t_api_HeatDomain = 2 by kernel_rfl] at hl
  clear h
  match cs, hl, ha, hb with
  | [u, v], _, ha, hb =>
    simp at ha hb
    subst ha hb
    exact ⟨(a, b), rfl⟩

theorem opens_api_HeatLink : Opens Try.prog t_api_HeatLink RLnk := by
  intro H enc w base spare held fuel cs x h
  have hl := opens_len Try.underlying48 h
  obtain ⟨a, ha, _⟩ := opens_fields Try.underlying48 h 0 (o := 0) (c := 1) rfl (by kernel_rfl) (opens_int Try.underlying3)
  obtain ⟨b, hb, _⟩ := opens_fields Try.underlying48 h 1 (o := 1) (c := 1) rfl (by kernel_rfl) (opens_int Try.underlying3)
  obtain ⟨c, hc, _⟩ := opens_fields Try.underlying48 h 2 (o := 2) (c := 1) rfl (by kernel_rfl) (opens_int Try.underlying2)
  rw [show Try.prog.cellsOf t_api_HeatLink = 3 by kernel_rfl] at hl
  clear h
  match cs, hl, ha, hb, hc with
  | [u, v, z], _, ha, hb, hc =>
    simp at ha hb hc
    subst ha hb hc
    exact ⟨(a, b, c), rfl⟩

theorem doms_of {H : Heap} {s : Sl} {l : List Dom} (h : SlR 2 RDom H s l) : Doms H s l := h.isS (fun _ _ hc => hc)
theorem lnks_of {H : Heap} {s : Sl} {l : List Lnk} (h : SlR 3 RLnk H s l) : Lnks H s l := h.isS (fun _ _ hc => hc)

end Go.Proofs.Ytenpfhfhjpipaaa
