/-
  What the laws need of a step.
-/
import Derived.Test.YtiikkapdchodkaaC7
namespace Go.Proofs.Ytiikkapdchodkaa
open Go.Eng Go.Heat

variable {Q : Nat → Prop}

theorem Step_run (b be : Nat) (D : List Dom) (L : List Lnk) (amb : Int) (E : Nat → Int) (rel : Int) (p : List Int) (s : Sl) (H : Heap) (h : HM t_heat_Model Q H b be D L amb E rel) (hv : VS D L amb) (hl : L.length ≤ 1000)
    (hT : TB D E amb (amb + 16777216)) (hp : Ints .i64 H s p) (hpl : p.length ≤ 9223372036854775807) (hsep : ∀ a, s.p = some a → p ≠ [] → a.block ≠ b ∧ a.block ≠ be) (hrel : 0 ≤ rel ∧ rel ≤ 1152921504606846976) :
    CallsH Try.prog n_heat_Model_Step #[.pointer (some ⟨b, 0, none⟩), .slice s.p s.n s.c] H (StepPost t_heat_Model Q b be D L amb E rel p H) :=
  Step_spec b be D L amb E rel p s H h (hT.sane hv hl (by have := hv.amb1; omega)) hp hpl hsep (by omega) (fun hok => (step_wide hv hT hok).sane hv hl (by have := hv.amb1; omega))

theorem powersF_range (raw : List Int) {most : Int} (h : 0 ≤ most) (i : Nat) : 0 ≤ powersF raw most i ∧ powersF raw most i ≤ most := by
  unfold powersF
  split
  · have := modI_range (raw.getD i 0) (n := most + 1) (by omega)
    omega
  · omega

theorem powOk_tab {n : Nat} {f : Nat → Int} (h : ∀ i, i < n → 0 ≤ f i ∧ f i ≤ 16777216) : powOk (tab n f) n = true := by
  rw [powOk_iff]
  refine ⟨tab_length _ _, fun i hi => ?_⟩
  rw [tab_getD _ hi]
  exact h i hi

theorem stepE_congr {D : List Dom} {L : List Lnk} {amb : Int} {E p q : Nat → Int} {i : Nat} (h : p i = q i) : stepE D L amb E p i = stepE D L amb E q i := by
  unfold stepE
  rw [h]

theorem HM.mods {tm : TypeId} {H H' : Heap} {b be : Nat} {D : List Dom} {L : List Lnk} {amb : Int} {E : Nat → Int} {rel : Int} {S : List Nat} (h : HM tm Q H b be D L amb E rel) (hm : Mods S H H') (hb : b ∉ S) (hbe : be ∉ S) (hq : ∀ k, Q k → k ∉ S) :
    HM tm Q H' b be D L amb E rel := by
  obtain ⟨⟨d, l, ce, g1, g2, g3, g4, g5⟩, g6, g7⟩ := h
  have hsz := hm.size
  exact ⟨⟨d, l, ce, g1.mods hm hb, g2.mods hm (fun a ha => hq _ (g4 a ha).2.2.2), g3.mods hm (fun a ha => hq _ (g5 a ha).2.2.2), fun a ha => ⟨(g4 a ha).1, (g4 a ha).2.1, by have := (g4 a ha).2.2.1; omega, (g4 a ha).2.2.2⟩,
    fun a ha => ⟨(g5 a ha).1, (g5 a ha).2.1, by have := (g5 a ha).2.2.1; omega, (g5 a ha).2.2.2⟩⟩, g6.mods hm hbe, g7⟩

theorem HM.tight {tm : TypeId} {H : Heap} {b be : Nat} {D : List Dom} {L : List Lnk} {amb : Int} {E : Nat → Int} {rel : Int} (h : HM tm Q H b be D L amb E rel) : HM tm (fun k => Q k ∧ k < H.size) H b be D L amb E rel := by
  obtain ⟨⟨d, l, ce, g1, g2, g3, g4, g5⟩, g6, g7⟩ := h
  exact ⟨⟨d, l, ce, g1, g2, g3, fun a ha => ⟨(g4 a ha).1, (g4 a ha).2.1, (g4 a ha).2.2.1, (g4 a ha).2.2.2, (g4 a ha).2.2.1⟩, fun a ha => ⟨(g5 a ha).1, (g5 a ha).2.1, (g5 a ha).2.2.1, (g5 a ha).2.2.2, (g5 a ha).2.2.1⟩⟩, g6, g7⟩

theorem HM.weaken {tm : TypeId} {Q' : Nat → Prop} {H : Heap} {b be : Nat} {D : List Dom} {L : List Lnk} {amb : Int} {E : Nat → Int} {rel : Int} (h : HM tm Q H b be D L amb E rel) (hq : ∀ k, Q k → Q' k) : HM tm Q' H b be D L amb E rel := by
  obtain ⟨⟨d, l, ce, g1, g2, g3, g4, g5⟩, g6, g7⟩ := h
  exact ⟨⟨d, l, ce, g1, g2, g3, fun a ha => ⟨(g4 a ha).1, (g4 a ha).2.1, (g4 a ha).2.2.1, hq _ (g4 a ha).2.2.2⟩, fun a ha => ⟨(g5 a ha).1, (g5 a ha).2.1, (g5 a ha).2.2.1, hq _ (g5 a ha).2.2.2⟩⟩, g6, g7⟩

end Go.Proofs.Ytiikkapdchodkaa
