/-
  The laws' awake, and what the laws need of a step.
-/
import Derived.Test.YtenpfhfhjpipaaaC7
namespace Go.Proofs.Ytenpfhfhjpipaaa
open Go.Eng Go.Heat

variable {Q : Nat → Prop}

theorem Step_run (b be : Nat) (D : List Dom) (L : List Lnk) (amb : Int) (E : Nat → Int) (rel : Int) (p : List Int) (s : Sl) (H : Heap) (h : HM t_heat_Model Q H b be D L amb E rel) (hv : VS D L amb) (hl : L.length ≤ 1000)
    (hT : TB D E amb (amb + 16777216)) (hp : Ints .i64 H s p) (hpl : p.length ≤ 9223372036854775807) (hsep : ∀ a, s.p = some a → p ≠ [] → a.block ≠ b ∧ a.block ≠ be) (hrel : 0 ≤ rel ∧ rel ≤ 1152921504606846976) :
    CallsH Try.prog n_heat_Model_Step #[.pointer (some ⟨b, 0, none⟩), .slice s.p s.n s.c] H (StepPost t_heat_Model Q b be D L amb E rel p H) :=
  Step_spec b be D L amb E rel p s H h (hT.sane hv hl (by have := hv.amb1; omega)) hp hpl hsep (by omega) (fun hok => (step_wide hv hT hok).sane hv hl (by have := hv.amb1; omega))

theorem powersF_range (raw : List Int) {most : Int} (h : 0 ≤ most) (i : Nat) : 0 ≤ powersF raw most i ∧ powersF raw most i ≤ most := by
  unfold powersF
  split
  · have := modI_range (raw.getD i 0) (n := most + 1) (by omega)
    omega
  · omega

theorem powOk_tab {n : Nat} {f : Nat → Int} (h : ∀ i, i < n → 0 ≤ f i ∧ f i ≤ 16777216) : powOk (tab n f) n = true := by
  rw [powOk_iff]
  refine ⟨tab_length _ _, fun i hi => ?_⟩
  rw [tab_getD _ hi]
  exact h i hi

theorem stepE_congr {D : List Dom} {L : List Lnk} {amb : Int} {E p q : Nat → Int} {i : Nat} (h : p i = q i) : stepE D L amb E p i = stepE D L amb E q i := by
  unfold stepE
  rw [h]

theorem awake_VS : VS [(10, 1)] [] 20 := by
  refine ⟨by decide, by decide, by decide, by decide, fun i hi => ?_, fun k hk => ?_, fun i hi => ?_⟩
  · obtain rfl : i = 0 := by simpa using hi
    decide
  · simp at hk
  · obtain rfl : i = 0 := by simpa using hi
    decide

theorem awake_spec (H : Heap) : CallsH Try.prog n_law38_awake #[] H (fun v H' => v = .bool true ∧ Ext H H') := by
  refine F_law38_awake_ok ?_
  unfold F_law38_awake
  refine letH_mk ?_
  intro H1 h1
  have d1 : RB H1 H.size t_api_HeatDomain 2 encD [(10, 1)] := ⟨encD_len, [], by rw [h1]; exact Blk.new _ _ _⟩
  have e1 : Ext H H1 := by rw [h1]; exact Ext.push _ _
  have z1 : H1.size = H.size + 1 := by rw [h1]; simp
  clear h1
  refine (New_spec H1 ⟨some ⟨H.size, 0, none⟩, 1, 1⟩ ⟨none, 0, 0⟩ [(10, 1)] [] 20 (d1.isS 1 1 rfl) (IsS.nil _ _ _) (by simp)).mono ?_
  rintro v H2 (⟨hv, b, be, rfl, hm, hb, hbe, e2⟩ | ⟨hv, _⟩)
  rotate_left
  · exact absurd awake_VS hv
  refine ⟨_, _, rfl, iteB_neg rfl (iteB_neg rfl ?_)⟩
  refine (Energy_spec b be _ _ _ _ _ 0 H2 hm).mono ?_
  rintro v H3 ⟨rfl, rfl⟩
  refine ⟨200, rfl, iteB_neg rfl (letH_mk ?_)⟩
  intro H4 h4
  have z2 := e2.size
  have p4 : Ints .i64 H4 ⟨some ⟨H3.size, 0, none⟩, 1, 1⟩ [15] := by rw [h4]; exact Ints.of_blk (l := [15]) (Blk.new _ _ _) rfl
  have e4 : Ext H3 H4 := by rw [h4]; exact Ext.push _ _
  have z4 : H4.size = H3.size + 1 := by rw [h4]; simp
  clear h4
  have hb3 := hm.blt
  have hT0 : TB [(10, 1)] (fun i => capOf [(10, 1)] i * 20) 20 (20 + 16777216) := start_TB hv (by omega)
  refine (Step_run b be _ _ _ _ _ [15] ⟨some ⟨H3.size, 0, none⟩, 1, 1⟩ H4 (hm.ext e4) hv (by simp) hT0 p4 (by simp) (fun a ha _ => by cases ha; dsimp only; omega) (by omega)).mono ?_
  rintro v H5 (⟨_, t1, rfl, it1, nt1, hm5, m5⟩ | ⟨hbad, _⟩)
  rotate_left
  · exact absurd hbad (by decide)
  have z5 := m5.size
  refine ⟨t1, 0, rfl, letH_mk ?_⟩
  intro H6 h6
  have p6 : Ints .i64 H6 ⟨some ⟨H5.size, 0, none⟩, 1, 1⟩ [15] := by rw [h6]; exact Ints.of_blk (l := [15]) (Blk.new _ _ _) rfl
  have e6 : Ext H5 H6 := by rw [h6]; exact Ext.push _ _
  have z6 : H6.size = H5.size + 1 := by rw [h6]; simp
  clear h6
  have hT1 := step_wide (p := [15]) hv hT0 (by decide)
  refine (Step_run b be _ _ _ _ _ [15] ⟨some ⟨H5.size, 0, none⟩, 1, 1⟩ H6 (hm5.ext e6) hv (by simp) hT1 p6 (by simp) (fun a ha _ => by cases ha; dsimp only; omega) (by decide)).mono ?_
  rintro v H7 (⟨_, t2, rfl, it2, nt2, hm7, m7⟩ | ⟨hbad, _⟩)
  rotate_left
  · exact absurd hbad (by decide)
  have it1' := (IsS.ext it1 e6).mods m7 (fun a ha => by have := nt1 a ha; simp; omega)
  obtain ⟨a1, hp1, hr1⟩ := Ints.at it1' (x := 0) (by omega) (by decide)
  obtain ⟨a2, hp2, hr2⟩ := Ints.at it2 (x := 0) (by omega) (by decide)
  have n1 : t1.n = 1 := it1.len
  have n2 : t2.n = 1 := it2.len
  refine ⟨t2, 0, rfl, iteB_pos rfl (iteB_pos rfl (iteB_pos (by rw [n1]; rfl) (iteB_pos (by rw [n2]; rfl) ⟨by omega, by omega, unSome_mk hp1 ⟨21, hr1, iteB_pos rfl ⟨by omega, by omega, unSome_mk hp2 ⟨22, hr2, iteB_pos rfl ?_⟩⟩⟩⟩)))⟩
  refine (Energy_spec b be _ _ _ _ _ 0 H7 hm7).mono ?_
  rintro v H8 ⟨rfl, rfl⟩
  refine ⟨229, rfl, iteB_pos rfl ?_⟩
  refine (Released_spec b be _ _ _ _ _ H8 hm7).mono ?_
  rintro v H9 ⟨rfl, rfl⟩
  refine ⟨1, rfl, rfl, ?_⟩
  have x1 : Ext H H4 := (e1.trans e2).trans e4
  have x2 : Ext H H5 := Mods.ext x1 m5 (by simp; omega)
  exact Mods.ext (x2.trans e6) m7 (by simp; omega)

theorem HM.mods {tm : TypeId} {H H' : Heap} {b be : Nat} {D : List Dom} {L : List Lnk} {amb : Int} {E : Nat → Int} {rel : Int} {S : List Nat} (h : HM tm Q H b be D L amb E rel) (hm : Mods S H H') (hb : b ∉ S) (hbe : be ∉ S) (hq : ∀ k, Q k → k ∉ S) :
    HM tm Q H' b be D L amb E rel := by
  obtain ⟨⟨d, l, ce, g1, g2, g3, g4, g5⟩, g6, g7⟩ := h
  have hsz := hm.size
  exact ⟨⟨d, l, ce, g1.mods hm hb, g2.mods hm (fun a ha => hq _ (g4 a ha).2.2.2), g3.mods hm (fun a ha => hq _ (g5 a ha).2.2.2), fun a ha => ⟨(g4 a ha).1, (g4 a ha).2.1, by have := (g4 a ha).2.2.1; omega, (g4 a ha).2.2.2⟩,
    fun a ha => ⟨(g5 a ha).1, (g5 a ha).2.1, by have := (g5 a ha).2.2.1; omega, (g5 a ha).2.2.2⟩⟩, g6.mods hm hbe, g7⟩

theorem HM.tight {tm : TypeId} {H : Heap} {b be : Nat} {D : List Dom} {L : List Lnk} {amb : Int} {E : Nat → Int} {rel : Int} (h : HM tm Q H b be D L amb E rel) : HM tm (fun k => Q k ∧ k < H.size) H b be D L amb E rel := by
  obtain ⟨⟨d, l, ce, g1, g2, g3, g4, g5⟩, g6, g7⟩ := h
  exact ⟨⟨d, l, ce, g1, g2, g3, fun a ha => ⟨(g4 a ha).1, (g4 a ha).2.1, (g4 a ha).2.2.1, (g4 a ha).2.2.2, (g4 a ha).2.2.1⟩, fun a ha => ⟨(g5 a ha).1, (g5 a ha).2.1, (g5 a ha).2.2.1, (g5 a ha).2.2.2, (g5 a ha).2.2.1⟩⟩, g6, g7⟩

theorem HM.weaken {tm : TypeId} {Q' : Nat → Prop} {H : Heap} {b be : Nat} {D : List Dom} {L : List Lnk} {amb : Int} {E : Nat → Int} {rel : Int} (h : HM tm Q H b be D L amb E rel) (hq : ∀ k, Q k → Q' k) : HM tm Q' H b be D L amb E rel := by
  obtain ⟨⟨d, l, ce, g1, g2, g3, g4, g5⟩, g6, g7⟩ := h
  exact ⟨⟨d, l, ce, g1, g2, g3, fun a ha => ⟨(g4 a ha).1, (g4 a ha).2.1, (g4 a ha).2.2.1, hq _ (g4 a ha).2.2.2⟩, fun a ha => ⟨(g5 a ha).1, (g5 a ha).2.1, (g5 a ha).2.2.1, hq _ (g5 a ha).2.2.2⟩⟩, g6, g7⟩

end Go.Proofs.Ytenpfhfhjpipaaa
