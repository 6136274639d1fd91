/-
  The contract of Sustainable, and what the laws need of a step.
-/
import Derived.Test.YtiikkapdchodkaaC8a
import Derived.Test.YtiikkapdchodkaaT4
namespace Go.Proofs.Ytiikkapdchodkaa
open Go.Eng Go.Heat

variable {Q : Nat → Prop}

theorem VS.noLinks {D : List Dom} {L : List Lnk} {amb : Int} (h : VS D L amb) : VS D [] amb := by
  refine ⟨h.n1, h.n16, h.amb0, h.amb1, h.dom, fun k hk => by simp at hk, fun i hi => ?_⟩
  have := h.cap i hi
  have := need_bound (L := L) (n := D.length) i L.length h.lnk
  simp only [List.length_nil, need]
  omega

theorem VS.one {D : List Dom} {L : List Lnk} {amb : Int} (h : VS D L amb) {i : Nat} (hi : i < D.length) : VS [(capOf D i, ambOf D i)] [] amb := by
  have h1 := h.noLinks.dom i hi
  have h2 := h.noLinks.cap i hi
  refine ⟨by simp, by simp, h.amb0, h.amb1, fun j hj => ?_, fun k hk => by simp at hk, fun j hj => ?_⟩
  · obtain rfl : j = 0 := by simpa using hj
    simpa [ambOf] using h1
  · obtain rfl : j = 0 := by simpa using hj
    simpa [ambOf, capOf, need] using h2

theorem Sustainable_spec (H : Heap) (c a amb lim : Int) (hv : VS [(c, a)] [] amb) (hl : amb ≤ lim ∧ lim ≤ 33554432) (hs : a ≤ 16777216 ∧ lim - amb ≤ 33554432) :
    CallsH Try.prog n_thermal_Sustainable #[.agg #[.int .i64 c, .int .i64 a], .int .i64 amb, .int .i64 lim] H (fun v H' => v = .tuple #[.int .i64 (a * (lim - amb)), .int .i64 0] ∧ Ext H H') := by
  refine F_thermal_Sustainable_ok _ _ _ _ ?_
  unfold F_thermal_Sustainable
  refine push_mk (vs := [.int .i64 c, .int .i64 a]) fun H1 e1 _ b1 => ?_
  refine ⟨_, b1.rd0 rfl, _, b1.rd (i := 1) rfl, push_mk (vs := ([(c, a)] : List Dom).flatMap encD) fun H2 e2 _ b2 => ?_⟩
  refine (New_spec H2 ⟨some ⟨H1.size, 0, none⟩, 1, 1⟩ ⟨none, 0, 0⟩ [(c, a)] [] amb (IsS.of_blk encD_len b2 rfl (fun _ _ h => h)) (IsS.nil _ _ _) (by simp)).mono ?_
  rintro v H3 (⟨_, b, be, rfl, _, _, _, e3⟩ | ⟨hb, _⟩)
  rotate_left
  · exact absurd hv hb
  have ha := hv.dom 0 (by simp)
  have ha : 1 ≤ a := by simpa [ambOf] using ha.1
  have hmb := mul_bound (a := a) (b := lim - amb) (A := 16777216) (B := 33554432) (by omega) (by omega) (by omega) (by omega)
  refine ⟨_, _, rfl, iteB_neg rfl (iteB_dec (fun c1 => by omega) (fun c1 => iteB_dec (fun c2 => by omega) (fun c2 => ⟨_, ((b1.ext e2).ext e3).rd (i := 1) rfl, ?_⟩)))⟩
  rw [i64_in (n := lim - amb) (by have := hv.amb0; omega)]
  exact letV_mk (a * (lim - amb)) (i64_in (by omega)) ⟨rfl, (e1.trans e2).trans e3⟩

theorem TB.mono {D : List Dom} {E : Nat → Int} {lo hi hi' : Int} (h : TB D E lo hi) (hh : hi ≤ hi') : TB D E lo hi' := fun i hi => by have := h i hi; omega

/-- What a step with sustainable powers does. -/
def KeepP (Q : Nat → Prop) (b be : Nat) (D : List Dom) (L : List Lnk) (amb top : Int) (E : Nat → Int) (rel : Int) (p : List Int) (H : Heap) (v : Value) (H' : Heap) : Prop :=
  ∃ (t : Sl) (rel' : Int), v = .tuple #[.slice t.p t.n t.c, .int .i64 0] ∧ Ints .i64 H' t (tab D.length (tempOf D (stepE D L amb E (fun i => p.getD i 0)))) ∧ NewP H.size t.p ∧
    HM t_heat_Model Q H' b be D L amb (stepE D L amb E (fun i => p.getD i 0)) rel' ∧ TB D (stepE D L amb E (fun i => p.getD i 0)) amb top ∧ rel ≤ rel' ∧ rel' ≤ rel + 4503599627370496 ∧ Mods [b, be] H H'

theorem Step_keep (b be : Nat) (D : List Dom) (L : List Lnk) (amb top : Int) (E : Nat → Int) (rel : Int) (p : List Int) (s : Sl) (H : Heap) (h : HM t_heat_Model Q H b be D L amb E rel) (hv : VS D L amb) (hl : L.length ≤ 1000)
    (htop : top ≤ amb + 16777216) (hT : TB D E amb top) (hp : Ints .i64 H s p) (hpl : p.length = D.length) (hpw : ∀ i, i < D.length → 0 ≤ p.getD i 0 ∧ p.getD i 0 ≤ 16777216 ∧ p.getD i 0 ≤ ambOf D i * (top - amb))
    (hsep : ∀ a, s.p = some a → a.block ≠ b ∧ a.block ≠ be) (hrel : 0 ≤ rel ∧ rel ≤ 1148417904979476480) :
    CallsH Try.prog n_heat_Model_Step #[.pointer (some ⟨b, 0, none⟩), .slice s.p s.n s.c] H (KeepP Q b be D L amb top E rel p H) := by
  have hn := hv.n16
  have hok : powOk p D.length = true := powOk_iff.2 ⟨hpl, fun i hi => by have := hpw i hi; omega⟩
  refine (Step_run b be D L amb E rel p s H h hv hl (hT.mono htop) hp (by omega) (fun a ha _ => hsep a ha) (by omega)).mono ?_
  rintro v H' (⟨_, t, rfl, i1, n1, hm, mm⟩ | ⟨hbad, _⟩)
  · have ho := osum16 hT hv htop
    exact ⟨t, _, rfl, i1, n1, hm, step_TB hv hT (fun i hi => by have := hpw i hi; omega), by omega, by omega, mm⟩
  · rw [hok] at hbad; cases hbad

end Go.Proofs.Ytiikkapdchodkaa
