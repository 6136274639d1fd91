/-
 The contract of the reference's Valid; the registers that the generator makes.
-/
import Derived.Test.YtnhhncjflnlfaaaGreatG1
namespace Go.Proofs.YtnhhncjflnlfaaaGreat
open Go.Eng

theorem rVal_spec (T : List FS) (s : Sl) (H : Heap) (h : Topo H s T) : CallsH Tryz.prog n_52 #[.slice s.p s.n s.c] H (BoolP (decide (ValidT T)) H) := by
 refine F_52_ok _ ?_
 unfold F_52
 have bad : ∀ H', Ext H H' -> ¬ ValidT T -> BoolP (decide (ValidT T)) H (.bool false) H' := fun H' he hn => ⟨by rw [decide_eq_false hn], he⟩
 have hn := h.len
 refine iteB_dec (fun c => bad H (.refl _) (fun hv => by have := hv.1; omega)) (fun c => ?_)
 refine loop1 T.length (fun k H' => Ext H H' /\ (∀ i, i < k -> OkAt T i)) ⟨.refl _, fun i hi => by omega⟩ ?_
 rintro k H1 hk ⟨e1, hok⟩
 unfold F_52_r3
 refine iteB_dec (fun c1 => ?_) (fun c1 => ?_)
 ·have hkn : k < T.length := by omega
  obtain ⟨a, hp, hr⟩ := (h.ext e1).at hkn
  obtain ⟨p0, p1, p2, p3, p4, p5, p6, p7, p8, p9, p10⟩ := rdFn hr
  have no : ∀ H', Ext H H' -> ¬ OkAt T k -> BoolP (decide (ValidT T)) H (.bool false) H' := fun H' he hn => bad H' he (fun hv => hn (hv.2 k hkn))
  refine ⟨fun H' => Ext H H' /\ ValidF (fnAt T k) /\ (-1 <= (fnAt T k).parent /\ (fnAt T k).parent < k) /\ (0 <= (fnAt T k).parent -> (fnAt T (fnAt T k).parent.toNat).bridge = true), ?_, ?_⟩
  ·refine ⟨by omega, by omega, unSome_mk hp ⟨_, p0, _, p1, _, p2, _, p3, _, p4, _, p5, _, p6, _, p7, _, p8, _, p9, slAt T k, p10, (rValid_spec _ _ H1 ((h.ext e1).barsAt hkn)).mono ?_⟩⟩
   rintro v H2 ⟨rfl, e2⟩
   have x2 := e1.trans e2
   have q0 := e2.rd p0
   refine ⟨_, rfl, iteB_not (fun c2 => no H2 x2 (fun ho => by simp at c2; exact c2 ho.va)) (fun c2 => ⟨by omega, by omega, unSome_mk hp ⟨_, q0, iteB_dec (fun c3 => no H2 x2 (fun ho => by have := ho.pa; omega)) (fun c3 => ⟨by omega, by omega, unSome_mk hp ⟨_, q0, iteB_dec (fun c4 => no H2 x2 (fun ho => by have := ho.pa; omega)) (fun c4 => ⟨by omega, by omega, unSome_mk hp ⟨_, q0, iteB_dec (fun c5 => ⟨by omega, by omega, unSome_mk hp ⟨_, q0, by omega, by omega, ?_⟩⟩) (fun c5 => ⟨x2, by simpa using c2, by omega, fun hh => absurd hh c5⟩)⟩⟩)⟩⟩)⟩⟩)⟩
   obtain ⟨j, hj⟩ := Int.eq_ofNat_of_zero_le c5
   obtain ⟨a', hp', hr'⟩ := (h.ext x2).at (i := j) (by omega)
   have r4 := (rdFn hr').2.2.2.2.1
   refine unSome_mk hp' ⟨_, by rw [hj]; exact r4, iteB_not (fun c6 => no H2 x2 (fun ho => ?_)) (fun c6 => ⟨x2, by simpa using c2, by omega, fun _ => by rw [hj]; exact c6⟩)⟩
   have := ho.br c5
   rw [hj] at this
   simp only [Int.toNat_natCast] at this
   rw [c6] at this
   cases this
  ·rintro H3 ⟨e3, hva, hpa, hbr⟩
   unfold F_52_k2
   obtain ⟨a, hp, hr⟩ := (h.ext e3).at hkn
   obtain ⟨p0, p1, p2, p3, p4, p5, p6, p7, p8, p9, p10⟩ := rdFn hr
   refine loop1 k (fun j H' => H' = H3 /\ ∀ i, i < j -> ¬ ((fnAt T i).parent = (fnAt T k).parent /\ (fnAt T i).slot = (fnAt T k).slot)) ⟨rfl, fun i hi => by omega⟩ ?_
   rintro j H4 hj ⟨rfl, hun⟩
   unfold F_52_r1
   refine iteB_dec (fun d1 => ?_) (fun d1 => ?_)
   ·have hjk : j < k := by omega
    obtain ⟨b, hq, hr'⟩ := (h.ext e3).at (i := j) (by omega)
    obtain ⟨q0, q1, _⟩ := rdFn hr'
    have ext1 : ¬ ((fnAt T j).parent = (fnAt T k).parent /\ (fnAt T j).slot = (fnAt T k).slot) -> ∀ i, i < j + 1 -> ¬ ((fnAt T i).parent = (fnAt T k).parent /\ (fnAt T i).slot = (fnAt T k).slot) := fun hne i hi => by
     by_cases e : i = j
     ·subst e; exact hne
     ·exact hun i (by omega)
    refine ⟨by omega, by omega, unSome_mk hq ⟨_, q0, by omega, by omega, unSome_mk hp ⟨_, p0, iteB_beq (fun c7 => ⟨by omega, by omega, unSome_mk hq ⟨_, q1, by omega, by omega, unSome_mk hp ⟨_, p1, iteB_beq (fun c8 => no H4 e3 (fun ho => ho.un j hjk ⟨c7, c8⟩)) (fun c8 => letV_mk _ rfl (next1 hjk (by omega) ⟨rfl, ext1 (fun hh => c8 hh.2)⟩))⟩⟩⟩) (fun c7 => letV_mk _ rfl (next1 hjk (by omega) ⟨rfl, ext1 (fun hh => c7 hh.1)⟩))⟩⟩⟩
   ·have hjk : j = k := by omega
    subst hjk
    refine letV_mk _ rfl (next1 hkn (by omega) ⟨e3, fun i hi => ?_⟩)
    by_cases e : i = j
    ·subst e; exact ⟨hva, hpa, hbr, hun⟩
    ·exact hok i (by omega)
 ·refine ⟨?_, e1⟩
  rw [decide_eq_true]
  exact ⟨by omega, fun i hi => hok i (by omega)⟩

def BarsOk (B : List Bar) : Prop := ∀ i, i < B.length -> BarOk B i

theorem bk_append {B C : List Bar} {i : Nat} (h : i < B.length) : bk (B ++ C) i = bk B i /\ bz (B ++ C) i = bz B i := by
 unfold bk bz
 simp [List.getD, List.getElem?_append_left h]
theorem bk_append_r {B C : List Bar} {i : Nat} : bk (B ++ C) (B.length + i) = bk C i /\ bz (B ++ C) (B.length + i) = bz C i := by
 unfold bk bz
 simp [List.getD, List.getElem?_append_right]
theorem BarsOk.append {B C : List Bar} (hB : BarsOk B) (hC : BarsOk C) : BarsOk (B ++ C) := by
 intro i hi
 by_cases c : i < B.length
 ·have h1 := bk_append (C := C) c
  have hb := hB i c
  unfold BarOk at hb ⊢
  rw [h1.1, h1.2]
  rcases hb with hb | hb | hb | ⟨x1, x2, x3, x4, x5⟩
  ·exact .inl hb
  ·exact .inr (.inl hb)
  ·exact .inr (.inr (.inl hb))
  ·refine .inr (.inr (.inr ⟨x1, x2, x3, by simp; omega, ?_⟩))
   rw [(bk_append (C := C) x4).1]
   exact x5
 ·obtain ⟨j, rfl⟩ : ∃ j, i = B.length + j := ⟨i - B.length, by omega⟩
  have hj : j < C.length := by simp at hi; omega
  have h1 := bk_append_r (B := B) (C := C) (i := j)
  have h2 := bk_append_r (B := B) (C := C) (i := j + 1)
  have hb := hC j hj
  unfold BarOk at hb ⊢
  rw [h1.1, h1.2]
  rcases hb with hb | hb | hb | ⟨x1, x2, x3, x4, x5⟩
  ·exact .inl hb
  ·exact .inr (.inl hb)
  ·exact .inr (.inr (.inl hb))
  ·refine .inr (.inr (.inr ⟨x1, x2, x3, by simp; omega, ?_⟩))
   rw [Nat.add_assoc, h2.1]
   exact x5

end Go.Proofs.YtnhhncjflnlfaaaGreat
