/-
 The stable sort of any number of items.
-/
import Derived.Test.YtnhhncjflnlfaaaGreatS5
namespace Go.Proofs.YtnhhncjflnlfaaaGreat
open Go.Eng
set_option linter.unusedVariables false

def Mg (S D : List Int) (w x n : Nat) : Prop := (∀ u, w * u + w * u + (w + w) <= x -> SrtK S D (w * u + w * u) (w * u + w * u + (w + w))) /\ (∀ u, SrtK S D (x + w * u) (min (x + w * u + w) n))

theorem rws_mg {S D : List Int} {w n : Nat} (h : Rws S D w n) : Mg S D w 0 n := ⟨fun u hu p q h1 h2 h3 => by omega, fun u => by rw [Nat.zero_add]; exact h u⟩

theorem mg_step {S D E : List Int} {w t n : Nat} (hw : 0 < w) (h : Mg S D w (w * t + w * t) n) (hb : w * t + w * t + (w + w) <= n) (r : Rw (w * t + w * t) (w * t + w * t + (w + w)) D E) (k : SrtK S E (w * t + w * t) (w * t + w * t + (w + w))) : Mg S E w (w * (t + 1) + w * (t + 1)) n := by
 have e : w * (t + 1) = w * t + w := by rw [Nat.mul_add, Nat.mul_one]
 rw [e]
 refine ⟨fun u hu => ?_, fun u => ?_⟩
 ·by_cases hut : u = t
  ·rw [hut]; exact k
  ·have hlt : w * u + w * u + (w + w) <= w * t + w * t := by
    have : u + 1 <= t := by
     rcases Nat.lt_or_ge u t with c | c
     ·exact c
     ·have : w * (t + 1) <= w * u := Nat.mul_le_mul_left _ (by omega)
      rw [e] at this
      omega
    have := Nat.mul_le_mul_left w this
    rw [Nat.mul_add, Nat.mul_one] at this
    omega
   exact srtK_out (h.1 u hlt) r (by omega)
 ·have h2 := h.2 (u + 2)
  have e2 : w * (u + 2) = w * u + (w + w) := by rw [Nat.mul_add]; omega
  rw [e2] at h2
  have e3 : w * t + w * t + (w * u + (w + w)) = w * t + w + (w * t + w) + w * u := by omega
  rw [e3] at h2
  exact srtK_out h2 r (by omega)

theorem mg_end {S D E : List Int} {w t n m : Nat} (h : Mg S D w (w * t + w * t) n) (hb : n < w * t + w * t + (w + w)) (r : Rw (w * t + w * t) n D E) (k : SrtK S E (w * t + w * t) n) : Rws S E (w + w) n := by
 intro u
 have e : (w + w) * u = w * u + w * u := by rw [Nat.add_mul]
 rw [e]
 rcases Nat.lt_trichotomy u t with c | c | c
 ·have := Nat.mul_le_mul_left w (show u + 1 <= t from c)
  rw [Nat.mul_add, Nat.mul_one] at this
  have h1 := srtK_out (h.1 u (by omega)) r (by omega)
  exact fun p q g1 g2 g3 => h1 p q g1 g2 (by omega)
 ·subst c
  exact fun p q g1 g2 g3 => k p q g1 g2 (by omega)
 ·have := Nat.mul_le_mul_left w (show t + 1 <= u from c)
  rw [Nat.mul_add, Nat.mul_one] at this
  exact fun p q g1 g2 g3 => by omega

theorem stableN_spec (H0 : Heap) {ob cb : Nat} {z : Sl} {S D : List Int} (c : SC H0 ob cb z S) (hD : OB H0 ob D) (hr : ∀ x ∈ D, 0 <= x /\ x < S.length) (hn : D.length <= 10000) :
  CallsH Tryz.prog n_126 #[.slice (some ⟨ob, 0, none⟩) D.length D.length, .int .i64 (D.length : Int), .func (.func 117) #[] #[.pointer (some ⟨cb, 0, none⟩)]] H0
   (SP ob H0 (fun D' => Rw 0 D.length D D' /\ (St S D -> St S D') /\ SrtK S D' 0 D.length)) := by
 refine F_126_ok ⟨some ⟨ob, 0, none⟩, D.length, D.length⟩ _ _ ?_
 unfold F_126
 refine ⟨fun a b H' => ∃ t : Nat, a = ((20 * t : Nat) : Int) /\ b = ((20 * t + 20 : Nat) : Int) /\ 20 * t <= D.length /\ ∃ D1, OB H' ob D1 /\ Mods [ob] H0 H' /\ Rw 0 D.length D D1 /\ (St S D -> St S D1) /\ ∀ u, u < t -> SrtK S D1 (20 * u) (20 * u + 20), fun a _ _ => (D.length - a).toNat, ⟨0, rfl, rfl, by omega, D, hD, .refl _ _, .refl _ _ _, id, fun u hu => by omega⟩, ?_⟩
 rintro a b H1 ⟨t, rfl, rfl, ht, D1, o1, m1, r1, s1, k1⟩
 unfold F_126_r3
 have l1 := r1.len
 have w1 := r1.mem hr
 have hins := fun (b : Nat) (hab : 20 * t <= b) (hb : b <= D1.length) => insertion_spec H1 (c.mods m1) o1 w1 (20 * t) b hab hb (by omega)
 rw [l1] at hins
 refine iteB_dec (fun d => (hins (20 * t + 20) (by omega) (by omega)).mono ?_) (fun d => (hins D.length (by omega) (by omega)).mono ?_)
 ·rintro v H2 ⟨rfl, D2, o2, m2, r2, s2, k2⟩
  refine ⟨rfl, letV_mk ((20 * (t + 1) + 20 : Nat) : Int) (by rw [i64_in (by omega)]; omega) ⟨⟨t + 1, by omega, rfl, by omega, D2, o2, m1.trans m2, r1.trans (r2.mono (by omega) (by omega)), fun h => s2 (s1 h), fun u hu => ?_⟩, by dsimp only; omega⟩⟩
  by_cases e : u = t
  ·subst e; exact k2
  ·exact srtK_out (k1 u (by omega)) r2 (by omega)
 ·rintro v H2 ⟨rfl, D2, o2, m2, r2, s2, k2⟩
  have hrws : Rws S D2 20 D.length := fun u => by
   by_cases e : u < t
   ·have := srtK_out (k1 u e) r2 (by omega)
    exact fun p q h1 h2 h3 => this p q h1 h2 (by omega)
   ·by_cases e2 : u = t
    ·subst e2
     exact fun p q h1 h2 h3 => k2 p q h1 h2 (by omega)
    ·exact fun p q h1 h2 h3 => by omega
  refine ⟨rfl, fun w' H' => ∃ w : Nat, w' = w /\ 0 < w /\ w <= 20 + 2 * D.length /\ ∃ D3, OB H' ob D3 /\ Mods [ob] H0 H' /\ Rw 0 D.length D D3 /\ (St S D -> St S D3) /\ Rws S D3 w D.length, fun w _ => (D.length - w).toNat,
   ⟨20, rfl, by omega, by omega, D2, o2, m1.trans m2, r1.trans (r2.mono (by omega) (by omega)), fun h => s2 (s1 h), hrws⟩, ?_⟩
  rintro w' H3 ⟨w, rfl, hw0, hw1, D3, o3, m3, r3, s3, k3⟩
  unfold F_126_r2
  refine iteB_dec (fun d3 => ?_) (fun d3 => ⟨rfl, D3, o3, m3, r3, s3, ?_⟩)
  ·have ew : IntKind.i64.wrap (2 * (w : Int)) = ((w + w : Nat) : Int) := by rw [i64_in (by omega)]; omega
   have ew2 : IntKind.i64.wrap ((w : Int) * 2) = ((w + w : Nat) : Int) := by rw [i64_in (by omega)]; omega
   refine letV_mk _ ew ?_
   refine ⟨fun a b H' => ∃ t : Nat, a = ((w * t + w * t : Nat) : Int) /\ b = ((w * t + w * t + (w + w) : Nat) : Int) /\ w * t + w * t <= D.length /\ ∃ D4, OB H' ob D4 /\ Mods [ob] H0 H' /\ Rw 0 D.length D D4 /\ (St S D -> St S D4) /\ Mg S D4 w (w * t + w * t) D.length, fun a _ _ => (D.length - a).toNat,
    ⟨0, by simp, by simp, by omega, D3, o3, m3, r3, s3, by rw [Nat.mul_zero]; exact rws_mg k3⟩, ?_⟩
   rintro a b H4 ⟨t, rfl, rfl, ht4, D4, o4, m4, r4, s4, k4⟩
   unfold F_126_r1
   have l4 := r4.len
   have w4 := r4.mem hr
   have ea : IntKind.i64.wrap (((w * t + w * t : Nat) : Int) + w) = ((w * t + w * t + w : Nat) : Int) := by rw [i64_in (by omega)]; omega
   have eb : IntKind.i64.wrap (((w * t + w * t + (w + w) : Nat) : Int) + ((w + w : Nat) : Int)) = ((w * t + w * t + (w + w) + (w + w) : Nat) : Int) := by rw [i64_in (by omega)]; omega
   simp only [ea, ew, ew2, eb]
   have q1 := k4.2 0
   have q2 := k4.2 1
   rw [Nat.mul_zero, Nat.add_zero] at q1
   rw [Nat.mul_one] at q2
   have hsym := fun (b : Nat) (h1 : w * t + w * t + w < b) (h2 : b <= D4.length) (h3 : b <= w * t + w * t + (w + w)) => sym_all (ob := ob) (cb := cb) (z := z) (S := S) (b - (w * t + w * t)) H4 D4 (w * t + w * t) (w * t + w * t + w) b (Nat.le_refl _) (by omega) h1 h2 (c.mods m4) o4 w4 (by omega) (fun p q g1 g2 g3 => q1 p q g1 g2 (by omega)) (fun p q g1 g2 g3 => q2 p q g1 g2 (by omega))
   rw [l4] at hsym
   refine iteB_dec (fun d4 => (hsym (w * t + w * t + (w + w)) (by omega) (by omega) (by omega)).mono ?_) (fun d4 => letV_mk _ rfl (iteB_dec (fun d5 => (hsym D.length (by omega) (by omega) (by omega)).mono ?_) (fun d5 => letV_mk _ rfl ?_)))
   ·rintro v H5 ⟨rfl, D5, o5, m5, r5, s5, k5⟩
    have em : w * (t + 1) = w * t + w := by rw [Nat.mul_add, Nat.mul_one]
    refine ⟨rfl, letV_mk _ rfl ⟨⟨t + 1, by rw [em]; omega, by rw [em]; omega, by rw [em]; omega, D5, o5, m4.trans m5, r4.trans (r5.mono (by omega) (by omega)), fun h => s5 (s4 h), mg_step hw0 k4 (by omega) r5 k5⟩, by omega⟩⟩
   ·rintro v H5 ⟨rfl, D5, o5, m5, r5, s5, k5⟩
    exact ⟨rfl, letV_mk _ rfl ⟨⟨w + w, rfl, by omega, by omega, D5, o5, m4.trans m5, r4.trans (r5.mono (by omega) (by omega)), fun h => s5 (s4 h), mg_end (m := 0) k4 (by omega) r5 k5⟩, by omega⟩⟩
   ·exact ⟨⟨w + w, rfl, by omega, by omega, D4, o4, m4, r4, s4, mg_end (m := 0) k4 (by omega) (.refl _ _ _) (fun p q g1 g2 g3 => q1 p q g1 g2 (by omega))⟩, by omega⟩
  ·have := k3 0
   rw [Nat.mul_zero] at this
   exact fun p q h1 h2 h3 => this p q (by omega) h2 (by omega)

theorem SortStableN_spec (H0 : Heap) {ob cb : Nat} {z : Sl} {S D : List Int} (c : SC H0 ob cb z S) (hD : OB H0 ob D) (hr : ∀ x ∈ D, 0 <= x /\ x < S.length) (hn : D.length <= 10000) :
  CallsH Tryz.prog n_116 #[.slice (some ⟨ob, 0, none⟩) D.length D.length, .func (.func 117) #[] #[.pointer (some ⟨cb, 0, none⟩)]] H0
   (SP ob H0 (fun D' => Rw 0 D.length D D' /\ (St S D -> St S D') /\ SrtK S D' 0 D.length)) := by
 refine F_116_ok ⟨some ⟨ob, 0, none⟩, D.length, D.length⟩ _ ?_
 unfold F_116
 refine (stableN_spec H0 c hD hr hn).mono ?_
 rintro v H1 ⟨rfl, h⟩
 exact ⟨rfl, rfl, h⟩

end Go.Proofs.YtnhhncjflnlfaaaGreat
