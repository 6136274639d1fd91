/-
 The stable sort of any number of items: exchanging ranges, rotating, merging.
-/
import Derived.Test.YtnhhncjflnlfaaaGreatS3
namespace Go.Proofs.YtnhhncjflnlfaaaGreat
open Go.Eng
set_option linter.unusedVariables false

structure Pm (f : Nat -> Nat) (D E : List Int) : Prop where
 len : E.length = D.length
 at_ : ∀ p, E.getD p 0 = D.getD (f p) 0
theorem Pm.comp {f g h : Nat -> Nat} {D E F : List Int} (a : Pm f D E) (b : Pm g E F) (hh : ∀ p, h p = f (g p)) : Pm h D F :=
 ⟨b.len.trans a.len, fun p => by rw [b.at_, a.at_, hh]⟩

def swI (a b n p : Nat) : Nat := if a <= p /\ p < a + n then b + (p - a) else if b <= p /\ p < b + n then a + (p - b) else p
def rotI (a m b p : Nat) : Nat := if a <= p /\ p < b then (if p < a + (b - m) then m + (p - a) else p - (b - m)) else p

theorem swI_succ {D E : List Int} {a b i : Nat} (h : Pm (swI a b i) D E) (hab : a + i < b) (hb : b + i < D.length) : Pm (swI a b (i + 1)) D (sw E (a + i) (b + i)) := by
 have l := h.len
 refine ⟨by rw [sw_len, l], fun p => ?_⟩
 rw [sw_get _ _ _ _ (by omega) (by omega), h.at_, h.at_, h.at_]
 by_cases h1 : p = b + i
 ·rw [if_pos h1]
  congr 1
  unfold swI
  rw [if_neg (by omega), if_neg (by omega), if_neg (by omega), if_pos (by omega)]
  omega
 ·rw [if_neg h1]
  by_cases h2 : p = a + i
  ·rw [if_pos h2]
   congr 1
   unfold swI
   rw [if_neg (by omega), if_neg (by omega), if_pos (by omega)]
   omega
  ·rw [if_neg h2]
   congr 1
   unfold swI
   split <;> (try split) <;> (try split) <;> (try split) <;> omega

theorem swapRange_spec (H0 : Heap) {ob : Nat} {cap : Addr} {D : List Int} (hD : OB H0 ob D) (hn : D.length <= 100000) (lo hi a b n : Nat) (h0 : lo <= a) (h1 : a + n <= b) (h2 : b + n <= hi) (h3 : hi <= D.length) :
  CallsH Tryz.prog n_152 #[.slice (some ⟨ob, 0, none⟩) D.length D.length, .int .i64 (a : Int), .int .i64 (b : Int), .int .i64 (n : Int), .func (.func 117) #[] #[.pointer (some cap)]] H0
   (SP ob H0 (fun D' => Rw lo hi D D' /\ Pm (swI a b n) D D')) := by
 refine F_152_ok ⟨some ⟨ob, 0, none⟩, D.length, D.length⟩ _ _ _ _ ?_
 unfold F_152
 refine ⟨fun x H' => ∃ i : Nat, x = i /\ i <= n /\ ∃ D1, OB H' ob D1 /\ Mods [ob] H0 H' /\ Rw lo hi D D1 /\ Pm (swI a b i) D D1, fun x _ => (n - x).toNat, ⟨0, rfl, by omega, D, hD, .refl _ _, .refl _ _ _, rfl, fun p => by unfold swI; rw [if_neg (by omega), if_neg (by omega)]⟩, ?_⟩
 rintro x H1 ⟨i, rfl, hi', D1, o1, m1, r1, p1⟩
 unfold F_152_r1
 have l1 := r1.len
 refine iteB_dec (fun d => ?_) (fun d => ⟨rfl, D1, o1, m1, r1, by rwa [show n = i by omega]⟩)
 have e1 : IntKind.i64.wrap ((b : Int) + i) = ((b + i : Nat) : Int) := by rw [i64_in (by omega)]; omega
 have e2 : IntKind.i64.wrap ((a : Int) + i) = ((a + i : Nat) : Int) := by rw [i64_in (by omega)]; omega
 simp only [e1, e2]
 refine ⟨by omega, by omega, unSome_mk rfl ⟨_, o1.at (by omega), by omega, by omega, unSome_mk rfl ⟨_, o1.at (by omega), by omega, by omega, unSome_mk rfl ⟨o1.ok (by omega), letH_mk ?_⟩⟩⟩⟩
 intro H4 h4
 have o4 : OB H4 ob (D1.set (a + i) (D1.getD (b + i) 0)) := by rw [h4]; exact o1.set (by omega) _
 have m4 : Mods [ob] H1 H4 := by rw [h4]; exact mods_wr_add (by simp)
 clear h4
 refine ⟨by omega, by omega, unSome_mk rfl ⟨o4.ok (by simp; omega), letH_mk ?_⟩⟩
 intro H5 h5
 have o5 : OB H5 ob (sw D1 (a + i) (b + i)) := by rw [h5]; exact o4.set (by simp; omega) _
 have m5 : Mods [ob] H4 H5 := by rw [h5]; exact mods_wr_add (by simp)
 clear h5
 exact letV_mk ((i + 1 : Nat) : Int) (by rw [i64_in (by omega)]; omega) ⟨⟨i + 1, rfl, by omega, _, o5, (m1.trans m4).trans m5, r1.trans (sw_rw D1 (by omega) (by omega) (by omega)), swI_succ p1 (by omega) (by omega)⟩, by omega⟩

theorem rotI_gt {m i j p : Nat} (h : j < i) (hi : i <= m) : rotI (m - i) m (m + j) p = swI (m - i) m j (rotI (m - (i - j)) m (m + j) p) := by
 unfold rotI
 by_cases h1 : m - i <= p /\ p < m + j
 ·rw [if_pos h1]
  by_cases h2 : m - (i - j) <= p
  ·rw [if_pos (show m - (i - j) <= p /\ p < m + j by omega), if_neg (by omega)]
   by_cases h3 : p < m - (i - j) + (m + j - m)
   ·rw [if_pos h3]
    unfold swI
    rw [if_neg (by omega), if_pos (by omega)]
    omega
   ·rw [if_neg h3]
    unfold swI
    rw [if_neg (by omega), if_neg (by omega)]
  ·rw [if_neg (show ¬ (m - (i - j) <= p /\ p < m + j) by omega), if_pos (by omega)]
   unfold swI
   rw [if_pos (by omega)]
 ·rw [if_neg h1, if_neg (show ¬ (m - (i - j) <= p /\ p < m + j) by omega)]
  unfold swI
  rw [if_neg (by omega), if_neg (by omega)]

theorem rotI_lt {m i j p : Nat} (h : i < j) (hi : i <= m) : rotI (m - i) m (m + j) p = swI (m - i) (m + j - i) i (rotI (m - i) m (m + (j - i)) p) := by
 unfold rotI
 by_cases h1 : m - i <= p /\ p < m + j
 ·rw [if_pos h1]
  by_cases h2 : p < m + (j - i)
  ·rw [if_pos (show m - i <= p /\ p < m + (j - i) by omega)]
   by_cases h3 : p < m - i + (m + (j - i) - m)
   ·rw [if_pos h3, if_pos (by omega)]
    unfold swI
    rw [if_neg (by omega), if_neg (by omega)]
   ·rw [if_neg h3, if_pos (by omega)]
    unfold swI
    rw [if_pos (by omega)]
    omega
  ·rw [if_neg (show ¬ (m - i <= p /\ p < m + (j - i)) by omega)]
   unfold swI
   rw [if_neg (show ¬ (m - i <= p /\ p < m - i + i) by omega), if_pos (show m + j - i <= p /\ p < m + j - i + i by omega)]
   by_cases h3 : p < m - i + (m + j - m)
   ·omega
   ·rw [if_neg h3]; omega
 ·rw [if_neg h1, if_neg (show ¬ (m - i <= p /\ p < m + (j - i)) by omega)]
  unfold swI
  rw [if_neg (by omega), if_neg (by omega)]

theorem rotI_eq {m i p : Nat} (hi : i <= m) : rotI (m - i) m (m + i) p = swI (m - i) m i p := by
 unfold rotI swI
 by_cases h1 : m - i <= p /\ p < m + i
 ·rw [if_pos h1]
  by_cases h2 : p < m
  ·rw [if_pos (by omega), if_pos (by omega)]
  ·rw [if_neg (by omega), if_neg (by omega), if_pos (by omega)]
   omega
 ·rw [if_neg h1, if_neg (by omega), if_neg (by omega)]

theorem rotate_spec (H0 : Heap) {ob : Nat} {cap : Addr} {D : List Int} (hD : OB H0 ob D) (hn : D.length <= 100000) (a m b : Nat) (h1 : a < m) (h2 : m < b) (h3 : b <= D.length) :
  CallsH Tryz.prog n_149 #[.slice (some ⟨ob, 0, none⟩) D.length D.length, .int .i64 (a : Int), .int .i64 (m : Int), .int .i64 (b : Int), .func (.func 117) #[] #[.pointer (some cap)]] H0
   (SP ob H0 (fun D' => Rw a b D D' /\ Pm (rotI a m b) D D')) := by
 refine F_149_ok ⟨some ⟨ob, 0, none⟩, D.length, D.length⟩ _ _ _ _ ?_
 unfold F_149
 refine letV_mk ((m - a : Nat) : Int) (by rw [i64_in (by omega)]; omega) (letV_mk ((b - m : Nat) : Int) (by rw [i64_in (by omega)]; omega) ?_)
 refine ⟨fun x y H' => ∃ i j : Nat, x = i /\ y = j /\ 0 < i /\ 0 < j /\ i <= m - a /\ j <= b - m /\ ∃ D1 f, OB H' ob D1 /\ Mods [ob] H0 H' /\ Rw a b D D1 /\ Pm f D D1 /\ ∀ p, rotI a m b p = f (rotI (m - i) m (m + j) p), fun x y _ => (x + y).toNat,
  ⟨m - a, b - m, rfl, rfl, by omega, by omega, Nat.le_refl _, Nat.le_refl _, D, id, hD, .refl _ _, .refl _ _ _, ⟨rfl, fun _ => rfl⟩, fun p => by rw [show m - (m - a) = a by omega, show m + (b - m) = b by omega]; rfl⟩, ?_⟩
 rintro x y H1 ⟨i, j, rfl, rfl, hi0, hj0, hi, hj, D1, f, o1, m1, r1, p1, hf⟩
 unfold F_149_r1
 have l1 := r1.len
 have e1 : IntKind.i64.wrap ((m : Int) - i) = ((m - i : Nat) : Int) := by rw [i64_in (by omega)]; omega
 have e2 : IntKind.i64.wrap (IntKind.i64.wrap ((m : Int) + j) - i) = ((m + j - i : Nat) : Int) := by rw [i64_in (n := (m : Int) + j) (by omega), i64_in (by omega)]; omega
 simp only [e1, e2]
 have hsw := fun (u w n : Nat) (q1 : a <= u) (q2 : u + n <= w) (q3 : w + n <= b) => swapRange_spec H1 (cap := cap) o1 (by omega) a b u w n q1 q2 q3 (by omega)
 rw [l1] at hsw
 refine iteB_bne (fun d => iteB_dec (fun d1 => (hsw (m - i) m j (by omega) (by omega) (by omega)).mono ?_) (fun d1 => (hsw (m - i) (m + j - i) i (by omega) (by omega) (by omega)).mono ?_)) (fun d => ?_)
 ·rintro v H2 ⟨rfl, D2, o2, m2, r2, p2⟩
  refine ⟨rfl, letV_mk ((i - j : Nat) : Int) (by rw [i64_in (by omega)]; omega) ⟨⟨i - j, j, rfl, rfl, by omega, by omega, by omega, by omega, D2, fun p => f (swI (m - i) m j p), o2, m1.trans m2, r1.trans r2, p1.comp p2 (fun _ => rfl), fun p => ?_⟩, by omega⟩⟩
  rw [hf, rotI_gt (by omega) (by omega)]
 ·rintro v H2 ⟨rfl, D2, o2, m2, r2, p2⟩
  refine ⟨rfl, letV_mk ((j - i : Nat) : Int) (by rw [i64_in (by omega)]; omega) ⟨⟨i, j - i, rfl, rfl, by omega, by omega, by omega, by omega, D2, fun p => f (swI (m - i) (m + j - i) i p), o2, m1.trans m2, r1.trans r2, p1.comp p2 (fun _ => rfl), fun p => ?_⟩, by omega⟩⟩
  rw [hf, rotI_lt (by omega) (by omega)]
 ·obtain rfl : i = j := by omega
  refine (hsw (m - i) m i (by omega) (by omega) (by omega)).mono ?_
  rintro v H2 ⟨rfl, D2, o2, m2, r2, p2⟩
  exact ⟨rfl, rfl, D2, o2, m1.trans m2, r1.trans r2, p1.comp p2 (fun p => by rw [hf, rotI_eq (by omega)])⟩

/-! ### what a rotation does to the order -/

theorem rot_st {S D E : List Int} {s m e : Nat} (h1 : s <= m) (h2 : m <= e) (h3 : e <= D.length) (p : Pm (rotI s m e) D E) (hk : ∀ x y, s <= x -> x < m -> m <= y -> y < e -> ky S D x < ky S D y) (h : St S D) : St S E := by
 intro u w huw hw hkk
 rw [p.len] at hw
 have gu := p.at_ u
 have gw := p.at_ w
 have kk : ky S D (rotI s m e u) = ky S D (rotI s m e w) := by unfold ky at hkk ⊢; rw [gu, gw] at hkk; exact hkk
 rw [gu, gw]
 have key1 : rotI s m e u < rotI s m e w \/ (s <= rotI s m e w /\ rotI s m e w < m /\ m <= rotI s m e u /\ rotI s m e u < e) := by
  unfold rotI
  split <;> split <;> (try split) <;> (try split) <;> omega
 have hlt : rotI s m e w < D.length := by
  unfold rotI
  split <;> (try split) <;> omega
 rcases key1 with hh | ⟨q1, q2, q3, q4⟩
 ·exact h _ _ hh hlt kk
 ·have := hk _ _ q1 q2 q3 q4
  omega

theorem rot_lo {D E : List Int} {s m e : Nat} (p : Pm (rotI s m e) D E) {x : Nat} (hx : x < s) : E.getD x 0 = D.getD x 0 := by
 rw [p.at_]; unfold rotI; rw [if_neg (by omega)]
theorem rot_hi {D E : List Int} {s m e : Nat} (p : Pm (rotI s m e) D E) {x : Nat} (hx : e <= x) : E.getD x 0 = D.getD x 0 := by
 rw [p.at_]; unfold rotI; rw [if_neg (by omega)]
theorem rot_1 {D E : List Int} {s m e : Nat} (p : Pm (rotI s m e) D E) (hsm : s <= m) (hme : m <= e) {x : Nat} (h1 : s <= x) (h2 : x < s + (e - m)) : E.getD x 0 = D.getD (m + (x - s)) 0 := by
 rw [p.at_]; unfold rotI; rw [if_pos (by omega), if_pos h2]
theorem rot_2 {D E : List Int} {s m e : Nat} (p : Pm (rotI s m e) D E) (hsm : s <= m) (hme : m <= e) {x : Nat} (h1 : s + (e - m) <= x) (h2 : x < e) : E.getD x 0 = D.getD (x - (e - m)) 0 := by
 rw [p.at_]; unfold rotI; rw [if_pos (by omega), if_neg (by omega)]

theorem rot_parts {S D E : List Int} {a s m e b mid : Nat} (has : a <= s) (hsm : s <= m) (hme : m <= e) (heb : e <= b) (hmid : mid = s + (e - m)) (p : Pm (rotI s m e) D E)
  (k1 : SrtK S D a m) (k2 : SrtK S D m b) (hx : ∀ x y, s <= x -> x < m -> m <= y -> y < e -> ky S D x < ky S D y) (ho : ∀ x y, a <= x -> x < s -> e <= y -> y < b -> ky S D y <= ky S D x) :
  SrtK S E a s /\ SrtK S E s mid /\ SrtK S E mid e /\ SrtK S E e b /\ ∀ x y, a <= x -> x < mid -> mid <= y -> y < b -> ky S E y <= ky S E x := by
 subst hmid
 have lo : ∀ x, x < s -> ky S E x = ky S D x := fun x h => by unfold ky; rw [rot_lo p h]
 have hi : ∀ x, e <= x -> ky S E x = ky S D x := fun x h => by unfold ky; rw [rot_hi p h]
 have g1 : ∀ x, s <= x -> x < s + (e - m) -> ky S E x = ky S D (m + (x - s)) := fun x h h' => by unfold ky; rw [rot_1 p hsm hme h h']
 have g2 : ∀ x, s + (e - m) <= x -> x < e -> ky S E x = ky S D (x - (e - m)) := fun x h h' => by unfold ky; rw [rot_2 p hsm hme h h']
 refine ⟨fun x y h1 h2 h3 => ?_, fun x y h1 h2 h3 => ?_, fun x y h1 h2 h3 => ?_, fun x y h1 h2 h3 => ?_, fun x y h1 h2 h3 h4 => ?_⟩
 ·rw [lo x (by omega), lo y (by omega)]; exact k1 x y h1 h2 (by omega)
 ·rw [g1 x (by omega) (by omega), g1 y (by omega) (by omega)]; exact k2 _ _ (by omega) (by omega) (by omega)
 ·rw [g2 x (by omega) (by omega), g2 y (by omega) (by omega)]; exact k1 _ _ (by omega) (by omega) (by omega)
 ·rw [hi x (by omega), hi y (by omega)]; exact k2 _ _ (by omega) (by omega) (by omega)
 ·by_cases x1 : x < s
  ·rw [lo x x1]
   by_cases y1 : y < e
   ·rw [g2 y h3 y1]; exact k1 _ _ (by omega) (by omega) (by omega)
   ·rw [hi y (by omega)]; exact ho _ _ h1 x1 (by omega) h4
  ·rw [g1 x (by omega) h2]
   by_cases y1 : y < e
   ·rw [g2 y h3 y1]; exact Int.le_of_lt (hx _ _ (by omega) (by omega) (by omega) (by omega))
   ·rw [hi y (by omega)]; exact k2 _ _ (by omega) (by omega) (by omega)

theorem srtK_join {S E : List Int} {a mid b : Nat} (h1 : SrtK S E a mid) (h2 : SrtK S E mid b) (h3 : ∀ x y, a <= x -> x < mid -> mid <= y -> y < b -> ky S E y <= ky S E x) : SrtK S E a b := fun p q hp hpq hq => by
 by_cases e1 : q < mid
 ·exact h1 p q hp hpq e1
 ·by_cases e2 : p < mid
  ·exact h3 p q hp e2 (by omega) hq
  ·exact h2 p q (by omega) hpq hq

theorem ky_in {S D E : List Int} {a b p : Nat} (r : Rw a b D E) (h1 : a <= p) (h2 : p < b) : ∃ q, a <= q /\ q < b /\ ky S E p = ky S D q := by
 obtain ⟨q, q1, q2, q3⟩ := r.seg p h1 h2
 exact ⟨q, q1, q2, by unfold ky; rw [q3]⟩
theorem ky_out {S D E : List Int} {a b p : Nat} (r : Rw a b D E) (h : p < a \/ b <= p) : ky S E p = ky S D p := by unfold ky; rw [r.out p h]

theorem half_spec (x y : Nat) (h : x + y <= 1000000) : IntKind.i64.wrap ((IntKind.u64.wrap (IntKind.i64.wrap ((x : Int) + y))).fdiv (2 ^ (min (1 : Int).toNat IntKind.u64.bits))) = (((x + y) / 2 : Nat) : Int) := by
 have e : (2 : Int) ^ (min (1 : Int).toNat IntKind.u64.bits) = 2 := by decide
 rw [e, i64_in (n := (x : Int) + y) (by omega), u64_in (by omega), Int.fdiv_eq_ediv_of_nonneg _ (by omega), i64_in (by omega)]
 omega

end Go.Proofs.YtnhhncjflnlfaaaGreat
