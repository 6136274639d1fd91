/-
  The exhaustive search of the law AllocateIsOptimal: 'fits' answers whether there is a placement.
-/
import Derived.Test.YtigcheamheiopaaQ3
namespace Go.Proofs.Ytigcheamheiopaa
open Go.Eng
set_option linter.unusedVariables false

/-- The bytes without a block. -/
def cutB (f : Nat → Bool) (a n : Nat) : Nat → Bool := fun z => if a ≤ z ∧ z < a + n then false else f z
/-- A placement within 128 bytes. -/
def FitB : List Nat → (Nat → Bool) → Prop
  | [], _ => True
  | s :: ss, f => ∃ y : Nat, y * 2 ^ s + 2 ^ s ≤ 128 ∧ (∀ z, y * 2 ^ s ≤ z → z < y * 2 ^ s + 2 ^ s → f z = true) ∧ FitB ss (cutB f (y * 2 ^ s) (2 ^ s))

theorem fitB_congr : ∀ (ss : List Nat) {f g : Nat → Bool}, (∀ z, z < 128 → f z = g z) → FitB ss f → FitB ss g
  | [], _, _, _, _ => trivial
  | s :: ss, f, g, h, ⟨y, h1, h2, h3⟩ => by
    refine ⟨y, h1, fun z z1 z2 => by rw [← h z (by omega)]; exact h2 z z1 z2, fitB_congr ss (fun z hz => ?_) h3⟩
    unfold cutB
    rw [h z hz]

theorem pow_cast (s : Nat) : ((2 ^ s : Nat) : Int) = 2 ^ s := by simp
theorem fitB_plc : ∀ (ss : List Nat) (f : Nat → Bool) (l : List Rg), Asc l → (∀ x : Int, Cov l x ↔ 0 ≤ x ∧ x < 128 ∧ f x.toNat = true) → (FitB ss f ↔ Plc ss l)
  | [], f, l, _, _ => by simp [FitB, Plc]
  | s :: ss, f, l, ha, h => by
    have hp := pow_pos2 s
    have hpn : 0 < 2 ^ s := Nat.two_pow_pos s
    have hpc := pow_cast s
    have hx : 1 ≤ (((0 : Int), (2 : Int) ^ s) : Rg).2 := pow_ge1 s
    have step : ∀ y : Nat, y * 2 ^ s + 2 ^ s ≤ 128 → (FitB ss (cutB f (y * 2 ^ s) (2 ^ s)) ↔ Plc ss (rmF l ((y : Int) * 2 ^ s, 2 ^ s))) := fun y hy => by
      have hx : 1 ≤ (((y : Int) * 2 ^ s, (2 : Int) ^ s) : Rg).2 := pow_ge1 s
      obtain ⟨a1, a2, _⟩ := rmF_spec ha hx
      refine fitB_plc ss _ _ a1 (fun x => ?_)
      rw [a2 x, h x]
      have hyc : ((y * 2 ^ s : Nat) : Int) = (y : Int) * 2 ^ s := by rw [Int.natCast_mul, hpc]
      unfold cutB
      rw [← hyc, ← hpc]
      dsimp only
      constructor
      · rintro ⟨⟨g1, g2, g3⟩, g4⟩
        refine ⟨g1, g2, ?_⟩
        rw [if_neg (by omega)]
        exact g3
      · rintro ⟨g1, g2, g3⟩
        split at g3
        · cases g3
        · exact ⟨⟨g1, g2, g3⟩, by omega⟩
    constructor
    · rintro ⟨y, h1, h2, h3⟩
      refine ⟨(y : Int), fun x x1 x2 => ?_, (step y h1).1 h3⟩
      have hyc : ((y * 2 ^ s : Nat) : Int) = (y : Int) * 2 ^ s := by rw [Int.natCast_mul, hpc]
      rw [← hyc, ← hpc] at x2
      rw [← hyc] at x1
      exact (h x).2 ⟨by omega, by omega, h2 x.toNat (by omega) (by omega)⟩
    · rintro ⟨y, h1, h2⟩
      have c1 := (h _).1 (h1 (y * 2 ^ s) (by omega) (by omega))
      have c2 := (h _).1 (h1 (y * 2 ^ s + 2 ^ s - 1) (by omega) (by omega))
      have hy0 : 0 ≤ y := by
        apply Classical.byContradiction
        intro hn
        have : y * 2 ^ s < 0 := Int.mul_neg_of_neg_of_pos (by omega) hp
        omega
      obtain ⟨n, rfl⟩ := Int.eq_ofNat_of_zero_le hy0
      have hyc : ((n * 2 ^ s : Nat) : Int) = (n : Int) * 2 ^ s := by rw [Int.natCast_mul, hpc]
      rw [← hyc, ← hpc] at c2
      have hle : n * 2 ^ s + 2 ^ s ≤ 128 := by omega
      refine ⟨n, hle, fun z z1 z2 => ?_, (step n hle).2 h2⟩
      have := ((h z).1 (h1 z (by rw [← hyc]; omega) (by rw [← hyc, ← hpc]; omega))).2.2
      simpa using this

theorem cutB_same (f : Nat → Bool) (a : Nat) : cutB f a 0 = f := by
  funext z
  unfold cutB
  rw [if_neg (by omega)]

/-- 'fits': true iff there is a placement; the bytes are as before. -/
theorem fits_spec : ∀ (ss : List Nat) (H : Heap) (b : Nat) (it : Sl) (f : Nat → Bool), (∀ s ∈ ss, s ≤ 6) → BBlk H b t_128_bool 128 f → Ints .i64 H it (ss.map (fun s : Nat => (s : Int))) → it.n ≤ it.c → (∀ a, it.p = some a → a.block ≠ b) →
    CallsH Try.prog n_law21_fits #[.pointer (some ⟨b, 0, none⟩), .slice it.p it.n it.c] H (fun v H' => ∃ r : Bool, v = .bool r ∧ (r = true ↔ FitB ss f) ∧ BBlk H' b t_128_bool 128 f ∧ Mods [b] H H')
  | [], H, b, it, f, _, hb, hi, hc, hne => by
    refine F_law21_fits_ok ⟨b, 0, none⟩ it ?_
    unfold F_law21_fits
    have hn := hi.len
    refine iteB_pos (by simp at hn; simp [hn]) ⟨true, rfl, by simp [FitB], hb, .refl _ _⟩
  | s :: ss, H, b, it, f, hs, hb, hi, hc, hne => by
    refine F_law21_fits_ok ⟨b, 0, none⟩ it ?_
    unfold F_law21_fits
    have hn := hi.len
    simp only [List.length_map, List.length_cons] at hn
    obtain ⟨a, hp, hr⟩ := Ints.atN hi (i := 0) (by simp)
    have hs6 := hs s (by simp)
    have hpn : 0 < 2 ^ s := Nat.two_pow_pos s
    have hp64 : 2 ^ s ≤ 64 := Nat.le_trans (Nat.pow_le_pow_right (by omega) hs6) (by decide)
    have hpw : IntKind.i64.wrap (1 * 2 ^ (min (IntKind.u64.wrap ((s : Nat) : Int)).toNat IntKind.i64.bits)) = ((2 ^ s : Nat) : Int) := by
      rw [u64_in (n := ((s : Nat) : Int)) (by omega)]
      have e : min ((s : Nat) : Int).toNat IntKind.i64.bits = s := by have : IntKind.i64.bits = 64 := rfl; omega
      rw [e, Int.one_mul, ← pow_cast]
      exact i64_in (by omega)
    refine iteB_neg (by simp; omega) ⟨by omega, by omega, unSome_mk hp ⟨_, hr, u64_nonneg _, letV_mk _ hpw ?_⟩⟩
    generalize hPP : 2 ^ s = P at *
    refine ⟨fun x H' => ∃ y : Nat, x = ((y * P : Nat) : Int) ∧ y * P ≤ 128 ∧ BBlk H' b t_128_bool 128 f ∧ Mods [b] H H' ∧ ∀ q, q < y → ¬ ((∀ z, q * P ≤ z → z < q * P + P → f z = true) ∧ FitB ss (cutB f (q * P) P)), fun x _ => (200 - x).toNat, ⟨0, by simp, by omega, hb, .refl _ _, fun q hq => by omega⟩, ?_⟩
    rintro x H1 ⟨y, rfl, hy, b1, m1, hq⟩
    unfold F_law21_fits_r4
    have ey : IntKind.i64.wrap (((y * P : Nat) : Int) + (P : Int)) = ((y * P + P : Nat) : Int) := by rw [i64_in (by omega)]; omega
    have em : (y + 1) * P = y * P + P := by rw [Nat.add_mul, Nat.one_mul]
    rw [ey]
    refine iteB_dec (fun c => ?_) (fun c => ⟨false, rfl, ⟨fun h => (by cases h), fun h => ?_⟩, b1, m1⟩)
    rotate_left
    · exfalso
      revert h
      rintro ⟨q, h1, h2, h3⟩
      rw [hPP] at h1 h2 h3
      by_cases e : q < y
      · exact hq q e ⟨h2, h3⟩
      · have := Nat.mul_le_mul_right P (show y ≤ q by omega)
        omega
    have nextQ : ¬ ((∀ z, y * P ≤ z → z < y * P + P → f z = true) ∧ FitB ss (cutB f (y * P) P)) → ∀ q, q < y + 1 → ¬ ((∀ z, q * P ≤ z → z < q * P + P → f z = true) ∧ FitB ss (cutB f (q * P) P)) := fun h q hq1 => by
      by_cases e : q = y
      · subst e; exact h
      · exact hq q (by omega)
    refine ⟨fun all x H' => ∃ m : Nat, x = ((y * P + m : Nat) : Int) ∧ m ≤ P ∧ BBlk H' b t_128_bool 128 f ∧ Mods [b] H H' ∧ (all = true ↔ ∀ z, y * P ≤ z → z < y * P + m → f z = true), fun _ x _ => (200 - x).toNat, ⟨0, by simp, by omega, b1, m1, by simp; omega⟩, ?_⟩
    rintro all x H2 ⟨m, rfl, hm, b2, m2, hall⟩
    unfold F_law21_fits_r3
    rw [ey]
    refine iteB_dec (fun c1 => ?_) (fun c1 => ?_)
    · have em1 : IntKind.i64.wrap (((y * P + m : Nat) : Int) + 1) = ((y * P + (m + 1) : Nat) : Int) := by rw [i64_in (by omega)]; omega
      refine iteB_intro (fun c2 => ⟨by omega, by omega, _, b2.rd (i := ((y * P + m : Nat) : Int).toNat) (by omega), letV_mk _ em1 ⟨⟨m + 1, rfl, by omega, b2, m2, ?_⟩, by dsimp only; omega⟩⟩) (fun c2 => letV_mk _ em1 ⟨⟨m + 1, rfl, by omega, b2, m2, ?_⟩, by dsimp only; omega⟩)
      · rw [Int.toNat_natCast]
        constructor
        · intro h z z1 z2
          by_cases e : z = y * P + m
          · rw [e]; exact h
          · exact (hall.1 c2) z z1 (by omega)
        · intro h; exact h _ (by omega) (by omega)
      · constructor
        · intro h; cases h
        · intro h
          have := hall.2 (fun z z1 z2 => h z z1 (by omega))
          rw [c2] at this; cases this
    · obtain rfl : m = P := by omega
      refine iteB_not (fun c2 => letV_mk _ rfl ⟨⟨y + 1, by rw [em], by omega, b2, m2, nextQ (fun h => ?_)⟩, by dsimp only; omega⟩) (fun c2 => ?_)
      · have := hall.2 h.1
        rw [c2] at this; cases this
      have hfree := hall.1 c2
      refine ⟨fun x H' => ∃ j : Nat, x = ((y * m + j : Nat) : Int) ∧ j ≤ m ∧ BBlk H' b t_128_bool 128 (cutB f (y * m) j) ∧ Mods [b] H H', fun x _ => (200 - x).toNat, ⟨0, by simp, by omega, by rw [cutB_same]; exact b2, m2⟩, ?_⟩
      rintro x H3 ⟨j, rfl, hj, b3, m3⟩
      unfold F_law21_fits_r2
      rw [ey]
      refine iteB_dec (fun c3 => ⟨by omega, by omega, b3.ok (i := ((y * m + j : Nat) : Int).toNat) (by omega), letH_mk ?_⟩) (fun c3 => ?_)
      · intro H4 h4
        have b4 := b3.wr (i := ((y * m + j : Nat) : Int).toNat) (by omega) false
        rw [← h4] at b4
        have m4 : Mods [b] H3 H4 := by rw [h4]; exact mods_wr_add (by simp)
        refine letV_mk ((y * m + (j + 1) : Nat) : Int) (by rw [i64_in (by omega)]; omega) ⟨⟨j + 1, rfl, by omega, b4.congr (fun z hz => ?_), m3.trans m4⟩, by dsimp only; omega⟩
        rw [Int.toNat_natCast]
        unfold upd cutB
        by_cases e : z = y * m + j
        · rw [if_pos e, if_pos (by omega)]
        · rw [if_neg e]
          by_cases e2 : y * m ≤ z ∧ z < y * m + j
          · rw [if_pos e2, if_pos (by omega)]
          · rw [if_neg e2, if_neg (by omega)]
      · obtain rfl : j = m := by omega
        have i3 := hi.mods m3 (fun a ha => by simpa using hne a ha)
        have hdr := i3.dropS hc 1 (by simp)
        refine ⟨by omega, by omega, ?_⟩
        have hne' : ∀ a, (slP it.p it.c 1 1) = some a → a.block ≠ b := fun a ha => by
          unfold slP at ha
          split at ha
          · exact hne a ha
          · obtain ⟨a0, h0, rfl⟩ := Option.map_eq_some_iff.1 ha
            rw [add_block]
            exact hne a0 h0
        refine (fits_spec ss H3 b ⟨slP it.p it.c 1 1, it.n - 1, it.c - 1⟩ (cutB f (y * j) j) (fun t ht => hs t (by simp [ht])) b3 (by simpa using hdr) (by dsimp only; omega) hne').mono ?_
        rintro v H5 ⟨ok, rfl, hok, b5, m5⟩
        have m5' := m3.trans m5
        refine ⟨_, rfl, fun x H' => ∃ k : Nat, x = ((y * j + k : Nat) : Int) ∧ k ≤ j ∧ BBlk H' b t_128_bool 128 (cutB f (y * j + k) (j - k)) ∧ Mods [b] H H', fun x _ => (200 - x).toNat, ⟨0, by simp, by omega, by simpa using b5, m5'⟩, ?_⟩
        rintro x H6 ⟨k, rfl, hk, b6, m6⟩
        unfold F_law21_fits_r1
        rw [ey]
        refine iteB_dec (fun c4 => ⟨by omega, by omega, b6.ok (i := ((y * j + k : Nat) : Int).toNat) (by omega), letH_mk ?_⟩) (fun c4 => ?_)
        · intro H7 h7
          have b7 := b6.wr (i := ((y * j + k : Nat) : Int).toNat) (by omega) true
          rw [← h7] at b7
          have m7 : Mods [b] H6 H7 := by rw [h7]; exact mods_wr_add (by simp)
          refine letV_mk ((y * j + (k + 1) : Nat) : Int) (by rw [i64_in (by omega)]; omega) ⟨⟨k + 1, rfl, by omega, b7.congr (fun z hz => ?_), m6.trans m7⟩, by dsimp only; omega⟩
          rw [Int.toNat_natCast]
          unfold upd cutB
          by_cases e : z = y * j + k
          · rw [if_pos e, if_neg (by omega), hfree z (by omega) (by omega)]
          · rw [if_neg e]
            by_cases e2 : y * j + k ≤ z ∧ z < y * j + k + (j - k)
            · rw [if_pos e2, if_pos (by omega)]
            · rw [if_neg e2, if_neg (by omega)]
        · obtain rfl : k = j := by omega
          rw [Nat.sub_self, cutB_same] at b6
          refine iteB_intro (fun c5 => ⟨true, rfl, ⟨fun _ => ?_, fun _ => rfl⟩, b6, m6⟩) (fun c5 => letV_mk _ rfl ⟨⟨y + 1, by rw [em], by omega, b6, m6, nextQ (fun h => by rw [hok.2 h.2] at c5; cases c5)⟩, by dsimp only; omega⟩)
          exact ⟨y, by rw [hPP]; omega, by rw [hPP]; exact hfree, by rw [hPP]; exact hok.1 c5⟩

end Go.Proofs.Ytigcheamheiopaa
