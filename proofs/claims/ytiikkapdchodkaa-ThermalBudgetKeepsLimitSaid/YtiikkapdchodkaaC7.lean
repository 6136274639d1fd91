/-
  The heat model's steps in plain numbers: temperatures stay within bounds, the energy is conserved.
-/
import Derived.Test.YtiikkapdchodkaaC6
namespace Go.Proofs.Ytiikkapdchodkaa
open Go.Eng Go.Heat

/-- All temperatures lie from 'lo' to 'hi'. -/
def TB (D : List Dom) (E : Nat → Int) (lo hi : Int) : Prop := ∀ i, i < D.length → lo ≤ tempOf D E i ∧ tempOf D E i ≤ hi

theorem lsum_le {n : Nat} {L : List Lnk} {T : Nat → Int} {lo hi : Int} (hT : ∀ i, i < n → lo ≤ T i ∧ T i ≤ hi) {i : Nat} : ∀ j, (∀ k, k < j → LnkOk n L k) →
    lsum L T j i ≤ need L j i * (hi - T i) ∧ -(need L j i * (T i - lo)) ≤ lsum L T j i := by
  intro j
  induction j with
  | zero => intro _; simp [lsum, need]
  | succ j ih =>
    intro h
    have h1 := ih (fun k hk => h k (by omega))
    obtain ⟨a0, a1, b0, b1, ne, c0, c1, _⟩ := h j (by omega)
    have tA := hT (lA L j).toNat (by omega)
    have tB := hT (lB L j).toNat (by omega)
    simp only [lsum, need, flowOf]
    have key : ∀ x : Int, lo ≤ x → x ≤ hi → lC L j * (x - T i) ≤ lC L j * (hi - T i) ∧ -(lC L j * (T i - lo)) ≤ lC L j * (x - T i) := by
      intro x h1 h2
      refine ⟨Int.mul_le_mul_of_nonneg_left (by omega) (by omega), ?_⟩
      rw [← Int.mul_neg]
      exact Int.mul_le_mul_of_nonneg_left (by omega) (by omega)
    by_cases eA : (lA L j).toNat = i
    · have eB : ¬ (lB L j).toNat = i := by omega
      rw [if_pos eA, if_neg eB, if_pos eA, if_neg eB, eA]
      have hk := key _ tB.1 tB.2
      rw [show -(lC L j * (T i - T (lB L j).toNat)) = lC L j * (T (lB L j).toNat - T i) by rw [← Int.mul_neg]; congr 1; omega]
      rw [Int.add_zero, Int.add_zero, Int.add_mul, Int.add_mul]
      omega
    · rw [if_neg eA, if_neg eA]
      by_cases eB : (lB L j).toNat = i
      · rw [if_pos eB, if_pos eB, eB]
        have hk := key _ tA.1 tA.2
        rw [Int.zero_add, Int.zero_add, Int.add_mul, Int.add_mul]
        omega
      · rw [if_neg eB, if_neg eB]
        simpa using h1

theorem step_TB {D : List Dom} {L : List Lnk} {amb : Int} {E p : Nat → Int} {b : Int} (hv : VS D L amb) (hT : TB D E amb b) (hp : ∀ i, i < D.length → 0 ≤ p i ∧ p i ≤ ambOf D i * (b - amb)) :
    TB D (stepE D L amb E p) amb b := by
  intro i hi
  have hd := hv.dom i hi
  have hc := hv.cap i hi
  have hl := lsum_le (n := D.length) (L := L) (T := tempOf D E) hT (i := i) L.length hv.lnk
  have hn := need_bound (L := L) (n := D.length) i L.length hv.lnk
  have ht := hT i hi
  have hpi := hp i hi
  have hE1 : capOf D i * tempOf D E i ≤ E i := Int.mul_ediv_self_le (by omega)
  have hE2 : E i < capOf D i * tempOf D E i + capOf D i := Int.lt_mul_ediv_self_add (by omega)
  generalize hTi : tempOf D E i = t at *
  generalize hN : need L L.length i = N at *
  generalize hC : capOf D i = C at *
  generalize ha : ambOf D i = a at *
  have x1 : (a + N) * (b - t) ≤ C * (b - t) := Int.mul_le_mul_of_nonneg_right hc.1 (by omega)
  have x2 : (a + N) * (t - amb) ≤ C * (t - amb) := Int.mul_le_mul_of_nonneg_right hc.1 (by omega)
  have y1 : C * (b - t) = C * b - C * t := Int.mul_sub _ _ _
  have y2 : C * (t - amb) = C * t - C * amb := Int.mul_sub _ _ _
  have y3 : (a + N) * (b - t) = a * (b - t) + N * (b - t) := Int.add_mul _ _ _
  have y4 : (a + N) * (t - amb) = a * (t - amb) + N * (t - amb) := Int.add_mul _ _ _
  have y5 : a * (b - amb) - a * (t - amb) = a * (b - t) := by rw [← Int.mul_sub]; congr 1; omega
  have hs : stepE D L amb E p i = E i + (p i - a * (t - amb)) + lsum L (tempOf D E) L.length i := by
    unfold stepE outOf
    rw [hTi, ha]
  have g1 : C * amb ≤ stepE D L amb E p i := by omega
  have g2 : stepE D L amb E p i < C * b + C := by omega
  have hCp : 0 < C := by omega
  unfold tempOf
  rw [hC]
  refine ⟨Int.le_ediv_of_mul_le hCp (by rw [Int.mul_comm]; exact g1), ?_⟩
  have : stepE D L amb E p i / C < b + 1 := Int.ediv_lt_of_lt_mul hCp (by rw [Int.mul_comm, Int.mul_add]; omega)
  omega

theorem start_temp {D : List Dom} {L : List Lnk} {amb : Int} (hv : VS D L amb) {i : Nat} (hi : i < D.length) : tempOf D (fun i => capOf D i * amb) i = amb := by
  have hd := hv.dom i hi
  have hc := hv.cap i hi
  have hn := need_bound (L := L) (n := D.length) i L.length hv.lnk
  unfold tempOf
  exact Int.mul_ediv_cancel_left _ (by omega)

theorem start_TB {D : List Dom} {L : List Lnk} {amb b : Int} (hv : VS D L amb) (hb : amb ≤ b) : TB D (fun i => capOf D i * amb) amb b := by
  intro i hi
  rw [start_temp hv hi]
  omega

theorem TB.sane {D : List Dom} {L : List Lnk} {amb : Int} {E : Nat → Int} {b : Int} (h : TB D E amb b) (hv : VS D L amb) (hl : L.length ≤ 1000) (hb : b ≤ 33554432) : Sane D L amb E := by
  have a0 := hv.amb0
  have a1 := hv.amb1
  refine ⟨hv.n16, fun i hi => ?_, fun i hi => ?_, fun k hk => ?_, hl, by omega, fun i hi => ?_, fun i hi => ?_⟩
  · have hd := hv.dom i hi
    have hc := hv.cap i hi
    have hn := need_bound (L := L) (n := D.length) i L.length hv.lnk
    omega
  · have hd := hv.dom i hi
    omega
  · obtain ⟨a0, a1, b0, b1, ne, c0, c1, _⟩ := hv.lnk k hk
    exact ⟨a0, a1, b0, b1, ne, by omega, c1⟩
  · have hd := hv.dom i hi
    have hc := hv.cap i hi
    have hn := need_bound (L := L) (n := D.length) i L.length hv.lnk
    have ht := h i hi
    have hE1 : capOf D i * tempOf D E i ≤ E i := Int.mul_ediv_self_le (by omega)
    have hE2 : E i < capOf D i * tempOf D E i + capOf D i := Int.lt_mul_ediv_self_add (by omega)
    have := mul_bound (a := capOf D i) (b := tempOf D E i) (A := 16777216) (B := 33554432) (by omega) (by omega) (by omega) (by omega)
    omega
  · have ht := h i hi
    unfold tempOf at ht
    omega

theorem osum_range {D : List Dom} {L : List Lnk} {amb : Int} {E : Nat → Int} {b : Int} (h : TB D E amb b) (hv : VS D L amb) (hb : b ≤ amb + 16777216) : ∀ k, k ≤ D.length → 0 ≤ osum D amb E k ∧ osum D amb E k ≤ 281474976710656 * k := by
  intro k
  induction k with
  | zero => intro _; simp [osum]
  | succ k ih =>
    intro hk
    have h1 := ih (by omega)
    have hd := hv.dom k (by omega)
    have ht := h k (by omega)
    have hm : 0 ≤ outOf D amb E k := Int.mul_nonneg (by omega) (by omega)
    have := mul_bound (a := ambOf D k) (b := tempOf D E k - amb) (A := 16777216) (B := 16777216) (by omega) (by omega) (by omega) (by omega)
    have hm2 : outOf D amb E k ≤ 281474976710656 := by unfold outOf; omega
    simp only [osum]
    omega

theorem osum16 {D : List Dom} {L : List Lnk} {amb : Int} {E : Nat → Int} {b : Int} (h : TB D E amb b) (hv : VS D L amb) (hb : b ≤ amb + 16777216) : 0 ≤ osum D amb E D.length ∧ osum D amb E D.length ≤ 4503599627370496 := by
  have := osum_range h hv hb D.length (Nat.le_refl _)
  have := hv.n16
  omega

theorem powOk_iff {p : List Int} {n : Nat} : powOk p n = true ↔ p.length = n ∧ ∀ i, i < n → 0 ≤ p.getD i 0 ∧ p.getD i 0 ≤ 16777216 := by
  unfold powOk
  rw [decide_eq_true_eq]
  constructor
  · rintro ⟨h1, h2⟩
    refine ⟨by omega, fun i hi => ?_⟩
    have hip : i < p.length := by omega
    exact h2 (p.getD i 0) (by simp [hip])
  · rintro ⟨h1, h2⟩
    refine ⟨by omega, fun x hx => ?_⟩
    obtain ⟨i, hi, rfl⟩ := List.getElem_of_mem hx
    have := h2 i (by omega)
    simpa [hi] using this

theorem mul_one_le {a x : Int} (ha : 1 ≤ a) (hx : 0 ≤ x) : x ≤ a * x := by
  have := Int.mul_le_mul_of_nonneg_right ha hx
  omega

/-- A step with valid powers keeps to the widest bounds. -/
theorem step_wide {D : List Dom} {L : List Lnk} {amb : Int} {E : Nat → Int} {p : List Int} (hv : VS D L amb) (hT : TB D E amb (amb + 16777216)) (hp : powOk p D.length = true) :
    TB D (stepE D L amb E (fun i => p.getD i 0)) amb (amb + 16777216) := by
  refine step_TB hv hT (fun i hi => ?_)
  have hd := hv.dom i hi
  have := (powOk_iff.1 hp).2 i hi
  have h2 := mul_one_le (a := ambOf D i) (x := 16777216) hd.1 (by omega)
  rw [show amb + 16777216 - amb = 16777216 by omega]
  omega

/-- The sum of the first values. -/
def sumZ (f : Nat → Int) : Nat → Int
  | 0 => 0
  | k + 1 => sumZ f k + f k

theorem sumZ_add (f g : Nat → Int) : ∀ n, sumZ (fun i => f i + g i) n = sumZ f n + sumZ g n := by
  intro n
  induction n with
  | zero => rfl
  | succ n ih => simp only [sumZ]; omega
theorem sumZ_sub (f g : Nat → Int) : ∀ n, sumZ (fun i => f i - g i) n = sumZ f n - sumZ g n := by
  intro n
  induction n with
  | zero => rfl
  | succ n ih => simp only [sumZ]; omega
theorem sumZ_zero : ∀ n, sumZ (fun _ => 0) n = 0 := by
  intro n
  induction n with
  | zero => rfl
  | succ n ih => simp only [sumZ]; omega
theorem sumZ_congr {f g : Nat → Int} : ∀ n, (∀ i, i < n → f i = g i) → sumZ f n = sumZ g n := by
  intro n
  induction n with
  | zero => intro _; rfl
  | succ n ih =>
    intro h
    simp only [sumZ]
    rw [ih (fun i hi => h i (by omega)), h n (by omega)]
theorem sumZ_one (a : Nat) (x : Int) : ∀ n, sumZ (fun i => if a = i then x else 0) n = if a < n then x else 0 := by
  intro n
  induction n with
  | zero => rfl
  | succ n ih =>
    simp only [sumZ]
    rw [ih]
    by_cases h1 : a < n
    · rw [if_pos h1, if_neg (by omega), if_pos (by omega)]; omega
    · rw [if_neg h1]
      by_cases h2 : a = n
      · rw [if_pos h2, if_pos (by omega)]; omega
      · rw [if_neg h2, if_neg (by omega)]; omega
theorem sumZ_bound {f : Nat → Int} {A B : Int} : ∀ n, (∀ i, i < n → A ≤ f i ∧ f i ≤ B) → A * n ≤ sumZ f n ∧ sumZ f n ≤ B * n := by
  intro n
  induction n with
  | zero => intro _; simp [sumZ]
  | succ n ih =>
    intro h
    have h1 := ih (fun i hi => h i (by omega))
    have h2 := h n (by omega)
    simp only [sumZ, Int.natCast_add, Int.natCast_one, Int.mul_add, Int.mul_one]
    omega

theorem lsum_total {n : Nat} {L : List Lnk} {T : Nat → Int} : ∀ j, (∀ k, k < j → LnkOk n L k) → sumZ (fun i => lsum L T j i) n = 0 := by
  intro j
  induction j with
  | zero => intro _; exact sumZ_zero n
  | succ j ih =>
    intro h
    obtain ⟨a0, a1, b0, b1, ne, c0, c1, _⟩ := h j (by omega)
    simp only [lsum]
    rw [sumZ_add (fun i => lsum L T j i), ih (fun k hk => h k (by omega)), sumZ_add (fun i => if (lA L j).toNat = i then _ else 0), sumZ_one, sumZ_one, if_pos (by omega), if_pos (by omega)]
    omega

theorem osum_sumZ (D : List Dom) (amb : Int) (E : Nat → Int) : ∀ n, osum D amb E n = sumZ (outOf D amb E) n := by
  intro n
  induction n with
  | zero => rfl
  | succ n ih => simp only [osum, sumZ]; rw [ih]

theorem step_total {D : List Dom} {L : List Lnk} {amb : Int} {E p : Nat → Int} (hv : VS D L amb) :
    sumZ (stepE D L amb E p) D.length + osum D amb E D.length = sumZ E D.length + sumZ p D.length := by
  have h1 : sumZ (stepE D L amb E p) D.length = sumZ E D.length + (sumZ p D.length - sumZ (outOf D amb E) D.length) + sumZ (fun i => lsum L (tempOf D E) L.length i) D.length := by
    rw [← sumZ_sub, ← sumZ_add, ← sumZ_add]
    rfl
  rw [h1, lsum_total L.length hv.lnk, osum_sumZ]
  omega

end Go.Proofs.Ytiikkapdchodkaa
