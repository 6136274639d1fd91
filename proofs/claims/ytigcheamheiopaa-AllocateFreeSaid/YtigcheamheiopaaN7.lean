/-
  Counting aligned blocks one by one (plain).
-/
import Derived.Test.YtigcheamheiopaaN2
namespace Go.Proofs.Ytigcheamheiopaa
open Go.Eng
set_option linter.unusedVariables false

def cntN (q : Nat → Bool) : Nat → Nat
  | 0 => 0
  | m + 1 => cntN q m + (if q m then 1 else 0)
theorem cntN_le (q : Nat → Bool) : ∀ m, cntN q m ≤ m
  | 0 => Nat.le_refl _
  | m + 1 => by have := cntN_le q m; simp only [cntN]; split <;> omega
theorem cntN_interval (a b : Int) (ha : 0 ≤ a) : ∀ m : Nat, (cntN (fun z => decide (a ≤ (z : Int) ∧ (z : Int) < b)) m : Int) = max 0 (min b m - a)
  | 0 => by simp only [cntN]; omega
  | m + 1 => by
    have ih := cntN_interval a b ha m
    simp only [cntN]
    by_cases h : a ≤ (m : Int) ∧ (m : Int) < b
    · rw [if_pos (by simpa using h)]
      omega
    · rw [if_neg (by simpa using h)]
      omega
theorem cntN_zero {q : Nat → Bool} : ∀ m, (∀ z, z < m → q z = false) → cntN q m = 0
  | 0, _ => rfl
  | m + 1, h => by
    simp only [cntN]
    rw [cntN_zero m (fun z hz => h z (by omega)), h m (by omega)]
    rfl
theorem cntN_add {q q1 q2 : Nat → Bool} : ∀ m, (∀ z, z < m → (q z = true ↔ q1 z = true ∨ q2 z = true) ∧ ¬ (q1 z = true ∧ q2 z = true)) → cntN q m = cntN q1 m + cntN q2 m
  | 0, _ => rfl
  | m + 1, h => by
    have ih := cntN_add m (fun z hz => h z (by omega))
    obtain ⟨h1, h2⟩ := h m (by omega)
    simp only [cntN]
    rw [ih]
    cases e1 : q1 m <;> cases e2 : q2 m <;> simp_all <;> omega

/-- The aligned block 'z' is covered. -/
def BlkIn (F : List Rg) (P : Int) (z : Nat) : Prop := ∀ x, (z : Int) * P ≤ x → x < z * P + P → Cov F x

theorem cnt_blk {P : Int} (hP : 0 < P) (m : Nat) : ∀ (F : List Rg), Asc F → (∀ r ∈ F, 0 ≤ r.1 ∧ r.1 + r.2 ≤ m * P) → ∀ q : Nat → Bool, (∀ z, z < m → (q z = true ↔ BlkIn F P z)) → (cntN q m : Int) = blkN P F
  | [], _, _, q, hq => by
    rw [cntN_zero m (fun z hz => by
      cases e : q z with
      | false => rfl
      | true =>
        have := (hq z hz).1 e (z * P) (Int.le_refl _) (by omega)
        exact absurd this (Cov_nil _))]
    rfl
  | r :: l, ha, hF, q, hq => by
    obtain ⟨hr, hl, ha'⟩ := ha
    have hrl := hF r (by simp)
    obtain ⟨q2, hq2⟩ : ∃ q2 : Nat → Bool, ∀ z, q2 z = true ↔ BlkIn l P z := ⟨fun z => @decide _ (Classical.propDecidable (BlkIn l P z)), fun z => by simp⟩
    have ih := cnt_blk hP m l ha' (fun s hs => hF s (by simp [hs])) q2 (fun z _ => hq2 z)
    obtain ⟨c1, c2⟩ := cd_spec (a := r.1) hP
    obtain ⟨f1, f2⟩ := fl_spec (a := r.1 + r.2) hP
    have hcd : 0 ≤ cd r.1 P := by unfold cd; exact Int.ediv_nonneg (by omega) (by omega)
    have hfl : (r.1 + r.2) / P ≤ m := mul_le_of hP (by omega)
    have hadd := cntN_add (q := q) (q1 := fun z => decide (cd r.1 P ≤ (z : Int) ∧ (z : Int) < (r.1 + r.2) / P)) (q2 := q2) m (fun z hz => by
      have hone : cd r.1 P ≤ (z : Int) ∧ (z : Int) < (r.1 + r.2) / P → r.1 ≤ z * P ∧ z * P + P ≤ r.1 + r.2 := fun ⟨h1, h2⟩ => by
        have e1 : cd r.1 P * P ≤ z * P := Int.mul_le_mul_of_nonneg_right h1 (Int.le_of_lt hP)
        have e2 : ((z : Int) + 1) * P ≤ (r.1 + r.2) / P * P := Int.mul_le_mul_of_nonneg_right h2 (Int.le_of_lt hP)
        rw [Int.add_mul, Int.one_mul] at e2
        omega
      rw [hq z hz, hq2 z, decide_eq_true_eq]
      refine ⟨⟨fun h => ?_, fun h => ?_⟩, fun ⟨h1, h2⟩ => ?_⟩
      · obtain ⟨s, hs, h1, h2⟩ := cov_block (l := r :: l) ⟨hr, hl, ha'⟩ (a := z * P) (b := z * P + P) (by omega) h
        rcases List.mem_cons.1 hs with rfl | hs
        · refine .inl ⟨cd_le hP h1, ?_⟩
          have : (z : Int) + 1 ≤ (s.1 + s.2) / P := le_fl hP (by rw [Int.add_mul, Int.one_mul]; exact h2)
          omega
        · exact .inr (fun x hx1 hx2 => ⟨s, hs, by omega, by omega⟩)
      · rcases h with h | h
        · obtain ⟨h1, h2⟩ := hone h
          exact fun x hx1 hx2 => ⟨r, by simp, by omega, by omega⟩
        · exact fun x hx1 hx2 => Cov_cons.2 (.inr (h x hx1 hx2))
      · obtain ⟨g1, g2⟩ := hone h1
        obtain ⟨s, hs, k1, k2⟩ := h2 (z * P) (Int.le_refl _) (by omega)
        have := hl s hs
        omega)
    rw [hadd]
    have hint := cntN_interval (cd r.1 P) ((r.1 + r.2) / P) hcd m
    simp only [blkN, blkP]
    omega

end Go.Proofs.Ytigcheamheiopaa
