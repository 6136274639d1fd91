/-
  Plain facts on numbers for the heat model: no program in sight.
-/
namespace Go.Heat

theorem ediv_of {E C q : Int} (hC : 0 < C) (h1 : C * q ≤ E) (h2 : E < C * (q + 1)) : E / C = q := by
  have a : q ≤ E / C := Int.le_ediv_of_mul_le hC (by rw [Int.mul_comm]; exact h1)
  have b : E / C < q + 1 := Int.ediv_lt_of_lt_mul hC (by rw [Int.mul_comm]; exact h2)
  omega

/-- The code's way to the floor. -/
theorem floor_code {E C : Int} (hC : 0 < C) : (if E.tmod C < 0 then E.tdiv C - 1 else E.tdiv C) = E / C := by
  have h := Int.mul_tdiv_add_tmod E C
  have h1 := Int.tmod_lt_of_pos E hC
  have h2 : -C < E.tmod C := Int.lt_tmod_of_pos E hC
  symm
  split
  · refine ediv_of hC ?_ ?_
    · rw [Int.mul_sub]; omega
    · rw [show E.tdiv C - 1 + 1 = E.tdiv C by omega]; omega
  · refine ediv_of hC ?_ ?_
    · omega
    · rw [Int.mul_add]; omega

theorem tdiv_bound {E C B : Int} (h1 : -B ≤ E) (h2 : E ≤ B) : -B ≤ E.tdiv C ∧ E.tdiv C ≤ B := by
  have h := Int.natAbs_tdiv_le_natAbs E C
  omega

theorem ediv_bound {E C B : Int} (hC : 0 < C) (h1 : -B ≤ E) (h2 : E ≤ B) : -B ≤ E / C ∧ E / C ≤ B := by
  have hB : 0 ≤ B := by omega
  constructor
  · refine Int.le_ediv_of_mul_le hC ?_
    have : B * 1 ≤ B * C := Int.mul_le_mul_of_nonneg_left (by omega) hB
    rw [Int.neg_mul]; omega
  · have : E / C < B + 1 := by
      refine Int.ediv_lt_of_lt_mul hC ?_
      have : (B + 1) * 1 ≤ (B + 1) * C := Int.mul_le_mul_of_nonneg_left (by omega) (by omega)
      omega
    omega

end Go.Heat
