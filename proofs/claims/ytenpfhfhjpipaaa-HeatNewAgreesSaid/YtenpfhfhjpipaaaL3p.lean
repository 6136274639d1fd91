/-
  The heat model in reverse order, in plain numbers.
-/
import Derived.Test.YtenpfhfhjpipaaaL2
namespace Go.Proofs.Ytenpfhfhjpipaaa
open Go.Eng Go.Heat

theorem tab_succ {α : Type} (k : Nat) (f : Nat → α) : tab (k + 1) f = tab k f ++ [f k] := by simp [tab, List.range_succ]

theorem sumZ_front (g : Nat → Int) : ∀ k, sumZ g (k + 1) = g 0 + sumZ (fun j => g (j + 1)) k := by
  intro k
  induction k with
  | zero => simp [sumZ]
  | succ k ih =>
    rw [show sumZ g (k + 1 + 1) = sumZ g (k + 1) + g (k + 1) from rfl, ih]
    simp only [sumZ]
    omega

theorem sumZ_rev (f : Nat → Int) : ∀ n, sumZ f n = sumZ (fun j => f (n - 1 - j)) n := by
  intro n
  induction n with
  | zero => rfl
  | succ n ih =>
    rw [sumZ_front (fun j => f (n + 1 - 1 - j))]
    simp only [sumZ]
    rw [ih]
    have : sumZ (fun j => f (n - 1 - j)) n = sumZ (fun j => f (n + 1 - 1 - (j + 1))) n := sumZ_congr n (fun i _ => by congr 1; omega)
    rw [this]
    simp
    omega

def nterm (L : List Lnk) (i j : Nat) : Int := (if (lA L j).toNat = i then lC L j else 0) + (if (lB L j).toNat = i then lC L j else 0)
def lterm (L : List Lnk) (T : Nat → Int) (i j : Nat) : Int := (if (lA L j).toNat = i then -flowOf L T j else 0) + (if (lB L j).toNat = i then flowOf L T j else 0)

theorem need_sum (L : List Lnk) (i : Nat) : ∀ k, need L k i = sumZ (nterm L i) k := by
  intro k
  induction k with
  | zero => rfl
  | succ k ih => simp only [need, sumZ, nterm]; rw [ih]
theorem lsum_sum (L : List Lnk) (T : Nat → Int) (i : Nat) : ∀ k, lsum L T k i = sumZ (lterm L T i) k := by
  intro k
  induction k with
  | zero => rfl
  | succ k ih => simp only [lsum, sumZ, lterm]; rw [ih]

def revD (D : List Dom) : List Dom := tab D.length (fun j => (capOf D (D.length - 1 - j), ambOf D (D.length - 1 - j)))
def revL (L : List Lnk) (n : Nat) : List Lnk := tab L.length (fun j => ((n : Int) - 1 - lB L (L.length - 1 - j), (n : Int) - 1 - lA L (L.length - 1 - j), lC L (L.length - 1 - j)))

theorem revD_len (D : List Dom) : (revD D).length = D.length := tab_length _ _
theorem revL_len (L : List Lnk) (n : Nat) : (revL L n).length = L.length := tab_length _ _
theorem revD_cap {D : List Dom} {i : Nat} (hi : i < D.length) : capOf (revD D) i = capOf D (D.length - 1 - i) := by
  unfold capOf revD
  rw [tab_getD _ hi]
  rfl
theorem revD_amb {D : List Dom} {i : Nat} (hi : i < D.length) : ambOf (revD D) i = ambOf D (D.length - 1 - i) := by
  unfold ambOf revD
  rw [tab_getD _ hi]
  rfl
theorem revL_A {L : List Lnk} {n j : Nat} (hj : j < L.length) : lA (revL L n) j = (n : Int) - 1 - lB L (L.length - 1 - j) := by
  conv => lhs; unfold lA revL
  rw [tab_getD _ hj]
theorem revL_B {L : List Lnk} {n j : Nat} (hj : j < L.length) : lB (revL L n) j = (n : Int) - 1 - lA L (L.length - 1 - j) := by
  conv => lhs; unfold lB revL
  rw [tab_getD _ hj]
theorem revL_C {L : List Lnk} {n j : Nat} (hj : j < L.length) : lC (revL L n) j = lC L (L.length - 1 - j) := by
  conv => lhs; unfold lC revL
  rw [tab_getD _ hj]

theorem rev_need {D : List Dom} {L : List Lnk} {amb : Int} (hv : VS D L amb) {i : Nat} (hi : i < D.length) : need (revL L D.length) (revL L D.length).length (D.length - 1 - i) = need L L.length i := by
  rw [need_sum, need_sum, revL_len, sumZ_rev (nterm L i)]
  refine sumZ_congr _ (fun j hj => ?_)
  obtain ⟨a0, a1, b0, b1, ne, c0, c1, _⟩ := hv.lnk (L.length - 1 - j) (by omega)
  unfold nterm
  rw [revL_A hj, revL_B hj, revL_C hj]
  by_cases eA : (lA L (L.length - 1 - j)).toNat = i
  · rw [if_neg (by omega), if_pos (by omega), if_pos eA, if_neg (by omega)]; omega
  · by_cases eB : (lB L (L.length - 1 - j)).toNat = i
    · rw [if_pos (by omega), if_neg (by omega), if_neg eA, if_pos eB]; omega
    · rw [if_neg (by omega), if_neg (by omega), if_neg eA, if_neg eB]

theorem rev_lsum {D : List Dom} {L : List Lnk} {amb : Int} (hv : VS D L amb) {T T' : Nat → Int} (hT : ∀ i, i < D.length → T' i = T (D.length - 1 - i)) {i : Nat} (hi : i < D.length) :
    lsum (revL L D.length) T' (revL L D.length).length (D.length - 1 - i) = lsum L T L.length i := by
  rw [lsum_sum, lsum_sum, revL_len, sumZ_rev (lterm L T i)]
  refine sumZ_congr _ (fun j hj => ?_)
  obtain ⟨a0, a1, b0, b1, ne, c0, c1, _⟩ := hv.lnk (L.length - 1 - j) (by omega)
  have hfl : flowOf (revL L D.length) T' j = -flowOf L T (L.length - 1 - j) := by
    unfold flowOf
    rw [revL_A hj, revL_B hj, revL_C hj, hT _ (by omega), hT _ (by omega), ← Int.mul_neg]
    rw [show D.length - 1 - ((D.length : Int) - 1 - lB L (L.length - 1 - j)).toNat = (lB L (L.length - 1 - j)).toNat by omega]
    rw [show D.length - 1 - ((D.length : Int) - 1 - lA L (L.length - 1 - j)).toNat = (lA L (L.length - 1 - j)).toNat by omega]
    congr 1
    omega
  unfold lterm
  rw [revL_A hj, revL_B hj, hfl]
  by_cases eA : (lA L (L.length - 1 - j)).toNat = i
  · rw [if_neg (by omega), if_pos (by omega), if_pos eA, if_neg (by omega)]; omega
  · by_cases eB : (lB L (L.length - 1 - j)).toNat = i
    · rw [if_pos (by omega), if_neg (by omega), if_neg eA, if_pos eB]; omega
    · rw [if_neg (by omega), if_neg (by omega), if_neg eA, if_neg eB]

theorem rev_VS {D : List Dom} {L : List Lnk} {amb : Int} (hv : VS D L amb) : VS (revD D) (revL L D.length) amb := by
  refine ⟨by rw [revD_len]; exact hv.n1, by rw [revD_len]; exact hv.n16, hv.amb0, hv.amb1, fun i hi => ?_, fun k hk => ?_, fun i hi => ?_⟩
  · rw [revD_len] at hi
    rw [revD_amb hi]
    exact hv.dom _ (by omega)
  · rw [revL_len] at hk
    rw [revD_len]
    obtain ⟨a0, a1, b0, b1, ne, c0, c1, once⟩ := hv.lnk (L.length - 1 - k) (by omega)
    refine ⟨?_, ?_, ?_, ?_, ?_, ?_, ?_, fun m hm => ?_⟩
    · rw [revL_A hk]; omega
    · rw [revL_A hk]; omega
    · rw [revL_B hk]; omega
    · rw [revL_B hk]; omega
    · rw [revL_A hk, revL_B hk]; omega
    · rw [revL_C hk]; omega
    · rw [revL_C hk]; omega
    · have h2 := (hv.lnk (L.length - 1 - m) (by omega)).once (L.length - 1 - k) (by omega)
      unfold same2 at h2 ⊢
      rw [revL_A hk, revL_B hk, revL_A (by omega), revL_B (by omega)]
      omega
  · rw [revD_len] at hi
    rw [revD_amb hi, revD_cap hi]
    have := rev_need hv (i := D.length - 1 - i) (by omega)
    rw [show D.length - 1 - (D.length - 1 - i) = i by omega] at this
    rw [this]
    exact hv.cap _ (by omega)

theorem rev_temp {D : List Dom} {E E' : Nat → Int} (hE : ∀ i, i < D.length → E' i = E (D.length - 1 - i)) {i : Nat} (hi : i < D.length) : tempOf (revD D) E' i = tempOf D E (D.length - 1 - i) := by
  unfold tempOf
  rw [revD_cap hi, hE i hi]

theorem rev_step {D : List Dom} {L : List Lnk} {amb : Int} (hv : VS D L amb) {E E' p p' : Nat → Int} (hE : ∀ i, i < D.length → E' i = E (D.length - 1 - i)) (hp : ∀ i, i < D.length → p' i = p (D.length - 1 - i)) :
    ∀ i, i < D.length → stepE (revD D) (revL L D.length) amb E' p' i = stepE D L amb E p (D.length - 1 - i) := by
  intro i hi
  have hl := rev_lsum hv (T := tempOf D E) (T' := tempOf (revD D) E') (fun i hi => rev_temp hE hi) (i := D.length - 1 - i) (by omega)
  rw [show D.length - 1 - (D.length - 1 - i) = i by omega] at hl
  unfold stepE outOf
  rw [hl, rev_temp hE hi, revD_amb hi, hE i hi, hp i hi]

theorem rev_osum {D : List Dom} {amb : Int} {E E' : Nat → Int} (hE : ∀ i, i < D.length → E' i = E (D.length - 1 - i)) : osum (revD D) amb E' (revD D).length = osum D amb E D.length := by
  rw [osum_sumZ, osum_sumZ, revD_len, sumZ_rev (outOf D amb E)]
  refine sumZ_congr _ (fun i hi => ?_)
  unfold outOf
  rw [rev_temp hE hi, revD_amb hi]

theorem Powers_run (H : Heap) (s : Sl) (raw : List Int) (n : Nat) (most : Int) (h : Ints .i64 H s raw) (hn : n ≤ 1000000) (hm : 0 ≤ most ∧ most ≤ 16777216) :
    CallsH Try.prog n_law38_Powers #[.slice s.p s.n s.c, .int .i64 n, .int .i64 most] H (fun v H' => ∃ s' : Sl, v = .slice s'.p s'.n s'.c ∧ s'.p = some ⟨H.size, 0, none⟩ ∧ Ints .i64 H' s' (tab n (powersF raw most)) ∧ IBlk .i64 H' H.size t_int64 n (powersF raw most) ∧
      powOk (tab n (powersF raw most)) n = true ∧ Ext H H') := by
  refine (Powers_spec H s raw n most h hn (by omega)).mono ?_
  rintro v H' ⟨s', rfl, hp, hs, hb, he⟩
  refine ⟨s', rfl, hp, ?_, hb, powOk_tab (fun i _ => by have := powersF_range raw (most := most) (by omega) i; omega), he⟩
  have := hb.ints s'.c
  obtain ⟨p1, p2, p3⟩ := s'
  simp only at hp hs
  subst hp hs
  exact this

end Go.Proofs.Ytenpfhfhjpipaaa
