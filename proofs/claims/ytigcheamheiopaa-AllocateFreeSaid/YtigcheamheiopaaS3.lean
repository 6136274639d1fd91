/-
  The order of the items: what a stable sort leaves is ordF. The stable sort of at most 20 items.
-/
import Derived.Test.YtigcheamheiopaaS2
namespace Go.Proofs.Ytigcheamheiopaa
open Go.Eng
set_option linter.unusedVariables false

theorem filter_split {l : List Nat} {p q r : Nat → Bool} (h : ∀ x ∈ l, r x = (p x || q x)) (hd : ∀ x ∈ l, ¬ (p x = true ∧ q x = true)) : (l.filter p ++ l.filter q).Perm (l.filter r) := by
  induction l with
  | nil => simp
  | cons x l ih =>
    have ih' := ih (fun y hy => h y (by simp [hy])) (fun y hy => hd y (by simp [hy]))
    have hx := h x (by simp)
    have hxd := hd x (by simp)
    cases hp : p x with
    | true =>
      have hq : q x = false := by cases hq : q x with | true => exact absurd ⟨hp, hq⟩ hxd | false => rfl
      rw [List.filter_cons_of_pos hp, List.filter_cons_of_neg (by simp [hq]), List.filter_cons_of_pos (by rw [hx, hp]; rfl)]
      exact ih'.cons x
    | false =>
      cases hq : q x with
      | true =>
        rw [List.filter_cons_of_neg (by simp [hp]), List.filter_cons_of_pos hq, List.filter_cons_of_pos (by rw [hx, hp, hq]; rfl)]
        exact List.perm_middle.trans (ih'.cons x)
      | false =>
        rw [List.filter_cons_of_neg (by simp [hp]), List.filter_cons_of_neg (by simp [hq]), List.filter_cons_of_neg (by rw [hx, hp, hq]; simp)]
        exact ih'

def Bef (S : List Int) (i j : Nat) : Prop := S.getD j 0 < S.getD i 0 ∨ (S.getD i 0 = S.getD j 0 ∧ i < j)

theorem ordN_spec {S : List Int} (hI : ItemsOk S) : ∀ m, m ≤ 45 → (ordN S m).Perm ((List.range S.length).filter (fun j => decide (S.getD j 0 > 44 - (m : Int)))) ∧ (ordN S m).Pairwise (Bef S) := by
  intro m
  induction m with
  | zero =>
    intro _
    have h0 : (List.range S.length).filter (fun j => decide (S.getD j 0 > 44 - ((0 : Nat) : Int))) = [] := by
      rw [List.filter_eq_nil_iff]
      intro j hj
      have := hI.2 _ (getD_mem' (l := S) (k := j) 0 (by simpa using hj))
      rw [decide_eq_true_eq]
      omega
    rw [h0]
    exact ⟨.refl _, List.Pairwise.nil⟩
  | succ m ih =>
    intro hm
    obtain ⟨h1, h2⟩ := ih (by omega)
    rw [ordN_succ]
    refine ⟨?_, ?_⟩
    · refine (h1.append_right _).trans (filter_split (fun x hx => ?_) (fun x hx => ?_))
      · rw [Bool.eq_iff_iff]
        simp only [Bool.or_eq_true, decide_eq_true_eq]
        omega
      · simp only [decide_eq_true_eq]
        omega
    · rw [List.pairwise_append]
      refine ⟨h2, ?_, fun a ha b hb => ?_⟩
      · refine List.Pairwise.imp_of_mem (R := fun i j => i < j) (fun {i j} hi hj hij => ?_) (List.Pairwise.filter _ (List.pairwise_lt_range))
        have e1 : S.getD i 0 = ((44 - m : Nat) : Int) := by simpa using (List.mem_filter.1 hi).2
        have e2 : S.getD j 0 = ((44 - m : Nat) : Int) := by simpa using (List.mem_filter.1 hj).2
        exact .inr ⟨by omega, hij⟩
      · have e1 : S.getD a 0 > 44 - (m : Int) := by simpa using (List.mem_filter.1 (h1.mem_iff.1 ha)).2
        have e2 : S.getD b 0 = ((44 - m : Nat) : Int) := by simpa using (List.mem_filter.1 hb).2
        exact .inl (by omega)

theorem ordF_perm {S : List Int} (hI : ItemsOk S) : (ordF S).Perm (List.range S.length) := by
  have h := (ordN_spec hI 45 (Nat.le_refl _)).1
  have e : (List.range S.length).filter (fun j => decide (S.getD j 0 > 44 - ((45 : Nat) : Int))) = List.range S.length := by
    rw [List.filter_eq_self]
    intro j hj
    have := hI.2 _ (getD_mem' (l := S) (k := j) 0 (by simpa using hj))
    rw [decide_eq_true_eq]
    omega
  rw [e] at h
  exact h

theorem ord_unique {S D : List Int} (hI : ItemsOk S) (hp : D.Perm ((List.range S.length).map (fun n : Nat => (n : Int)))) (hs : St S D) (hk : SrtK S D 0 D.length) : D = (ordF S).map (fun n : Nat => (n : Int)) := by
  refine List.Perm.eq_of_pairwise (le := fun x y => key S y < key S x ∨ (key S x = key S y ∧ x < y)) (fun a b _ _ h1 h2 => by omega) ?_ ?_ (hp.trans ((ordF_perm hI).map _).symm)
  · refine List.pairwise_iff_getElem.2 (fun i j hi hj hij => ?_)
    have e1 : D.getD i 0 = D[i] := by simp [List.getD, hi]
    have e2 : D.getD j 0 = D[j] := by simp [List.getD, hj]
    have h1 := hk i j (Nat.zero_le _) hij hj
    have h2 := hs i j hij hj
    unfold ky at h1 h2
    rw [e1, e2] at h1 h2
    by_cases e : key S D[i] = key S D[j]
    · exact .inr ⟨e, h2 e⟩
    · exact .inl (by omega)
  · rw [List.pairwise_map]
    refine List.Pairwise.imp (fun {i j} h => ?_) (ordN_spec hI 45 (Nat.le_refl _)).2
    unfold key
    simp only [Int.toNat_natCast]
    unfold Bef at h
    omega

/-- Rows of so many items, each sorted. -/
def Rws (S D : List Int) (w n : Nat) : Prop := ∀ u, SrtK S D (w * u) (min (w * u + w) n)

theorem srtK_out {S D E : List Int} {a b p q : Nat} (h : SrtK S D p q) (r : Rw a b D E) (ho : q ≤ a ∨ b ≤ p) : SrtK S E p q := fun i j h1 h2 h3 => by
  unfold ky
  rw [r.out i (by omega), r.out j (by omega)]
  exact h i j h1 h2 h3

theorem stable_spec (H0 : Heap) {ob cb : Nat} {z : Sl} {S D : List Int} (c : SC H0 ob cb z S) (hD : OB H0 ob D) (hr : ∀ x ∈ D, 0 ≤ x ∧ x < S.length) (hn : D.length ≤ 20) :
    CallsH Try.prog n_slices_stableCmpFunc_int #[.slice (some ⟨ob, 0, none⟩) D.length D.length, .int .i64 (D.length : Int), .func (.func 35) #[] #[.pointer (some ⟨cb, 0, none⟩)]] H0
      (SP ob H0 (fun D' => Rw 0 D.length D D' ∧ (St S D → St S D') ∧ SrtK S D' 0 D.length)) := by
  refine F_slices_stableCmpFunc_int_ok ⟨some ⟨ob, 0, none⟩, D.length, D.length⟩ _ _ ?_
  unfold F_slices_stableCmpFunc_int
  refine ⟨fun a b H' => ∃ t : Nat, a = ((20 * t : Nat) : Int) ∧ b = ((20 * t + 20 : Nat) : Int) ∧ 20 * t ≤ D.length ∧ ∃ D1, OB H' ob D1 ∧ Mods [ob] H0 H' ∧ Rw 0 D.length D D1 ∧ (St S D → St S D1) ∧ ∀ u, u < t → SrtK S D1 (20 * u) (20 * u + 20), fun a _ _ => (D.length - a).toNat, ⟨0, rfl, rfl, by omega, D, hD, .refl _ _, .refl _ _ _, id, fun u hu => by omega⟩, ?_⟩
  rintro a b H1 ⟨t, rfl, rfl, ht, D1, o1, m1, r1, s1, k1⟩
  unfold F_slices_stableCmpFunc_int_r3
  have l1 := r1.len
  have w1 := r1.mem hr
  have hins := fun (b : Nat) (hab : 20 * t ≤ b) (hb : b ≤ D1.length) => insertion_spec H1 (c.mods m1) o1 w1 (20 * t) b hab hb (by omega)
  rw [l1] at hins
  refine iteB_dec (fun d => (hins (20 * t + 20) (by omega) (by omega)).mono ?_) (fun d => (hins D.length (by omega) (by omega)).mono ?_)
  · rintro v H2 ⟨rfl, D2, o2, m2, r2, s2, k2⟩
    refine ⟨rfl, letV_mk ((20 * (t + 1) + 20 : Nat) : Int) (by rw [i64_in (by omega)]; omega) ⟨⟨t + 1, by omega, rfl, by omega, D2, o2, m1.trans m2, r1.trans (r2.mono (by omega) (by omega)), fun h => s2 (s1 h), fun u hu => ?_⟩, by dsimp only; omega⟩⟩
    by_cases e : u = t
    · subst e; exact k2
    · exact srtK_out (k1 u (by omega)) r2 (by omega)
  · rintro v H2 ⟨rfl, D2, o2, m2, r2, s2, k2⟩
    have hrws : Rws S D2 20 D.length := fun u => by
      by_cases e : u < t
      · have := srtK_out (k1 u e) r2 (by omega)
        exact fun p q h1 h2 h3 => this p q h1 h2 (by omega)
      · by_cases e2 : u = t
        · subst e2
          exact fun p q h1 h2 h3 => k2 p q h1 h2 (by omega)
        · exact fun p q h1 h2 h3 => by omega
    refine ⟨rfl, fun w H' => w = 20 ∧ H' = H2, fun _ _ => 0, ⟨rfl, rfl⟩, ?_⟩
    rintro w H3 ⟨rfl, rfl⟩
    unfold F_slices_stableCmpFunc_int_r2
    refine iteB_dec (fun d3 => by omega) (fun d3 => ⟨rfl, D2, o2, m1.trans m2, r1.trans (r2.mono (by omega) (by omega)), fun h => s2 (s1 h), ?_⟩)
    have := hrws 0
    exact fun p q h1 h2 h3 => this p q (by omega) h2 (by omega)

theorem SortStable_spec (H0 : Heap) {ob cb : Nat} {z : Sl} {S D : List Int} (c : SC H0 ob cb z S) (hD : OB H0 ob D) (hr : ∀ x ∈ D, 0 ≤ x ∧ x < S.length) (hn : D.length ≤ 20) :
    CallsH Try.prog n_slices_SortStableFunc_sl_int_int #[.slice (some ⟨ob, 0, none⟩) D.length D.length, .func (.func 35) #[] #[.pointer (some ⟨cb, 0, none⟩)]] H0
      (SP ob H0 (fun D' => Rw 0 D.length D D' ∧ (St S D → St S D') ∧ SrtK S D' 0 D.length)) := by
  refine F_slices_SortStableFunc_sl_int_int_ok ⟨some ⟨ob, 0, none⟩, D.length, D.length⟩ _ ?_
  unfold F_slices_SortStableFunc_sl_int_int
  refine (stable_spec H0 c hD hr hn).mono ?_
  rintro v H1 ⟨rfl, h⟩
  exact ⟨rfl, rfl, h⟩

end Go.Proofs.Ytigcheamheiopaa
