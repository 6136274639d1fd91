/-
 The order of the items: what a stable sort leaves is ordF. The stable sort of at most 20 items.
-/
import Derived.Test.YtnhhncjflnlfaaaGreatS2
namespace Go.Proofs.YtnhhncjflnlfaaaGreat
open Go.Eng
set_option linter.unusedVariables false

theorem filter_split {l : List Nat} {p q r : Nat -> Bool} (h : ∀ x ∈ l, r x = (p x || q x)) (hd : ∀ x ∈ l, ¬ (p x = true /\ q x = true)) : (l.filter p ++ l.filter q).Perm (l.filter r) := by
 induction l with
 | nil => simp
 | cons x l ih =>
  have ih' := ih (fun y hy => h y (by simp [hy])) (fun y hy => hd y (by simp [hy]))
  have hx := h x (by simp)
  have hxd := hd x (by simp)
  cases hp : p x with
  | true =>
   have hq : q x = false := by cases hq : q x with | true => exact absurd ⟨hp, hq⟩ hxd | false => rfl
   rw [List.filter_cons_of_pos hp, List.filter_cons_of_neg (by simp [hq]), List.filter_cons_of_pos (by rw [hx, hp]; rfl)]
   exact ih'.cons x
  | false =>
   cases hq : q x with
   | true =>
    rw [List.filter_cons_of_neg (by simp [hp]), List.filter_cons_of_pos hq, List.filter_cons_of_pos (by rw [hx, hp, hq]; rfl)]
    exact List.perm_middle.trans (ih'.cons x)
   | false =>
    rw [List.filter_cons_of_neg (by simp [hp]), List.filter_cons_of_neg (by simp [hq]), List.filter_cons_of_neg (by rw [hx, hp, hq]; simp)]
    exact ih'

def Bef (S : List Int) (i j : Nat) : Prop := S.getD j 0 < S.getD i 0 \/ (S.getD i 0 = S.getD j 0 /\ i < j)

theorem ordN_spec {S : List Int} (hI : ItemsOk S) : ∀ m, m <= 45 -> (ordN S m).Perm ((List.range S.length).filter (fun j => decide (S.getD j 0 > 44 - (m : Int)))) /\ (ordN S m).Pairwise (Bef S) := by
 intro m
 induction m with
 | zero =>
  intro _
  have h0 : (List.range S.length).filter (fun j => decide (S.getD j 0 > 44 - ((0 : Nat) : Int))) = [] := by
   rw [List.filter_eq_nil_iff]
   intro j hj
   have := hI.2 _ (getD_mem' (l := S) (k := j) 0 (by simpa using hj))
   rw [decide_eq_true_eq]
   omega
  rw [h0]
  exact ⟨.refl _, List.Pairwise.nil⟩
 | succ m ih =>
  intro hm
  obtain ⟨h1, h2⟩ := ih (by omega)
  rw [ordN_succ]
  refine ⟨?_, ?_⟩
  ·refine (h1.append_right _).trans (filter_split (fun x hx => ?_) (fun x hx => ?_))
   ·rw [Bool.eq_iff_iff]
    simp only [Bool.or_eq_true, decide_eq_true_eq]
    omega
   ·simp only [decide_eq_true_eq]
    omega
  ·rw [List.pairwise_append]
   refine ⟨h2, ?_, fun a ha b hb => ?_⟩
   ·refine List.Pairwise.imp_of_mem (R := fun i j => i < j) (fun {i j} hi hj hij => ?_) (List.Pairwise.filter _ (List.pairwise_lt_range))
    have e1 : S.getD i 0 = ((44 - m : Nat) : Int) := by simpa using (List.mem_filter.1 hi).2
    have e2 : S.getD j 0 = ((44 - m : Nat) : Int) := by simpa using (List.mem_filter.1 hj).2
    exact .inr ⟨by omega, hij⟩
   ·have e1 : S.getD a 0 > 44 - (m : Int) := by simpa using (List.mem_filter.1 (h1.mem_iff.1 ha)).2
    have e2 : S.getD b 0 = ((44 - m : Nat) : Int) := by simpa using (List.mem_filter.1 hb).2
    exact .inl (by omega)

theorem ordF_perm {S : List Int} (hI : ItemsOk S) : (ordF S).Perm (List.range S.length) := by
 have h := (ordN_spec hI 45 (Nat.le_refl _)).1
 have e : (List.range S.length).filter (fun j => decide (S.getD j 0 > 44 - ((45 : Nat) : Int))) = List.range S.length := by
  rw [List.filter_eq_self]
  intro j hj
  have := hI.2 _ (getD_mem' (l := S) (k := j) 0 (by simpa using hj))
  rw [decide_eq_true_eq]
  omega
 rw [e] at h
 exact h

theorem ord_unique {S D : List Int} (hI : ItemsOk S) (hp : D.Perm ((List.range S.length).map (fun n : Nat => (n : Int)))) (hs : St S D) (hk : SrtK S D 0 D.length) : D = (ordF S).map (fun n : Nat => (n : Int)) := by
 refine List.Perm.eq_of_pairwise (le := fun x y => key S y < key S x \/ (key S x = key S y /\ x < y)) (fun a b _ _ h1 h2 => by omega) ?_ ?_ (hp.trans ((ordF_perm hI).map _).symm)
 ·refine List.pairwise_iff_getElem.2 (fun i j hi hj hij => ?_)
  have e1 : D.getD i 0 = D[i] := by simp [List.getD, hi]
  have e2 : D.getD j 0 = D[j] := by simp [List.getD, hj]
  have h1 := hk i j (Nat.zero_le _) hij hj
  have h2 := hs i j hij hj
  unfold ky at h1 h2
  rw [e1, e2] at h1 h2
  by_cases e : key S D[i] = key S D[j]
  ·exact .inr ⟨e, h2 e⟩
  ·exact .inl (by omega)
 ·rw [List.pairwise_map]
  refine List.Pairwise.imp (fun {i j} h => ?_) (ordN_spec hI 45 (Nat.le_refl _)).2
  unfold key
  simp only [Int.toNat_natCast]
  unfold Bef at h
  omega

def Rws (S D : List Int) (w n : Nat) : Prop := ∀ u, SrtK S D (w * u) (min (w * u + w) n)

theorem srtK_out {S D E : List Int} {a b p q : Nat} (h : SrtK S D p q) (r : Rw a b D E) (ho : q <= a \/ b <= p) : SrtK S E p q := fun i j h1 h2 h3 => by
 unfold ky
 rw [r.out i (by omega), r.out j (by omega)]
 exact h i j h1 h2 h3

end Go.Proofs.YtnhhncjflnlfaaaGreat
