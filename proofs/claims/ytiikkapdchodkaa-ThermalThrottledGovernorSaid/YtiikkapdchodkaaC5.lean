/-
  The contract of the laws' Some (a valid model from arbitrary arguments), over the shallow reading.
-/
import Derived.Test.YtiikkapdchodkaaC4
namespace Go.Proofs.Ytiikkapdchodkaa
open Go.Eng Go.Heat

structure Sys (D : List Dom) (L : List Lnk) (amb : Int) : Prop where
  vs : VS D L amb
  n5 : D.length ≤ 5
  l12 : L.length ≤ 12
  a100 : -100 ≤ amb ∧ amb ≤ 100
  small : ∀ i, i < D.length → ambOf D i ≤ 6 ∧ capOf D i ≤ 73

def SomeP (H : Heap) (v : Value) (H' : Heap) : Prop :=
  ∃ (b : Nat) (ls : Sl) (D : List Dom) (L : List Lnk) (amb : Int), v = .agg #[.slice (some ⟨b, 0, none⟩) D.length D.length, .slice ls.p ls.n ls.c, .int .i64 amb] ∧ Sys D L amb ∧ H.size ≤ b ∧
    RB H' b t_api_HeatDomain 2 encD D ∧ Own (b + 2) t_api_HeatLink 3 H' ls (L.flatMap encL) ∧ Ext H H'

/-- The same, and how many domains there are at most. -/
def SomeP1 (n0 : Nat) (H : Heap) (v : Value) (H' : Heap) : Prop :=
  ∃ (b : Nat) (ls : Sl) (D : List Dom) (L : List Lnk) (amb : Int), (v = .agg #[.slice (some ⟨b, 0, none⟩) D.length D.length, .slice ls.p ls.n ls.c, .int .i64 amb] ∧ Sys D L amb ∧ H.size ≤ b ∧
    RB H' b t_api_HeatDomain 2 encD D ∧ Own (b + 2) t_api_HeatLink 3 H' ls (L.flatMap encL) ∧ Ext H H') ∧ D.length ≤ max 1 n0

theorem capOf_same {D : List Dom} {i : Nat} {y : Dom} (hi : i < D.length) : capOf (D.set i y) i = y.1 := by simp [capOf, hi]
theorem ambOf_same {D : List Dom} {i : Nat} {y : Dom} (hi : i < D.length) : ambOf (D.set i y) i = y.2 := by simp [ambOf, hi]
theorem capOf_ne {D : List Dom} {i j : Nat} {y : Dom} (hi : i ≠ j) : capOf (D.set i y) j = capOf D j := by simp [capOf, hi]
theorem ambOf_ne {D : List Dom} {i j : Nat} {y : Dom} (hi : i ≠ j) : ambOf (D.set i y) j = ambOf D j := by simp [ambOf, hi]
theorem dom_get {D : List Dom} {i : Nat} (hi : i < D.length) : D[i]? = some (capOf D i, ambOf D i) := by simp [capOf, ambOf, hi]

theorem lA_app {L : List Lnk} {l : Lnk} {k : Nat} (hk : k < L.length) : lA (L ++ [l]) k = lA L k := by simp [lA, List.getElem?_append, hk]
theorem lB_app {L : List Lnk} {l : Lnk} {k : Nat} (hk : k < L.length) : lB (L ++ [l]) k = lB L k := by simp [lB, List.getElem?_append, hk]
theorem lC_app {L : List Lnk} {l : Lnk} {k : Nat} (hk : k < L.length) : lC (L ++ [l]) k = lC L k := by simp [lC, List.getElem?_append, hk]
theorem lA_last {L : List Lnk} {l : Lnk} : lA (L ++ [l]) L.length = l.1 := by simp [lA]
theorem lB_last {L : List Lnk} {l : Lnk} : lB (L ++ [l]) L.length = l.2.1 := by simp [lB]
theorem lC_last {L : List Lnk} {l : Lnk} : lC (L ++ [l]) L.length = l.2.2 := by simp [lC]

theorem need_app {L : List Lnk} {l : Lnk} (i : Nat) : ∀ j, j ≤ L.length → need (L ++ [l]) j i = need L j i := by
  intro j
  induction j with
  | zero => intro _; rfl
  | succ j ih =>
    intro hj
    simp only [need]
    rw [ih (by omega), lA_app (by omega), lB_app (by omega), lC_app (by omega)]

theorem LnkOk.app {n : Nat} {L : List Lnk} {l : Lnk} {k : Nat} (hk : k < L.length) (h : LnkOk n L k) : LnkOk n (L ++ [l]) k := by
  obtain ⟨a0, a1, b0, b1, ne, c0, c1, once⟩ := h
  refine ⟨?_, ?_, ?_, ?_, ?_, ?_, ?_, fun m hm => ?_⟩
  all_goals first | rw [lA_app hk, lB_app hk]; assumption | rw [lA_app hk]; assumption | rw [lB_app hk]; assumption | rw [lC_app hk]; assumption | skip
  have := once m hm
  unfold same2 at this ⊢
  rw [lA_app hk, lB_app hk, lA_app (by omega), lB_app (by omega)]
  exact this

/-- What holds of the system while links are added. -/
structure SP (n : Nat) (D : List Dom) (L : List Lnk) (k : Nat) : Prop where
  len : D.length = n
  ll : L.length ≤ k
  lnk : ∀ j, j < L.length → LnkOk n L j
  dom : ∀ i, i < n → 1 ≤ ambOf D i ∧ ambOf D i ≤ 6 ∧ ambOf D i + need L L.length i ≤ capOf D i ∧ capOf D i ≤ 13 + 5 * k

theorem SP.skip {n : Nat} {D : List Dom} {L : List Lnk} {k : Nat} (h : SP n D L k) : SP n D L (k + 1) :=
  ⟨h.len, by have := h.ll; omega, h.lnk, fun i hi => by have := h.dom i hi; omega⟩

theorem SP.add {n : Nat} {D : List Dom} {L : List Lnk} {k : Nat} (h : SP n D L k) {A B C : Int} (hA : 0 ≤ A ∧ A < n) (hB : 0 ≤ B ∧ B < n) (hC : 1 ≤ C ∧ C ≤ 5) (hAB : A ≠ B)
    (honce : ∀ m, m < L.length → ¬ ((lA L m = A ∧ lB L m = B) ∨ (lA L m = B ∧ lB L m = A))) {D1 : List Dom} (h1 : D1.length = n)
    (hca : ∀ i, i < n → ambOf D1 i = ambOf D i) (hcc : ∀ i, i < n → capOf D1 i = capOf D i + ((if A.toNat = i then C else 0) + (if B.toNat = i then C else 0))) : SP n D1 (L ++ [(A, B, C)]) (k + 1) := by
  refine ⟨h1, by have := h.ll; simp; omega, fun j hj => ?_, fun i hi => ?_⟩
  · by_cases e : j < L.length
    · exact (h.lnk j e).app e
    · have : j = L.length := by simp at hj; omega
      subst this
      refine ⟨?_, ?_, ?_, ?_, ?_, ?_, ?_, fun m hm => ?_⟩
      all_goals first | rw [lA_last, lB_last] | rw [lA_last] | rw [lB_last] | rw [lC_last] | skip
      all_goals try (dsimp only; omega)
      unfold same2
      rw [lA_last, lB_last, lA_app hm, lB_app hm]
      exact honce m hm
  · have hd := h.dom i hi
    rw [hca i hi, hcc i hi]
    have hn : need (L ++ [(A, B, C)]) (L ++ [(A, B, C)]).length i = need L L.length i + ((if A.toNat = i then C else 0) + (if B.toNat = i then C else 0)) := by
      rw [List.length_append, List.length_singleton]
      simp only [need]
      rw [need_app i L.length (Nat.le_refl _), lA_last, lB_last, lC_last]
    rw [hn]
    have hne : A.toNat ≠ B.toNat := by omega
    by_cases eA : A.toNat = i
    · have eB : ¬ B.toNat = i := by omega
      rw [if_pos eA, if_neg eB]
      omega
    · rw [if_neg eA]
      by_cases eB : B.toNat = i
      · rw [if_pos eB]; omega
      · rw [if_neg eB]; omega

theorem SP.sys {n : Nat} {D : List Dom} {L : List Lnk} {k : Nat} {amb : Int} (h : SP n D L k) (hn : 1 ≤ n ∧ n ≤ 5) (hk : k ≤ 12) (ha : -100 ≤ amb ∧ amb ≤ 100) : Sys D L amb := by
  have hlen := h.len
  refine ⟨⟨by omega, by omega, by omega, by omega, fun i hi => ?_, fun j hj => by rw [hlen]; exact h.lnk j hj, fun i hi => ?_⟩, by omega, by have := h.ll; omega, ha, fun i hi => ?_⟩
  all_goals have := h.dom i (by omega); omega

end Go.Proofs.Ytiikkapdchodkaa
