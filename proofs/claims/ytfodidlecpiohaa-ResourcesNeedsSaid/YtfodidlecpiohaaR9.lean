/-
  The sizes below a bridge, as the tables hold them and as the list of needs tells them: the same but for their order.
-/
import Derived.Test.YtfodidlecpiohaaL5
import Derived.Test.YtfodidlecpiohaaC2
namespace Go.Proofs.Ytfodidlecpiohaa
open Go.Eng

theorem needsAt_own' {T : List FS} {high : Bool} {i : Nat} (hi : i < T.length) : needsAt T high i = ownL T high i (nB T high (T.length - 1 - i)).2 := by
  rw [← needsAt_eq (k := T.length - 1 - i + 1) (by omega) (by omega)]
  have : T.length - 1 - (T.length - 1 - i) = i := by omega
  show upd (nB T high (T.length - 1 - i)).1 (T.length - 1 - (T.length - 1 - i)) (ownL T high (T.length - 1 - (T.length - 1 - i)) (nB T high (T.length - 1 - i)).2) i = _
  rw [this, upd_same]

/-- The needs of the last 'k' functions. -/
def allFrom (T : List FS) (high : Bool) (k : Nat) : List Need := (List.range k).flatMap (fun j => needsAt T high (T.length - k + j))

theorem allFrom_succ {T : List FS} {high : Bool} {k : Nat} (hk : k < T.length) : allFrom T high (k + 1) = needsAt T high (T.length - 1 - k) ++ allFrom T high k := by
  unfold allFrom
  rw [Nat.add_comm k 1, range_add]
  have h1 : (List.range 1).flatMap (fun j => needsAt T high (T.length - (1 + k) + j)) = needsAt T high (T.length - 1 - k) := by
    simp [List.range_succ]
    congr 1
    omega
  rw [h1]
  congr 1
  congr 1
  funext j
  congr 1
  omega
theorem allFrom_all (T : List FS) (high : Bool) : allFrom T high T.length = needsAll T high := by
  unfold allFrom needsAll
  congr 1
  funext j
  congr 1
  omega

theorem addAll_at (par : Int) (p c : Nat) (hc : c < 3) : ∀ (L : List Need) (S : Nat → List Int), (∀ x ∈ L, 0 ≤ x.2.2.1 ∧ x.2.2.1 < 3) →
    addAll par S L (p * 3 + c) = S (p * 3 + c) ++ (L.filter (fun x : Need => decide (x.2.2.1 = (c : Int) ∧ par = (p : Int)))).map (fun x : Need => x.2.2.2) := by
  intro L
  induction L with
  | nil => intro S _; simp [addAll]
  | cons x L ih =>
    intro S hL
    have hx := hL x (by simp)
    show addAll par (addN par S x) L (p * 3 + c) = _
    rw [ih _ (fun y hy => hL y (by simp [hy]))]
    have key : addN par S x (p * 3 + c) = S (p * 3 + c) ++ (if x.2.2.1 = (c : Int) ∧ par = (p : Int) then [x.2.2.2] else []) := by
      unfold addN
      by_cases h0 : 0 ≤ par
      · rw [if_pos h0]
        by_cases he : x.2.2.1 = (c : Int) ∧ par = (p : Int)
        · have : par.toNat * 3 + x.2.2.1.toNat = p * 3 + c := by omega
          rw [this, upd_same, if_pos he]
        · have : p * 3 + c ≠ par.toNat * 3 + x.2.2.1.toNat := by omega
          rw [upd_ne this, if_neg he, List.append_nil]
      · rw [if_neg h0, if_neg (by omega), List.append_nil]
    rw [key, List.append_assoc]
    congr 1
    rw [List.filter_cons]
    by_cases he : x.2.2.1 = (c : Int) ∧ par = (p : Int)
    · rw [if_pos he, if_pos (by simpa using he)]; rfl
    · rw [if_neg he, if_neg (by simpa using he)]; rfl

theorem needsAt_fst {T : List FS} {high : Bool} {i : Nat} (hi : i < T.length) : ∀ x ∈ needsAt T high i, x.1 = i := fun x hx => by
  rw [needsAt_own' hi] at hx
  exact (ownL_pref _ _ _ _ x hx).1

theorem belQ_at {T : List FS} {high : Bool} {i : Nat} (hi : i < T.length) (p c : Int) : (needsAt T high i).filter (belQ T p c) = (needsAt T high i).filter (fun x => decide (x.2.2.1 = c ∧ (fnAt T i).parent = p)) := by
  apply List.filter_congr
  intro x hx
  have h1 := needsAt_fst hi x hx
  unfold belQ
  rw [h1, Int.toNat_natCast]
  congr 1
  apply propext
  constructor
  · rintro ⟨a, _, b⟩; exact ⟨a, b⟩
  · rintro ⟨a, b⟩; exact ⟨a, by omega, b⟩

theorem tab_perm (T : List FS) (high : Bool) (p c : Nat) (hc : c < 3) : ∀ k, k ≤ T.length → ((nB T high k).2 (p * 3 + c)).Perm (((allFrom T high k).filter (belQ T p c)).map (fun x => x.2.2.2)) := by
  intro k
  induction k with
  | zero => intro _; simp [nB, allFrom]
  | succ k ih =>
    intro hk
    have hi : T.length - 1 - k < T.length := by omega
    have hown : ownL T high (T.length - 1 - k) (nB T high k).2 = needsAt T high (T.length - 1 - k) := by
      rw [needsAt_own' hi]
      congr 1
      rw [show T.length - 1 - (T.length - 1 - k) = k by omega]
    have h1 : (nB T high (k + 1)).2 = addAll (fnAt T (T.length - 1 - k)).parent (nB T high k).2 (needsAt T high (T.length - 1 - k)) := by
      rw [← hown]; rfl
    rw [h1, addAll_at _ p c hc _ _ (by rw [← hown]; exact ownL_cl _ _ _ _), allFrom_succ (by omega), List.filter_append, List.map_append, belQ_at hi]
    exact (List.Perm.append_right _ (ih (by omega))).trans List.perm_append_comm

/-- Only later functions lie below a bridge. -/
theorem bel_later {T : List FS} {high : Bool} (hv : ValidT T) {i : Nat} (hi : i < T.length) (c : Int) : (needsAll T high).filter (belQ T i c) = (allFrom T high (T.length - 1 - i)).filter (belQ T i c) := by
  have step : ∀ d, T.length - 1 - i + d ≤ T.length → (allFrom T high (T.length - 1 - i + d)).filter (belQ T i c) = (allFrom T high (T.length - 1 - i)).filter (belQ T i c) := by
    intro d
    induction d with
    | zero => intro _; rfl
    | succ d ih =>
      intro hd
      rw [show T.length - 1 - i + (d + 1) = T.length - 1 - i + d + 1 by omega, allFrom_succ (by omega), List.filter_append, ih (by omega)]
      have hj : T.length - 1 - (T.length - 1 - i + d) < T.length := by omega
      have : (needsAt T high (T.length - 1 - (T.length - 1 - i + d))).filter (belQ T i c) = [] := by
        rw [belQ_at hj, List.filter_eq_nil_iff]
        intro x hx
        have := (hv.2 _ hj).pa
        simp
        omega
      rw [this, List.nil_append]
  rw [← allFrom_all]
  have := step (i + 1) (by omega)
  rw [show T.length - 1 - i + (i + 1) = T.length by omega] at this
  exact this

theorem sumW_perm {l m : List Int} (h : l.Perm m) : sumW l = sumW m := by
  induction h with
  | nil => rfl
  | cons x _ ih => simp only [sumW, ih]
  | swap x y l => simp only [sumW]; omega
  | trans _ _ a b => exact a.trans b
theorem WOk_perm {l m : List Int} (h : l.Perm m) (c : Int) (hot : Bool) : WOk l c hot ↔ WOk m c hot := by
  have key : ∀ {l m : List Int}, l.Perm m → WOk l c hot → WOk m c hot := fun {l m} h ⟨a, b, d, e⟩ =>
    ⟨fun ⟨x, y⟩ => a ⟨by subst x; exact h.eq_nil, y⟩, by rw [← h.length_eq]; exact b, d, fun x hx => e x (h.mem_iff.2 hx)⟩
  exact ⟨key h, key h.symm⟩
theorem wszF_perm {l m : List Int} (h : l.Perm m) (c : Int) (hot : Bool) : wszF l c hot = wszF m c hot := by
  unfold wszF
  rw [sumW_perm h]
  by_cases hw : WOk l c hot
  · rw [if_pos hw, if_pos ((WOk_perm h c hot).1 hw)]
  · rw [if_neg hw, if_neg (fun hh => hw ((WOk_perm h c hot).2 hh))]

/-- The sizes of the needs of a list below bridge 'i' in class 'c'. -/
def belS (T : List FS) (N : List Need) (i : Nat) (c : Int) : List Int := (N.filter (belQ T i c)).map (fun x => x.2.2.2)

theorem wszF_isW {l : List Int} {c : Int} {hot : Bool} (h : WOk l c hot) : ∃ w : Nat, wszF l c hot = w ∧ IsW (least c hot) (sumW l) w := by
  have hs := sum_lt h.2.2.2 h.2.1
  have h1 : sumW l ≤ 2 ^ (least c hot + 64) := by
    have := pow_mono (a := 64) (b := least c hot + 64) (by omega)
    have e : (2 : Int) ^ 64 = 18446744073709551616 := by decide
    omega
  exact ⟨_, by unfold wszF; rw [if_pos h], wup_isW _ 64 _ h1⟩

end Go.Proofs.Ytfodidlecpiohaa
