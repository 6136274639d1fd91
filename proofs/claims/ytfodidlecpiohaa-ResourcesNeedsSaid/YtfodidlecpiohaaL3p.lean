/-
  Plain facts about needs: whose they are, and when they are prefetchable.
-/
import Derived.Test.YtfodidlecpiohaaL1
namespace Go.Proofs.Ytfodidlecpiohaa
open Go.Eng

def PrefOk (T : List FS) (high : Bool) (i : Nat) (x : Need) : Prop := x.1 = i ∧ (x.2.2.1 = 2 → high = true ∧ aboveF T i = true)

theorem regL_pref (T : List FS) (high : Bool) (i : Nat) (B : List Bar) : ∀ n, ∀ x ∈ regL T high i B n, PrefOk T high i x
  | 0, x, h => by simp [regL] at h
  | n + 1, x, h => by
    simp only [regL, List.mem_append] at h
    rcases h with h | h
    · exact regL_pref T high i B n x h
    · split at h
      · simp at h
      · simp only [List.mem_singleton] at h
        subst h
        refine ⟨rfl, fun hc => ?_⟩
        have hc' : classF T high i (bk B n) = 2 := hc
        unfold classF at hc'
        split at hc'
        · omega
        · split at hc'
          · rename_i h2; exact ⟨h2.2.1, h2.2.2⟩
          · omega
theorem winN_pref (T : List FS) (high : Bool) (i : Nat) (S : Nat → List Int) : ∀ n, ∀ x ∈ winN T high i S n, PrefOk T high i x
  | 0, x, h => by simp [winN] at h
  | n + 1, x, h => by
    simp only [winN, List.mem_append] at h
    rcases h with h | h
    · exact winN_pref T high i S n x h
    · split at h
      · rename_i hw
        simp only [List.mem_singleton] at h
        subst h
        refine ⟨rfl, fun hc => ?_⟩
        have hc' : (n : Int) = 2 := hc
        have := hw.1 (by omega)
        exact ⟨this.1, this.2.2⟩
      · simp at h
theorem ownL_pref (T : List FS) (high : Bool) (i : Nat) (S : Nat → List Int) : ∀ x ∈ ownL T high i S, PrefOk T high i x := by
  intro x hx
  simp only [ownL, List.mem_append] at hx
  rcases hx with hx | hx
  · exact regL_pref _ _ _ _ _ x hx
  · unfold winAll at hx
    split at hx
    · exact winN_pref _ _ _ _ 3 x hx
    · simp at hx
theorem needsAt_own {T : List FS} {high : Bool} {i : Nat} (hi : i < T.length) : ∃ S, needsAt T high i = ownL T high i S := by
  obtain ⟨m, hm⟩ : ∃ m, T.length - i = m + 1 := ⟨T.length - i - 1, by omega⟩
  refine ⟨(nB T high m).2, ?_⟩
  rw [← needsAt_eq (k := T.length - i) (by omega) (by omega), hm]
  have : T.length - 1 - m = i := by omega
  show upd (nB T high m).1 (T.length - 1 - m) (ownL T high (T.length - 1 - m) (nB T high m).2) i = _
  rw [this, upd_same]
theorem needsAll_pref {T : List FS} {high : Bool} {x : Need} (hx : x ∈ needsAll T high) : ∃ i, i < T.length ∧ PrefOk T high i x := by
  obtain ⟨i, hi, hxi⟩ := List.mem_flatMap.1 hx
  have hi' : i < T.length := List.mem_range.1 hi
  obtain ⟨S, hS⟩ := needsAt_own (high := high) hi'
  rw [hS] at hxi
  exact ⟨i, hi', ownL_pref _ _ _ _ x hxi⟩

end Go.Proofs.Ytfodidlecpiohaa
