/-
  ResourcesEveryRegister.
-/
import Derived.Test.YtfodidlecpiohaaL4
namespace Go.Proofs.Ytfodidlecpiohaa
open Go.Eng

/-- How many needs functions before 'i' have. -/
def offN (T : List FS) (high : Bool) (i : Nat) : Nat := ((List.range i).flatMap (needsAt T high)).length

theorem offN_succ (T : List FS) (high : Bool) (i : Nat) : offN T high (i + 1) = offN T high i + (needsAt T high i).length := by
  unfold offN; rw [range_flat_succ, List.length_append]

theorem range_add (n d : Nat) (f : Nat → List Need) : (List.range (n + d)).flatMap f = (List.range n).flatMap f ++ (List.range d).flatMap (fun j => f (n + j)) := by
  rw [List.range_add, List.flatMap_append, List.flatMap_map]

/-- Where the needs of function 'i' stand. -/
theorem needsAll_split {T : List FS} {high : Bool} {i : Nat} (hi : i < T.length) : ∃ post, needsAll T high = (List.range i).flatMap (needsAt T high) ++ (needsAt T high i ++ post) ∧ ∀ x ∈ post, x.1 ≠ i := by
  refine ⟨(List.range (T.length - i - 1)).flatMap (fun j => needsAt T high (i + 1 + j)), ?_, ?_⟩
  · unfold needsAll
    have e : T.length = (i + 1) + (T.length - i - 1) := by omega
    conv => lhs; rw [e]
    rw [range_add, range_flat_succ, List.append_assoc]
  · intro x hx
    obtain ⟨j, hj, hxj⟩ := List.mem_flatMap.1 hx
    have hj' := List.mem_range.1 hj
    obtain ⟨S, hS⟩ := needsAt_own (T := T) (high := high) (i := i + 1 + j) (by omega)
    rw [hS] at hxj
    have := (ownL_pref _ _ _ _ x hxj).1
    omega

theorem needsAll_at {T : List FS} {high : Bool} {i w : Nat} (hi : i < T.length) (hw : w < (needsAt T high i).length) : (needsAll T high)[offN T high i + w]? = (needsAt T high i)[w]? := by
  obtain ⟨post, he, _⟩ := needsAll_split (high := high) hi
  rw [he]
  unfold offN
  rw [List.getElem?_append_right (by omega), Nat.add_sub_cancel_left, List.getElem?_append_left hw]

theorem needsAll_next {T : List FS} {high : Bool} {i : Nat} (hi : i < T.length) {x : Need} (hx : (needsAll T high)[offN T high (i + 1)]? = some x) : x.1 ≠ i := by
  obtain ⟨post, he, hp⟩ := needsAll_split (high := high) hi
  rw [he, offN_succ] at hx
  unfold offN at hx
  rw [List.getElem?_append_right (by omega), Nat.add_sub_cancel_left, List.getElem?_append_right (by omega), Nat.sub_self] at hx
  exact hp x (List.mem_of_getElem? hx)

theorem regL_mono (T : List FS) (high : Bool) (i : Nat) (B : List Bar) (j : Nat) : ∀ d, ∃ r, regL T high i B (j + d) = regL T high i B j ++ r
  | 0 => ⟨[], by simp⟩
  | d + 1 => by
    obtain ⟨r, hr⟩ := regL_mono T high i B j d
    refine ⟨r ++ (if bk B (j + d) = 0 then [] else [((i : Int), ((j + d : Nat) : Int), classF T high i (bk B (j + d)), bz B (j + d))]), ?_⟩
    show regL T high i B (j + d) ++ _ = _
    rw [hr, List.append_assoc]
    rfl

theorem regL_at {T : List FS} {high : Bool} {i : Nat} {B : List Bar} {j : Nat} (hj : j < B.length) (hk : bk B j ≠ 0) : (regL T high i B B.length)[(regL T high i B j).length]? = some ((i : Int), (j : Int), classF T high i (bk B j), bz B j) := by
  obtain ⟨r, hr⟩ := regL_mono T high i B (j + 1) (B.length - (j + 1))
  rw [show j + 1 + (B.length - (j + 1)) = B.length by omega] at hr
  rw [hr]
  simp only [regL]
  rw [if_neg hk, List.append_assoc, List.getElem?_append_right (by omega), Nat.sub_self]
  rfl
theorem regL_len_le {T : List FS} {high : Bool} {i : Nat} {B : List Bar} {j : Nat} (hj : j ≤ B.length) : (regL T high i B j).length ≤ (regL T high i B B.length).length := by
  obtain ⟨r, hr⟩ := regL_mono T high i B j (B.length - j)
  rw [show j + (B.length - j) = B.length by omega] at hr
  rw [hr, List.length_append]
  omega

theorem winN_neg (T : List FS) (high : Bool) (i : Nat) (S : Nat → List Int) : ∀ n, ∀ x ∈ winN T high i S n, x.2.1 < 0
  | 0, x, h => by simp [winN] at h
  | n + 1, x, h => by
    simp only [winN, List.mem_append] at h
    rcases h with h | h
    · exact winN_neg T high i S n x h
    · split at h
      · simp only [List.mem_singleton] at h
        subst h
        show -1 - (n : Int) < 0
        omega
      · simp at h
theorem winAll_neg {T : List FS} {high : Bool} {i : Nat} {S : Nat → List Int} {x : Need} (h : x ∈ winAll T high i S) : x.2.1 < 0 := by
  unfold winAll at h
  split at h
  · exact winN_neg _ _ _ _ 3 x h
  · simp at h

end Go.Proofs.Ytfodidlecpiohaa
