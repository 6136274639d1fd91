/-
  Classes: the contracts of prefAbove, classOf, Class, and of the reference's above, bar, Class.
-/
import Derived.Test.YtfodidlecpiohaaR2
namespace Go.Proofs.Ytfodidlecpiohaa
open Go.Eng

def abF (T : List FS) : Nat → Int → Bool
  | 0, _ => true
  | n + 1, i => if i < 0 then true else if (fnAt T i.toNat).pref = false then false else abF T n (fnAt T i.toNat).parent
/-- All bridges above function 'i' have a wide window. -/
def aboveF (T : List FS) (i : Nat) : Bool := abF T (T.length + 1) (fnAt T i).parent

theorem abF_neg {T : List FS} {i : Int} (h : i < 0) : ∀ m, abF T m i = true
  | 0 => rfl
  | m + 1 => by unfold abF; rw [if_pos h]

theorem abF_fuel {T : List FS} (hv : ValidT T) (n : Nat) : ∀ (i : Int), i < T.length → i.toNat + 1 ≤ n → abF T n i = abF T (i.toNat + 1) i := by
  induction n using Nat.strongRecOn with
  | _ n ih =>
    intro i hi h
    obtain ⟨m, rfl⟩ : ∃ m, n = m + 1 := ⟨n - 1, by omega⟩
    by_cases c0 : i < 0
    · rw [abF_neg c0, abF_neg c0]
    · unfold abF
      rw [if_neg c0, if_neg c0]
      split
      · rfl
      · have hp := (hv.2 i.toNat (by omega)).pa
        by_cases c : (fnAt T i.toNat).parent < 0
        · rw [abF_neg c, abF_neg c]
        · rw [ih m (by omega) _ (by omega) (by omega), ih i.toNat (by omega) _ (by omega) (by omega)]

theorem abF_step {T : List FS} (hv : ValidT T) {m : Nat} (hm : m < T.length) (hp : (fnAt T m).pref = true) : abF T ((m : Int).toNat + 1) m = abF T ((fnAt T m).parent.toNat + 1) (fnAt T m).parent := by
  have hpa := (hv.2 m hm).pa
  conv => lhs; unfold abF
  rw [if_neg (by omega), Int.toNat_natCast, if_neg (by rw [hp]; simp)]
  by_cases c : (fnAt T m).parent < 0
  · rw [abF_neg c, abF_neg c]
  · exact abF_fuel hv m _ (by omega) (by omega)

theorem prefAbove_spec (T : List FS) (s : Sl) (i : Nat) (H : Heap) (h : Topo H s T) (hv : ValidT T) (hi : i < T.length) :
    CallsH Try.prog n_resources_prefAbove #[.slice s.p s.n s.c, .int .i64 i] H (fun v H' => v = .bool (aboveF T i) ∧ H' = H) := by
  refine F_resources_prefAbove_ok _ _ ?_
  unfold F_resources_prefAbove
  have hn := h.len
  obtain ⟨a, hp, hr⟩ := h.at hi
  have hpa := (hv.2 i hi).pa
  refine ⟨by omega, by omega, unSome_mk hp ⟨_, (rdFn hr).1, fun j H' => H' = H ∧ -1 ≤ j ∧ j < T.length ∧ aboveF T i = abF T (j.toNat + 1) j, fun j _ => (j + 1).toNat, ⟨rfl, by omega, by omega, abF_fuel hv _ _ (by omega) (by omega)⟩, ?_⟩⟩
  rintro j H1 ⟨rfl, hj0, hj, hab⟩
  unfold F_resources_prefAbove_r1
  refine iteB_d (fun c => ?_) (fun c => ⟨by rw [hab]; unfold abF; rw [if_pos (by omega)], rfl⟩)
  obtain ⟨m, rfl⟩ := Int.eq_ofNat_of_zero_le c
  obtain ⟨b, hq, hr2⟩ := h.at (i := m) (by omega)
  obtain ⟨r0, _, _, _, _, r5, _⟩ := rdFn hr2
  have hpm := (hv.2 m (by omega)).pa
  refine ⟨by omega, by omega, unSome_mk hq ⟨_, r5, iteB_not (fun c1 => ⟨?_, rfl⟩) (fun c1 => ⟨by omega, by omega, unSome_mk hq ⟨_, r0, ⟨rfl, by omega, by omega, ?_⟩, by dsimp only; omega⟩⟩)⟩⟩
  · rw [hab]; unfold abF; rw [if_neg (by omega), Int.toNat_natCast, if_pos c1]
  · rw [hab]; exact abF_step hv (by omega) c1

theorem above_spec (T : List FS) (s : Sl) (i : Nat) (H : Heap) (h : Topo H s T) (hv : ValidT T) (hi : i < T.length) :
    CallsH Try.prog n_ref18_above #[.slice s.p s.n s.c, .int .i64 i] H (fun v H' => v = .bool (aboveF T i) ∧ H' = H) := by
  refine F_ref18_above_ok _ _ ?_
  unfold F_ref18_above
  have hn := h.len
  obtain ⟨a, hp, hr⟩ := h.at hi
  have hpa := (hv.2 i hi).pa
  refine ⟨by omega, by omega, unSome_mk hp ⟨_, (rdFn hr).1, fun j H' => H' = H ∧ -1 ≤ j ∧ j < T.length ∧ aboveF T i = abF T (j.toNat + 1) j, fun j _ => (j + 1).toNat, ⟨rfl, by omega, by omega, abF_fuel hv _ _ (by omega) (by omega)⟩, ?_⟩⟩
  rintro j H1 ⟨rfl, hj0, hj, hab⟩
  unfold F_ref18_above_r1
  refine iteB_d (fun c => ?_) (fun c => ⟨by rw [hab]; unfold abF; rw [if_pos (by omega)], rfl⟩)
  obtain ⟨m, rfl⟩ := Int.eq_ofNat_of_zero_le c
  obtain ⟨b, hq, hr2⟩ := h.at (i := m) (by omega)
  obtain ⟨r0, _, _, _, _, r5, _⟩ := rdFn hr2
  have hpm := (hv.2 m (by omega)).pa
  refine ⟨by omega, by omega, unSome_mk hq ⟨_, r5, iteB_not (fun c1 => ⟨?_, rfl⟩) (fun c1 => ⟨by omega, by omega, unSome_mk hq ⟨_, r0, ⟨rfl, by omega, by omega, ?_⟩, by dsimp only; omega⟩⟩)⟩⟩
  · rw [hab]; unfold abF; rw [if_neg (by omega), Int.toNat_natCast, if_pos c1]
  · rw [hab]; exact abF_step hv (by omega) c1

def classF (T : List FS) (high : Bool) (i : Nat) (k : Int) : Int := if k = 1 then 0 else if k = 4 ∧ high = true ∧ aboveF T i = true then 2 else 1

theorem classOf_spec (T : List FS) (s : Sl) (high : Bool) (i : Nat) (k : Int) (H : Heap) (h : Topo H s T) (hv : ValidT T) (hi : i < T.length) :
    CallsH Try.prog n_resources_classOf #[.slice s.p s.n s.c, .bool high, .int .i64 i, .int .i64 k] H (fun v H' => v = .int .i64 (classF T high i k) ∧ H' = H) := by
  refine F_resources_classOf_ok _ _ _ _ ?_
  unfold F_resources_classOf
  refine iteB_beq (fun c => ⟨by unfold classF; rw [if_pos c], rfl⟩) (fun c => iteB_beq (fun c1 => iteB_intro (fun c2 => ?_) (fun c2 => ⟨by unfold classF; rw [if_neg c, if_neg (by rw [c2]; simp)], rfl⟩)) (fun c1 => ⟨by unfold classF; rw [if_neg c, if_neg (fun hh => c1 hh.1)], rfl⟩))
  refine (prefAbove_spec T s i H h hv hi).mono ?_
  rintro v H1 ⟨rfl, rfl⟩
  refine ⟨_, rfl, iteB_intro (fun c3 => ⟨?_, rfl⟩) (fun c3 => ⟨?_, rfl⟩)⟩
  · unfold classF; rw [if_neg c, if_pos ⟨c1, c2, c3⟩]
  · unfold classF; rw [if_neg c, if_neg (by rw [c3]; simp)]

end Go.Proofs.Ytfodidlecpiohaa
