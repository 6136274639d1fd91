/-
  awake.
-/
import Derived.Test.YtinhkngomojheaaI5
namespace Go.Proofs.Ytinhkngomojheaa
open Go.Eng
set_option linter.unusedVariables false

def awF0 : Fn := ⟨-1, 5, 1, 0, true, false, false, 0, 0, 0, []⟩
def awF1 : Fn := ⟨0, 2, 1, 0, false, false, false, 0, 1, 4, []⟩
def awT : List FS := [(awF0, ⟨none, 0, 0⟩), (awF1, ⟨none, 0, 0⟩)]
theorem aw_valid : ValidT awT := by decide +kernel
theorem aw_vec : vecV awT = (0, [0, 32], noCert) := by
  unfold vecV
  rw [if_pos aw_valid]
  decide +kernel
theorem aw_swz {s p : Int} {ok : Bool} (h : SwzIs awT 1 s p ok) : s = 5 ∧ p = 3 ∧ ok = true := by
  have hc : SwzC awT 1 := ⟨aw_valid, by omega, by decide, by decide⟩
  rcases h with ⟨n, _⟩ | ⟨_, rfl, w⟩
  · exact absurd hc n
  · have w' : Swz awT 1 1 5 3 := .step (by decide) (.root (by decide))
    have := w.det w'
    exact ⟨this.1, this.2, rfl⟩

theorem awake_spec (H : Heap) : CallsH Try.prog n_law22_awake #[] H (BoolP true H) := by
  refine F_law22_awake_ok ?_
  unfold F_law22_awake
  refine push_mk (vs := encF (awF0, ⟨none, 0, 0⟩) ++ encF (awF1, ⟨none, 0, 0⟩)) fun H1 e1 z1 b1 => ?_
  have hT : Topo H1 ⟨some ⟨H.size, 0, none⟩, 2, 2⟩ awT := ⟨IsS.of_blk encF_len b1 rfl (fun i v hv => by simpa [awT] using hv), fun x hx => by
    simp only [awT, List.mem_cons, List.not_mem_nil, or_false] at hx
    rcases hx with rfl | rfl
    · exact IsS.nil _ _ _
    · exact IsS.nil _ _ _⟩
  refine (Swizzle_spec awT ⟨some ⟨H.size, 0, none⟩, 2, 2⟩ H1 1 hT).mono ?_
  rintro v H2 ⟨s, p, ok, rfl, hsw, e2⟩
  obtain ⟨rfl, rfl, rfl⟩ := aw_swz hsw
  refine ⟨_, _, _, rfl, (Vectors_spec awT ⟨some ⟨H.size, 0, none⟩, 2, 2⟩ H2 (hT.ext e2)).mono ?_⟩
  rintro v H3 ⟨out, rfl, isO, e3⟩
  rw [aw_vec] at isO ⊢
  refine ⟨out, _, _, _, _, _, rfl, local_mk (vs := encC noCert) rfl rfl fun H5 e5 z5 b5 => ?_⟩
  refine iteB_pos (by decide) (iteB_pos (by decide) (iteB_pos rfl (iteB_pos (by decide) ?_)))
  refine push_mk (vs := [.int .i64 0, .int .i64 32]) fun H6 e6 z6 b6 => ?_
  have isW : Ints .i64 H6 ⟨some ⟨H5.size, 0, none⟩, 2, 2⟩ [0, 32] := Ints.of_blk (k := .i64) (l := [0, 32]) b6 rfl
  refine (Equal_int_spec H6 out ⟨some ⟨H5.size, 0, none⟩, 2, 2⟩ [0, 32] [0, 32] (isO.ext (e5.trans e6)) isW (by simp)).mono ?_
  rintro v H7 ⟨rfl, rfl⟩
  exact ⟨_, rfl, by simp, (((e1.trans e2).trans e3).trans e5).trans e6⟩

end Go.Proofs.Ytinhkngomojheaa
