/-
  InterruptsVectors.
-/
import Derived.Test.YtinhkngomojheaaI7
namespace Go.Proofs.Ytinhkngomojheaa
open Go.Eng
set_option linter.unusedVariables false

structure VLI (H : Heap) (T : List FS) (t : Sl) (H' : Heap) : Prop where
  topo : Topo H' t T
  len : T.length ≤ 9223372036854775807
  bars : ∀ x ∈ T, x.1.bars.length ≤ 9223372036854775807
  ext : Ext H H'

theorem vecV_len (T : List FS) : (vecV T).2.1.length ≤ 64 := by
  unfold vecV
  split
  · rename_i hv
    split
    · simp
    · have := hv.1
      have key : (vecOut T.length (uF T T.length) (placeV [(32, 208)] (sF T T.length)).2.1).length = T.length := by
        have := vecSt_len T.length (uF T T.length) (placeV [(32, 208)] (sF T T.length)).2.1 ((uF T T.length).zip (placeV [(32, 208)] (sF T T.length)).2.1).length
        unfold vecSt at this
        rw [List.take_length] at this
        exact this
      dsimp only
      omega
  · simp

theorem valid_bars {T : List FS} (hv : ValidT T) : ∀ x ∈ T, x.1.bars.length ≤ 9223372036854775807 := fun x hx => by
  obtain ⟨i, hi, rfl⟩ := List.getElem_of_mem hx
  have := (hv.2 i hi).va.bl
  have e : fnAt T i = (T[i]).1 := by simp [fnAt, List.getD, hi]
  rw [e] at this
  have h6 : regs (T[i]).1.bridge ≤ 6 := by unfold regs; split <;> omega
  omega

theorem law_vectors (H : Heap) (s : Sl) (L : List FS) (hL : Topo H s L) (hl : L.length ≤ 9223372036854775807) (hb : ∀ x ∈ L, x.1.bars.length ≤ 9223372036854775807) :
    CallsH Try.prog n_law22_InterruptsVectors #[.slice s.p s.n s.c] H (BoolP true H) := by
  refine F_law22_InterruptsVectors_ok _ ?_
  unfold F_law22_InterruptsVectors
  refine loop2 2 (fun k t H' => ∃ T, VLI H T t H') ⟨L, hL, hl, hb, .refl _⟩ ?_
  rintro k t H1 hk ⟨T, r1⟩
  unfold F_law22_InterruptsVectors_r1
  refine iteB_dec (fun c => (Vectors_spec T t H1 r1.topo).mono ?_) (fun c => (awake_spec H1).mono ?_)
  · rintro v H2 ⟨o1, rfl, is1, e2⟩
    refine ⟨o1, _, _, _, _, _, rfl, local_mk (vs := encC (vecV T).2.2) rfl rfl fun H4 e4 z4 b4 => ?_⟩
    have x4 := e2.trans e4
    refine (rVectors_spec T t H4 (r1.topo.ext x4)).mono ?_
    rintro v H5 ⟨o2, rfl, is2, e5⟩
    refine ⟨o2, _, _, _, _, _, rfl, local_mk (vs := encC (vecV T).2.2) rfl rfl fun H7 e7 z7 b7 => ?_⟩
    have x7 := (x4.trans e5).trans e7
    have hvl := vecV_len T
    refine (Equal_int_spec H7 o1 o2 _ _ (is1.ext ((e4.trans e5).trans e7)) (is2.ext e7) (by omega)).mono ?_
    rintro v H8 ⟨rfl, rfl⟩
    have b8 := b4.ext (e5.trans e7)
    refine ⟨_, rfl, iteB_neg (by simp) ⟨_, b8.rd0 rfl, _, b8.rd (i := 1) rfl, _, b8.rd (i := 2) rfl, _, b8.rd (i := 3) rfl, _, b7.rd0 rfl, _, b7.rd (i := 1) rfl, _, b7.rd (i := 2) rfl, _, b7.rd (i := 3) rfl, iteB_neg (by simp) (iteB_neg (by simp) ?_)⟩⟩
    refine (gTopoT_spec H8 t T 40 (by omega) (r1.topo.ext x7) r1.len r1.bars).mono ?_
    rintro v H9 ⟨t', T', rfl, hT, hv, hT30, e9, ty9, gt9⟩
    exact ⟨t', rfl, letV_mk _ rfl (next2 (by omega) (by omega) ⟨T', hT, by omega, valid_bars hv, (r1.ext.trans x7).trans e9⟩)⟩
  · rintro v H2 ⟨rfl, e2⟩
    exact ⟨_, rfl, rfl, r1.ext.trans e2⟩

end Go.Proofs.Ytinhkngomojheaa
