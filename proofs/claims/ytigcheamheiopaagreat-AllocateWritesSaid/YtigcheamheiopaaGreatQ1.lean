/-
 The laws' helpers: Equal on numbers, space, sizes, awake.
-/
import Derived.Test.YtigcheamheiopaaGreatJQ
namespace Go.Proofs.YtigcheamheiopaaGreat
open Go.Eng
set_option linter.unusedVariables false

theorem Equal_uint64_spec (H : Heap) (a b : Sl) (A B : List Int) (ha : IsS 1 (Go.Eng.encI .u64) H a A) (hb : IsS 1 (Go.Eng.encI .u64) H b B) (hl : A.length ≤ 9223372036854775807) :
  CallsH Tryz.prog n_help_Equal_uint64 #[.slice a.p a.n a.c, .slice b.p b.n b.c] H (fun v H' => v = .bool (decide (A = B)) ∧ H' = H) := by
 refine F_help_Equal_uint64_ok _ _ ?_
 unfold F_help_Equal_uint64
 have na := ha.len
 have nb := hb.len
 refine iteB_bne (fun c => ⟨by rw [decide_eq_false (fun e => c (by rw [na, nb, e]))], rfl⟩) (fun c => ?_)
 have hlen : A.length = B.length := by omega
 refine loop1 A.length (fun k H' => H' = H ∧ ∀ i, i < k → A[i]? = B[i]?) ⟨rfl, fun i hi => by omega⟩ ?_
 rintro k H1 hk ⟨rfl, heq⟩
 unfold F_help_Equal_uint64_r1
 refine iteB_dec (fun c1 => ?_) (fun c1 => ⟨?_, rfl⟩)
 ·have hkA : k < A.length := by omega
  have hkB : k < B.length := by omega
  obtain ⟨p, hp, hr⟩ := IsS.atN ha 0 hkA
  obtain ⟨q, hq, hs⟩ := IsS.atN hb 0 hkB
  have eA : A[k]? = some (A.getD k 0) := by simp [List.getD, hkA]
  have eB : B[k]? = some (B.getD k 0) := by simp [List.getD, hkB]
  generalize A.getD k 0 = x at *
  generalize B.getD k 0 = y at *
  refine ⟨by omega, by omega, unSome_mk hp ⟨_, hr 0 _ rfl, by omega, by omega, unSome_mk hq ⟨_, hs 0 _ rfl, iteB_bne (fun c2 => ⟨?_, rfl⟩) (fun c2 => letV_mk _ rfl (next1 hkA (by omega) ⟨rfl, fun i hi => ?_⟩))⟩⟩⟩
  ·rw [decide_eq_false]
   intro e
   rw [e, eB] at eA
   simp at eA
   exact c2 eA.symm
  ·by_cases e : i = k
   ·subst e
    rw [eA, eB, c2]
   ·exact heq i (by omega)
 ·rw [decide_eq_true]
  apply List.ext_getElem?
  intro i
  by_cases hi : i < A.length
  ·exact heq i (by omega)
  ·rw [List.getElem?_eq_none (by omega), List.getElem?_eq_none (by omega)]

theorem aw1 : placeV [(4096, 16384)] [12, 13] = (0, [4096, 8192], noCert) := by decide +kernel
theorem aw2 : placeV [(4096, 16384)] [13, 13] = (19, [], (0, 13, 16384, 1)) := by decide +kernel
theorem aw3 : RefC [(4096, 16384)] [13, 13] (0, 13, 16384, 1) := by decide +kernel

theorem awake_spec (H : Heap) : CallsH Tryz.prog n_law21_awake #[] H (BoolP true H) := by
 refine F_law21_awake_ok ?_
 unfold F_law21_awake
 have hu : U64L [(4096, 16384)] := fun r hr => by simp at hr; subst hr; dsimp only; omega
 refine push_mk (vs := encR (4096, 16384)) fun H1 e1 z1 b1 => push_mk (vs := [.int .i64 12, .int .i64 13]) fun H2 e2 z2 b2 => ?_
 have hr1 : Rgs H1 ⟨some ⟨H.size, 0, none⟩, 1, 1⟩ [(4096, 16384)] := IsS.of_blk encR_len b1 rfl (fun i v hv => by simpa using hv)
 have hi2 : Ints .i64 H2 ⟨some ⟨H1.size, 0, none⟩, 2, 2⟩ [12, 13] := Ints.of_blk (k := .i64) (l := [12, 13]) b2 rfl
 refine (Place_spec H2 ⟨some ⟨H.size, 0, none⟩, 1, 1⟩ ⟨some ⟨H1.size, 0, none⟩, 2, 2⟩ [(4096, 16384)] [12, 13] (hr1.ext e2) hu hi2).mono ?_
 rw [aw1]
 rintro v H3 ⟨o1, rfl, is1, _, e3⟩
 refine ⟨o1, _, _, _, _, _, rfl, local_mk (vs := encC noCert) rfl rfl fun H5 e5 z5 b5 => push_mk (vs := [.int .i64 13, .int .i64 13]) fun H6 e6 z6 b6 => ?_⟩
 have x6 := ((e2.trans e3).trans e5).trans e6
 have hi6 : Ints .i64 H6 ⟨some ⟨H5.size, 0, none⟩, 2, 2⟩ [13, 13] := Ints.of_blk (k := .i64) (l := [13, 13]) b6 rfl
 refine (Place_spec H6 ⟨some ⟨H.size, 0, none⟩, 1, 1⟩ ⟨some ⟨H5.size, 0, none⟩, 2, 2⟩ [(4096, 16384)] [13, 13] (hr1.ext x6) hu hi6).mono ?_
 rw [aw2]
 rintro v H7 ⟨o2, rfl, is2, _, e7⟩
 refine ⟨o2, _, _, _, _, _, rfl, local_mk (vs := encC (0, 13, 16384, 1)) rfl rfl fun H9 e9 z9 b9 => iteB_pos (by decide) (push_mk (vs := [.int .u64 4096, .int .u64 8192]) fun H10 e10 z10 b10 => ?_)⟩
 have hi10 : Ints .u64 H10 ⟨some ⟨H9.size, 0, none⟩, 2, 2⟩ [4096, 8192] := Ints.of_blk (k := .u64) (l := [4096, 8192]) b10 rfl
 have x10 := (((e5.trans e6).trans e7).trans e9).trans e10
 refine (Equal_uint64_spec H10 o1 ⟨some ⟨H9.size, 0, none⟩, 2, 2⟩ [4096, 8192] [4096, 8192] (is1.ext x10) hi10 (by simp)).mono ?_
 rintro v H11 ⟨rfl, rfl⟩
 have b11 := b9.ext e10
 refine ⟨_, rfl, iteB_pos (by simp) (iteB_pos (by decide) ⟨_, b11.rd0 rfl, _, b11.rd (i := 1) rfl, _, b11.rd (i := 2) rfl, _, b11.rd (i := 3) rfl, iteB_pos (by decide) (push_mk (vs := [.int .i64 13, .int .i64 13]) fun H12 e12 z12 b12 => ?_)⟩)⟩
 have b12' := b11.ext e12
 have hi12 : Ints .i64 H12 ⟨some ⟨H11.size, 0, none⟩, 2, 2⟩ [13, 13] := Ints.of_blk (k := .i64) (l := [13, 13]) b12 rfl
 have x12 := ((e2.trans e3).trans x10).trans e12
 refine ⟨_, b12'.rd0 rfl, _, b12'.rd (i := 1) rfl, _, b12'.rd (i := 2) rfl, _, b12'.rd (i := 3) rfl, ?_⟩
 refine (Refutes_spec H12 ⟨some ⟨H.size, 0, none⟩, 1, 1⟩ ⟨some ⟨H11.size, 0, none⟩, 2, 2⟩ [(4096, 16384)] [13, 13] (0, 13, 16384, 1) (hr1.ext x12) hu hi12).mono ?_
 rintro v H13 ⟨rfl, e13⟩
 exact ⟨_, rfl, by rw [decide_eq_true aw3], (e1.trans x12).trans e13⟩

end Go.Proofs.YtigcheamheiopaaGreat
