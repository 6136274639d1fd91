/-
  The fixed example of the slots.
-/
import Derived.Test.YtnhhncjflnlfaaaGreatK1
namespace Go.Proofs.YtnhhncjflnlfaaaGreat
open Go.Eng

abbrev slotL (s d g : Int) : List Value := [.int .i64 s, .int .u64 d, .int .u64 g]

theorem enter_spec (H : Heap) (b : Nat) (s d g st : Int) (ac : Sl) (h : Blk H b t_141 (slotL s d g)) :
    CallsH Tryz.prog n_80 #[.pointer (some ⟨b, 0, none⟩), .int .i64 st, .slice ac.p ac.n ac.c] H (fun v H' => v = .tuple #[.slice ac.p ac.n ac.c, .int .i64 0] /\ Blk H' b t_141 (slotL st d (if st = 3 then g else 0)) /\ Mods [b] H H') := by
  refine F_80_ok _ _ _ ?_
  unfold F_80
  refine ⟨h.ok0 (by simp), letH_mk ?_⟩
  intro H1 h1
  have b1 : Blk H1 b t_141 (slotL st d g) := by rw [h1]; exact h.wr
  have m1 : Mods [b] H H1 := by rw [h1]; exact Mods.wrs (by simp)
  clear h1
  refine iteB_bne (fun c => ⟨b1.ok (by simp), letH_mk ?_⟩) (fun c => ⟨rfl, by rw [if_pos c]; exact b1, m1⟩)
  intro H2 h2
  have b2 : Blk H2 b t_141 (slotL st d 0) := by rw [h2]; exact b1.wr1
  have m2 : Mods [b] H1 H2 := by rw [h2]; exact mods_wr_add (by simp)
  exact ⟨rfl, by rw [if_neg c]; exact b2, m1.trans m2⟩

theorem awake_spec (H : Heap) : CallsH Tryz.prog n_12 #[] H (BoolP true H) := by
  refine F_12_ok ?_
  unfold F_12
  refine F_40_ok _ _ ?_
  unfold F_40
  refine iteB_neg (by decide) (push_mk (vs := slotL 1 5 0) fun H1 e1 z1 b1 => iteB_pos rfl ⟨b1.ok0 (by simp), letH_mk ?_⟩)
  intro H2 h2
  have b2 : Blk H2 H.size t_141 (slotL 2 5 0) := by rw [h2]; exact b1.wr
  have x2 : Ext H H2 := by rw [h2]; exact Mods.ext e1 (Mods.wrs (S := [H.size]) (by simp)) (by simp)
  clear h2 b1 e1 z1
  refine ⟨_, _, rfl, iteB_neg rfl (iteB_neg rfl (F_41_ok _ _ _ ?_))⟩
  unfold F_41
  refine iteB_neg rfl (iteB_pos rfl ⟨2, b2.rd0 rfl, fun b H' => b = true /\ H' = H2, iteB_pos rfl ⟨rfl, rfl⟩, ?_⟩)
  rintro _ _ ⟨rfl, rfl⟩
  unfold F_41_k1
  refine iteB_pos rfl ⟨5, b2.rd (i := 1) rfl, F_81_ok _ _ ?_⟩
  unfold F_81
  refine iteB_neg (by decide) (letV_mk 15 (by decide) ⟨_, rfl, b2.ok (by simp), letH_mk ?_⟩)
  rename_i H2
  intro H3 h3
  have b3 : Blk H3 H.size t_141 (slotL 2 5 15) := by rw [h3]; exact b2.wr1
  have m3 : Mods [H.size] H2 H3 := by rw [h3]; exact mods_wr_add (by simp)
  have x3 : Ext H H3 := Mods.ext x2 m3 (by simp)
  clear h3 m3
  refine push_mk (vs := encI .i64 1) fun H4 e4 z4 b4 => (enter_spec H4 H.size 2 5 15 3 ⟨some ⟨H3.size, 0, none⟩, 1, 1⟩ (b3.ext e4)).mono ?_
  rintro v H5 ⟨rfl, b5, m5⟩
  rw [if_pos rfl] at b5
  have hne : H3.size ≠ H.size := by have := b3.lt; omega
  have a5 : Ints .i64 H5 ⟨some ⟨H3.size, 0, none⟩, 1, 1⟩ [1] := IsS.of_blk (ints_row _) (b4.mods m5 (by simpa using hne)) rfl (fun i v h => h)
  have x5 : Ext H H5 := Mods.ext (x3.trans e4) m5 (by simp)
  refine ⟨_, _, rfl, _, _, rfl, F_42_ok _ _ ?_⟩
  have hz5 := m5.size
  unfold F_42
  refine ⟨3, b5.rd0 rfl, iteB_neg rfl ⟨15, b5.rd (i := 2) rfl, iteB_neg (by decide) (push_mk (vs := encI .i64 3) fun H6 e6 z6 b6 => (enter_spec H6 H.size 3 5 15 4 ⟨some ⟨H5.size, 0, none⟩, 1, 1⟩ (b5.ext e6)).mono ?_)⟩⟩
  rintro v H7 ⟨rfl, b7, m7⟩
  rw [if_neg (by decide)] at b7
  have hlt := b5.lt
  have a7 : Ints .i64 H7 ⟨some ⟨H5.size, 0, none⟩, 1, 1⟩ [3] := IsS.of_blk (ints_row _) (b6.mods m7 (by simp; omega)) rfl (fun i v h => h)
  have p7 := (a5.ext e6).mods m7 (fun a ha => by cases ha; simpa using hne)
  have x7 : Ext H H7 := Mods.ext (x5.trans e6) m7 (by simp)
  have hz7 := m7.size
  refine ⟨_, _, rfl, _, rfl, F_41_ok _ _ _ ?_⟩
  unfold F_41
  refine iteB_neg rfl (iteB_neg rfl (iteB_neg rfl (iteB_neg rfl (iteB_pos rfl ⟨4, b7.rd0 rfl, fun b H' => b = false /\ H' = H7, iteB_neg rfl ⟨rfl, rfl⟩, ?_⟩))))
  rintro _ _ ⟨rfl, rfl⟩
  unfold F_41_k3
  rename_i H7
  refine iteB_neg rfl (iteB_neg rfl ⟨fun b H' => b = true /\ H' = H7, iteB_pos rfl ⟨rfl, rfl⟩, ?_⟩)
  rintro _ _ ⟨rfl, rfl⟩
  unfold F_41_k2
  rename_i H7
  refine iteB_pos rfl (push_mk (vs := ([5, 2] : List Int).flatMap (encI .i64)) fun H8 e8 z8 b8 => (enter_spec H8 H.size 4 5 0 1 ⟨some ⟨H7.size, 0, none⟩, 2, 2⟩ (b7.ext e8)).mono ?_)
  rintro v H9 ⟨rfl, b9, m9⟩
  have a9 : Ints .i64 H9 ⟨some ⟨H7.size, 0, none⟩, 2, 2⟩ [5, 2] := IsS.of_blk (ints_row _) (b8.mods m9 (by simp; omega)) rfl (fun i v h => h)
  have p9 := (p7.ext e8).mods m9 (fun a ha => by cases ha; simpa using hne)
  have q9 := (a7.ext e8).mods m9 (fun a ha => by cases ha; simp; omega)
  have x9 : Ext H H9 := Mods.ext (x7.trans e8) m9 (by simp)
  refine ⟨_, _, rfl, _, _, rfl, iteB_pos rfl (iteB_pos rfl (push_mk (vs := encI .i64 1) fun H10 e10 z10 b10 => (Equal_int_spec H10 _ ⟨some ⟨H9.size, 0, none⟩, 1, 1⟩ [1] [1] (p9.ext e10) (IsS.of_blk (ints_row _) b10 rfl (fun i v h => h)) (by simp)).mono ?_))⟩
  rintro v H11 ⟨rfl, rfl⟩
  refine ⟨_, rfl, iteB_pos (by simp) (push_mk (vs := encI .i64 3) fun H12 e12 z12 b12 => (Equal_int_spec H12 _ ⟨some ⟨H11.size, 0, none⟩, 1, 1⟩ [3] [3] ((q9.ext e10).ext e12) (IsS.of_blk (ints_row _) b12 rfl (fun i v h => h)) (by simp)).mono ?_)⟩
  rintro v H13 ⟨rfl, rfl⟩
  refine ⟨_, rfl, iteB_pos (by simp) (push_mk (vs := ([5, 2] : List Int).flatMap (encI .i64)) fun H14 e14 z14 b14 => (Equal_int_spec H14 _ ⟨some ⟨H13.size, 0, none⟩, 2, 2⟩ [5, 2] [5, 2] (((a9.ext e10).ext e12).ext e14) (IsS.of_blk (ints_row _) b14 rfl (fun i v h => h)) (by simp)).mono ?_)⟩
  rintro v H15 ⟨rfl, rfl⟩
  refine ⟨_, rfl, iteB_pos (by simp) (F_44_ok _ ?_)⟩
  unfold F_44
  exact ⟨1, (((b9.ext e10).ext e12).ext e14).rd0 rfl, _, rfl, rfl, ((x9.trans e10).trans e12).trans e14⟩

end Go.Proofs.YtnhhncjflnlfaaaGreat
