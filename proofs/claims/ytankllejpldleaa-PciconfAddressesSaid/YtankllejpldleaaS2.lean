/-
  The contract of the laws' 'some', whole.
-/
import Derived.Test.YtankllejpldleaaS1
namespace Go.Proofs.Ytankllejpldleaa
open Go.Eng

set_option maxRecDepth 4000 in
theorem some_spec (f : Fn) (s : Sl) (H : Heap) (hB : Bars H s f.bars) (hs : f.bars.length ≤ 9223372036854775807) :
    CallsH Try.prog n_law18_some #[fnV f s] H (SomeP s H) := by
  refine F_law18_some_ok _ _ _ _ _ _ _ _ _ _ _ ?_
  unfold F_law18_some
  refine push_mk (vs := fnL f s) fun H1 e1 z1 b1 => ?_
  refine push_mk (vs := fnL ⟨0, 0, 0, 0, false, false, false, 0, 0, 0, []⟩ ⟨none, 0, 0⟩) fun H2 e2 z2 b2 => ?_
  have f2 := b1.ext e2
  obtain ⟨q0, q1, q2, q3, q4, q5, q6, q7, q8, q9, q10⟩ := Blk.fn f2
  have x2 := e1.trans e2
  refine ⟨_, q1, (Mod_spec _ _ H2 (by omega) (by omega)).mono ?_⟩
  rintro v H3 ⟨rfl, rfl⟩
  refine ⟨_, rfl, iteB_beq (fun c => ?_) (fun c => ?_)⟩
  · have mm : Mods [H1.size] H3 (wrs H3 (⟨H1.size, 0, none⟩ : Addr) (fnL f s)) := Mods.wrs (by simp)
    have w3 : Blk (wrs H3 (⟨H1.size, 0, none⟩ : Addr) (fnL f s)) H1.size t_api_Function (fnL f s) := b2.wr
    obtain ⟨p0, p1, p2, p3, p4, p5, p6, p7, p8, p9, p10⟩ := Blk.fn w3
    have xe : Ext H (wrs H3 (⟨H1.size, 0, none⟩ : Addr) (fnL f s)) := Mods.ext x2 mm (by simp; omega)
    exact ⟨_, q0, _, q1, _, q2, _, q3, _, q4, _, q5, _, q6, _, q7, _, q8, _, q9, s, q10, b2.ok0 (by simp), letH_mk (by rintro H26 rfl; exact ⟨_, p0, _, p1, _, p2, _, p3, _, p4, _, p5, _, p6, _, p7, _, p8, _, p9, s, p10, f, s, rfl, hB.ext xe, xe, .inl rfl, hs⟩)⟩
  refine ⟨_, q1, Mod_pure _ _ (by omega) (by omega) ⟨_, rfl, _, q2, Mod_pure _ _ (by omega) (by omega) ⟨_, rfl, _, q3, Mod_pure _ _ (by omega) (by omega) ⟨_, rfl, _, q4, _, q8, Mod_pure _ _ (by omega) (by omega) ⟨_, rfl, _, q9, Mod_pure _ _ (by omega) (by omega) ⟨_, rfl, ?_⟩⟩⟩⟩⟩⟩
  have m5 := modI_range f.vec (n := 5) (by omega)
  have vt : ∀ x : Int, 0 ≤ x → x < 5 → ∃ v, ([.int .i64 0, .int .i64 1, .int .i64 2, .int .i64 4, .int .i64 32] : List Value)[x.toNat * 1]? = some (.int .i64 v) := by
    intro x h0 h1
    rcases (by omega : x = 0 ∨ x = 1 ∨ x = 2 ∨ x = 3 ∨ x = 4) with rfl | rfl | rfl | rfl | rfl
    · exact ⟨_, rfl⟩
    · exact ⟨_, rfl⟩
    · exact ⟨_, rfl⟩
    · exact ⟨_, rfl⟩
    · exact ⟨_, rfl⟩
  obtain ⟨vv, hvv⟩ := vt _ m5.1 m5.2
  generalize modI f.vec 5 = xv at *
  refine ⟨?_, ?_⟩
  · refine push_mk (vs := [.int .i64 0, .int .i64 1, .int .i64 2, .int .i64 4, .int .i64 32]) fun H5 e5 z5 b5 => ?_
    refine ⟨e5.keeps, m5.1, m5.2, vv, b5.rd hvv, push_mk (vs := fnL ⟨0, 0, 0, 0, false, false, false, 0, 0, 0, []⟩ ⟨none, 0, 0⟩) fun H6 e6 z6 b6 => ⟨e6.keeps, b6.ok0 (by simp), letH_mk ?_⟩⟩
    intro H7 h7
    have g7 : Blk H7 H5.size t_api_Function (fnL ⟨0, modI f.slot 32, IntKind.i64.wrap (1 + modI f.vendor 65534), modI f.device 65536, f.bridge, false, false, 0, modI f.pin 5, vv, []⟩ ⟨none, 0, 0⟩) := by rw [h7]; exact b6.wr
    have m7 : Mods [H5.size] H6 H7 := by rw [h7]; exact Mods.wrs (by simp)
    have s7 : H7.size = H5.size + 1 := by rw [h7, wrs_size, z6]
    clear h7
    have x7 : Ext H5 H7 := Mods.ext e6 m7 (by simp)
    have y7 := e5.trans x7
    have f7 := f2.ext y7
    have r7 := b2.ext y7
    obtain ⟨p0, p1, p2, p3, p4, p5, p6, p7, p8, p9, p10⟩ := Blk.fn f7
    refine ⟨fun H' => Ext H H' ∧ H'.size = H7.size ∧ Blk H' H.size t_api_Function (fnL f s) ∧ (∃ zs, Blk H' H1.size t_api_Function zs ∧ zs.length = 11) ∧ ∃ g, Blk H' H5.size t_api_Function (fnL g ⟨none, 0, 0⟩), ?_, ?_⟩
    · refine ⟨_, p4, iteB_intro (fun c1 => ⟨_, p5, _, p6, g7.ok (i := 5) (n := 1) (by simp), letH_mk ?_⟩) (fun c1 => ⟨x2.trans y7, rfl, f7, ⟨_, r7, rfl⟩, _, g7⟩)⟩
      intro H8 h8
      have g8 := g7.wr1 (i := 5) (w := .bool f.pref)
      rw [← h8] at g8
      have m8 : Mods [H5.size] H7 H8 := by rw [h8]; exact mods_wr_add (by simp)
      have s8 : H8.size = H7.size := by rw [h8, wrs_size]
      refine ⟨m8.keeps (by simp [add_block]; omega), g8.ok (i := 6) (n := 1) (by simp), letH_mk ?_⟩
      clear h8
      intro H9 h9
      have g9 := g8.wr1 (i := 6) (w := .bool f.hot)
      rw [← h9] at g9
      have m9 : Mods [H5.size] H7 H9 := m8.trans (by rw [h9]; exact mods_wr_add (by simp))
      have s9 : H9.size = H7.size := by rw [h9, wrs_size, s8]
      clear h9
      have f9 := f7.mods m9 (by simp; omega)
      have x9 : Ext H H9 := Mods.ext (x2.trans y7) m9 (by simp; omega)
      have r9 := r7.mods m9 (by simp; omega)
      obtain ⟨u0, u1, u2, u3, u4, u5, u6, u7, u8, u9, u10⟩ := Blk.fn f9
      refine ⟨_, u6, iteB_intro (fun c2 => ⟨_, u7, (Mod_spec _ _ H9 (by omega) (by omega)).mono ?_⟩) (fun c2 => ⟨x9, s9, f9, ⟨_, r9, rfl⟩, ⟨0, modI f.slot 32, IntKind.i64.wrap (1 + modI f.vendor 65534), modI f.device 65536, f.bridge, f.pref, f.hot, 0, modI f.pin 5, vv, []⟩, g9⟩)⟩
      rintro v H10 ⟨rfl, rfl⟩
      refine ⟨_, rfl, g9.ok (i := 7) (n := 1) (by simp), letH_mk ?_⟩
      intro H11 h11
      have g11 := g9.wr1 (i := 7) (w := .int .i64 (modI f.spare 33))
      rw [← h11] at g11
      have m11 : Mods [H5.size] H10 H11 := by rw [h11]; exact mods_wr_add (by simp)
      have s11 : H11.size = H7.size := by rw [h11, wrs_size, s9]
      exact ⟨Mods.ext x9 m11 (by simp; omega), s11, f9.mods m11 (by simp; omega), ⟨_, r9.mods m11 (by simp; omega), rfl⟩, ⟨0, modI f.slot 32, IntKind.i64.wrap (1 + modI f.vendor 65534), modI f.device 65536, f.bridge, f.pref, f.hot, modI f.spare 33, modI f.pin 5, vv, []⟩, g11⟩
    rintro H12 ⟨x12, s12, f12, zz, g, g12⟩
    exact some_loopA H H1 H5 f g s H12 f12 hB hs g12 zz (by omega) (by omega) (by omega) x12
  · refine push_mk (vs := fnL ⟨0, 0, 0, 0, false, false, false, 0, 0, 0, []⟩ ⟨none, 0, 0⟩) fun H27 e27 z27 b27 => ?_
    refine ⟨e27.keeps, push_mk (vs := [.int .i64 0, .int .i64 1, .int .i64 2, .int .i64 4, .int .i64 32]) fun H28 e28 z28 b28 => ?_⟩
    have b6 := b27.ext e28
    refine ⟨e28.keeps, m5.1, m5.2, vv, b28.rd hvv, b6.ok0 (by simp), letH_mk ?_⟩
    intro H7 h7
    have g7 : Blk H7 H3.size t_api_Function (fnL ⟨0, modI f.slot 32, IntKind.i64.wrap (1 + modI f.vendor 65534), modI f.device 65536, f.bridge, false, false, 0, modI f.pin 5, vv, []⟩ ⟨none, 0, 0⟩) := by rw [h7]; exact b6.wr
    have m7 : Mods [H3.size] H28 H7 := by rw [h7]; exact Mods.wrs (by simp)
    have s7 : H7.size = H3.size + 2 := by rw [h7, wrs_size, z28, z27]
    clear h7
    have y7 : Ext H3 H7 := Mods.ext (e27.trans e28) m7 (by simp)
    have f7 := f2.ext y7
    have r7 := b2.ext y7
    obtain ⟨p0, p1, p2, p3, p4, p5, p6, p7, p8, p9, p10⟩ := Blk.fn f7
    refine ⟨fun H' => Ext H H' ∧ H'.size = H7.size ∧ Blk H' H.size t_api_Function (fnL f s) ∧ (∃ zs, Blk H' H1.size t_api_Function zs ∧ zs.length = 11) ∧ ∃ g, Blk H' H3.size t_api_Function (fnL g ⟨none, 0, 0⟩), ?_, ?_⟩
    · refine ⟨_, p4, iteB_intro (fun c1 => ⟨_, p5, _, p6, g7.ok (i := 5) (n := 1) (by simp), letH_mk ?_⟩) (fun c1 => ⟨x2.trans y7, rfl, f7, ⟨_, r7, rfl⟩, _, g7⟩)⟩
      intro H8 h8
      have g8 := g7.wr1 (i := 5) (w := .bool f.pref)
      rw [← h8] at g8
      have m8 : Mods [H3.size] H7 H8 := by rw [h8]; exact mods_wr_add (by simp)
      have s8 : H8.size = H7.size := by rw [h8, wrs_size]
      refine ⟨m8.keeps (by simp [add_block]; omega), g8.ok (i := 6) (n := 1) (by simp), letH_mk ?_⟩
      clear h8
      intro H9 h9
      have g9 := g8.wr1 (i := 6) (w := .bool f.hot)
      rw [← h9] at g9
      have m9 : Mods [H3.size] H7 H9 := m8.trans (by rw [h9]; exact mods_wr_add (by simp))
      have s9 : H9.size = H7.size := by rw [h9, wrs_size, s8]
      clear h9
      have f9 := f7.mods m9 (by simp; omega)
      have x9 : Ext H H9 := Mods.ext (x2.trans y7) m9 (by simp; omega)
      have r9 := r7.mods m9 (by simp; omega)
      obtain ⟨u0, u1, u2, u3, u4, u5, u6, u7, u8, u9, u10⟩ := Blk.fn f9
      refine ⟨_, u6, iteB_intro (fun c2 => ⟨_, u7, (Mod_spec _ _ H9 (by omega) (by omega)).mono ?_⟩) (fun c2 => ⟨x9, s9, f9, ⟨_, r9, rfl⟩, ⟨0, modI f.slot 32, IntKind.i64.wrap (1 + modI f.vendor 65534), modI f.device 65536, f.bridge, f.pref, f.hot, 0, modI f.pin 5, vv, []⟩, g9⟩)⟩
      rintro v H10 ⟨rfl, rfl⟩
      refine ⟨_, rfl, g9.ok (i := 7) (n := 1) (by simp), letH_mk ?_⟩
      intro H11 h11
      have g11 := g9.wr1 (i := 7) (w := .int .i64 (modI f.spare 33))
      rw [← h11] at g11
      have m11 : Mods [H3.size] H10 H11 := by rw [h11]; exact mods_wr_add (by simp)
      have s11 : H11.size = H7.size := by rw [h11, wrs_size, s9]
      exact ⟨Mods.ext x9 m11 (by simp; omega), s11, f9.mods m11 (by simp; omega), ⟨_, r9.mods m11 (by simp; omega), rfl⟩, ⟨0, modI f.slot 32, IntKind.i64.wrap (1 + modI f.vendor 65534), modI f.device 65536, f.bridge, f.pref, f.hot, modI f.spare 33, modI f.pin 5, vv, []⟩, g11⟩
    rintro H12 ⟨x12, s12, f12, zz, g, g12⟩
    exact some_loopB H H1 H3 f g s H12 f12 hB hs g12 zz (by omega) (by omega) (by omega) x12

end Go.Proofs.Ytankllejpldleaa
