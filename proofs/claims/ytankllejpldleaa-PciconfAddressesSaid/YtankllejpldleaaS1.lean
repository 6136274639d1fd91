/-
  The contract of the laws' 'some': it answers some function whose registers lie in memory.
-/
import Derived.Test.YtankllejpldleaaF1
import Derived.Test.YtankllejpldleaaH1
namespace Go.Proofs.Ytankllejpldleaa
open Go.Eng

def SomeP (s : Sl) (H : Heap) (v : Value) (H' : Heap) : Prop := ∃ (g : Fn) (sl : Sl), v = fnV g sl ∧ Bars H' sl g.bars ∧ Ext H H' ∧ (sl = s ∨ NewP H.size sl.p) ∧ g.bars.length ≤ 9223372036854775807

/-- The loop that fills the list of registers. -/
theorem some_loopA (H H1 HG : Heap) (f g : Fn) (s : Sl) (H12 : Heap) (hf : Blk H12 H.size t_api_Function (fnL f s)) (hB : Bars H s f.bars) (hs : f.bars.length ≤ 9223372036854775807)
    (hg : Blk H12 HG.size t_api_Function (fnL g ⟨none, 0, 0⟩)) (hz : ∃ zs, Blk H12 H1.size t_api_Function zs ∧ zs.length = 11) (h1 : H1.size = H.size + 1) (h2 : H1.size < HG.size) (h3 : HG.size < H12.size) (e12 : Ext H H12) :
    F_law18_some_k3 (SomeP s H) H H1 HG H12 := by
  unfold F_law18_some_k3
  have hn := hB.len
  refine loop1 f.bars.length (fun k H' => Ext H H' ∧ Blk H' H.size t_api_Function (fnL f s) ∧ H12.size ≤ H'.size ∧ (∃ zs, Blk H' H1.size t_api_Function zs ∧ zs.length = 11) ∧ ∃ sl B, Blk H' HG.size t_api_Function (fnL g sl) ∧ sl.n = B.length ∧ B.length ≤ 100 ∧ Own H12.size t_api_Bar 2 H' sl (B.flatMap encBar))
    ⟨e12, hf, Nat.le_refl _, hz, ⟨none, 0, 0⟩, [], hg, rfl, by simp, Own.nil _ _ _ _⟩ ?_
  rintro k H13 hk ⟨e13, f13, z13, ⟨zs, zz, zl⟩, sl, B, g13, hsl, hBl, o13⟩
  unfold F_law18_some_r2
  have rf := (Blk.fn f13).2.2.2.2.2.2.2.2.2.2
  obtain ⟨q0, q1, q2, q3, q4, q5, q6, q7, q8, q9, q10⟩ := Blk.fn g13
  -- the answer
  have fin : ∀ H', Ext H13 H' → Mods [] H13 H' → SomeP s H (fnV g sl) (wrs H' (⟨H1.size, 0, none⟩ : Addr) (fnL g sl)) ∧ okRow H' (⟨H1.size, 0, none⟩ : Addr) 11 ∧ Blk (wrs H' (⟨H1.size, 0, none⟩ : Addr) (fnL g sl)) H1.size t_api_Function (fnL g sl) := by
    intro H' he _
    have zz' := zz.ext he
    have mm : Mods [H1.size] H' (wrs H' (⟨H1.size, 0, none⟩ : Addr) (fnL g sl)) := Mods.wrs (by simp)
    refine ⟨⟨{ g with bars := B }, sl, rfl, ?_, Mods.ext (e13.trans he) mm (by simp; omega), .inr (fun a ha => by have := o13.new a ha; have := e12.size; omega), by dsimp only; omega⟩, zz'.ok0 (by omega), ?_⟩
    · exact ((o13.ext he).isS encBar_len (by omega)).mods mm (fun a ha => by have := o13.new a ha; simp; omega)
    · have := zz'.wr (o := 0) (ws := fnL g sl)
      have hsp := spl_mid [] [] (fnL g sl) zs (by simp [zl])
      simp only [List.nil_append, List.append_nil, List.length_nil] at hsp
      rw [hsp] at this
      exact this
  refine ⟨s, rf, iteB_dec (fun c => ?_) (fun c => ?_)⟩
  rotate_left
  · obtain ⟨w1, w2, w3⟩ := fin H13 (.refl _) (.refl _ _)
    obtain ⟨p0, p1, p2, p3, p4, p5, p6, p7, p8, p9, p10⟩ := Blk.fn w3
    exact ⟨_, q0, _, q1, _, q2, _, q3, _, q4, _, q5, _, q6, _, q7, _, q8, _, q9, sl, q10, w2, letH_mk (by rintro H26 rfl; exact ⟨_, p0, _, p1, _, p2, _, p3, _, p4, _, p5, _, p6, _, p7, _, p8, _, p9, sl, p10, w1⟩)⟩
  have hkn : k < f.bars.length := by omega
  refine ⟨sl, q10, _, q0, _, q1, _, q2, _, q3, _, q4, _, q5, _, q6, _, q7, _, q8, _, q9, sl, q10, (Registers_spec g sl H13).mono ?_⟩
  rintro v H14 ⟨rfl, e14⟩
  have hr6 : regs g.bridge ≤ 6 := by unfold regs; split <;> omega
  refine ⟨_, rfl, e14.keeps, iteB_dec (fun c2 => ?_) (fun c2 => ?_)⟩
  rotate_left
  · obtain ⟨w1, w2, w3⟩ := fin H14 e14 e14.mods
    obtain ⟨q0, q1, q2, q3, q4, q5, q6, q7, q8, q9, q10⟩ := Blk.fn (g13.ext e14)
    obtain ⟨p0, p1, p2, p3, p4, p5, p6, p7, p8, p9, p10⟩ := Blk.fn w3
    exact ⟨_, q0, _, q1, _, q2, _, q3, _, q4, _, q5, _, q6, _, q7, _, q8, _, q9, sl, q10, w2, letH_mk (by rintro H26 rfl; exact ⟨_, p0, _, p1, _, p2, _, p3, _, p4, _, p5, _, p6, _, p7, _, p8, _, p9, sl, p10, w1⟩)⟩
  have f14 := (Blk.fn (f13.ext e14)).2.2.2.2.2.2.2.2.2.2
  have x14 := e13.trans e14
  obtain ⟨a, hp, r0, r1⟩ := Bars.atN (hB.ext x14) hkn
  refine ⟨s, f14, by omega, by omega, unSome_mk hp ⟨_, r0, (Mod_spec _ _ H14 (by omega) (by omega)).mono ?_⟩⟩
  rintro v H15 ⟨rfl, rfl⟩
  refine ⟨_, rfl, s, f14, by omega, by omega, unSome_mk hp ⟨_, r1, (Mod_spec _ _ H15 (by omega) (by omega)).mono ?_⟩⟩
  rintro v H16 ⟨rfl, rfl⟩
  have m1 := modI_range (bk f.bars k) (n := 5) (by omega)
  generalize modI (bk f.bars k) 5 = kk at *
  generalize modI (bz f.bars k) 48 = nn at *
  refine ⟨_, rfl, fun x H' => Ext H16 H', ?_, ?_⟩
  · refine iteB_beq (fun d1 => .refl _) (fun d1 => iteB_beq (fun d2 => letV_mk _ rfl (.refl _)) (fun d2 => iteB_beq (fun d3 => letV_mk _ rfl (.refl _)) (fun d3 => ?_)))
    obtain ⟨q0, q1, q2, q3, q4, q5, q6, q7, q8, q9, q10⟩ := Blk.fn (g13.ext e14)
    refine ⟨sl, q10, _, q0, _, q1, _, q2, _, q3, _, q4, _, q5, _, q6, _, q7, _, q8, _, q9, sl, q10, (Registers_spec g sl H16).mono ?_⟩
    rintro v H17 ⟨rfl, e17⟩
    refine ⟨_, rfl, e17.keeps, iteB_dec (fun c3 => next1 hkn (by omega) ?_) (fun c3 => letV_mk _ rfl e17)⟩
    have y17 := e14.trans e17
    exact ⟨e13.trans y17, f13.ext y17, by have := y17.size; omega, ⟨zs, zz.ext y17, zl⟩, sl, B, g13.ext y17, hsl, hBl, o13.ext y17⟩
  rintro n4 H18 e18
  unfold F_law18_some_k1
  have y18 := e14.trans e18
  have g18 := g13.ext y18
  have o18 := o13.ext y18
  have z18 := y18.size
  refine ⟨sl, (Blk.fn g18).2.2.2.2.2.2.2.2.2.2, ?_⟩
  have hz13 := e13.size
  refine append_row (enc := encBar) (l := B) (z := .agg #[.int .i64 0, .int .i64 0]) (sz := 2) (bytes := 16) (lo := H12.size) (kk, n4) (by kernel_rfl) (by kernel_rfl) rfl (by omega) encBar_len encBar_one o18 (by simp [maxLen]; omega) (by omega) (by omega) ?_
  intro s' H20 ho20 hn20 m20
  have nb := blkOf_new o18.new
  have g20 := g18.mods m20 (fun h => by have := nb _ h; omega)
  refine ⟨g20.ok (i := 10) (n := 1) (by simp), letH_mk ?_⟩
  intro H21 h21
  have m21 : Mods [HG.size] H20 H21 := by rw [h21]; exact mods_wr_add (by simp)
  have g21 : Blk H21 HG.size t_api_Function (fnL g s') := by rw [h21]; exact g20.wr1 (i := 10) (w := .slice s'.p s'.n s'.c)
  clear h21
  have x20 : Ext H H20 := Mods.ext (e13.trans y18) m20 (fun x hx => by have := nb x hx; omega)
  have x21 : Ext H H21 := Mods.ext x20 m21 (by simp; omega)
  have f20 := (f13.ext y18).mods m20 (fun h => by have := nb _ h; omega)
  have f21 := f20.mods m21 (by simp; omega)
  have zz20 := (zz.ext y18).mods m20 (fun h => by have := nb _ h; omega)
  have zz21 := zz20.mods m21 (by simp; omega)
  have o21 := ho20.mods m21 (fun a ha => by have := ho20.new a ha; simp; omega)
  have s20 := m20.size
  have s21 := m21.size
  refine iteB_dec (fun c3 => ⟨s', (Blk.fn g21).2.2.2.2.2.2.2.2.2.2, ?_⟩) (fun c3 => next1 hkn (by omega) ⟨x21, f21, by omega, ⟨zs, zz21, zl⟩, s', B ++ [(kk, n4)], g21, by simp; omega, by simp; omega, o21⟩)
  refine append_row (enc := encBar) (l := B ++ [(kk, n4)]) (z := .agg #[.int .i64 0, .int .i64 0]) (sz := 2) (bytes := 16) (lo := H12.size) (0, 0) (by kernel_rfl) (by kernel_rfl) rfl (by omega) encBar_len encBar_one o21 (by simp [maxLen]; omega) (by omega) (by omega) ?_
  intro s2 H23 ho23 hn23 m23
  have nb2 := blkOf_new o21.new
  have g23 := g21.mods m23 (fun h => by have := nb2 _ h; omega)
  refine ⟨g23.ok (i := 10) (n := 1) (by simp), letH_mk ?_⟩
  intro H24 h24
  have m24 : Mods [HG.size] H23 H24 := by rw [h24]; exact mods_wr_add (by simp)
  have g24 : Blk H24 HG.size t_api_Function (fnL g s2) := by rw [h24]; exact g23.wr1 (i := 10) (w := .slice s2.p s2.n s2.c)
  clear h24
  have s23 := m23.size
  have s24 := m24.size
  exact next1 hkn (by omega) ⟨Mods.ext (Mods.ext x21 m23 (fun x hx => by have := nb2 x hx; omega)) m24 (by simp; omega), (f21.mods m23 (fun h => by have := nb2 _ h; omega)).mods m24 (by simp; omega), by omega,
    ⟨zs, (zz21.mods m23 (fun h => by have := nb2 _ h; omega)).mods m24 (by simp; omega), zl⟩, s2, B ++ [(kk, n4)] ++ [(0, 0)], g24, by simp; omega, by simp; omega, ho23.mods m24 (fun a ha => by have := ho23.new a ha; simp; omega)⟩

/-- The loop that fills the list of registers. -/
theorem some_loopB (H H1 HG : Heap) (f g : Fn) (s : Sl) (H12 : Heap) (hf : Blk H12 H.size t_api_Function (fnL f s)) (hB : Bars H s f.bars) (hs : f.bars.length ≤ 9223372036854775807)
    (hg : Blk H12 HG.size t_api_Function (fnL g ⟨none, 0, 0⟩)) (hz : ∃ zs, Blk H12 H1.size t_api_Function zs ∧ zs.length = 11) (h1 : H1.size = H.size + 1) (h2 : H1.size < HG.size) (h3 : HG.size < H12.size) (e12 : Ext H H12) :
    F_law18_some_k6 (SomeP s H) H H1 HG H12 := by
  unfold F_law18_some_k6
  have hn := hB.len
  refine loop1 f.bars.length (fun k H' => Ext H H' ∧ Blk H' H.size t_api_Function (fnL f s) ∧ H12.size ≤ H'.size ∧ (∃ zs, Blk H' H1.size t_api_Function zs ∧ zs.length = 11) ∧ ∃ sl B, Blk H' HG.size t_api_Function (fnL g sl) ∧ sl.n = B.length ∧ B.length ≤ 100 ∧ Own H12.size t_api_Bar 2 H' sl (B.flatMap encBar))
    ⟨e12, hf, Nat.le_refl _, hz, ⟨none, 0, 0⟩, [], hg, rfl, by simp, Own.nil _ _ _ _⟩ ?_
  rintro k H13 hk ⟨e13, f13, z13, ⟨zs, zz, zl⟩, sl, B, g13, hsl, hBl, o13⟩
  unfold F_law18_some_r5
  have rf := (Blk.fn f13).2.2.2.2.2.2.2.2.2.2
  obtain ⟨q0, q1, q2, q3, q4, q5, q6, q7, q8, q9, q10⟩ := Blk.fn g13
  -- the answer
  have fin : ∀ H', Ext H13 H' → Mods [] H13 H' → SomeP s H (fnV g sl) (wrs H' (⟨H1.size, 0, none⟩ : Addr) (fnL g sl)) ∧ okRow H' (⟨H1.size, 0, none⟩ : Addr) 11 ∧ Blk (wrs H' (⟨H1.size, 0, none⟩ : Addr) (fnL g sl)) H1.size t_api_Function (fnL g sl) := by
    intro H' he _
    have zz' := zz.ext he
    have mm : Mods [H1.size] H' (wrs H' (⟨H1.size, 0, none⟩ : Addr) (fnL g sl)) := Mods.wrs (by simp)
    refine ⟨⟨{ g with bars := B }, sl, rfl, ?_, Mods.ext (e13.trans he) mm (by simp; omega), .inr (fun a ha => by have := o13.new a ha; have := e12.size; omega), by dsimp only; omega⟩, zz'.ok0 (by omega), ?_⟩
    · exact ((o13.ext he).isS encBar_len (by omega)).mods mm (fun a ha => by have := o13.new a ha; simp; omega)
    · have := zz'.wr (o := 0) (ws := fnL g sl)
      have hsp := spl_mid [] [] (fnL g sl) zs (by simp [zl])
      simp only [List.nil_append, List.append_nil, List.length_nil] at hsp
      rw [hsp] at this
      exact this
  refine ⟨s, rf, iteB_dec (fun c => ?_) (fun c => ?_)⟩
  rotate_left
  · obtain ⟨w1, w2, w3⟩ := fin H13 (.refl _) (.refl _ _)
    obtain ⟨p0, p1, p2, p3, p4, p5, p6, p7, p8, p9, p10⟩ := Blk.fn w3
    exact ⟨_, q0, _, q1, _, q2, _, q3, _, q4, _, q5, _, q6, _, q7, _, q8, _, q9, sl, q10, w2, letH_mk (by rintro H26 rfl; exact ⟨_, p0, _, p1, _, p2, _, p3, _, p4, _, p5, _, p6, _, p7, _, p8, _, p9, sl, p10, w1⟩)⟩
  have hkn : k < f.bars.length := by omega
  refine ⟨sl, q10, _, q0, _, q1, _, q2, _, q3, _, q4, _, q5, _, q6, _, q7, _, q8, _, q9, sl, q10, (Registers_spec g sl H13).mono ?_⟩
  rintro v H14 ⟨rfl, e14⟩
  have hr6 : regs g.bridge ≤ 6 := by unfold regs; split <;> omega
  refine ⟨_, rfl, e14.keeps, iteB_dec (fun c2 => ?_) (fun c2 => ?_)⟩
  rotate_left
  · obtain ⟨w1, w2, w3⟩ := fin H14 e14 e14.mods
    obtain ⟨q0, q1, q2, q3, q4, q5, q6, q7, q8, q9, q10⟩ := Blk.fn (g13.ext e14)
    obtain ⟨p0, p1, p2, p3, p4, p5, p6, p7, p8, p9, p10⟩ := Blk.fn w3
    exact ⟨_, q0, _, q1, _, q2, _, q3, _, q4, _, q5, _, q6, _, q7, _, q8, _, q9, sl, q10, w2, letH_mk (by rintro H26 rfl; exact ⟨_, p0, _, p1, _, p2, _, p3, _, p4, _, p5, _, p6, _, p7, _, p8, _, p9, sl, p10, w1⟩)⟩
  have f14 := (Blk.fn (f13.ext e14)).2.2.2.2.2.2.2.2.2.2
  have x14 := e13.trans e14
  obtain ⟨a, hp, r0, r1⟩ := Bars.atN (hB.ext x14) hkn
  refine ⟨s, f14, by omega, by omega, unSome_mk hp ⟨_, r0, (Mod_spec _ _ H14 (by omega) (by omega)).mono ?_⟩⟩
  rintro v H15 ⟨rfl, rfl⟩
  refine ⟨_, rfl, s, f14, by omega, by omega, unSome_mk hp ⟨_, r1, (Mod_spec _ _ H15 (by omega) (by omega)).mono ?_⟩⟩
  rintro v H16 ⟨rfl, rfl⟩
  have m1 := modI_range (bk f.bars k) (n := 5) (by omega)
  generalize modI (bk f.bars k) 5 = kk at *
  generalize modI (bz f.bars k) 48 = nn at *
  refine ⟨_, rfl, fun x H' => Ext H16 H', ?_, ?_⟩
  · refine iteB_beq (fun d1 => .refl _) (fun d1 => iteB_beq (fun d2 => letV_mk _ rfl (.refl _)) (fun d2 => iteB_beq (fun d3 => letV_mk _ rfl (.refl _)) (fun d3 => ?_)))
    obtain ⟨q0, q1, q2, q3, q4, q5, q6, q7, q8, q9, q10⟩ := Blk.fn (g13.ext e14)
    refine ⟨sl, q10, _, q0, _, q1, _, q2, _, q3, _, q4, _, q5, _, q6, _, q7, _, q8, _, q9, sl, q10, (Registers_spec g sl H16).mono ?_⟩
    rintro v H17 ⟨rfl, e17⟩
    refine ⟨_, rfl, e17.keeps, iteB_dec (fun c3 => next1 hkn (by omega) ?_) (fun c3 => letV_mk _ rfl e17)⟩
    have y17 := e14.trans e17
    exact ⟨e13.trans y17, f13.ext y17, by have := y17.size; omega, ⟨zs, zz.ext y17, zl⟩, sl, B, g13.ext y17, hsl, hBl, o13.ext y17⟩
  rintro n4 H18 e18
  unfold F_law18_some_k4
  have y18 := e14.trans e18
  have g18 := g13.ext y18
  have o18 := o13.ext y18
  have z18 := y18.size
  refine ⟨sl, (Blk.fn g18).2.2.2.2.2.2.2.2.2.2, ?_⟩
  have hz13 := e13.size
  refine append_row (enc := encBar) (l := B) (z := .agg #[.int .i64 0, .int .i64 0]) (sz := 2) (bytes := 16) (lo := H12.size) (kk, n4) (by kernel_rfl) (by kernel_rfl) rfl (by omega) encBar_len encBar_one o18 (by simp [maxLen]; omega) (by omega) (by omega) ?_
  intro s' H20 ho20 hn20 m20
  have nb := blkOf_new o18.new
  have g20 := g18.mods m20 (fun h => by have := nb _ h; omega)
  refine ⟨g20.ok (i := 10) (n := 1) (by simp), letH_mk ?_⟩
  intro H21 h21
  have m21 : Mods [HG.size] H20 H21 := by rw [h21]; exact mods_wr_add (by simp)
  have g21 : Blk H21 HG.size t_api_Function (fnL g s') := by rw [h21]; exact g20.wr1 (i := 10) (w := .slice s'.p s'.n s'.c)
  clear h21
  have x20 : Ext H H20 := Mods.ext (e13.trans y18) m20 (fun x hx => by have := nb x hx; omega)
  have x21 : Ext H H21 := Mods.ext x20 m21 (by simp; omega)
  have f20 := (f13.ext y18).mods m20 (fun h => by have := nb _ h; omega)
  have f21 := f20.mods m21 (by simp; omega)
  have zz20 := (zz.ext y18).mods m20 (fun h => by have := nb _ h; omega)
  have zz21 := zz20.mods m21 (by simp; omega)
  have o21 := ho20.mods m21 (fun a ha => by have := ho20.new a ha; simp; omega)
  have s20 := m20.size
  have s21 := m21.size
  refine iteB_dec (fun c3 => ⟨s', (Blk.fn g21).2.2.2.2.2.2.2.2.2.2, ?_⟩) (fun c3 => next1 hkn (by omega) ⟨x21, f21, by omega, ⟨zs, zz21, zl⟩, s', B ++ [(kk, n4)], g21, by simp; omega, by simp; omega, o21⟩)
  refine append_row (enc := encBar) (l := B ++ [(kk, n4)]) (z := .agg #[.int .i64 0, .int .i64 0]) (sz := 2) (bytes := 16) (lo := H12.size) (0, 0) (by kernel_rfl) (by kernel_rfl) rfl (by omega) encBar_len encBar_one o21 (by simp [maxLen]; omega) (by omega) (by omega) ?_
  intro s2 H23 ho23 hn23 m23
  have nb2 := blkOf_new o21.new
  have g23 := g21.mods m23 (fun h => by have := nb2 _ h; omega)
  refine ⟨g23.ok (i := 10) (n := 1) (by simp), letH_mk ?_⟩
  intro H24 h24
  have m24 : Mods [HG.size] H23 H24 := by rw [h24]; exact mods_wr_add (by simp)
  have g24 : Blk H24 HG.size t_api_Function (fnL g s2) := by rw [h24]; exact g23.wr1 (i := 10) (w := .slice s2.p s2.n s2.c)
  clear h24
  have s23 := m23.size
  have s24 := m24.size
  exact next1 hkn (by omega) ⟨Mods.ext (Mods.ext x21 m23 (fun x hx => by have := nb2 x hx; omega)) m24 (by simp; omega), (f21.mods m23 (fun h => by have := nb2 _ h; omega)).mods m24 (by simp; omega), by omega,
    ⟨zs, (zz21.mods m23 (fun h => by have := nb2 _ h; omega)).mods m24 (by simp; omega), zl⟩, s2, B ++ [(kk, n4)] ++ [(0, 0)], g24, by simp; omega, by simp; omega, ho23.mods m24 (fun a ha => by have := ho23.new a ha; simp; omega)⟩

end Go.Proofs.Ytankllejpldleaa
