/-
  PciconfProbes.
-/
import Derived.Test.YtankllejpldleaaL1
namespace Go.Proofs.Ytankllejpldleaa
open Go.Eng

theorem push_ib {k : IntKind} {e : TypeId} {cs : Array Value} {N : Nat} {F : Nat → Int} {K : Heap → Prop} {H : Heap} (hc : cs = ((tab N F).map (Value.int k)).toArray) (h : ∀ H', Ext H H' → H'.size = H.size + 1 → IBlk k H' H.size e N F → K H') :
    letH (H.push (.cells cs e (0, 0))) K := by
  subst hc
  exact push_mk fun H' e s b => h H' e s ⟨[], by simpa using b⟩

theorem probes_k6 (H H2 : Heap) (g : Fn) (sl : Sl) (b gg : Nat) (H13 : Heap) (hv : ValidF g) (b13 : Blk H13 H2.size t_api_Function (fnL g sl)) (hB : Bars H13 sl g.bars) (a13 : Acc H13 b gg g) (hx : RB H13 gg t_api_Bar 2 encBar (xbars g)) (x13 : Ext H H13) :
    F_law18_PciconfProbes_k6 (BoolP true H) H2 (some ⟨b, 0, none⟩) H13 := by
  unfold F_law18_PciconfProbes_k6
  have lb := a13.lt
  have l2 := b13.lt
  have lg := hx.lt
  obtain ⟨ys, d13, hy, _⟩ := a13.ex
  refine push_ib (k := .u64) (N := 64) (F := fun _ => 0) (by kernel_rfl) fun H14 e14 z14 i14 => ?_
  refine loop1 64 (fun k H' => (∃ W, IBlk .u64 H' H13.size t_64_uint64 64 W ∧ ∀ i, i < k → W i = readF ys (4 * (i : Int)) 4) ∧ Mods [H13.size] H14 H') ⟨⟨_, i14, fun i hi => by omega⟩, .refl _ _⟩ ?_
  rintro k H15 hk ⟨⟨W, i15, hW⟩, m15⟩
  unfold F_law18_PciconfProbes_r5
  have d15 := (d13.ext e14).mods m15 (by simp; omega)
  refine iteB_lt (fun c => ?_) (fun c => ?_)
  · rw [i64_in (n := (4 : Int) * k) (by omega)]
    refine (Read_spec b ys _ _ _ 4 H15 d15 hy).mono ?_
    rintro v H16 ⟨rfl, rfl⟩
    refine ⟨_, rfl, by omega, by omega, i15.ok (i := k) (by omega), letH_mk ?_⟩
    intro H17 h17
    have i17 : IBlk .u64 H17 H13.size t_64_uint64 64 (upd W k (readF ys (4 * (k : Int)) 4)) := by rw [h17]; exact i15.wr (i := k) (by omega) _
    have m17 : Mods [H13.size] H16 H17 := by rw [h17]; exact mods_wr_add (by simp)
    clear h17
    refine letV_mk _ rfl (next1 (by omega) (by omega) ⟨⟨_, i17, fun i hi => ?_⟩, m15.trans m17⟩)
    by_cases e : i = k
    · subst e; rw [upd_same]
    · rw [upd_ne e]; exact hW i (by omega)
  · have hk64 : k = 64 := by omega
    subst hk64
    have hx15 := (hx.ext e14).mods m15 (by simp; omega)
    refine (Probe_spec b gg g ys _ H15 d15 hx15 hv.bl).mono ?_
    rintro v H18 ⟨rfl, hx18, e18⟩
    refine ⟨⟨some ⟨H15.size, 0, none⟩, regs g.bridge, regs g.bridge⟩, rfl, ?_⟩
    have i18 := i15.ext e18
    have d18 := d15.ext e18
    have b18 := ((b13.ext e14).mods m15 (by simp; omega)).ext e18
    have hB18 : Bars H18 sl g.bars := hB.ext ((Mods.ext e14 m15 (by simp)).trans e18)
    have x18 : Ext H H18 := (Mods.ext (x13.trans e14) m15 (by have := x13.size; simp; omega)).trans e18
    have hr := regs_le g.bridge
    have hlen := hB.len
    refine loop1 64 (fun k H' => H' = H18) rfl ?_
    rintro k H19 hk rfl
    unfold F_law18_PciconfProbes_r4
    refine iteB_lt (fun c1 => ?_) (fun c1 => ?_)
    · rw [i64_in (n := (4 : Int) * k) (by omega)]
      refine ⟨by omega, by omega, _, i18.rd (i := k) (by omega), (Read_spec b ys _ _ _ 4 H19 d18 hy).mono ?_⟩
      rintro v H20 ⟨rfl, rfl⟩
      have hWk := hW k (by omega)
      refine ⟨_, rfl, .refl _ _, ?_⟩
      rw [hWk, bne_self_eq_false]
      refine iteB_neg rfl ?_
      refine letV_mk _ rfl ?_
      refine next1 (by omega) (by omega) ?_
      rfl
    · obtain ⟨p0, p1, p2, p3, p4, p5, p6, p7, p8, p9, p10⟩ := Blk.fn b18
      refine ⟨_, p0, _, p1, _, p2, _, p3, _, p4, _, p5, _, p6, _, p7, _, p8, _, p9, _, p10, (Registers_spec g sl H19).mono ?_⟩
      rintro v H21 ⟨rfl, e21⟩
      refine ⟨_, rfl, iteB_neg (by simp) ?_⟩
      refine loop1 (regs g.bridge) (fun k H' => Ext H21 H') (.refl _) ?_
      rintro k H22 hk e22
      unfold F_law18_PciconfProbes_r3
      have y22 := e21.trans e22
      refine iteB_lt (fun c2 => ?_) (fun c2 => ⟨rfl, x18.trans y22⟩)
      have hkn : k < regs g.bridge := by simpa using c2
      refine local_mk rfl rfl fun H24 e24 z24 b24 => ?_
      have y24 := y22.trans e24
      have q10 := (Blk.fn (b18.ext y24)).2.2.2.2.2.2.2.2.2.2
      refine ⟨fun H' => Ext H22 H' ∧ Blk H' H22.size t_api_Bar (encBar (bk g.bars k, bz g.bars k)), ⟨sl, q10, iteB_dec (fun c3 => ?_) (fun c3 => ?_)⟩, ?_⟩
      · obtain ⟨a, hp, r0, r1⟩ := Bars.atN (hB18.ext y24) (k := k) (by omega)
        refine ⟨sl, q10, by omega, by omega, unSome_mk hp ⟨_, r0, _, r1, b24.ok0 (by simp), letH_mk ?_⟩⟩
        rintro H25 rfl
        exact ⟨Mods.ext e24 (Mods.wrs (S := [H22.size]) (by simp)) (by simp), b24.wr⟩
      · refine ⟨e24, ?_⟩
        have : g.bars[k]? = none := List.getElem?_eq_none (by omega)
        simpa [encBar, bk, bz, List.getD, this] using b24
      · rintro H26 ⟨e26, b26⟩
        unfold F_law18_PciconfProbes_k2
        have hg := xbars_get hv.bl hkn
        have hx26 := hx18.ext (y22.trans e26)
        refine ⟨by omega, by simpa using hkn, unSome_mk rfl ⟨_, hx26.rd0 (v := .int .i64 (bk g.bars k)) hg rfl, _, hx26.rd (j := 1) (v := .int .i64 (bz g.bars k)) hg rfl, _, b26.rd0 rfl, _, b26.rd (i := 1) rfl, iteB_neg (by simp) (letV_mk _ rfl (next1 hkn (by omega) (e22.trans e26)))⟩⟩

theorem law_probes (H : Heap) (f : Fn) (s l : Sl) (L : List OpR) (hB : Bars H s f.bars) (hs : f.bars.length ≤ 9223372036854775807) (hL : IsS 5 encOp H l L) :
    CallsH Try.prog n_law18_PciconfProbes #[fnV f s, .slice l.p l.n l.c] H (BoolP true H) := by
  refine F_law18_PciconfProbes_ok _ _ _ _ _ _ _ _ _ _ _ _ ?_
  unfold F_law18_PciconfProbes
  refine push_mk (vs := fnL f s) fun H1 e1 z1 b1 => ?_
  obtain ⟨p0, p1, p2, p3, p4, p5, p6, p7, p8, p9, p10⟩ := Blk.fn b1
  refine ⟨_, p0, _, p1, _, p2, _, p3, _, p4, _, p5, _, p6, _, p7, _, p8, _, p9, _, p10, (some_spec f s H1 (hB.ext e1) hs).mono ?_⟩
  rintro v H2 ⟨g, sl, rfl, hB2, e2, _, _⟩
  refine ⟨_, _, _, _, _, _, _, _, _, _, sl, rfl, local_mk (vs := fnL g sl) rfl rfl fun H4 e4 z4 b4 => ?_⟩
  have x4 := (e1.trans e2).trans e4
  have hB4 := hB2.ext e4
  refine ⟨fun x H' => Ext H4 H' ∧ (x = false → ValidF g), (awake_spec H4).mono ?_, ?_⟩
  · rintro v H5 ⟨rfl, e5⟩
    obtain ⟨p0, p1, p2, p3, p4, p5, p6, p7, p8, p9, p10⟩ := Blk.fn (b4.ext e5)
    refine ⟨_, rfl, iteB_neg rfl ⟨_, p0, _, p1, _, p2, _, p3, _, p4, _, p5, _, p6, _, p7, _, p8, _, p9, _, p10, (rValid_spec g sl H5 (hB4.ext e5)).mono ?_⟩⟩
    rintro v H6 ⟨rfl, e6⟩
    exact ⟨_, rfl, e5.trans e6, fun h => by simpa using h⟩
  rintro x H7 ⟨e7, hx⟩
  unfold F_law18_PciconfProbes_k7
  have x7 := x4.trans e7
  refine iteB_intro (fun c => ?_) (fun c => ?_)
  · refine (awake_spec H7).mono ?_
    rintro v H8 ⟨rfl, e8⟩
    exact ⟨_, rfl, rfl, x7.trans e8⟩
  have hv := hx c
  have b7 := b4.ext e7
  have hB7 := hB4.ext e7
  obtain ⟨p0, p1, p2, p3, p4, p5, p6, p7, p8, p9, p10⟩ := Blk.fn b7
  refine ⟨_, p0, _, p1, _, p2, _, p3, _, p4, _, p5, _, p6, _, p7, _, p8, _, p9, _, p10, (New_spec g sl H7 hB7).mono ?_⟩
  rintro v H9 (⟨b, gg, _, hb, hgg, hgb, d9, hx9, e9⟩ | ⟨hn, _⟩)
  rotate_left
  · exact absurd hv hn
  have x9 := x7.trans e9
  have hn := hL.len
  have l7 := b7.lt
  have s7 := x7.size
  refine ⟨_, _, rfl, iteB_neg rfl (iteB_neg rfl ⟨fun H' => Acc H' b gg g ∧ Mods [b] H9 H', ?_, ?_⟩)⟩
  · refine loop1 20 (fun k H' => Acc H' b gg g ∧ Mods [b] H9 H') ⟨Acc.first d9, .refl _ _⟩ ?_
    rintro k H11 hk ⟨a11, m11⟩
    unfold F_law18_PciconfProbes_r1
    refine iteB_dec (fun c1 => iteB_dec (fun c2 => ?_) (fun _ => ⟨a11, m11⟩)) (fun _ => ⟨a11, m11⟩)
    have x11 : Ext H H11 := Mods.ext x9 m11 (by simp; omega)
    obtain ⟨a, o, hp, r0, r1, r2, r3, r4⟩ := opAt (hL.ext x11) (k := k) (by omega)
    refine ⟨by omega, by omega, unSome_mk hp ⟨_, r0, _, r1, _, r2, _, r3, _, r4, (access_spec o H11).mono ?_⟩⟩
    rintro v H12 ⟨aa, w, rfl, e12⟩
    refine ⟨_, _, rfl, by omega, by omega, unSome_mk hp ⟨_, e12.rd r3, ((a11.ext e12).write _ _ _).mono ?_⟩⟩
    rintro v H13 ⟨rfl, a13, m13⟩
    exact ⟨rfl, letV_mk _ rfl (next1 (by omega) (by omega) ⟨a13, (m11.trans e12.mods).trans m13⟩)⟩
  · rintro H13 ⟨a13, m13⟩
    have y13 : Ext H7 H13 := Mods.ext e9 m13 (by simp; omega)
    exact probes_k6 H H2 g sl b gg H13 hv ((b7.ext e9).mods m13 (by simp; omega)) (hB7.ext y13) a13 (hx9.mods m13 (by simp; omega)) (x7.trans y13)

end Go.Proofs.Ytankllejpldleaa
