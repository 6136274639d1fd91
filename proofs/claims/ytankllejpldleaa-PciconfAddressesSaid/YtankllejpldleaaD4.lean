/-
  The reference's device; accesses; Probe; the fixed example.
-/
import Derived.Test.YtankllejpldleaaD3
namespace Go.Proofs.Ytankllejpldleaa
open Go.Eng

theorem bar_spec (f : Fn) (s : Sl) (i : Nat) (H : Heap) (h : Bars H s f.bars) :
    CallsH Try.prog n_ref18_bar #[fnV f s, .int .i64 i] H (fun v H' => v = .agg #[.int .i64 (bk f.bars i), .int .i64 (bz f.bars i)] ∧ Ext H H') := by
  refine F_ref18_bar_ok _ _ _ _ _ _ _ _ _ _ _ _ ?_
  unfold F_ref18_bar
  refine push_mk (vs := fnL f s) fun H1 e1 z1 b1 => push_mk (vs := [.int .i64 0, .int .i64 0]) fun H2 e2 z2 b2 => ?_
  obtain ⟨_, _, _, _, _, _, _, _, _, _, q10⟩ := Blk.fn (b1.ext e2)
  have hn := h.len
  have x2 := e1.trans e2
  have mm : ∀ vs, Ext H (wrs H2 (⟨H1.size, 0, none⟩ : Addr) vs) := fun vs => Mods.ext x2 (Mods.wrs (S := [H1.size]) (by simp)) (by simp; omega)
  refine iteB_dec (fun c => by omega) (fun _ => ⟨s, q10, iteB_dec (fun c => ⟨b2.ok0 (by simp), letH_mk ?_⟩) (fun c => ?_)⟩)
  · rintro H4 rfl
    have w := b2.wr (o := 0) (ws := [.int .i64 0, .int .i64 0])
    refine ⟨_, w.rd0 rfl, _, w.rd (i := 1) rfl, ?_, mm _⟩
    have : f.bars[i]? = none := List.getElem?_eq_none (by omega)
    simp [bk, bz, List.getD, this]
  · obtain ⟨a, hp, r0, r1⟩ := Bars.atN (h.ext x2) (k := i) (by omega)
    refine ⟨s, q10, by omega, by omega, unSome_mk hp ⟨_, r0, _, r1, b2.ok0 (by simp), letH_mk ?_⟩⟩
    rintro H5 rfl
    have w := b2.wr (o := 0) (ws := [.int .i64 (bk f.bars i), .int .i64 (bz f.bars i)])
    exact ⟨_, w.rd0 rfl, _, w.rd (i := 1) rfl, rfl, mm _⟩

theorem wide_spec (k z : Int) (H : Heap) : CallsH Try.prog n_ref18_wide #[.agg #[.int .i64 k, .int .i64 z]] H (BoolP (decide (k = 3 ∨ k = 4)) H) := by
  refine F_ref18_wide_ok _ _ ?_
  unfold F_ref18_wide
  refine push_mk (vs := [.int .i64 k, .int .i64 z]) fun H1 e1 _ b1 => ⟨_, b1.rd0 rfl, iteB_beq (fun c => ⟨by simp [c], e1⟩) (fun c => ⟨_, b1.rd0 rfl, ?_, e1⟩)⟩
  congr 1
  by_cases c4 : k = 4 <;> simp [c, c4]

def rrest (f : Fn) (s : Sl) (i : Nat) : Value := (fnL f s).getD i (.bool false)

theorem sbars_succ2 {s : St} {B : List Bar} {k : Nat} (h : bk B (k + 1) = 0) : sbars s B (k + 2) = sbars s B (k + 1) := by
  show sbar _ _ _ _ = _
  unfold sbar
  rw [h]
  rfl

set_option maxRecDepth 4000 in
theorem NewDevice_spec (f : Fn) (s : Sl) (H : Heap) (h : Bars H s f.bars) (hv : ValidF f) :
    CallsH Try.prog n_ref18_NewDevice #[fnV f s] H (fun v H' => ∃ b, v = .pointer (some ⟨b, 0, none⟩) ∧ H.size ≤ b ∧ RD H' b (sinit f).1 (sinit f).2 (rrest f s) ∧ Ext H H') := by
  refine F_ref18_NewDevice_ok _ _ _ _ _ _ _ _ _ _ _ ?_
  unfold F_ref18_NewDevice
  refine push_mk (vs := fnL f s) fun H1 e1 z1 b1 => ?_
  obtain ⟨p0, p1, p2, p3, p4, p5, p6, p7, p8, p9, p10⟩ := Blk.fn b1
  refine ⟨_, p0, _, p1, _, p2, _, p3, _, p4, _, p5, _, p6, _, p7, _, p8, _, p9, s, p10, push_vb (N := 523) (F := dvF 11 267 (fun _ => 0) (fun _ => 0) (rrest f s)) (by kernel_rfl) fun H2 e2 z2 v2 => ?_⟩
  have d2 : RD H2 H1.size (fun _ => 0) (fun _ => 0) (rrest f s) := ⟨v2, by omega, by omega⟩
  have l1 := b1.lt
  have b2 := b1.ext e2
  have x2 := e1.trans e2
  obtain ⟨_, _, q2, _, _, _, _, _, _, _, _⟩ := Blk.fn b2
  refine ⟨_, q2, (set_spec H1.size _ _ _ 0 2 _ 0 H2 d2 (by omega) (by omega)).mono ?_⟩
  rintro v H3 ⟨rfl, d3, m3⟩
  obtain ⟨_, _, _, q3, _, _, _, _, _, _, _⟩ := Blk.fn (b2.mods m3 (by simp; omega))
  refine ⟨rfl, _, q3, (set_spec H1.size _ _ _ 2 2 _ 0 H3 d3 (by omega) (by omega)).mono ?_⟩
  rintro v H4 ⟨rfl, d4, m4⟩
  refine ⟨rfl, (set_spec H1.size _ _ _ 4 2 _ 7 H4 d4 (by omega) (by omega)).mono ?_⟩
  rintro v H5 ⟨rfl, d5, m5⟩
  refine ⟨rfl, (set_spec H1.size _ _ _ 60 1 _ 255 H5 d5 (by omega) (by omega)).mono ?_⟩
  rintro v H6 ⟨rfl, d6, m6⟩
  have m6' := ((m3.trans m4).trans m5).trans m6
  obtain ⟨_, _, _, _, _, _, _, _, q8, _, _⟩ := Blk.fn (b2.mods m6' (by simp; omega))
  refine ⟨rfl, _, q8, (set_spec H1.size _ _ _ 61 1 _ 0 H6 d6 (by omega) (by omega)).mono ?_⟩
  rintro v H7 ⟨rfl, d7, m7⟩
  have m7' := m6'.trans m7
  have d7' : RD H7 H1.size (sbase f).1 (sbase f).2 (rrest f s) := d7
  clear d7
  have hr : regs f.bridge ≤ 6 := by unfold regs; split <;> omega
  refine ⟨rfl, fun i H' => ∃ k : Nat, i = k ∧ k ≤ regs f.bridge ∧ RD H' H1.size (sbars (sbase f) f.bars k).1 (sbars (sbase f) f.bars k).2 (rrest f s) ∧ Mods [H1.size] H2 H', fun i _ => (100 - i).toNat, ⟨0, rfl, by omega, d7', m7'⟩, ?_⟩
  rintro i H8 ⟨k, rfl, hk, d8, m8⟩
  unfold F_ref18_NewDevice_r3
  have b8 := b2.mods m8 (by simp; omega)
  obtain ⟨p0, p1, p2, p3, p4, p5, p6, p7, p8, p9, p10⟩ := Blk.fn b8
  refine ⟨_, p0, _, p1, _, p2, _, p3, _, p4, _, p5, _, p6, _, p7, _, p8, _, p9, s, p10, (Registers_spec f s H8).mono ?_⟩
  rintro v H9 ⟨rfl, e9⟩
  have b9 := b8.ext e9
  have d9 := d8.ext e9
  have m9 : Mods [H1.size] H2 H9 := m8.trans e9.mods
  have x9 : Ext H H9 := Mods.ext x2 m9 (by simp; omega)
  obtain ⟨p0, p1, p2, p3, p4, p5, p6, p7, p8, p9, p10⟩ := Blk.fn b9
  refine ⟨_, rfl, iteB_dec (fun c => ?_) (fun c => ?_)⟩
  · have hkn : k < regs f.bridge := by omega
    refine ⟨_, p0, _, p1, _, p2, _, p3, _, p4, _, p5, _, p6, _, p7, _, p8, _, p9, s, p10, (bar_spec f s k H9 (h.ext x9)).mono ?_⟩
    rintro v H10 ⟨rfl, e10⟩
    refine ⟨_, _, rfl, local_mk rfl rfl fun H12 e12 z12 b12 => ?_⟩
    have hbz := bz_nonneg hv k
    have hbz2 : bz f.bars k ≤ 40 := by
      by_cases cc : k < f.bars.length
      · have := hv.ba k cc; unfold BarOk at this; omega
      · have : f.bars[k]? = none := List.getElem?_eq_none (by omega)
        simp [bz, List.getD, this]
    have hu : IntKind.u64.wrap (bz f.bars k) = bz f.bars k := u64_in (by omega)
    have y12 := e10.trans e12
    have d12 := d9.ext y12
    have m12 : Mods [H1.size] H2 H12 := m9.trans y12.mods
    have z9 := e9.size
    have z10 := e10.size
    have z8 := m8.size
    have hat : IntKind.i64.wrap ((16 : Int) + IntKind.i64.wrap ((4 : Int) * k)) = ((16 + 4 * k : Nat) : Int) := by
      rw [i64_in (n := (4 : Int) * k) (by omega), i64_in (by omega)]; omega
    refine ⟨_, b12.rd (i := 1) rfl, by rw [hu]; exact hbz, letV_mk (kept (bz f.bars k)) (by unfold kept; rw [hu]) (letV_mk _ hat ?_)⟩
    refine ⟨fun H' => RD H' H1.size (sbars (sbase f) f.bars (k + 1)).1 (sbars (sbase f) f.bars (k + 1)).2 (rrest f s) ∧ Mods [H1.size] H12 H', ⟨_, b12.rd0 rfl, ?_⟩, ?_⟩
    · refine iteB_beq (fun c1 => ?_) (fun c1 => iteB_beq (fun c2 => ?_) (fun c2 => iteB_beq (fun c3 => ?_) (fun c3 => iteB_beq (fun c4 => ?_) (fun c4 => ?_))))
      · refine (set_spec H1.size _ _ _ _ 4 1 (kept (bz f.bars k)) H12 d12 (by omega) (by omega)).mono ?_
        rintro x H2 ⟨rfl, d2, m2⟩
        refine ⟨rfl, ?_, m2⟩
        show RD _ _ (sbar _ _ _ _).1 (sbar _ _ _ _).2 _
        unfold sbar; rw [if_pos c1]; exact d2
      · refine (set_spec H1.size _ _ _ _ 4 0 (kept (bz f.bars k)) H12 d12 (by omega) (by omega)).mono ?_
        rintro x H2 ⟨rfl, d2, m2⟩
        refine ⟨rfl, ?_, m2⟩
        show RD _ _ (sbar _ _ _ _).1 (sbar _ _ _ _).2 _
        unfold sbar; rw [if_neg c1, if_pos c2]; exact d2
      · refine (set_spec H1.size _ _ _ _ 8 4 (kept (bz f.bars k)) H12 d12 (by omega) (by omega)).mono ?_
        rintro x H2 ⟨rfl, d2, m2⟩
        refine ⟨rfl, ?_, m2⟩
        show RD _ _ (sbar _ _ _ _).1 (sbar _ _ _ _).2 _
        unfold sbar; rw [if_neg c1, if_neg c2, if_pos c3]; exact d2
      · refine (set_spec H1.size _ _ _ _ 8 12 (kept (bz f.bars k)) H12 d12 (by omega) (by omega)).mono ?_
        rintro x H2 ⟨rfl, d2, m2⟩
        refine ⟨rfl, ?_, m2⟩
        show RD _ _ (sbar _ _ _ _).1 (sbar _ _ _ _).2 _
        unfold sbar; rw [if_neg c1, if_neg c2, if_neg c3, if_pos c4]; exact d2
      · refine ⟨?_, .refl _ _⟩
        show RD _ _ (sbar _ _ _ _).1 (sbar _ _ _ _).2 _
        unfold sbar; rw [if_neg c1, if_neg c2, if_neg c3, if_neg c4]; exact d12
    · rintro H17 ⟨d17, m17⟩
      unfold F_ref18_NewDevice_k1
      have b17 := b12.mods m17 (by simp; omega)
      refine ⟨_, b17.rd0 rfl, _, b17.rd (i := 1) rfl, (wide_spec _ _ H17).mono ?_⟩
      rintro v H18 ⟨rfl, e18⟩
      have mm : Mods [H1.size] H2 H18 := (m12.trans m17).trans e18.mods
      refine ⟨_, rfl, iteB_dec (fun cw => ?_) (fun cw => ?_)⟩
      · have hkl : k < f.bars.length := by
          by_cases cc : k < f.bars.length
          · exact cc
          · have : f.bars[k]? = none := List.getElem?_eq_none (by omega)
            simp [bk, List.getD, this] at cw
        have hb := hv.ba k hkl
        have hbl := hv.bl
        have hb2 : k + 1 < f.bars.length ∧ bk f.bars (k + 1) = 0 := by unfold BarOk at hb; omega
        refine letV_mk ((k + 1 : Nat) : Int) (i64_succ (by omega)) (letV_mk ((k + 1 + 1 : Nat) : Int) (i64_succ (by omega)) ⟨⟨k + 2, rfl, by omega, ?_, mm⟩, by dsimp only; omega⟩)
        rw [sbars_succ2 hb2.2]
        exact d17.ext e18
      · exact letV_mk ((k + 1 : Nat) : Int) (i64_succ (by omega)) ⟨⟨k + 1, rfl, by omega, d17.ext e18, mm⟩, by dsimp only; omega⟩
  · have hkr : k = regs f.bridge := by omega
    subst hkr
    refine ⟨fun H' => RD H' H1.size (if f.bridge then sbr (sbars (sbase f) f.bars (regs f.bridge)) else sbars (sbase f) f.bars (regs f.bridge)).1 (if f.bridge then sbr (sbars (sbase f) f.bars (regs f.bridge)) else sbars (sbase f) f.bars (regs f.bridge)).2 (rrest f s) ∧ Mods [H1.size] H2 H', ⟨_, p4, ?_⟩, ?_⟩
    · refine iteB_intro (fun c1 => ?_) (fun c1 => ?_)
      · refine (set_spec H1.size _ _ _ 14 1 1 0 H9 d9 (by omega) (by omega)).mono ?_
        rintro x H19 ⟨rfl, d19, m19⟩
        refine ⟨rfl, (set_spec H1.size _ _ _ 24 3 0 16777215 H19 d19 (by omega) (by omega)).mono ?_⟩
        rintro x H20 ⟨rfl, d20, m20⟩
        refine ⟨rfl, (set_spec H1.size _ _ _ 28 2 0 61680 H20 d20 (by omega) (by omega)).mono ?_⟩
        rintro x H21 ⟨rfl, d21, m21⟩
        refine ⟨rfl, (set_spec H1.size _ _ _ 32 4 0 4293984240 H21 d21 (by omega) (by omega)).mono ?_⟩
        rintro x H22 ⟨rfl, d22, m22⟩
        refine ⟨rfl, ?_, (((m9.trans m19).trans m20).trans m21).trans m22⟩
        rw [if_pos c1]; exact d22
      · refine ⟨?_, m9⟩
        rw [if_neg (by rw [c1]; simp)]; exact d9
    · rintro H23 ⟨d23, m23⟩
      unfold F_ref18_NewDevice_k2
      have b23 := b2.mods m23 (by simp; omega)
      have x23 : Ext H H23 := Mods.ext x2 m23 (by simp; omega)
      obtain ⟨p0, p1, p2, p3, p4, p5, p6, p7, p8, p9, p10⟩ := Blk.fn b23
      refine ⟨_, p5, iteB_intro (fun c1 => ?_) (fun c1 => ?_)⟩
      · have hbr : f.bridge = true := by
          cases hb : f.bridge
          · have := (hv.nb hb).1; rw [c1] at this; cases this
          · rfl
        rw [if_pos hbr] at d23
        refine (set_spec H1.size _ _ _ 36 4 65537 4293984240 H23 d23 (by omega) (by omega)).mono ?_
        rintro x H24 ⟨rfl, d24, m24⟩
        refine ⟨rfl, (set_spec H1.size _ _ _ 40 8 0 18446744073709551615 H24 d24 (by omega) (by omega)).mono ?_⟩
        rintro x H25 ⟨rfl, d25, m25⟩
        refine ⟨rfl, _, rfl, by omega, ?_, Mods.ext x23 (m24.trans m25) (by simp; omega)⟩
        unfold sinit sbridge
        rw [if_pos hbr, if_pos c1]
        exact d25
      · refine ⟨_, rfl, by omega, ?_, x23⟩
        unfold sinit sbridge
        rw [if_neg (c := f.pref = true) (by rw [c1]; simp)]
        exact d23

abbrev OpR := Int × Int × Bool × Int × Bool
def encOp (o : OpR) : List Value := [.int .i64 o.1, .int .i64 o.2.1, .bool o.2.2.1, .int .u64 o.2.2.2.1, .bool o.2.2.2.2]
theorem encOp_len (o : OpR) : (encOp o).length = 5 := rfl

theorem access_spec (o : OpR) (H : Heap) : CallsH Try.prog n_law18_access #[.agg #[.int .i64 o.1, .int .i64 o.2.1, .bool o.2.2.1, .int .u64 o.2.2.2.1, .bool o.2.2.2.2]] H (fun v H' => ∃ a w, v = .tuple #[.int .i64 a, .int .i64 w] ∧ Ext H H') := by
  refine F_law18_access_ok _ _ _ _ _ ?_
  unfold F_law18_access
  refine push_mk (vs := encOp o) fun H1 e1 z1 b1 => ⟨_, b1.rd (i := 4) rfl, iteB_intro (fun c => ⟨_, b1.rd0 rfl, _, b1.rd (i := 1) rfl, _, _, rfl, e1⟩) (fun c => ?_)⟩
  refine push_mk (vs := [.int .i64 1, .int .i64 2, .int .i64 4]) fun H2 e2 z2 b2 => ?_
  have b1' := b1.ext e2
  refine ⟨_, b1'.rd (i := 1) rfl, (Mod_spec _ _ H2 (by omega) (by omega)).mono ?_⟩
  rintro v H3 ⟨rfl, rfl⟩
  have hm := modI_range o.2.1 (n := 3) (by omega)
  have hw : ∃ w : Int, w ≠ 0 ∧ rd H3 ((⟨H1.size, 0, none⟩ : Addr).add ((modI o.2.1 3).toNat * 1)) = some (.int .i64 w) := by
    generalize modI o.2.1 3 = x at hm
    rcases (by omega : x = 0 ∨ x = 1 ∨ x = 2) with rfl | rfl | rfl
    · exact ⟨1, by omega, b2.rd (i := 0) rfl⟩
    · exact ⟨2, by omega, b2.rd (i := 1) rfl⟩
    · exact ⟨4, by omega, b2.rd (i := 2) rfl⟩
  obtain ⟨w, hw0, hw1⟩ := hw
  refine ⟨_, rfl, hm.1, hm.2, w, hw1, _, b1'.rd0 rfl, (Mod_spec _ _ H3 (by omega) (by omega)).mono ?_⟩
  rintro v H4 ⟨rfl, rfl⟩
  exact ⟨_, rfl, hw0, letV_mk _ rfl ⟨_, _, rfl, e1.trans e2⟩⟩

theorem Probe_spec (b g : Nat) (f : Fn) (ys ms : Nat → Int) (H : Heap) (h : PD H b ys ms (prest g f)) (hx : RB H g t_api_Bar 2 encBar (xbars f)) (hl : f.bars.length ≤ regs f.bridge) :
    CallsH Try.prog n_pciconf_Device_Probe #[.pointer (some ⟨b, 0, none⟩)] H (fun v H' => v = .slice (some ⟨H.size, 0, none⟩) (regs f.bridge) (regs f.bridge) ∧ RB H' H.size t_api_Bar 2 encBar (xbars f) ∧ Ext H H') := by
  refine F_pciconf_Device_Probe_ok _ ?_
  unfold F_pciconf_Device_Probe
  have hr : regs f.bridge ≤ 6 := by unfold regs; split <;> omega
  refine ⟨⟨some ⟨g, 0, none⟩, regs f.bridge, regs f.bridge⟩, h.rdR (i := 512) (by omega) (by omega) (by omega), by omega, by omega, by dsimp only; omega, letH_mk ?_⟩
  dsimp only
  rw [Int.toNat_natCast]
  intro H1 h1
  have e1 : Ext H H1 := by rw [h1]; exact Ext.push _ _
  have g1 : RB H1 H.size t_api_Bar 2 encBar (List.replicate (regs f.bridge) (0, 0)) := by rw [h1]; exact RB.zero _ _ encBar_len _ _ _ rfl
  clear h1
  have hxl := xbars_len hl
  refine ⟨⟨some ⟨g, 0, none⟩, regs f.bridge, regs f.bridge⟩, (h.ext e1).rdR (i := 512) (by omega) (by omega) (by omega), ?_⟩
  have hcp := copy_rb (P := Try.prog) (st := t_sl_api_Bar) (st' := t_sl_api_Bar) (ty := t_int) (e := t_api_Bar) (dc := regs f.bridge) (L := List.replicate (regs f.bridge) ((0, 0) : Bar)) (K := fun v2 H6 => v2 = .int .i64 (xbars f).length ∧ RB H6 H.size t_api_Bar 2 encBar (xbars f) ∧ Mods [H.size] H1 H6) (by rfl) (by rfl) g1 ((hx.ext e1).isS (regs f.bridge) (regs f.bridge) hxl.symm) (by simp [hxl]) encBar_one (fun H' h1 h2 h3 => ⟨rfl, by rw [hxl] at h1; simpa using h1, h2⟩)
  rw [List.length_replicate] at hcp
  refine runH_mono hcp ?_
  rintro v H2 ⟨rfl, g2, m2⟩
  exact ⟨_, rfl, rfl, g2, Mods.ext e1 m2 (by simp)⟩

def f0 : Fn := ⟨0, 0, 1, 0, false, false, false, 0, 0, 0, [(2, 12)]⟩
theorem f0_valid : ValidF f0 := by decide +kernel
theorem f0_read1 : readF (writeF (sinit f0).1 (sinit f0).2 16 4 4294967295) 16 4 = 4294963200 := by decide +kernel
theorem f0_read2 : readF (writeF (sinit f0).1 (sinit f0).2 16 4 4294967295) 0 2 = 1 := by decide +kernel

theorem awake_spec (H : Heap) : CallsH Try.prog n_law18_awake #[] H (BoolP true H) := by
  refine F_law18_awake_ok ?_
  unfold F_law18_awake
  refine push_mk (vs := encBar (2, 12)) fun H1 e1 z1 b1 => local_mk rfl rfl fun H3 e3 z3 b3 => ?_
  have b3' : Blk H3 H1.size t_api_Function (fnL f0 ⟨some ⟨H.size, 0, none⟩, 1, 1⟩) := b3
  have hB : Bars H3 ⟨some ⟨H.size, 0, none⟩, 1, 1⟩ f0.bars := IsS.of_blk (vs := encBar (2, 12)) encBar_len (b1.ext e3) rfl (fun i v h => h)
  obtain ⟨p0, p1, p2, p3, p4, p5, p6, p7, p8, p9, p10⟩ := Blk.fn b3'
  refine ⟨_, p0, _, p1, _, p2, _, p3, _, p4, _, p5, _, p6, _, p7, _, p8, _, p9, _, p10, (New_spec f0 _ H3 hB).mono ?_⟩
  rintro v H4 (⟨b, g, hv, hb, hg, hgb, d, hx, he⟩ | ⟨hv, he⟩)
  rotate_left
  · exact absurd f0_valid hv
  refine ⟨_, _, rfl, iteB_bne (fun c => absurd rfl c) (fun _ => iteB_neg rfl ((Write_spec b _ _ _ 16 4 4294967295 H4 d).mono ?_))⟩
  rintro v H5 ⟨rfl, d5, m5⟩
  have b5 := (b3'.ext he).mods m5 (by have := b3'.lt; simp; omega)
  obtain ⟨p0, p1, p2, p3, p4, p5, p6, p7, p8, p9, p10⟩ := Blk.fn b5
  have x5 : Ext H3 H5 := Mods.ext he m5 (by simp; omega)
  have xx : Ext H H5 := (e1.trans e3).trans x5
  refine ⟨rfl, _, p0, _, p1, _, p2, _, p3, _, p4, _, p5, _, p6, _, p7, _, p8, _, p9, _, p10, (Valid_spec f0 _ H5 (hB.ext x5)).mono ?_⟩
  rintro v H6 ⟨rfl, e6⟩
  have d6 := d5.ext e6
  have by6 := writeF_bytes (ms := (sinit f0).2) (sinit_bytes f0) 16 4 4294967295
  refine ⟨_, rfl, iteB_pos (by simpa using f0_valid) ((Read_spec b _ _ _ 16 4 H6 d6 by6).mono ?_)⟩
  rintro v H7 ⟨rfl, rfl⟩
  refine ⟨_, rfl, iteB_beq (fun _ => (Read_spec b _ _ _ 0 2 H7 d6 by6).mono ?_) (fun c => absurd f0_read1 c)⟩
  rintro v H8 ⟨rfl, rfl⟩
  refine ⟨_, rfl, ?_, xx.trans e6⟩
  rw [f0_read2]
  rfl

end Go.Proofs.Ytankllejpldleaa
