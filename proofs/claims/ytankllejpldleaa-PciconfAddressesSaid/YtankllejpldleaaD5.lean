/-
  The windows that a device decodes.
-/
import Derived.Test.YtankllejpldleaaL1
namespace Go.Proofs.Ytankllejpldleaa
open Go.Eng

abbrev WR := Int × Int × Int × Int × Bool
def encW (w : WR) : List Value := [.int .i64 w.1, .int .i64 w.2.1, .int .u64 w.2.2.1, .int .u64 w.2.2.2.1, .bool w.2.2.2.2]
theorem encW_len (w : WR) : (encW w).length = 5 := rfl
theorem encW_one (w : WR) : ∀ u ∈ encW w, oneC u = true := fun u hu => by simp [encW] at hu; rcases hu with rfl | rfl | rfl | rfl | rfl <;> rfl

def enF (ys : Nat → Int) (c : Int) : Bool := if c = 0 then bitsAnd .u8 (ys 4) 1 != 0 else bitsAnd .u8 (ys 4) 2 != 0
def wcl (k : Int) : Int := if k = 1 then 0 else if k = 4 then 2 else 1
def wwd (k : Int) : Nat := if k = 3 ∨ k = 4 then 8 else 4
def winB (n z : Int) : Int := IntKind.u64.wrap (n.fdiv (2 ^ (min z.toNat IntKind.u64.bits)) * 2 ^ (min z.toNat IntKind.u64.bits))
def winL (z : Int) : Int := IntKind.u64.wrap (1 * 2 ^ (min z.toNat IntKind.u64.bits))
def winOf (ys : Nat → Int) (B : List Bar) (i : Nat) : WR := (i, wcl (bk B i), winB (numB ys (16 + 4 * i) (wwd (bk B i))) (bz B i), winL (bz B i), enF ys (wcl (bk B i)))
def winsF (ys : Nat → Int) (B : List Bar) : Nat → List WR
  | 0 => []
  | i + 1 => winsF ys B i ++ (if bk B i = 0 then [] else [winOf ys B i])

theorem winsF_len (ys : Nat → Int) (B : List Bar) : ∀ n, (winsF ys B n).length ≤ n
  | 0 => by simp [winsF]
  | n + 1 => by
    have := winsF_len ys B n
    simp only [winsF, List.length_append]
    split <;> simp <;> omega
theorem winsF_mem (ys : Nat → Int) (B : List Bar) : ∀ n x, x ∈ winsF ys B n → ∃ i, i < n ∧ bk B i ≠ 0 ∧ x = winOf ys B i
  | 0, x, h => by simp [winsF] at h
  | n + 1, x, h => by
    simp only [winsF, List.mem_append] at h
    rcases h with h | h
    · obtain ⟨i, hi, h2⟩ := winsF_mem ys B n x h
      exact ⟨i, by omega, h2⟩
    · split at h
      · simp at h
      · rename_i hk
        simp at h
        exact ⟨n, by omega, hk, h⟩
theorem winsF_has (ys : Nat → Int) (B : List Bar) : ∀ n i, i < n → bk B i ≠ 0 → winOf ys B i ∈ winsF ys B n
  | 0, i, h, _ => by omega
  | n + 1, i, h, hk => by
    simp only [winsF, List.mem_append]
    by_cases e : i = n
    · subst e; rw [if_neg hk]; simp
    · exact .inl (winsF_has ys B n i (by omega) hk)

theorem enabled_spec (b : Nat) (ys ms : Nat → Int) (r : Nat → Value) (c : Int) (H : Heap) (h : PD H b ys ms r) :
    CallsH Try.prog n_pciconf_Device_enabled #[.pointer (some ⟨b, 0, none⟩), .int .i64 c] H (fun v H' => v = .bool (enF ys c) ∧ H' = H) := by
  refine F_pciconf_Device_enabled_ok _ _ ?_
  unfold F_pciconf_Device_enabled
  have r4 := h.rdY (i := 4) (by omega)
  refine iteB_beq (fun c0 => ⟨by omega, by omega, _, r4, ?_, rfl⟩) (fun c0 => ⟨by omega, by omega, _, r4, ?_, rfl⟩)
  · unfold enF; rw [if_pos c0]
  · unfold enF; rw [if_neg c0]

theorem appendWindow_spec (lo b : Nat) (ys ms : Nat → Int) (r : Nat → Value) (c first last : Int) (l : Sl) (ws : List WR) (H : Heap) (h : PD H b ys ms r) (hc : 0 ≤ c ∧ c ≤ 2) (ho : Own lo t_api_Window 5 H l (ws.flatMap encW)) (hn : l.n = ws.length) (hw : ws.length ≤ 100) (hlo : lo ≤ H.size) :
    CallsH Try.prog n_pciconf_Device_appendWindow #[.pointer (some ⟨b, 0, none⟩), .slice l.p l.n l.c, .int .i64 c, .int .u64 first, .int .u64 last] H
      (fun v H' => ∃ (l' : Sl) (ws' : List WR), v = .slice l'.p l'.n l'.c ∧ Own lo t_api_Window 5 H' l' (ws'.flatMap encW) ∧ l'.n = ws'.length ∧ (ws' = ws ∨ ∃ x : WR, ws' = ws ++ [x] ∧ x.1 < 0) ∧ Mods (blkOf l.p) H H') := by
  refine F_pciconf_Device_appendWindow_ok _ _ _ _ _ ?_
  unfold F_pciconf_Device_appendWindow
  refine iteB_dec (fun c1 => ⟨l, ws, rfl, ho, hn, .inl rfl, .refl _ _⟩) (fun c1 => (enabled_spec b ys ms r c H h).mono ?_)
  rintro v H1 ⟨rfl, rfl⟩
  refine ⟨_, rfl, append_row (enc := encW) (l := ws) (z := .agg #[.int .i64 0, .int .i64 0, .int .u64 0, .int .u64 0, .bool false]) (sz := 5) (bytes := 40) (lo := lo) (IntKind.i64.wrap (-1 - c), c, first, IntKind.u64.wrap (IntKind.u64.wrap (last - first) + 1), enF ys c) (by kernel_rfl) (by kernel_rfl) rfl (by omega) encW_len encW_one ho (by simp [maxLen]; omega) (by omega) hlo ?_⟩
  intro s' H2 ho2 hn2 m2
  refine ⟨s', _, rfl, ho2, by simp; omega, .inr ⟨_, rfl, ?_⟩, m2⟩
  show IntKind.i64.wrap (-1 - c) < 0
  rw [i64_in (by omega)]
  omega

structure WinP (ys : Nat → Int) (f : Fn) (H : Heap) (v : Value) (H' : Heap) : Prop where
  ex : ∃ (l : Sl) (ws ext : List WR), v = .slice l.p l.n l.c ∧ IsS 5 encW H' l ws ∧ ws.length ≤ 100 ∧ ws = winsF ys f.bars (regs f.bridge) ++ ext ∧ (∀ x ∈ ext, x.1 < 0) ∧ Ext H H'

set_option maxHeartbeats 1000000 in
theorem Windows_spec (b g : Nat) (f : Fn) (ys ms : Nat → Int) (H : Heap) (hv : ValidF f) (h : PD H b ys ms (prest g f)) (hy : Bytes ys) (hx : RB H g t_api_Bar 2 encBar (xbars f)) :
    CallsH Try.prog n_pciconf_Device_Windows #[.pointer (some ⟨b, 0, none⟩)] H (WinP ys f H) := by
  refine F_pciconf_Device_Windows_ok _ ?_
  unfold F_pciconf_Device_Windows
  have hr := regs_le f.bridge
  have lb := h.lt
  have lg := hx.lt
  refine ⟨⟨some ⟨g, 0, none⟩, regs f.bridge, regs f.bridge⟩, h.rdR (i := 512) (by omega) (by omega) (by omega), ?_⟩
  refine loop2 (regs f.bridge) (fun k l H' => Own H.size t_api_Window 5 H' l ((winsF ys f.bars k).flatMap encW) ∧ l.n = (winsF ys f.bars k).length ∧ Ext H H') ⟨Own.nil _ _ _ _, rfl, .refl _⟩ ?_
  rintro k l H1 hk ⟨o1, hn1, x1⟩
  unfold F_pciconf_Device_Windows_r2
  have wl := winsF_len ys f.bars k
  have z1 := x1.size
  refine iteB_lt (fun c => ?_) (fun c => ?_)
  · have hkn : k < regs f.bridge := by simpa using c
    have hg := xbars_get hv.bl hkn
    have hx1 := hx.ext x1
    have hz := bz_nonneg hv k
    refine ⟨by omega, by simpa using hkn, unSome_mk rfl ⟨_, hx1.rd0 (v := .int .i64 (bk f.bars k)) hg rfl, _, hx1.rd (j := 1) (v := .int .i64 (bz f.bars k)) hg rfl, local_mk rfl rfl fun H3 e3 z3 b3 => local_mk rfl rfl fun H5 e5 z5 w5 => ?_⟩⟩
    have b5 := b3.ext e5
    have y5 := e3.trans e5
    refine ⟨fun width H' => width = wwd (bk f.bars k) ∧ bk f.bars k ≠ 0 ∧ Blk H' H3.size t_api_Window [.int .i64 k, .int .i64 (wcl (bk f.bars k)), .int .u64 0, .int .u64 0, .bool false] ∧ Mods [H3.size] H5 H', ⟨_, b5.rd0 rfl, ?_⟩, ?_⟩
    · refine iteB_beq (fun c0 => next2 hkn (by omega) ?_) (fun c0 => ?_)
      · refine ⟨?_, ?_, x1.trans y5⟩
        · simp only [winsF]; rw [if_pos c0, List.append_nil]; exact o1.ext y5
        · simp only [winsF]; rw [if_pos c0, List.append_nil]; exact hn1
      refine iteB_beq (fun c1 => ?_) (fun c1 => iteB_beq (fun c3 => ?_) (fun c3 => iteB_beq (fun c4 => ?_) (fun c4 => ?_)))
      · refine ⟨w5.ok (i := 1) (n := 1) (by simp), letH_mk ?_⟩
        rintro H6 rfl
        refine ⟨by rw [c1]; rfl, by omega, ?_, mods_wr_add (by simp)⟩
        rw [c1]
        exact w5.wr1 (i := 1) (w := .int .i64 0)
      · refine ⟨by rw [c3]; rfl, by omega, ?_, .refl _ _⟩
        rw [c3]
        exact w5
      · refine ⟨w5.ok (i := 1) (n := 1) (by simp), letH_mk ?_⟩
        rintro H6 rfl
        refine ⟨by rw [c4]; rfl, by omega, ?_, mods_wr_add (by simp)⟩
        rw [c4]
        exact w5.wr1 (i := 1) (w := .int .i64 2)
      · refine ⟨?_, by omega, ?_, .refl _ _⟩
        · unfold wwd; rw [if_neg (by omega)]; rfl
        · unfold wcl; rw [if_neg c1, if_neg c4]; exact w5
    · rintro width H8 ⟨rfl, hk0, w8, m8⟩
      unfold F_pciconf_Device_Windows_k1
      have b8 := b5.mods m8 (by simp; omega)
      have x8 : Ext H H8 := Mods.ext (x1.trans y5) m8 (by simp; omega)
      have r1 := b8.rd (i := 1) (v := .int .i64 (bz f.bars k)) rfl
      have hwd : wwd (bk f.bars k) ≤ 8 := by unfold wwd; split <;> omega
      refine ⟨_, r1, _, r1, ?_⟩
      rw [i64_in (n := (4 : Int) * k) (by omega), i64_in (n := (16 : Int) + 4 * k) (by omega), show (16 : Int) + 4 * k = ((16 + 4 * k : Nat) : Int) by omega]
      refine (number_spec b ys ms _ (16 + 4 * k) (wwd (bk f.bars k)) H8 (h.ext x8) hy (by omega) hwd).mono ?_
      rintro v H9 ⟨rfl, rfl⟩
      refine ⟨_, rfl, .refl _ _, hz, hz, w8.ok (i := 2) (n := 1) (by simp), letH_mk ?_⟩
      intro H10 h10
      have w10 := w8.wr1 (i := 2) (w := .int .u64 (winB (numB ys (16 + 4 * k) (wwd (bk f.bars k))) (bz f.bars k)))
      have m10 : Mods [H3.size] H9 H10 := by rw [h10]; exact mods_wr_add (by simp)
      rw [show (wrs H9 ((⟨H3.size, 0, none⟩ : Addr).add 2) [.int .u64 (winB (numB ys (16 + 4 * k) (wwd (bk f.bars k))) (bz f.bars k))]) = H10 from h10.symm] at w10
      clear h10
      refine ⟨_, (b8.mods m10 (by simp; omega)).rd (i := 1) rfl, hz, w10.ok (i := 3) (n := 1) (by simp), letH_mk ?_⟩
      intro H11 h11
      rw [add_add] at h11
      have w11 := w10.wr1 (i := 3) (w := .int .u64 (winL (bz f.bars k)))
      have m11 : Mods [H3.size] H10 H11 := by rw [h11]; exact mods_wr_add (by simp)
      rw [show (wrs H10 ((⟨H3.size, 0, none⟩ : Addr).add 3) [.int .u64 (winL (bz f.bars k))]) = H11 from h11.symm] at w11
      clear h11
      have x11 : Ext H H11 := Mods.ext x8 (m10.trans m11) (by simp; omega)
      refine ⟨_, w11.rd (i := 1) rfl, (enabled_spec b ys ms _ _ H11 (h.ext x11)).mono ?_⟩
      rintro v H12 ⟨rfl, rfl⟩
      refine ⟨_, rfl, w11.ok (i := 4) (n := 1) (by simp), letH_mk ?_⟩
      intro H13 h13
      have w13 := w11.wr1 (i := 4) (w := .bool (enF ys (wcl (bk f.bars k))))
      have m13 : Mods [H3.size] H12 H13 := by rw [h13]; exact mods_wr_add (by simp)
      rw [← h13] at w13
      clear h13
      have mm : Mods [H3.size] H5 H13 := ((m8.trans m10).trans m11).trans m13
      have x13 : Ext H H13 := Mods.ext (x1.trans y5) mm (by simp; omega)
      have o13 := (o1.ext y5).mods mm (fun a ha => by have := o1.lt a ha; simp; omega)
      refine ⟨_, w13.rd0 rfl, _, w13.rd (i := 1) rfl, _, w13.rd (i := 2) rfl, _, w13.rd (i := 3) rfl, _, w13.rd (i := 4) rfl, ?_⟩
      refine append_row (enc := encW) (l := winsF ys f.bars k) (z := .agg #[.int .i64 0, .int .i64 0, .int .u64 0, .int .u64 0, .bool false]) (sz := 5) (bytes := 40) (lo := H.size) (winOf ys f.bars k) (by kernel_rfl) (by kernel_rfl) rfl (by omega) encW_len encW_one o13 (by simp [maxLen]; omega) (by omega) x13.size ?_
      intro s' H15 ho15 hn15 m15
      refine next2 hkn (by omega) ⟨?_, ?_, Mods.ext x13 m15 (blkOf_new o13.new)⟩
      · simp only [winsF]; rw [if_neg hk0]; exact ho15
      · simp only [winsF]; rw [if_neg hk0, hn15, hn1]; simp
  · have hkr : k = regs f.bridge := by simp at c; omega
    subst hkr
    have d1 := h.ext x1
    refine ⟨f.bridge, d1.rdR (i := 513) (by omega) (by omega) (by omega), iteB_not (fun c1 => ⟨l, _, [], rfl, o1.isS encW_len (by omega), by omega, (List.append_nil _).symm, by simp, x1⟩) (fun c1 => ?_)⟩
    refine (number_spec b ys ms _ 28 1 H1 d1 hy (by omega) (by omega)).mono ?_
    rintro v H16 ⟨rfl, rfl⟩
    refine ⟨_, rfl, by omega, (number_spec b ys ms _ 29 1 H16 d1 hy (by omega) (by omega)).mono ?_⟩
    rintro v H17 ⟨rfl, rfl⟩
    refine ⟨_, rfl, by omega, letV_mk _ rfl (letV_mk _ rfl ⟨by omega, by omega, (appendWindow_spec H.size b ys ms _ 0 _ _ l _ H17 d1 (by omega) o1 hn1 (by omega) x1.size).mono ?_⟩)⟩
    rintro v H18 ⟨l2, ws2, rfl, o2, hn2, hw2, m2⟩
    have x18 : Ext H H18 := Mods.ext x1 m2 (blkOf_new o1.new)
    have d18 := h.ext x18
    have hw2' : ∃ ext, ws2 = winsF ys f.bars (regs f.bridge) ++ ext ∧ ext.length ≤ 1 ∧ ∀ x ∈ ext, x.1 < 0 := by
      rcases hw2 with rfl | ⟨x, rfl, hx⟩
      · exact ⟨[], (List.append_nil _).symm, by simp, by simp⟩
      · exact ⟨[x], rfl, by simp, by simpa using hx⟩
    obtain ⟨ex2, rfl, hl2, hx2⟩ := hw2'
    have hL2 : (winsF ys f.bars (regs f.bridge) ++ ex2).length ≤ 7 := by simp; omega
    refine ⟨l2, rfl, (number_spec b ys ms _ 32 2 H18 d18 hy (by omega) (by omega)).mono ?_⟩
    rintro v H19 ⟨rfl, rfl⟩
    refine ⟨_, rfl, by omega, (number_spec b ys ms _ 34 2 H19 d18 hy (by omega) (by omega)).mono ?_⟩
    rintro v H20 ⟨rfl, rfl⟩
    refine ⟨_, rfl, by omega, letV_mk _ rfl (letV_mk _ rfl ⟨by omega, by omega, (appendWindow_spec H.size b ys ms _ 1 _ _ l2 _ H20 d18 (by omega) o2 hn2 (by omega) x18.size).mono ?_⟩)⟩
    rintro v H21 ⟨l3, ws3, rfl, o3, hn3, hw3, m3⟩
    have x21 : Ext H H21 := Mods.ext x18 m3 (blkOf_new o2.new)
    have d21 := h.ext x21
    have hw3' : ∃ ext, ws3 = winsF ys f.bars (regs f.bridge) ++ ext ∧ ext.length ≤ 2 ∧ ∀ x ∈ ext, x.1 < 0 := by
      rcases hw3 with rfl | ⟨x, rfl, hx⟩
      · exact ⟨ex2, rfl, by omega, hx2⟩
      · refine ⟨ex2 ++ [x], by simp, by simp; omega, fun y hy => ?_⟩
        simp only [List.mem_append, List.mem_singleton] at hy
        rcases hy with hy | rfl
        · exact hx2 y hy
        · exact hx
    obtain ⟨ex3, rfl, hl3, hx3⟩ := hw3'
    have hL3 : (winsF ys f.bars (regs f.bridge) ++ ex3).length ≤ 8 := by simp; omega
    refine ⟨l3, rfl, f.pref, d21.rdR (i := 514) (by omega) (by omega) (by omega), iteB_intro (fun c2 => ?_) (fun c2 => ⟨l3, _, ex3, rfl, o3.isS encW_len (by omega), by omega, rfl, hx3, x21⟩)⟩
    refine (number_spec b ys ms _ 36 2 H21 d21 hy (by omega) (by omega)).mono ?_
    rintro v H22 ⟨rfl, rfl⟩
    refine ⟨_, rfl, by omega, by omega, (number_spec b ys ms _ 40 4 H22 d21 hy (by omega) (by omega)).mono ?_⟩
    rintro v H23 ⟨rfl, rfl⟩
    refine ⟨_, rfl, by omega, letV_mk _ rfl ((number_spec b ys ms _ 38 2 H23 d21 hy (by omega) (by omega)).mono ?_)⟩
    rintro v H24 ⟨rfl, rfl⟩
    refine ⟨_, rfl, by omega, by omega, (number_spec b ys ms _ 44 4 H24 d21 hy (by omega) (by omega)).mono ?_⟩
    rintro v H25 ⟨rfl, rfl⟩
    refine ⟨_, rfl, by omega, letV_mk _ rfl ((appendWindow_spec H.size b ys ms _ 2 _ _ l3 _ H25 d21 (by omega) o3 hn3 (by omega) x21.size).mono ?_)⟩
    rintro v H26 ⟨l4, ws4, rfl, o4, hn4, hw4, m4⟩
    have x26 : Ext H H26 := Mods.ext x21 m4 (blkOf_new o3.new)
    refine ⟨l4, rfl, ?_⟩
    rcases hw4 with rfl | ⟨x, rfl, hx⟩
    · exact ⟨l4, _, ex3, rfl, o4.isS encW_len (by omega), by omega, rfl, hx3, x26⟩
    · refine ⟨l4, _, ex3 ++ [x], rfl, o4.isS encW_len (by omega), by simp at hL3 ⊢; omega, by simp, fun y hy => ?_, x26⟩
      simp only [List.mem_append, List.mem_singleton] at hy
      rcases hy with hy | rfl
      · exact hx3 y hy
      · exact hx

end Go.Proofs.Ytankllejpldleaa
