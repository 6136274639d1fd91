/-
  A new device: its first bytes and masks; the contracts of New.
-/
import Derived.Test.YtankllejpldleaaD2
namespace Go.Proofs.Ytankllejpldleaa
open Go.Eng

abbrev St := (Nat → Int) × (Nat → Int)
def sdef (s : St) (o w : Nat) (v m : Int) : St := (setB s.1 o w v, setB s.2 o w m)
def kept (z : Int) : Int := IntKind.u64.wrap (18446744073709551615 * 2 ^ (min z.toNat IntKind.u64.bits))
def sbar (s : St) (o : Nat) (k z : Int) : St :=
  if k = 1 then sdef s o 4 1 (kept z) else if k = 2 then sdef s o 4 0 (kept z) else if k = 3 then sdef s o 8 4 (kept z) else if k = 4 then sdef s o 8 12 (kept z) else s
def sbars (s : St) (B : List Bar) : Nat → St
  | 0 => s
  | i + 1 => sbar (sbars s B i) (16 + 4 * i) (bk B i) (bz B i)
def sbase (f : Fn) : St := sdef (sdef (sdef (sdef (sdef (fun _ => 0, fun _ => 0) 0 2 (IntKind.u64.wrap f.vendor) 0) 2 2 (IntKind.u64.wrap f.device) 0) 4 2 0 7) 60 1 0 255) 61 1 (IntKind.u64.wrap f.pin) 0
def sbr (s : St) : St := sdef (sdef (sdef (sdef s 14 1 1 0) 24 3 0 16777215) 28 2 0 61680) 32 4 0 4293984240
def spf (s : St) : St := sdef (sdef s 36 4 65537 4293984240) 40 8 0 18446744073709551615
def sbridge (s : St) (pref : Bool) : St := if pref then spf (sbr s) else sbr s
def sinit (f : Fn) : St := if f.bridge then sbridge (sbars (sbase f) f.bars (regs f.bridge)) f.pref else sbars (sbase f) f.bars (regs f.bridge)

theorem sdef_bytes {s : St} (h : Bytes s.1) (o w : Nat) (v m : Int) : Bytes (sdef s o w v m).1 := setB_bytes h _ _ _
theorem sbar_bytes {s : St} (h : Bytes s.1) (o : Nat) (k z : Int) : Bytes (sbar s o k z).1 := by
  unfold sbar
  repeat' split
  all_goals first | exact sdef_bytes h _ _ _ _ | exact h
theorem sbars_bytes {s : St} (h : Bytes s.1) (B : List Bar) : ∀ n, Bytes (sbars s B n).1
  | 0 => h
  | n + 1 => sbar_bytes (sbars_bytes h B n) _ _ _
theorem sbase_bytes (f : Fn) : Bytes (sbase f).1 := by
  unfold sbase
  exact sdef_bytes (sdef_bytes (sdef_bytes (sdef_bytes (sdef_bytes (fun _ => by dsimp only; omega) _ _ _ _) _ _ _ _) _ _ _ _) _ _ _ _) _ _ _ _
theorem sbr_bytes {s : St} (h : Bytes s.1) : Bytes (sbr s).1 := sdef_bytes (sdef_bytes (sdef_bytes (sdef_bytes h _ _ _ _) _ _ _ _) _ _ _ _) _ _ _ _
theorem spf_bytes {s : St} (h : Bytes s.1) : Bytes (spf s).1 := sdef_bytes (sdef_bytes h _ _ _ _) _ _ _ _
theorem sinit_bytes (f : Fn) : Bytes (sinit f).1 := by
  have hb := sbars_bytes (sbase_bytes f) f.bars (regs f.bridge)
  unfold sinit sbridge
  repeat' split
  · exact spf_bytes (sbr_bytes hb)
  · exact sbr_bytes hb
  · exact hb

theorem push_vb {e : TypeId} {cs : Array Value} {N : Nat} {F : Nat → Value} {K : Heap → Prop} {H : Heap} (hc : cs = (tab N F).toArray) (h : ∀ H', Ext H H' → H'.size = H.size + 1 → VB H' H.size e N F → K H') :
    letH (H.push (.cells cs e (0, 0))) K := by
  subst hc
  exact push_mk fun H' e s b => h H' e s ⟨[], by simpa using b⟩

theorem defineBar_spec (b : Nat) (s : St) (r : Nat → Value) (o : Nat) (k z : Int) (H : Heap) (h : PD H b s.1 s.2 r) (ho : o + 8 ≤ 256) (hz : 0 ≤ z) :
    CallsH Try.prog n_pciconf_Device_defineBar #[.pointer (some ⟨b, 0, none⟩), .int .i64 o, .agg #[.int .i64 k, .int .i64 z]] H (fun x H' => x = .tuple #[] ∧ PD H' b (sbar s o k z).1 (sbar s o k z).2 r ∧ Mods [b] H H') := by
  refine F_pciconf_Device_defineBar_ok _ _ _ _ ?_
  unfold F_pciconf_Device_defineBar
  refine push_mk (vs := [.int .i64 k, .int .i64 z]) fun H1 e1 _ b1 => ⟨_, b1.rd (i := 1) rfl, hz, letV_mk (kept z) rfl ⟨_, b1.rd0 rfl, ?_⟩⟩
  have d1 := h.ext e1
  refine iteB_beq (fun c => ?_) (fun c1 => iteB_beq (fun c => ?_) (fun c2 => iteB_beq (fun c => ?_) (fun c3 => iteB_beq (fun c => ?_) (fun c4 => ?_))))
  · refine (define_spec b s.1 s.2 r o 4 1 (kept z) H1 d1 (by omega) (by omega)).mono ?_
    rintro x H2 ⟨rfl, d2, m2⟩
    refine ⟨rfl, rfl, ?_, e1.mods.trans m2⟩
    unfold sbar; rw [if_pos c]; exact d2
  · refine (define_spec b s.1 s.2 r o 4 0 (kept z) H1 d1 (by omega) (by omega)).mono ?_
    rintro x H2 ⟨rfl, d2, m2⟩
    refine ⟨rfl, rfl, ?_, e1.mods.trans m2⟩
    unfold sbar; rw [if_neg c1, if_pos c]; exact d2
  · refine (define_spec b s.1 s.2 r o 8 4 (kept z) H1 d1 (by omega) (by omega)).mono ?_
    rintro x H2 ⟨rfl, d2, m2⟩
    refine ⟨rfl, rfl, ?_, e1.mods.trans m2⟩
    unfold sbar; rw [if_neg c1, if_neg c2, if_pos c]; exact d2
  · refine (define_spec b s.1 s.2 r o 8 12 (kept z) H1 d1 (by omega) (by omega)).mono ?_
    rintro x H2 ⟨rfl, d2, m2⟩
    refine ⟨rfl, rfl, ?_, e1.mods.trans m2⟩
    unfold sbar; rw [if_neg c1, if_neg c2, if_neg c3, if_pos c]; exact d2
  · refine ⟨rfl, ?_, e1.mods⟩
    unfold sbar; rw [if_neg c1, if_neg c2, if_neg c3, if_neg c4]; exact d1

def prest (g : Nat) (f : Fn) (i : Nat) : Value := if i = 512 then .slice (some ⟨g, 0, none⟩) (regs f.bridge) (regs f.bridge) else if i = 513 then .bool f.bridge else .bool f.pref

theorem defineBridge_spec (b g : Nat) (s : St) (f : Fn) (H : Heap) (h : PD H b s.1 s.2 (prest g f)) :
    CallsH Try.prog n_pciconf_Device_defineBridge #[.pointer (some ⟨b, 0, none⟩)] H (fun x H' => x = .tuple #[] ∧ PD H' b (sbridge s f.pref).1 (sbridge s f.pref).2 (prest g f) ∧ Mods [b] H H') := by
  refine F_pciconf_Device_defineBridge_ok _ ?_
  unfold F_pciconf_Device_defineBridge
  refine (define_spec b _ _ _ 14 1 1 0 H h (by omega) (by omega)).mono ?_
  rintro x H1 ⟨rfl, d1, m1⟩
  refine ⟨rfl, (define_spec b _ _ _ 24 3 0 16777215 H1 d1 (by omega) (by omega)).mono ?_⟩
  rintro x H2 ⟨rfl, d2, m2⟩
  refine ⟨rfl, (define_spec b _ _ _ 28 2 0 61680 H2 d2 (by omega) (by omega)).mono ?_⟩
  rintro x H3 ⟨rfl, d3, m3⟩
  refine ⟨rfl, (define_spec b _ _ _ 32 4 0 4293984240 H3 d3 (by omega) (by omega)).mono ?_⟩
  rintro x H4 ⟨rfl, d4, m4⟩
  have m4' := ((m1.trans m2).trans m3).trans m4
  refine ⟨rfl, f.pref, d4.rdR (i := 514) (by omega) (by omega) (by omega), iteB_intro (fun c => ?_) (fun c => ?_)⟩
  · refine (define_spec b _ _ _ 36 4 65537 4293984240 H4 d4 (by omega) (by omega)).mono ?_
    rintro x H5 ⟨rfl, d5, m5⟩
    refine ⟨rfl, (define_spec b _ _ _ 40 8 0 18446744073709551615 H5 d5 (by omega) (by omega)).mono ?_⟩
    rintro x H6 ⟨rfl, d6, m6⟩
    refine ⟨rfl, rfl, ?_, (m4'.trans m5).trans m6⟩
    unfold sbridge; rw [if_pos c]; exact d6
  · refine ⟨rfl, ?_, m4'⟩
    unfold sbridge; rw [if_neg (by rw [c]; simp)]; exact d4

def xbars (f : Fn) : List Bar := f.bars ++ (List.replicate (regs f.bridge) ((0, 0) : Bar)).drop f.bars.length
theorem xbars_len {f : Fn} (h : f.bars.length ≤ regs f.bridge) : (xbars f).length = regs f.bridge := by
  unfold xbars; simp; omega
theorem xbars_get {f : Fn} (_h : f.bars.length ≤ regs f.bridge) {k : Nat} (hk : k < regs f.bridge) : (xbars f)[k]? = some (bk f.bars k, bz f.bars k) := by
  unfold xbars bk bz
  by_cases c : k < f.bars.length
  · rw [List.getElem?_append_left c, List.getElem?_eq_getElem c]
    simp [List.getD, c]
  · rw [List.getElem?_append_right (by omega), List.getElem?_drop, List.getElem?_replicate, if_pos (by omega)]
    have : f.bars[k]? = none := List.getElem?_eq_none (by omega)
    simp [List.getD, this]

inductive DevP (f : Fn) (H : Heap) : Value → Heap → Prop
  | yes {H' : Heap} (b g : Nat) (hv : ValidF f) (hb : H.size ≤ b) (hg : H.size ≤ g) (hgb : g ≠ b) (d : PD H' b (sinit f).1 (sinit f).2 (prest g f)) (hx : RB H' g t_api_Bar 2 encBar (xbars f)) (he : Ext H H') : DevP f H (.tuple #[.pointer (some ⟨b, 0, none⟩), .int .i64 0]) H'
  | no {H' : Heap} (hv : ¬ ValidF f) (he : Ext H H') : DevP f H (.tuple #[.pointer none, .int .i64 1]) H'

theorem BarOk.nonneg {B : List Bar} {i : Nat} (h : BarOk B i) : 0 ≤ bz B i := by unfold BarOk at h; omega
theorem bz_nonneg {f : Fn} (h : ValidF f) (i : Nat) : 0 ≤ bz f.bars i := by
  by_cases c : i < f.bars.length
  · exact (h.ba i c).nonneg
  · unfold bz; simp [List.getD, c]

theorem New_spec (f : Fn) (s : Sl) (H : Heap) (h : Bars H s f.bars) : CallsH Try.prog n_pciconf_New #[fnV f s] H (DevP f H) := by
  refine F_pciconf_New_ok _ _ _ _ _ _ _ _ _ _ _ ?_
  unfold F_pciconf_New
  refine push_mk (vs := fnL f s) fun H1 e1 z1 b1 => ?_
  obtain ⟨p0, p1, p2, p3, p4, p5, p6, p7, p8, p9, p10⟩ := Blk.fn b1
  refine ⟨_, p0, _, p1, _, p2, _, p3, _, p4, _, p5, _, p6, _, p7, _, p8, _, p9, s, p10, (Valid_spec f s H1 (h.ext e1)).mono ?_⟩
  rintro v H2 ⟨rfl, e2⟩
  refine ⟨_, rfl, iteB_not (fun c => .no (by simpa using c) (e1.trans e2)) (fun c => ?_)⟩
  have hv : ValidF f := by simpa using c
  have hr : regs f.bridge ≤ 6 := by unfold regs; split <;> omega
  have b2 := b1.ext e2
  obtain ⟨q0, q1, q2, q3, q4, q5, q6, q7, q8, q9, q10⟩ := Blk.fn b2
  refine ⟨_, q4, _, q4, _, q5, (registers_spec _ H2).mono ?_⟩
  rintro v H3 ⟨rfl, rfl⟩
  refine ⟨_, rfl, .refl _ _, by omega, by omega, by omega, letH_mk ?_⟩
  intro H4 h4
  rw [Int.toNat_natCast] at h4 ⊢
  have e4 : Ext H3 H4 := by rw [h4]; exact Ext.push _ _
  have z4 : H4.size = H3.size + 1 := by rw [h4]; simp
  have g4 : RB H4 H3.size t_api_Bar 2 encBar (List.replicate (regs f.bridge) (0, 0)) := by rw [h4]; exact RB.zero _ _ encBar_len _ _ _ rfl
  clear h4
  refine ⟨e4.keeps, push_vb (N := 515) (F := dvF 0 256 (fun _ => 0) (fun _ => 0) (prest H3.size f)) (by kernel_rfl) fun H5 e5 z5 b5 => ?_⟩
  have l1 := b1.lt
  have d5 : PD H5 H4.size (fun _ => 0) (fun _ => 0) (prest H3.size f) := ⟨b5, by omega, by omega⟩
  have e35 := e4.trans e5
  have x5 := (e1.trans e2).trans e35
  have b5 := b2.ext e35
  have g5 := g4.ext e5
  have bars5 := h.ext x5
  obtain ⟨_, _, _, _, _, _, _, _, _, _, q10⟩ := Blk.fn b5
  have ls := e2.size
  refine ⟨⟨some ⟨H3.size, 0, none⟩, regs f.bridge, regs f.bridge⟩, d5.rdR (i := 512) (by omega) (by omega) (by omega), s, q10, ?_⟩
  have hcp := copy_rb (P := Try.prog) (st := t_sl_api_Bar) (st' := t_sl_api_Bar) (ty := t_int) (e := t_api_Bar) (dc := regs f.bridge) (L := List.replicate (regs f.bridge) ((0, 0) : Bar)) (K := fun v2 H6 => v2 = .int .i64 f.bars.length ∧ RB H6 H3.size t_api_Bar 2 encBar (xbars f) ∧ Mods [H3.size] H5 H6 ∧ H6.size = H5.size) (by rfl) (by rfl) g5 bars5 (by simpa using hv.bl) encBar_one (fun H' h1 h2 h3 => ⟨rfl, h1, h2, h3⟩)
  rw [List.length_replicate] at hcp
  refine runH_mono hcp ?_
  rintro v H6 ⟨rfl, g6, m6, z6⟩
  have b6 := b5.mods m6 (by simp; omega)
  have d6 := d5.mods m6 (by simp; omega)
  have x6 : Ext H H6 := Mods.ext x5 m6 (by simp; omega)
  obtain ⟨_, _, q2, _, _, _, _, _, _, _, _⟩ := Blk.fn b6
  refine ⟨_, rfl, _, q2, (define_spec H4.size _ _ _ 0 2 _ 0 H6 d6 (by omega) (by omega)).mono ?_⟩
  rintro v H7 ⟨rfl, d7, m7⟩
  have b7 := b6.mods m7 (by simp; omega)
  obtain ⟨_, _, _, q3, _, _, _, _, _, _, _⟩ := Blk.fn b7
  refine ⟨rfl, _, q3, (define_spec H4.size _ _ _ 2 2 _ 0 H7 d7 (by omega) (by omega)).mono ?_⟩
  rintro v H8 ⟨rfl, d8, m8⟩
  refine ⟨rfl, (define_spec H4.size _ _ _ 4 2 _ 7 H8 d8 (by omega) (by omega)).mono ?_⟩
  rintro v H9 ⟨rfl, d9, m9⟩
  refine ⟨rfl, (define_spec H4.size _ _ _ 60 1 _ 255 H9 d9 (by omega) (by omega)).mono ?_⟩
  rintro v H10 ⟨rfl, d10, m10⟩
  have m10' := ((m7.trans m8).trans m9).trans m10
  have b10 := b6.mods m10' (by simp; omega)
  obtain ⟨_, _, _, _, _, _, _, _, q8, _, _⟩ := Blk.fn b10
  refine ⟨rfl, _, q8, (define_spec H4.size _ _ _ 61 1 _ 0 H10 d10 (by omega) (by omega)).mono ?_⟩
  rintro v H11 ⟨rfl, d11, m11⟩
  have m11' := m10'.trans m11
  have d11' : PD H11 H4.size (sbase f).1 (sbase f).2 (prest H3.size f) := d11
  clear d11
  refine ⟨rfl, ⟨some ⟨H3.size, 0, none⟩, regs f.bridge, regs f.bridge⟩, d11'.rdR (i := 512) (by omega) (by omega) (by omega), ?_⟩
  refine loop1 (regs f.bridge) (fun k H' => PD H' H4.size (sbars (sbase f) f.bars k).1 (sbars (sbase f) f.bars k).2 (prest H3.size f) ∧ Mods [H4.size] H6 H') ⟨d11', m11'⟩ ?_
  rintro k H12 hk ⟨d12, m12⟩
  unfold F_pciconf_New_r1
  have b12 := b6.mods m12 (by simp; omega)
  have g12 := g6.mods m12 (by simp; omega)
  have x12 : Ext H H12 := Mods.ext x6 m12 (by simp; omega)
  refine iteB_dec (fun c1 => ?_) (fun c1 => ?_)
  · have hkn : k < regs f.bridge := by simpa using c1
    have hg := xbars_get hv.bl hkn
    have r0 := g12.rd0 (v := .int .i64 (bk f.bars k)) hg rfl
    have r1 := g12.rd (j := 1) (v := .int .i64 (bz f.bars k)) hg rfl
    refine ⟨by omega, by simpa using hkn, unSome_mk rfl ⟨_, r0, _, r1, local_mk rfl rfl fun H14 e14 _ b14 => ⟨_, b14.rd0 rfl, _, b14.rd (i := 1) rfl, ?_⟩⟩⟩
    rw [i64_in (n := (4 : Int) * k) (by omega), i64_in (n := (16 : Int) + 4 * k) (by omega), show (16 : Int) + 4 * k = ((16 + 4 * k : Nat) : Int) by omega]
    refine (defineBar_spec H4.size _ _ _ _ _ H14 (d12.ext e14) (by omega) (bz_nonneg hv k)).mono ?_
    rintro v H15 ⟨rfl, d15, m15⟩
    exact ⟨rfl, next1 hkn (by omega) ⟨d15, (m12.trans e14.mods).trans m15⟩⟩
  · have : k = regs f.bridge := by simp at c1; omega
    subst this
    obtain ⟨_, _, _, _, q4, _, _, _, _, _, _⟩ := Blk.fn b12
    have l4 := e4.size
    refine ⟨_, q4, iteB_intro (fun c2 => ?_) (fun c2 => ?_)⟩
    · refine (defineBridge_spec H4.size H3.size _ f H12 d12).mono ?_
      rintro v H16 ⟨rfl, d16, m16⟩
      refine ⟨rfl, .yes H4.size H3.size hv (by omega) (by omega) (by omega) ?_ (g12.mods m16 (by simp; omega)) (Mods.ext x12 m16 (by simp; omega))⟩
      unfold sinit; rw [if_pos c2]; exact d16
    · refine .yes H4.size H3.size hv (by omega) (by omega) (by omega) ?_ g12 x12
      unfold sinit; rw [if_neg (by rw [c2]; simp)]; exact d12

end Go.Proofs.Ytankllejpldleaa
