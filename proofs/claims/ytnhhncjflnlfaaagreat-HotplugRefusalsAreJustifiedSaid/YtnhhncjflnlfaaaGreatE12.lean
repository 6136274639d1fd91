/-
 HotplugRefusalsAreJustified.
-/
import Derived.Test.YtnhhncjflnlfaaaGreatJE
import Derived.Test.YtnhhncjflnlfaaaGreatJQ
namespace Go.Proofs.YtnhhncjflnlfaaaGreat
open Go.Eng
set_option linter.unusedVariables false

theorem plan_no {T : List FS} {h : Host} {A Bs : List Asg} {M : List Mv} {n : Int} {c : Cert} (ha : AccOk T h n) (p : PlanIs T h A n 19 Bs M c) : Bs = [] ∧ M = [] ∧ ∃ N, NeedsIs T (hiF h) 0 N ∧ c = (rootR T N h 3).2.1 ∧ (rootR T N h 3).1 ≠ 0 := by
 rcases p with ⟨h0, _⟩ | ⟨_, e0, N, hN, ⟨h1, h2, _⟩ | ⟨_, _, _, _, h1, _⟩ | ⟨h0, _, e1, B1, c1, hA, ⟨h1, h2, h3, h4, h5⟩ | ⟨_, h1, _⟩⟩⟩
 ·exact absurd ha h0
 ·subst h2
  rcases hN with ⟨_, h0, _⟩ | ⟨_, _, h0, _⟩ | ⟨_, _, h0, _⟩ <;> cases h0
 ·cases h1
 ·refine ⟨h3, h4, N, by rw [h0] at hN; exact hN, ?_⟩
  subst h0 h5 h2
  rcases hA with ⟨h6, _⟩ | ⟨_, e2, N2, hN2, ⟨h6, h7, _⟩ | ⟨_, h6, _, _, h8⟩ | ⟨_, _, h6, _⟩⟩
  ·exact absurd ha.1 h6
  ·subst h7
   rcases hN2 with ⟨_, h0, _⟩ | ⟨_, _, h0, _⟩ | ⟨_, _, h0, _⟩ <;> cases h0
  ·obtain ⟨_, rfl⟩ := hN.uni hN2
   exact ⟨h8, h6⟩
  ·cases h6
 ·cases h1

structure RfS (H : Heap) (T : List FS) (t : Sl) (g : Host) (gs : HostS) (gb cb : Nat) (c : Cert) (H8 : Heap) : Prop where
 topo : Topo H8 t T
 m : HostM H8 g gs
 blk : Blk H8 gb t_api_Host (hostL g gs)
 crt : Blk H8 cb t_api_Certificate (encC c)
 ext : Ext H H8
theorem RfS.ext' {H : Heap} {T : List FS} {t : Sl} {g : Host} {gs : HostS} {gb cb : Nat} {c : Cert} {H8 H9 : Heap} (r : RfS H T t g gs gb cb c H8) (e : Ext H8 H9) : RfS H T t g gs gb cb c H9 := ⟨r.topo.ext e, r.m.ext e, r.blk.ext e, r.crt.ext e, r.ext.trans e⟩

theorem refusals_k2 {H0 : Heap} {out sa : Sl} {T' : List FS} {g : Host} {gs : HostS} {A : List Asg} {n : Nat} {ok : Bool} {H2 H6 : Heap} (p : PlQ H0 H2.size out sa T' g gs A n ok H6) : F_law23_HotplugRefusalsAreJustified_k2 (BoolP true H0) H2 out sa n (!ok) H6 := by
 unfold F_law23_HotplugRefusalsAreJustified_k2
 have p6 := p.s
 have hAl := p6.len
 refine iteB_not (fun _ => (awake_spec H6).mono ?_) (fun hk => ?_)
 ·rintro v H7 ⟨rfl, e7⟩
  exact ⟨_, rfl, rfl, p6.ext.trans e7⟩
 obtain ⟨pt, pl⟩ := p.yes hk
 obtain ⟨q0, q1, q2, q3, q4, q5, q6, q7⟩ := Blk.host p6.blk
 refine ⟨_, q0, _, q1, _, q2, _, q3, _, q4, _, q5, _, q6, _, q7, (Plan_spec T' out g gs A sa n H6 p6.topo p6.cap p6.m p6.isA p6.acap (by omega) p6.u64).mono ?_⟩
 rintro v H8 ⟨o1, m1, ea, B1, M1, c, rfl, pl1, ⟨is1, cp1⟩, mv1, e8⟩
 refine ⟨o1, m1, _, _, _, _, _, rfl, local_mk (vs := encC c) rfl rfl fun H10 e10 z10 b10 => ?_⟩
 have p10 := p6.go (e8.trans e10)
 refine iteB_bne (fun q => ⟨rfl, p10.ext⟩) (fun q => ?_)
 subst q
 obtain ⟨rfl, rfl, N, hN, rfl, hne⟩ := plan_no pl.acc pl1
 have hv := pl.acc.1.1
 have hvh := pl.acc.1.2
 have hT64 := hv.1
 have hov : ¬ Ovf T' (hiF g) := hN.all.2.1
 have hNe : N = needsAll T' (hiF g) := hN.all.2.2
 have href := (root_ref hv hov hvh 3 (by rw [← hNe]; exact hne)).2
 rw [← hNe] at href
 have hokN := needs_ok hv hov
 rw [← hNe] at hokN
 have n1 := is1.len
 have n2 := mv1.len
 have r : RfS H0 T' out g gs H2.size H8.size (rootR T' N g 3).2.1 H10 := ⟨p10.topo, p10.m, p10.blk, b10, p10.ext⟩
 generalize (rootR T' N g 3).2.1 = c at *
 have hNl := hN.len
 have p3 := (Blk.host r.blk).2.2.2.1
 have hhigh : decide ((gs.high.n : Int) > 0) = hiF g := by
  have := r.m.high.len
  unfold hiF
  rw [this]
  simp
 refine ⟨_, p3, ?_⟩
 rw [hhigh]
 refine (rNeeds_spec T' out (hiF g) H10 r.topo).mono ?_
 intro v H12 h12
 obtain ⟨ns, e0, N', rfl, isN, hNI, e12⟩ := h12.outI
 obtain ⟨rfl, rfl⟩ := hNI.uni hN
 have r12 := r.ext' e12
 refine ⟨ns, _, rfl, _, r12.crt.rd0 rfl, (rBelow_spec T' out ns _ (-1) c.1 H12 r12.topo isN (by omega)).mono ?_⟩
 rintro v H13 ⟨bl, rfl, ob, hbn0, e13⟩
 have r13 := r12.ext' e13
 have isB := Own.is rkNeed ob
 have hbl := belF_len T' N' (-1) c.1
 have hbn := isB.len
 have hsub := fun x (hx : x ∈ belF T' N' (-1) c.1) => hokN x (belF_sub x hx)
 generalize hBB : belF T' N' (-1) c.1 = Bl at *
 refine ⟨bl, rfl, ?_⟩
 refine loop2 Bl.length (fun k o H' => Own H13.size t_int 1 H' o ((sizesOf (Bl.take k)).flatMap (Go.Eng.encI .i64)) ∧ Ext H13 H') ⟨Own.nil _ _ _ _, .refl _⟩ ?_
 rintro k o H14 hk ⟨o14, e14⟩
 unfold F_law23_HotplugRefusalsAreJustified_r1
 have on := Own.len rkInt o14
 have hsl : (sizesOf (Bl.take k)).length = k := by unfold sizesOf; rw [List.length_map, List.length_take]; omega
 refine iteB_dec (fun d => ?_) (fun d => ?_)
 ·have hkn : k < Bl.length := by omega
  obtain ⟨a, hp, hr⟩ := IsS.atN (isB.ext e14) (0, 0, 0, 0) hkn
  have htk := take_succ_d (l := Bl) ((0, 0, 0, 0) : Need) hkn
  refine ⟨by omega, by omega, unSome_mk hp ⟨_, hr 3 _ rfl, apR rkInt (Bl.getD k (0, 0, 0, 0)).2.2.2 (lo := H13.size) o14 (by omega) e14.size ?_⟩⟩
  intro o' H' ow' n' m'
  refine letV_mk _ rfl (next2 hkn (by omega) ⟨?_, Mods.ext e14 m' (blkOf_new o14.new)⟩)
  have es : sizesOf (Bl.take (k + 1)) = sizesOf (Bl.take k) ++ [(Bl.getD k (0, 0, 0, 0)).2.2.2] := by unfold sizesOf; rw [htk, List.map_append]; rfl
  rw [es]
  exact ow'
 ·obtain rfl : k = Bl.length := by omega
  rw [List.take_length] at o14
  have r14 := r13.ext' e14
  obtain ⟨p0, p1, p2, p3, p4, p5, p6, p7⟩ := Blk.host r14.blk
  refine iteB_pos (by rw [n1]; rfl) (iteB_pos (by rw [n2]; rfl) ⟨_, p0, _, p1, _, p2, _, p3, _, p4, _, p5, _, p6, _, p7, _, r14.crt.rd0 rfl, _, r14.crt.rd0 rfl, _, r14.crt.rd (i := 1) rfl, _, r14.crt.rd (i := 2) rfl, _, r14.crt.rd (i := 3) rfl, (rSpace_spec g gs c.1 H14 r14.m hvh).mono ?_⟩)
  rintro v H17 ⟨fr, rfl, of, e17⟩
  have hsv := (spaceF_valid hvh c.1).1
  refine ⟨fr, rfl, e17.keeps, (Refutes_spec H17 fr o (spaceF g c.1) (sizesOf Bl) c (Own.is rkRange of) hsv.u64 ((Own.is rkInt o14).ext e17)).mono ?_⟩
  rintro v H18 ⟨rfl, e18⟩
  exact ⟨_, rfl, by rw [decide_eq_true href], (r14.ext' (e17.trans e18)).ext⟩

theorem law_refusals (H : Heap) (l c : Sl) (L C0 : List FS) (h : Host) (hs : HostS) (atv : Int) (hL : Topo H l L) (hl : L.length ≤ 9223372036854775807) (hb : ∀ x ∈ L, x.1.bars.length ≤ 9223372036854775807) (hC : Topo H c C0) (hcl : C0.length ≤ 9223372036854775807) (hcb : ∀ x ∈ C0, x.1.bars.length ≤ 9223372036854775807) (hm : HostM H h hs) :
  CallsH Tryz.prog n_law23_HotplugRefusalsAreJustified #[.slice l.p l.n l.c, .slice c.p c.n c.c, hostV h hs, .int .i64 atv] H (BoolP true H) := by
 refine F_law23_HotplugRefusalsAreJustified_ok _ _ _ _ _ _ _ _ _ _ _ ?_
 unfold F_law23_HotplugRefusalsAreJustified
 exact plug_open H l c L C0 h hs atv hL hl hb hC hcl hcb hm (fun H2 x8 x17 x18 x21 H6 => F_law23_HotplugRefusalsAreJustified_k2 (BoolP true H) H2 x8 x17 x18 x21 H6) (fun H2 out sa T' g gs A n ok H6 p => refusals_k2 p)

end Go.Proofs.YtnhhncjflnlfaaaGreat
