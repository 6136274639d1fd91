/-
  InterruptsRoute.
-/
import Derived.Test.YtinhkngomojheaaI6
namespace Go.Proofs.Ytinhkngomojheaa
open Go.Eng
set_option linter.unusedVariables false

/-- The state of the law's loop: a host in block 'hb', a topology. -/
structure RI (H : Heap) (T : List FS) (t : Sl) (H' : Heap) : Prop where
  host : ∃ g gs, HostM H' g gs ∧ Blk H' H.size t_api_Host (hostL g gs)
  topo : Topo H' t T
  ty : TyB H' t.p t_api_Function
  gt : GT H' T
  ext : Ext H H'
theorem RI.ext' {H H' H'' : Heap} {T : List FS} {t : Sl} (r : RI H T t H') (e : Ext H' H'') : RI H T t H'' := by
  obtain ⟨⟨g, gs, m, b⟩, r2, r3, r4, r5⟩ := r
  exact ⟨⟨g, gs, m.ext e, b.ext e⟩, r2.ext e, r3.mods (S := []) e.mods (fun _ _ => by simp), r4.ext e, r5.trans e⟩

theorem LinkP.uni {T : List FS} {h : Host} {f : Int} {H1 H2 H1' H2' : Heap} {v w : Value} (a : LinkP T h f H1 v H1') (b : LinkP T h f H2 w H2') : v = w := by
  obtain ⟨s, p, o, h1, rfl, _⟩ := a
  obtain ⟨s', p', o', h2, rfl, _⟩ := b
  obtain ⟨rfl, rfl, rfl⟩ := h1.uni h2
  rfl

theorem law_route (H : Heap) (s : Sl) (L : List FS) (h : Host) (hs : HostS) (i : Int) (hL : Topo H s L) (hl : L.length ≤ 9223372036854775807) (hb : ∀ x ∈ L, x.1.bars.length ≤ 9223372036854775807) (hm : HostM H h hs) :
    CallsH Try.prog n_law22_InterruptsRoute #[.slice s.p s.n s.c, hostV h hs, .int .i64 i] H (BoolP true H) := by
  refine F_law22_InterruptsRoute_ok _ _ _ _ _ _ _ _ _ _ ?_
  unfold F_law22_InterruptsRoute
  refine push_mk (vs := hostL h hs) fun H1 e1 z1 b1 => (gTopoT_spec H1 s L 30 (by omega) (hL.ext e1) hl hb).mono ?_
  rintro v H2 ⟨t, T, rfl, hT, hv, hT30, e2, ty2, gt2⟩
  have hn := hT.len
  refine ⟨t, rfl, ?_⟩
  refine loop1 2 (fun k H' => RI H T t H') ⟨⟨h, hs, hm.ext (e1.trans e2), b1.ext e2⟩, hT, ty2, gt2, e1.trans e2⟩ ?_
  rintro k H3 hk r3
  unfold F_law22_InterruptsRoute_r2
  refine iteB_dec (fun c => ?_) (fun c => ?_)
  · refine ⟨fun f H' => ∃ n : Nat, f = (n : Int) - 1 ∧ n ≤ T.length + 2 ∧ RI H T t H', fun f _ => (T.length + 2 - f).toNat, ⟨0, rfl, by omega, r3⟩, ?_⟩
    rintro f H4 ⟨n, rfl, hnn, r4⟩
    unfold F_law22_InterruptsRoute_r1
    obtain ⟨g, gs, mg, bg⟩ := r4.host
    refine iteB_dec (fun d => (Swizzle_spec T t H4 _ r4.topo).mono ?_) (fun d => ?_)
    · rintro v H5 ⟨x, x1, x2, rfl, w1, e5⟩
      refine ⟨x, x1, x2, rfl, (rSwizzle_spec T t H5 _ (r4.topo.ext e5) (by omega)).mono ?_⟩
      rintro v H6 ⟨x3, x4, x5, rfl, w2, e6⟩
      obtain ⟨rfl, rfl, rfl⟩ := w1.uni w2
      have e46 := e5.trans e6
      obtain ⟨p0, p1, p2, p3, p4, p5, p6, p7⟩ := Blk.host (bg.ext e46)
      refine ⟨x, x1, x2, rfl, _, p0, _, p1, _, p2, _, p3, _, p4, _, p5, _, p6, _, p7, (LinkOf_spec T t g gs H6 _ (r4.topo.ext e46) (mg.ext e46)).mono ?_⟩
      rintro v H7 l1
      have l1' := l1
      obtain ⟨ls, lp, lo, _, rfl, e7⟩ := l1
      have e47 := e46.trans e7
      obtain ⟨p0, p1, p2, p3, p4, p5, p6, p7⟩ := Blk.host (bg.ext e47)
      refine ⟨_, _, rfl, _, p0, _, p1, _, p2, _, p3, _, p4, _, p5, _, p6, _, p7, (rLinkOf_spec T t g gs H7 _ (r4.topo.ext e47) (by omega) (mg.ext e47)).mono ?_⟩
      rintro v H8 l2
      have hvv := l1'.uni l2
      obtain ⟨_, _, _, _, _, e8⟩ := l2
      subst hvv
      refine ⟨_, _, rfl, iteB_neg (by simp) (iteB_neg (by simp) (iteB_neg (by simp) (iteB_neg (by simp) (iteB_neg (by simp) (letV_mk (((n + 1 : Nat) : Int) - 1) (by rw [i64_in (by omega)]; omega) ⟨⟨n + 1, rfl, by omega, r4.ext' (e47.trans e8)⟩, by dsimp only; omega⟩)))))⟩
    · obtain ⟨p0, p1, p2, p3, p4, p5, p6, p7⟩ := Blk.host bg
      refine ⟨_, p0, _, p1, _, p2, _, p3, _, p4, _, p5, _, p6, _, p7, (gHost_spec g gs H4 mg).mono ?_⟩
      rintro v H9 ⟨g', gs', rfl, mg', hty, _, _, e9⟩
      have b9 := bg.ext e9
      refine ⟨_, _, _, _, _, _, _, _, rfl, b9.ok0 (by simp), letH_mk ?_⟩
      intro H10 h10
      have b10 : Blk H10 H.size t_api_Host (hostL g' gs') := by rw [h10]; exact b9.wr
      have m10 : Mods [H.size] H9 H10 := by rw [h10]; exact Mods.wrs (by simp)
      clear h10
      have hlt : ∀ {q : Option Addr} {e : TypeId}, e ≠ t_api_Host → TyB H9 q e → ∀ a, q = some a → a.block ∉ [H.size] := fun {q e} he hq a ha => by
        have t1 : TyB H9 (some ⟨H.size, 0, none⟩) t_api_Host := fun a ha => by cases ha; exact ⟨_, _, b9⟩
        have := ty_ne hq t1 he a ha
        simpa [blkOf] using this
      have r9 := r4.ext' e9
      refine letV_mk _ rfl (next1 (by omega) (by omega) ⟨⟨g', gs', mg'.modsT hty b9 m10, b10⟩, ⟨r9.topo.1.mods m10 (hlt (by decide) r9.ty), fun x hx => (r9.gt.mods m10 (fun p hp => hlt (by decide) hp) x hx).1⟩, r9.ty.mods m10 (hlt (by decide) r9.ty), r9.gt.mods m10 (fun p hp => hlt (by decide) hp), Mods.ext r9.ext m10 (by simp)⟩)
  · refine (Swizzle_spec T t H3 i r3.topo).mono ?_
    rintro v H11 ⟨x, x1, x2, rfl, w1, e11⟩
    refine ⟨x, x1, x2, rfl, (rSwizzle_spec T t H11 i (r3.topo.ext e11) (by omega)).mono ?_⟩
    rintro v H12 ⟨x3, x4, x5, rfl, w2, e12⟩
    obtain ⟨rfl, rfl, rfl⟩ := w1.uni w2
    refine ⟨x, x1, x2, rfl, (awake_spec H12).mono ?_⟩
    rintro v H13 ⟨rfl, e13⟩
    exact ⟨_, rfl, iteB_pos rfl (iteB_pos (by simp) (iteB_pos (by simp) ⟨by simp, ((r3.ext.trans e11).trans e12).trans e13⟩))⟩

end Go.Proofs.Ytinhkngomojheaa
