import Derived.Test.YtnhhncjflnlfaaaGreatM5

section
/-
 The contract of the generator's Host.
-/
namespace Go.Proofs.YtnhhncjflnlfaaaGreat
open Go.Eng
set_option linter.unusedVariables false

theorem rkLink : RK Tryz.prog t_24 t_114 (.agg #[.int .u32 0]) 1 4 (encI .u32) := ⟨by kernel_rfl, by kernel_rfl, rfl, by omega, by omega, ints_row _, ints_one _⟩
theorem rkRoute : RK Tryz.prog t_25 t_116 (.agg #[.int .i64 0, .int .i64 0, .int .i64 0]) 3 24 encRt := ⟨by kernel_rfl, by kernel_rfl, rfl, by omega, by omega, encRt_len, encRt_one⟩

theorem u64L_wrap {l : List Rg} (h : U64L l) (x y : Int) : U64L (l ++ [(IntKind.u64.wrap x, IntKind.u64.wrap y)]) := fun r hr => by
 simp only [List.mem_append, List.mem_singleton] at hr
 rcases hr with hr | rfl
 ·exact h r hr
 ·have a := u64_nonneg x; have b := u64_lt x; have c := u64_nonneg y; have d := u64_lt y
  dsimp only; omega

theorem gRanges_spec (H : Heap) (s : Sl) (l : List Rg) (fr to un : Int) (most : Nat) (h : Rgs H s l) (hu : U64L l) (hun : 0 < un) (hn1 : 0 < (IntKind.u64.wrap (to - fr)).tdiv un) (hn2 : (IntKind.u64.wrap (to - fr)).tdiv un <= 4503599627370496) (hm : most <= 10) (hft : 0 <= fr /\ fr <= to /\ to <= 4503599627370496) :
  CallsH Tryz.prog n_60 #[.slice s.p s.n s.c, .int .u64 fr, .int .u64 to, .int .u64 un, .int .i64 most] H (fun v H' => ∃ (out : Sl) (L : List Rg), v = .slice out.p out.n out.c /\ Own H.size t_95 2 H' out (L.flatMap encR) /\ U64L L /\ WithinR L fr to /\ Ext H H') := by
 refine F_60_ok _ _ _ _ _ ?_
 unfold F_60
 have hsn := h.len
 have hnu : (IntKind.u64.wrap (to - fr)).tdiv un * un <= to - fr := by
  rw [u64_in (n := to - fr) (by omega), Int.tdiv_eq_ediv_of_nonneg (by omega)]
  exact Int.ediv_mul_le _ (by omega)
 generalize (IntKind.u64.wrap (to - fr)).tdiv un = n at *
 refine ⟨by omega, letV_mk n (u64_in (by omega)) ?_⟩
 refine loop2 10 (fun k out H' => ∃ L : List Rg, Own H.size t_95 2 H' out (L.flatMap encR) /\ U64L L /\ L.length <= k /\ (∀ r ∈ L, RgOk r /\ fr <= r.1 /\ r.1 + r.2 <= to) /\ Ext H H') ⟨[], Own.nil _ _ _ _, (fun r hr => by cases hr), by simp, (fun r hr => by cases hr), .refl _⟩ ?_
 rintro k out H1 hk ⟨L, o1, u1, l1, w1, e1⟩
 unfold F_60_r1
 have wi : WithinR L fr to := ⟨by omega, ⟨by omega, fun r hr => (w1 r hr).1⟩, fun r hr => (w1 r hr).2⟩
 refine iteB_dec (fun c => iteB_dec (fun c1 => ?_) (fun c1 => ⟨out, L, rfl, o1, u1, wi, e1⟩)) (fun c => ⟨out, L, rfl, o1, u1, wi, e1⟩)
 have hkn : k < l.length := by omega
 obtain ⟨a, hp, r0, r1⟩ := Rgs.atN (h.ext e1) hkn
 have hr := hu _ (getD_mem' (0, 0) hkn)
 generalize l.getD k (0, 0) = r at *
 have h1 : 0 <= r.1.tmod n /\ r.1.tmod n < n := by
  rw [Int.tmod_eq_emod_of_nonneg hr.1.1]
  exact ⟨Int.emod_nonneg _ (by omega), Int.emod_lt_of_pos _ (by omega)⟩
 have n1 := Own.len rkRange o1
 refine ⟨by omega, by omega, unSome_mk hp ⟨_, r0, by omega, by omega, by omega, unSome_mk hp ⟨_, r1, by rw [u64_in (by omega)]; omega, ?_⟩⟩⟩
 refine apR rkRange (_, _) (lo := H.size) o1 (by omega) e1.size ?_
 intro s' H3 ho hn3 m3
 refine letV_mk _ rfl (next2 (by omega) (by omega) ⟨_, ho, u64L_wrap u1 _ _, by simp; omega, fun x hx => ?_, Mods.ext e1 m3 (blkOf_new o1.new)⟩)
 rcases List.mem_append.1 hx with hx | hx
 ·exact w1 x hx
 simp only [List.mem_singleton] at hx
 subst hx
 have h2 : 0 <= r.2.tmod (n - r.1.tmod n) /\ r.2.tmod (n - r.1.tmod n) < n - r.1.tmod n := by
  rw [Int.tmod_eq_emod_of_nonneg hr.2.1]
  exact ⟨Int.emod_nonneg _ (by omega), Int.emod_lt_of_pos _ (by omega)⟩
 rw [u64_in (n := n - r.1.tmod n) (by omega)]
 generalize r.1.tmod n = at1 at *
 generalize r.2.tmod (n - at1) = le1 at *
 have m1 : (at1 + (1 + le1)) * un <= n * un := Int.mul_le_mul_of_nonneg_right (by omega) (by omega)
 rw [Int.add_mul] at m1
 have p1 : 0 <= at1 * un := Int.mul_nonneg h1.1 (by omega)
 have p2 : 1 * un <= (1 + le1) * un := Int.mul_le_mul_of_nonneg_right (by omega) (by omega)
 have b64 : (2 : Int) ^ IntKind.u64.bits = 18446744073709551616 := rfl
 rw [u64_in (n := 1 + le1) (by omega), u64_in (n := at1 * un) (by omega), b64, Int.emod_eq_of_lt (a := fr + at1 * un) (by omega) (by omega), Int.emod_eq_of_lt (a := (1 + le1) * un) (by omega) (by omega)]
 unfold RgOk
 dsimp only
 omega

structure GH (H0 H : Heap) (b : Nat) (g : Host) (gs : HostS) : Prop where
 blk : Blk H b t_27 (hostL g gs)
 io : Rgs H gs.io g.io /\ TyB H gs.io.p t_95 /\ U64L g.io
 mem : Rgs H gs.mem g.mem /\ TyB H gs.mem.p t_95 /\ U64L g.mem
 high : Rgs H gs.high g.high /\ TyB H gs.high.p t_95 /\ U64L g.high
 fio : Rgs H gs.fio g.fio /\ TyB H gs.fio.p t_95 /\ U64L g.fio
 fix : Rgs H gs.fix g.fix /\ TyB H gs.fix.p t_95 /\ U64L g.fix
 links : Own H0.size t_114 1 H gs.links (g.links.flatMap (encI .u32))
 routes : Own H0.size t_116 3 H gs.routes (g.routes.flatMap encRt)
 ext : Ext H0 H
 lo : H0.size <= b

theorem RT.mods {H H' : Heap} {S : List Nat} {s : Sl} {l : List Rg} (h : Rgs H s l /\ TyB H s.p t_95 /\ U64L l) (m : Mods S H H') (hn : ∀ a, s.p = some a -> a.block ∉ S) : Rgs H' s l /\ TyB H' s.p t_95 /\ U64L l := ⟨h.1.mods m hn, h.2.1.mods m hn, h.2.2⟩

theorem GH.mods {H0 H H' : Heap} {b : Nat} {g : Host} {gs : HostS} {S : List Nat} (h : GH H0 H b g gs) (m : Mods S H H') (hb : b ∉ S) (hr : ∀ q, TyB H q t_95 -> ∀ a, q = some a -> a.block ∉ S) (hl : ∀ q, TyB H q t_114 -> ∀ a, q = some a -> a.block ∉ S) (ht : ∀ q, TyB H q t_116 -> ∀ a, q = some a -> a.block ∉ S) (hS : ∀ x ∈ S, H0.size <= x) : GH H0 H' b g gs :=
 ⟨h.blk.mods m hb, RT.mods h.io m (hr _ h.io.2.1), RT.mods h.mem m (hr _ h.mem.2.1), RT.mods h.high m (hr _ h.high.2.1), RT.mods h.fio m (hr _ h.fio.2.1), RT.mods h.fix m (hr _ h.fix.2.1), h.links.mods m (hl _ (own_ty h.links)), h.routes.mods m (ht _ (own_ty h.routes)), Mods.ext h.ext m hS, h.lo⟩
theorem GH.ext' {H0 H H' : Heap} {b : Nat} {g : Host} {gs : HostS} (h : GH H0 H b g gs) (e : Ext H H') : GH H0 H' b g gs :=
 h.mods (S := []) e.mods (by simp) (fun _ _ _ _ => by simp) (fun _ _ _ _ => by simp) (fun _ _ _ _ => by simp) (by simp)

theorem GH.set {H0 H H' : Heap} {b j : Nat} {g g' : Host} {gs gs' : HostS} {v : Value} (hb : Blk H b t_27 (hostL g gs)) (hx : Ext H0 H) (hlo : H0.size <= b) (hw : H' = wrs H ((⟨b, 0, none⟩ : Addr).add j) [v]) (hset : (hostL g gs).set j v = hostL g' gs')
  (hio : Rgs H gs'.io g'.io /\ TyB H gs'.io.p t_95 /\ U64L g'.io) (hmem : Rgs H gs'.mem g'.mem /\ TyB H gs'.mem.p t_95 /\ U64L g'.mem) (hhigh : Rgs H gs'.high g'.high /\ TyB H gs'.high.p t_95 /\ U64L g'.high)
  (hfio : Rgs H gs'.fio g'.fio /\ TyB H gs'.fio.p t_95 /\ U64L g'.fio) (hfix : Rgs H gs'.fix g'.fix /\ TyB H gs'.fix.p t_95 /\ U64L g'.fix)
  (hl : Own H0.size t_114 1 H gs'.links (g'.links.flatMap (encI .u32))) (hr : Own H0.size t_116 3 H gs'.routes (g'.routes.flatMap encRt)) : GH H0 H' b g' gs' := by
 subst hw
 have b' := hb.wr1 (i := j) (w := v)
 rw [hset] at b'
 have m : Mods [b] H (wrs H ((⟨b, 0, none⟩ : Addr).add j) [v]) := mods_wr_add (by simp)
 have t1 : TyB H (some ⟨b, 0, none⟩) t_27 := fun a ha => by cases ha; exact ⟨_, _, hb⟩
 have o : ∀ {e : TypeId}, e ≠ t_27 -> ∀ {q : Option Addr}, TyB H q e -> ∀ a, q = some a -> a.block ∉ [b] := fun he _ hq a ha => by
  have := ty_ne hq t1 he a ha
  simpa [blkOf] using this
 exact ⟨b', RT.mods hio m (o (by decide) hio.2.1), RT.mods hmem m (o (by decide) hmem.2.1), RT.mods hhigh m (o (by decide) hhigh.2.1), RT.mods hfio m (o (by decide) hfio.2.1), RT.mods hfix m (o (by decide) hfix.2.1), hl.mods m (o (by decide) (own_ty hl)), hr.mods m (o (by decide) (own_ty hr)), Mods.ext hx m (by simpa using hlo), hlo⟩

theorem GH.appR {H0 H H' : Heap} {b : Nat} {g : Host} {gs : HostS} {s' : Sl} {L : List Rt} (h : GH H0 H b g gs) (ho : Own H0.size t_116 3 H' s' (L.flatMap encRt)) (m : Mods (blkOf gs.routes.p) H H') :
  okRow H' ((⟨b, 0, none⟩ : Addr).add 7) 1 /\ ∀ H'', H'' = wrs H' ((⟨b, 0, none⟩ : Addr).add 7) [.slice s'.p s'.n s'.c] -> GH H0 H'' b { g with routes := L } { gs with routes := s' } := by
 have tr := own_ty h.routes
 have t1 : TyB H (some ⟨b, 0, none⟩) t_27 := fun a ha => by cases ha; exact ⟨_, _, h.blk⟩
 have hb : Blk H' b t_27 (hostL g gs) := h.blk.mods m (ty_ne t1 tr (by decide) _ rfl)
 refine ⟨hb.ok (by simp), fun H'' hw => ?_⟩
 exact GH.set (g' := { g with routes := L }) (gs' := { gs with routes := s' }) hb (Mods.ext h.ext m (blkOf_new h.routes.new)) h.lo hw rfl (RT.mods h.io m (fun a ha => ty_ne h.io.2.1 tr (by decide) a ha)) (RT.mods h.mem m (fun a ha => ty_ne h.mem.2.1 tr (by decide) a ha)) (RT.mods h.high m (fun a ha => ty_ne h.high.2.1 tr (by decide) a ha)) (RT.mods h.fio m (fun a ha => ty_ne h.fio.2.1 tr (by decide) a ha)) (RT.mods h.fix m (fun a ha => ty_ne h.fix.2.1 tr (by decide) a ha)) (h.links.mods m (fun a ha => ty_ne (own_ty h.links) tr (by decide) a ha)) ho
theorem GH.appL {H0 H H' : Heap} {b : Nat} {g : Host} {gs : HostS} {s' : Sl} {L : List Int} (h : GH H0 H b g gs) (ho : Own H0.size t_114 1 H' s' (L.flatMap (encI .u32))) (m : Mods (blkOf gs.links.p) H H') :
  okRow H' ((⟨b, 0, none⟩ : Addr).add 6) 1 /\ ∀ H'', H'' = wrs H' ((⟨b, 0, none⟩ : Addr).add 6) [.slice s'.p s'.n s'.c] -> GH H0 H'' b { g with links := L } { gs with links := s' } := by
 have tr := own_ty h.links
 have t1 : TyB H (some ⟨b, 0, none⟩) t_27 := fun a ha => by cases ha; exact ⟨_, _, h.blk⟩
 have hb : Blk H' b t_27 (hostL g gs) := h.blk.mods m (ty_ne t1 tr (by decide) _ rfl)
 refine ⟨hb.ok (by simp), fun H'' hw => ?_⟩
 exact GH.set (g' := { g with links := L }) (gs' := { gs with links := s' }) hb (Mods.ext h.ext m (blkOf_new h.links.new)) h.lo hw rfl (RT.mods h.io m (fun a ha => ty_ne h.io.2.1 tr (by decide) a ha)) (RT.mods h.mem m (fun a ha => ty_ne h.mem.2.1 tr (by decide) a ha)) (RT.mods h.high m (fun a ha => ty_ne h.high.2.1 tr (by decide) a ha)) (RT.mods h.fio m (fun a ha => ty_ne h.fio.2.1 tr (by decide) a ha)) (RT.mods h.fix m (fun a ha => ty_ne h.fix.2.1 tr (by decide) a ha)) ho (h.routes.mods m (fun a ha => ty_ne (own_ty h.routes) tr (by decide) a ha))

theorem RT.own {lo : Nat} {H : Heap} {s : Sl} {L : List Rg} (o : Own lo t_95 2 H s (L.flatMap encR)) (u : U64L L) : Rgs H s L /\ TyB H s.p t_95 /\ U64L L := ⟨Own.is rkRange o, own_ty o, u⟩
theorem RT.nil {H : Heap} : Rgs H (⟨none, 0, 0⟩ : Sl) [] /\ TyB H (none : Option Addr) t_95 /\ U64L [] := ⟨IsS.nil _ _ _, (fun a ha => by cases ha), fun r hr => by cases hr⟩

structure HostTy (H : Heap) (gs : HostS) : Prop where
 io : TyB H gs.io.p t_95
 mem : TyB H gs.mem.p t_95
 high : TyB H gs.high.p t_95
 fio : TyB H gs.fio.p t_95
 fix : TyB H gs.fix.p t_95
 links : TyB H gs.links.p t_114
 routes : TyB H gs.routes.p t_116
theorem HostM.modsT {H H' : Heap} {g : Host} {gs : HostS} {b : Nat} {vs : List Value} (m : HostM H g gs) (t : HostTy H gs) (hb : Blk H b t_27 vs) (md : Mods [b] H H') : HostM H' g gs := by
 have t1 : TyB H (some ⟨b, 0, none⟩) t_27 := fun a ha => by cases ha; exact ⟨_, _, hb⟩
 have o : ∀ {e : TypeId}, e ≠ t_27 -> ∀ {q : Option Addr}, TyB H q e -> ∀ a, q = some a -> a.block ∉ [b] := fun he _ hq a ha => by
  have := ty_ne hq t1 he a ha
  simpa [blkOf] using this
 exact ⟨m.io.mods md (o (by decide) t.io), m.mem.mods md (o (by decide) t.mem), m.high.mods md (o (by decide) t.high), m.fio.mods md (o (by decide) t.fio), m.fix.mods md (o (by decide) t.fix), m.links.mods md (o (by decide) t.links), m.routes.mods md (o (by decide) t.routes), m.uio, m.umem, m.uhigh, m.ufio, m.ufix⟩

structure GV (h g : Host) : Prop where
 bu : 1 <= g.buses /\ g.buses <= 256
 io : WithinR g.io 0 65536
 mem : WithinR g.mem 0 4294967296
 high : WithinR g.high 4294967296 4503599627370496
 fio : WithinR g.fio 0 65536
 fix : WithinR g.fix 0 4503599627370496
 lk : (∀ x ∈ h.links, 0 <= x /\ x <= 4294967295) -> ∀ x ∈ g.links, 0 <= x /\ x <= 4294967295
 rt : ∀ x ∈ g.routes, RtOk g.links.length x
theorem within_nil (a b : Int) : WithinR [] a b := ⟨by simp, ⟨by simp, fun r hr => by cases hr⟩, fun r hr => by cases hr⟩
theorem within_mono {l : List Rg} {a b c d : Int} (h : WithinR l a b) (h1 : c <= a) (h2 : b <= d) : WithinR l c d := ⟨h.1, h.2.1, fun r hr => by have := h.2.2 r hr; omega⟩
def GHostV (h : Host) (H : Heap) (v : Value) (H' : Heap) : Prop := ∃ g gs, v = hostV g gs /\ HostM H' g gs /\ HostTy H' gs /\ g.links.length <= 5 /\ g.routes.length <= 72 /\ GV h g /\ Ext H H'
theorem ghost_ret {H0 H1 H3 H41 : Heap} {h0 g : Host} {gs : HostS} {z : List Value} (hz : z.length = 8) (h : GH H3 H41 H3.size g gs) (hr : Blk H41 H1.size t_27 z) (e : Ext H0 H41) (h01 : H0.size <= H1.size) (h13 : H1.size < H3.size) (hl : g.links.length <= 5) (hrt : g.routes.length <= 72) (hv : GV h0 g) :
  okRow H41 (⟨H1.size, 0, none⟩ : Addr) 8 /\ (letH (wrs H41 (⟨H1.size, 0, none⟩ : Addr) (hostL g gs)) (fun H45 : Heap =>
   ∃ r : Int, rd H45 (⟨H1.size, 0, none⟩ : Addr) = some (.int .i64 r) /\ ∃ r1 : Sl, rd H45 ((⟨H1.size, 0, none⟩ : Addr).add 1) = some (.slice r1.p r1.n r1.c) /\ ∃ r2 : Sl, rd H45 ((⟨H1.size, 0, none⟩ : Addr).add 2) = some (.slice r2.p r2.n r2.c) /\ ∃ r3 : Sl, rd H45 ((⟨H1.size, 0, none⟩ : Addr).add 3) = some (.slice r3.p r3.n r3.c) /\ ∃ r4 : Sl, rd H45 ((⟨H1.size, 0, none⟩ : Addr).add 4) = some (.slice r4.p r4.n r4.c) /\ ∃ r5 : Sl, rd H45 ((⟨H1.size, 0, none⟩ : Addr).add 5) = some (.slice r5.p r5.n r5.c) /\ ∃ r6 : Sl, rd H45 ((⟨H1.size, 0, none⟩ : Addr).add 6) = some (.slice r6.p r6.n r6.c) /\ ∃ r7 : Sl, rd H45 ((⟨H1.size, 0, none⟩ : Addr).add 7) = some (.slice r7.p r7.n r7.c) /\
   GHostV h0 H0 (.agg #[.int .i64 r, .slice r1.p r1.n r1.c, .slice r2.p r2.n r2.c, .slice r3.p r3.n r3.c, .slice r4.p r4.n r4.c, .slice r5.p r5.n r5.c, .slice r6.p r6.n r6.c, .slice r7.p r7.n r7.c]) H45)) := by
 refine ⟨hr.ok0 (by omega), letH_mk ?_⟩
 intro H45 h45
 have m : Mods [H1.size] H41 H45 := by rw [h45]; exact Mods.wrs (by simp)
 have b45 : Blk H45 H1.size t_27 (hostL g gs) := by
  rw [h45]
  have := hr.wr (o := 0) (ws := hostL g gs)
  have e8 : spl z 0 (hostL g gs) = hostL g gs := by
   match z, hz with
   | [z0, z1, z2, z3, z4, z5, z6, z7], _ => rfl
  rw [e8] at this
  exact this
 clear h45
 have t1 : TyB H41 (some ⟨H1.size, 0, none⟩) t_27 := fun a ha => by cases ha; exact ⟨_, _, hr⟩
 have o : ∀ {e : TypeId}, e ≠ t_27 -> ∀ {q : Option Addr}, TyB H41 q e -> ∀ a, q = some a -> a.block ∉ [H1.size] := fun he _ hq a ha => by
  have := ty_ne hq t1 he a ha
  simpa [blkOf] using this
 obtain ⟨p0, p1, p2, p3, p4, p5, p6, p7⟩ := Blk.host b45
 refine ⟨_, p0, _, p1, _, p2, _, p3, _, p4, _, p5, _, p6, _, p7, g, gs, rfl, ?_, ?_, hl, hrt, hv, Mods.ext e m (by simpa using h01)⟩
 rotate_left
 ·exact ⟨h.io.2.1.mods m (o (by decide) h.io.2.1), h.mem.2.1.mods m (o (by decide) h.mem.2.1), h.high.2.1.mods m (o (by decide) h.high.2.1), h.fio.2.1.mods m (o (by decide) h.fio.2.1), h.fix.2.1.mods m (o (by decide) h.fix.2.1), (own_ty h.links).mods m (o (by decide) (own_ty h.links)), (own_ty h.routes).mods m (o (by decide) (own_ty h.routes))⟩
 exact ⟨h.io.1.mods m (o (by decide) h.io.2.1), h.mem.1.mods m (o (by decide) h.mem.2.1), h.high.1.mods m (o (by decide) h.high.2.1), h.fio.1.mods m (o (by decide) h.fio.2.1), h.fix.1.mods m (o (by decide) h.fix.2.1), Own.is rkLink (h.links.mods m (o (by decide) (own_ty h.links))), Own.is rkRoute (h.routes.mods m (o (by decide) (own_ty h.routes))), h.io.2.2, h.mem.2.2, h.high.2.2, h.fio.2.2, h.fix.2.2⟩

end Go.Proofs.YtnhhncjflnlfaaaGreat
end

section
/-
 The contract of the generator's Host, whole.
-/
namespace Go.Proofs.YtnhhncjflnlfaaaGreat
open Go.Eng
set_option linter.unusedVariables false

theorem GV.addR {h g : Host} (v : GV h g) {x : Rt} (hx : RtOk g.links.length x) : GV h { g with routes := g.routes ++ [x] } :=
 ⟨v.bu, v.io, v.mem, v.high, v.fio, v.fix, v.lk, fun y hy => by
  rcases List.mem_append.1 hy with h1 | h1
  ·exact v.rt y h1
  ·simp only [List.mem_singleton] at h1; subst h1; exact hx⟩
theorem GV.addL {h g : Host} (v : GV h g) (hr : g.routes = []) {y : Int} (hy : (∀ x ∈ h.links, 0 <= x /\ x <= 4294967295) -> 0 <= y /\ y <= 4294967295) : GV h { g with links := g.links ++ [y] } :=
 ⟨v.bu, v.io, v.mem, v.high, v.fio, v.fix, fun hh x hx => by
  rcases List.mem_append.1 hx with h1 | h1
  ·exact v.lk hh x h1
  ·simp only [List.mem_singleton] at h1; subst h1; exact hy hh, fun x hx => by dsimp only at hx; rw [hr] at hx; cases hx⟩

structure GA (Ha H1 H3 H : Heap) (h : Host) (hs : HostS) (g : Host) (gs : HostS) : Prop where
 gh : GH H3 H H3.size g gs
 gv : GV h g
 par : Blk H Ha.size t_27 (hostL h hs)
 res : Blk H H1.size t_27 (hostL ⟨0, [], [], [], [], [], [], []⟩ ⟨⟨none, 0, 0⟩, ⟨none, 0, 0⟩, ⟨none, 0, 0⟩, ⟨none, 0, 0⟩, ⟨none, 0, 0⟩, ⟨none, 0, 0⟩, ⟨none, 0, 0⟩⟩)
 ext : Ext Ha H
 m : HostM Ha h hs
 o1 : Ha.size < H1.size
 o3 : H1.size < H3.size

theorem GA.ext' {Ha H1 H3 H H' : Heap} {h g : Host} {hs gs : HostS} (a : GA Ha H1 H3 H h hs g gs) (e : Ext H H') : GA Ha H1 H3 H' h hs g gs :=
 ⟨a.gh.ext' e, a.gv, a.par.ext e, a.res.ext e, a.ext.trans e, a.m, a.o1, a.o3⟩
theorem GA.host {Ha H1 H3 H : Heap} {h g : Host} {hs gs : HostS} (a : GA Ha H1 H3 H h hs g gs) : HostM H h hs := a.m.ext a.ext
theorem GA.upd {Ha H1 H3 H H' : Heap} {h g g' : Host} {hs gs gs' : HostS} {S : List Nat} (a : GA Ha H1 H3 H h hs g gs) (m : Mods S H H') (hS : ∀ x ∈ S, H3.size <= x) (gh' : GH H3 H' H3.size g' gs') (gv' : GV h g') : GA Ha H1 H3 H' h hs g' gs' := by
 have h1 := a.o1
 have h3 := a.o3
 exact ⟨gh', gv', a.par.mods m (fun hh => by have := hS _ hh; omega), a.res.mods m (fun hh => by have := hS _ hh; omega), Mods.ext a.ext m (fun x hx => by have := hS x hx; omega), a.m, h1, h3⟩

theorem ghost_routes2 {Ha H1 H3 H40 : Heap} {h g : Host} {hs gs : HostS} (a : GA Ha H1 H3 H40 h hs g gs) (hl : g.links.length <= 5) (hrt : g.routes.length <= 40) : F_21_k5 (GHostV h Ha) H1 H3 H40 := by
 unfold F_21_k5
 refine loop1 32 (fun k H' => ∃ g' gs', GA Ha H1 H3 H' h hs g' gs' /\ g'.links.length <= 5 /\ g'.routes.length <= 40 + k) ⟨g, gs, a, hl, by omega⟩ ?_
 rintro k H41 hk ⟨g', gs', b, bl, br⟩
 unfold F_21_r4
 obtain ⟨p0, p1, p2, p3, p4, p5, p6, p7⟩ := Blk.host b.gh.blk
 have nl := Own.len rkLink b.gh.links
 have nr := Own.len rkRoute b.gh.routes
 have ret := ghost_ret (H0 := Ha) (H1 := H1) rfl b.gh b.res b.ext (by have := b.o1; omega) b.o3 bl (by omega) b.gv
 refine iteB_dec (fun c => ⟨_, p6, iteB_dec (fun c1 => ⟨_, p7, _, p6, by omega, ?_⟩) (fun c1 => ⟨_, p0, _, p1, _, p2, _, p3, _, p4, _, p5, _, p6, _, p7, ret⟩)⟩) (fun c => ⟨_, p0, _, p1, _, p2, _, p3, _, p4, _, p5, _, p6, _, p7, ret⟩)
 have hz := b.gh.ext.size
 refine letH_mk ?_
 intro H42 h42
 have e42 : Ext H41 H42 := by rw [h42]; exact Ext.push _ _
 refine ⟨e42.keeps, ?_⟩
 have app := apR rkRoute ((k : Int).tmod 8, IntKind.i64.wrap (1 + IntKind.i64.wrap ((k : Int).tdiv 8)), (k : Int).tmod gs'.links.n) (lo := H3.size) (K := fun x38 H38 => okRow H38 ((⟨H3.size, 0, none⟩ : Addr).add 7) 1 /\ (
  letH (wrs H38 ((⟨H3.size, 0, none⟩ : Addr).add 7) [.slice x38.p x38.n x38.c]) (fun H39 : Heap => letV (IntKind.i64.wrap ((k : Int) + 1)) (fun i3 : Int =>
   CI 32 (fun k H' => ∃ g' gs', GA Ha H1 H3 H' h hs g' gs' /\ g'.links.length <= 5 /\ g'.routes.length <= 40 + k) i3 H39 /\ CM 32 i3 H39 < CM 32 (k : Int) H41)))) b.gh.routes (by omega) (by omega) ?_
 ·unfold letH at app
  rw [h42]
  exact app
 intro s' H43 ho hn43 m43
 obtain ⟨hok, hset⟩ := b.gh.appR ho m43
 refine ⟨hok, letH_mk ?_⟩
 intro H44 h44
 have g44 := hset H44 h44
 have m44 : Mods [H3.size] H43 H44 := by rw [h44]; exact mods_wr_add (by simp)
 have b43 : Mods (H3.size :: blkOf gs'.routes.p) H41 H44 := (m43.mono (fun x hx => List.mem_cons_of_mem _ hx)).trans (m44.mono (by simp))
 refine letV_mk _ rfl (next1 (by omega) (by omega) ⟨_, _, b.upd b43 (fun x hx => ?_) g44 (b.gv.addR ⟨?_, ?_, ?_⟩), bl, by simp; omega⟩)
 rotate_left
 ·show 0 <= (k : Int).tmod 8 /\ (k : Int).tmod 8 <= 31
  rw [Int.tmod_eq_emod_of_nonneg (by omega)]; omega
 ·show 1 <= IntKind.i64.wrap (1 + IntKind.i64.wrap ((k : Int).tdiv 8)) /\ IntKind.i64.wrap (1 + IntKind.i64.wrap ((k : Int).tdiv 8)) <= 4
  rw [Int.tdiv_eq_ediv_of_nonneg (by omega), i64_in (n := (k : Int) / 8) (by omega), i64_in (by omega)]; omega
 ·show 0 <= (k : Int).tmod gs'.links.n /\ (k : Int).tmod gs'.links.n < g'.links.length
  rw [Int.tmod_eq_emod_of_nonneg (by omega)]
  exact ⟨Int.emod_nonneg _ (by omega), by rw [<- nl]; exact Int.emod_lt_of_pos _ (by omega)⟩
 rcases List.mem_cons.1 hx with rfl | hx
 ·exact Nat.le_refl _
 ·exact blkOf_new b.gh.routes.new x hx

theorem ghost_routes1 {Ha H1 H3 H35 : Heap} {h g : Host} {hs gs : HostS} (a : GA Ha H1 H3 H35 h hs g gs) (hl : g.links.length <= 5) (hrt : g.routes = []) : F_21_k6 (GHostV h Ha) Ha H1 H3 H35 := by
 unfold F_21_k6
 refine ⟨fun H' => ∃ g' gs', GA Ha H1 H3 H' h hs g' gs' /\ g'.links.length <= 5 /\ g'.routes.length <= 40, ?_, fun H40 ⟨g', gs', b, bl, br⟩ => ghost_routes2 b bl br⟩
 have hrn := a.m.routes.len
 refine loop1 40 (fun k H' => ∃ g' gs', GA Ha H1 H3 H' h hs g' gs' /\ g'.links.length <= 5 /\ g'.routes.length <= k) ⟨g, gs, a, hl, by rw [hrt]; simp⟩ ?_
 rintro k H36 hk ⟨g', gs', b, bl, br⟩
 unfold F_21_r3
 obtain ⟨p0, p1, p2, p3, p4, p5, p6, p7⟩ := Blk.host b.gh.blk
 have q7 := (Blk.host b.par).2.2.2.2.2.2.2
 have nl := Own.len rkLink b.gh.links
 have nr := Own.len rkRoute b.gh.routes
 have out : ∃ g' gs', GA Ha H1 H3 H36 h hs g' gs' /\ g'.links.length <= 5 /\ g'.routes.length <= 40 := ⟨g', gs', b, bl, by omega⟩
 refine ⟨_, q7, iteB_dec (fun c => iteB_dec (fun c1 => ⟨_, p6, iteB_dec (fun c2 => ?_) (fun c2 => out)⟩) (fun c1 => out)) (fun c => out)⟩
 have hkn : k < h.routes.length := by omega
 obtain ⟨q, hq, hr⟩ := IsS.atN b.host.routes (0, 0, 0) hkn
 generalize h.routes.getD k (0, 0, 0) = x at *
 obtain ⟨x0, x1, x2⟩ := x
 refine ⟨_, p7, _, q7, by omega, by omega, unSome_mk hq ⟨x0, hr 0 _ rfl, Mod_pure _ _ (by omega) (by omega) ⟨_, rfl, _, q7, by omega, by omega, unSome_mk hq ⟨x1, hr 1 _ rfl, Mod_pure _ _ (by omega) (by omega) ⟨_, rfl, _, q7, by omega, by omega, unSome_mk hq ⟨x2, hr 2 _ rfl, _, p6, Mod_pure _ _ (by omega) (by omega) ⟨_, rfl, ?_⟩⟩⟩⟩⟩⟩⟩
 have hz := b.gh.ext.size
 refine letH_mk ?_
 intro H37 h37
 have e37 : Ext H36 H37 := by rw [h37]; exact Ext.push _ _
 refine ⟨e37.keeps, ?_⟩
 have app := apR rkRoute (modI x0 8, IntKind.i64.wrap (1 + modI x1 4), modI x2 gs'.links.n) (lo := H3.size) (K := fun x38 H38 => okRow H38 ((⟨H3.size, 0, none⟩ : Addr).add 7) 1 /\ (
  letH (wrs H38 ((⟨H3.size, 0, none⟩ : Addr).add 7) [.slice x38.p x38.n x38.c]) (fun H39 : Heap => letV (IntKind.i64.wrap ((k : Int) + 1)) (fun i3 : Int =>
   CI 40 (fun k H' => ∃ g' gs', GA Ha H1 H3 H' h hs g' gs' /\ g'.links.length <= 5 /\ g'.routes.length <= k) i3 H39 /\ CM 40 i3 H39 < CM 40 (k : Int) H36)))) b.gh.routes (by omega) (by omega) ?_
 ·unfold letH at app
  rw [h37]
  exact app
 intro s' H43 ho hn43 m43
 obtain ⟨hok, hset⟩ := b.gh.appR ho m43
 refine ⟨hok, letH_mk ?_⟩
 intro H44 h44
 have g44 := hset H44 h44
 have m44 : Mods [H3.size] H43 H44 := by rw [h44]; exact mods_wr_add (by simp)
 have b43 : Mods (H3.size :: blkOf gs'.routes.p) H36 H44 := (m43.mono (fun x hx => List.mem_cons_of_mem _ hx)).trans (m44.mono (by simp))
 refine letV_mk _ rfl (next1 (by omega) (by omega) ⟨_, _, b.upd b43 (fun x hx => ?_) g44 (b.gv.addR ⟨?_, ?_, ?_⟩), bl, by simp; omega⟩)
 rotate_left
 ·show 0 <= modI x0 8 /\ modI x0 8 <= 31
  have := modI_range x0 (n := 8) (by omega); omega
 ·show 1 <= IntKind.i64.wrap (1 + modI x1 4) /\ IntKind.i64.wrap (1 + modI x1 4) <= 4
  have := modI_range x1 (n := 4) (by omega); rw [i64_in (by omega)]; omega
 ·show 0 <= modI x2 gs'.links.n /\ modI x2 gs'.links.n < g'.links.length
  have := modI_range x2 (n := (gs'.links.n : Int)) (by omega); omega
 rcases List.mem_cons.1 hx with rfl | hx
 ·exact Nat.le_refl _
 ·exact blkOf_new b.gh.routes.new x hx

theorem ghost_links {Ha H1 H3 H26 : Heap} {h g : Host} {hs gs : HostS} (a : GA Ha H1 H3 H26 h hs g gs) (hl : g.links = []) (hrt : g.routes = []) : F_21_k7 (GHostV h Ha) Ha H1 H3 H26 := by
 unfold F_21_k7
 refine ⟨fun H' => ∃ g' gs', GA Ha H1 H3 H' h hs g' gs' /\ g'.links.length <= 5 /\ g'.routes = [], ?_, fun H35 ⟨g', gs', b, bl, br⟩ => ghost_routes1 b bl br⟩
 have hln := a.m.links.len
 refine loop1 5 (fun k H' => ∃ g' gs', GA Ha H1 H3 H' h hs g' gs' /\ g'.links.length <= k /\ g'.routes = []) ⟨g, gs, a, by rw [hl]; simp, hrt⟩ ?_
 rintro k H27 hk ⟨g', gs', b, bl, br⟩
 unfold F_21_r2
 have q6 := (Blk.host b.par).2.2.2.2.2.2.1
 have nl := Own.len rkLink b.gh.links
 have out : ∃ g' gs', GA Ha H1 H3 H27 h hs g' gs' /\ g'.links.length <= 5 /\ g'.routes = [] := ⟨g', gs', b, by omega, br⟩
 refine ⟨_, q6, iteB_dec (fun c => iteB_dec (fun c1 => ?_) (fun c1 => out)) (fun c => out)⟩
 have hkn : k < h.links.length := by omega
 obtain ⟨q, hq, hr⟩ := Ints.atN b.host.links hkn
 have hxm := getD_mem' (l := h.links) (k := k) 0 hkn
 generalize h.links.getD k 0 = x at *
 have hz := b.gh.ext.size
 refine ⟨_, q6, by omega, by omega, unSome_mk hq ⟨x, hr, local_mk (vs := encI .u32 x) rfl rfl fun H29 e29 z29 b29 => ⟨fun H' => ∃ y, Blk H' H27.size t_114 (encI .u32 y) /\ Mods [H27.size] H29 H' /\ (y = x \/ y = 7680), ⟨x, b29.rd0 rfl, iteB_beq (fun d => iteB_intro (fun d1 => ⟨b29.ok0 (by simp [encI]), letH_mk ?_⟩) (fun d1 => ⟨x, b29, Mods.refl _ _, .inl rfl⟩)) (fun d => ⟨x, b29, Mods.refl _ _, .inl rfl⟩)⟩, ?_⟩⟩⟩
 ·rintro H30 rfl
  exact ⟨7680, b29.wr, Mods.wrs (by simp), .inr rfl⟩
 rintro H31 ⟨y, b31, m31, hy⟩
 unfold F_21_k1
 have e31 : Ext H27 H31 := Mods.ext e29 m31 (by simp)
 have c31 := b.ext' e31
 have p6 := (Blk.host c31.gh.blk).2.2.2.2.2.2.1
 have hz31 := c31.gh.ext.size
 refine ⟨_, p6, y, b31.rd0 rfl, ?_⟩
 refine apR rkLink y (lo := H3.size) c31.gh.links (by omega) (by omega) ?_
 intro s' H33 ho hn33 m33
 obtain ⟨hok, hset⟩ := c31.gh.appL ho m33
 refine ⟨hok, letH_mk ?_⟩
 intro H34 h34
 have g34 := hset H34 h34
 have m34 : Mods [H3.size] H33 H34 := by rw [h34]; exact mods_wr_add (by simp)
 have b34 : Mods (H3.size :: blkOf gs'.links.p) H31 H34 := (m33.mono (fun x hx => List.mem_cons_of_mem _ hx)).trans (m34.mono (by simp))
 refine letV_mk _ rfl (next1 (by omega) (by omega) ⟨_, _, c31.upd b34 (fun x hx => ?_) g34 (c31.gv.addL br (fun hh => by have := hh x hxm; omega)), by simp; omega, br⟩)
 rcases List.mem_cons.1 hx with rfl | hx
 ·exact Nat.le_refl _
 ·exact blkOf_new c31.gh.links.new x hx

theorem ghost_rng {Ha H1 H3 H H' : Heap} {h g g' : Host} {hs gs gs' : HostS} {j : Nat} {out : Sl} (a : GA Ha H1 H3 H h hs g gs) (hw : H' = wrs H ((⟨H3.size, 0, none⟩ : Addr).add j) [.slice out.p out.n out.c]) (hset : (hostL g gs).set j (.slice out.p out.n out.c) = hostL g' gs')
  (hio : Rgs H gs'.io g'.io /\ TyB H gs'.io.p t_95 /\ U64L g'.io) (hmem : Rgs H gs'.mem g'.mem /\ TyB H gs'.mem.p t_95 /\ U64L g'.mem) (hhigh : Rgs H gs'.high g'.high /\ TyB H gs'.high.p t_95 /\ U64L g'.high)
  (hfio : Rgs H gs'.fio g'.fio /\ TyB H gs'.fio.p t_95 /\ U64L g'.fio) (hfix : Rgs H gs'.fix g'.fix /\ TyB H gs'.fix.p t_95 /\ U64L g'.fix)
  (hl : gs'.links = gs.links /\ g'.links = g.links) (hr : gs'.routes = gs.routes /\ g'.routes = g.routes) (hv : GV h g') : GA Ha H1 H3 H' h hs g' gs' := by
 have m : Mods [H3.size] H H' := by rw [hw]; exact mods_wr_add (by simp)
 refine a.upd m (by simp) (GH.set a.gh.blk a.gh.ext (Nat.le_refl _) hw hset hio hmem hhigh hfio hfix ?_ ?_) hv
 ·rw [hl.1, hl.2]; exact a.gh.links
 ·rw [hr.1, hr.2]; exact a.gh.routes

theorem gHostV_spec (h : Host) (hs : HostS) (H : Heap) (hm : HostM H h hs) : CallsH Tryz.prog n_21 #[hostV h hs] H (GHostV h H) := by
 refine F_21_ok _ _ _ _ _ _ _ _ ?_
 unfold F_21
 refine push_mk (vs := hostL h hs) fun H1 e1 z1 b1 => push_mk (vs := hostL ⟨0, [], [], [], [], [], [], []⟩ ⟨⟨none, 0, 0⟩, ⟨none, 0, 0⟩, ⟨none, 0, 0⟩, ⟨none, 0, 0⟩, ⟨none, 0, 0⟩, ⟨none, 0, 0⟩, ⟨none, 0, 0⟩⟩) fun H2 e2 z2 b2 => ⟨_, (b1.ext e2).rd0 rfl, (Mod_spec _ _ H2 (by omega) (by omega)).mono ?_⟩
 rintro v H3 ⟨rfl, rfl⟩
 refine ⟨_, rfl, local_mk (vs := hostL ⟨IntKind.i64.wrap (1 + modI h.buses 40), [], [], [], [], [], [], []⟩ ⟨⟨none, 0, 0⟩, ⟨none, 0, 0⟩, ⟨none, 0, 0⟩, ⟨none, 0, 0⟩, ⟨none, 0, 0⟩, ⟨none, 0, 0⟩, ⟨none, 0, 0⟩⟩) rfl rfl fun H5 e5 z5 b5 => ?_⟩
 have x3 := e1.trans e2
 have a5 : GA H H1 H3 H5 h hs ⟨IntKind.i64.wrap (1 + modI h.buses 40), [], [], [], [], [], [], []⟩ ⟨⟨none, 0, 0⟩, ⟨none, 0, 0⟩, ⟨none, 0, 0⟩, ⟨none, 0, 0⟩, ⟨none, 0, 0⟩, ⟨none, 0, 0⟩, ⟨none, 0, 0⟩⟩ :=
  ⟨⟨b5, RT.nil, RT.nil, RT.nil, RT.nil, RT.nil, Own.nil _ _ _ _, Own.nil _ _ _ _, e5, Nat.le_refl _⟩, ⟨by have := modI_range h.buses (n := 40) (by omega); dsimp only; rw [i64_in (by omega)]; omega, within_nil _ _, within_nil _ _, within_nil _ _, within_nil _ _, within_nil _ _, fun _ x hx => (by cases hx), fun x hx => (by cases hx)⟩, (b1.ext e2).ext e5, b2.ext e5, x3.trans e5, hm, by omega, by omega⟩
 refine ⟨fun H' => ∃ bu, GA H H1 H3 H' h hs ⟨bu, [], [], [], [], [], [], []⟩ ⟨⟨none, 0, 0⟩, ⟨none, 0, 0⟩, ⟨none, 0, 0⟩, ⟨none, 0, 0⟩, ⟨none, 0, 0⟩, ⟨none, 0, 0⟩, ⟨none, 0, 0⟩⟩, ⟨_, a5.par.rd0 rfl, (Mod_spec _ _ H5 (by omega) (by omega)).mono ?_⟩, ?_⟩
 ·rintro v H6 ⟨rfl, rfl⟩
  refine ⟨_, rfl, iteB_dec (fun d => ⟨b5.ok0 (by simp), letH_mk ?_⟩) (fun d => ⟨_, a5⟩)⟩
  intro H7 h7
  have m7 : Mods [H3.size] H6 H7 := by rw [h7]; exact Mods.wrs (by simp)
  have b7 : Blk H7 H3.size t_27 (hostL ⟨256, [], [], [], [], [], [], []⟩ ⟨⟨none, 0, 0⟩, ⟨none, 0, 0⟩, ⟨none, 0, 0⟩, ⟨none, 0, 0⟩, ⟨none, 0, 0⟩, ⟨none, 0, 0⟩, ⟨none, 0, 0⟩⟩) := by rw [h7]; exact b5.wr
  exact ⟨256, a5.upd m7 (by simp) ⟨b7, RT.nil, RT.nil, RT.nil, RT.nil, RT.nil, Own.nil _ _ _ _, Own.nil _ _ _ _, Mods.ext e5 m7 (by simp), Nat.le_refl _⟩ ⟨by dsimp only; omega, within_nil _ _, within_nil _ _, within_nil _ _, within_nil _ _, within_nil _ _, fun _ x hx => (by cases hx), fun x hx => (by cases hx)⟩⟩
 rintro H8 ⟨bu, a8⟩
 unfold F_21_k8
 have q8 := Blk.host a8.par
 refine ⟨_, q8.2.1, (gRanges_spec H8 hs.io h.io _ _ _ 3 a8.host.io hm.uio (by omega) (by decide) (by decide) (by omega) (by omega)).mono ?_⟩
 rintro v H9 ⟨o1, L1, rfl, ow1, u1, w1, e9⟩
 have a9 := a8.ext' e9
 refine ⟨o1, rfl, a9.gh.blk.ok (by simp), letH_mk fun H10 h10 => ?_⟩
 have a10 := ghost_rng (g' := ⟨bu, L1, [], [], [], [], [], []⟩) (gs' := ⟨o1, ⟨none, 0, 0⟩, ⟨none, 0, 0⟩, ⟨none, 0, 0⟩, ⟨none, 0, 0⟩, ⟨none, 0, 0⟩, ⟨none, 0, 0⟩⟩) a9 h10 rfl (RT.own ow1 u1) a9.gh.mem a9.gh.high a9.gh.fio a9.gh.fix ⟨rfl, rfl⟩ ⟨rfl, rfl⟩ ⟨a9.gv.bu, (within_mono w1 (by omega) (by omega)), a9.gv.mem, a9.gv.high, a9.gv.fio, a9.gv.fix, a9.gv.lk, a9.gv.rt⟩
 clear h10
 refine ⟨_, (Blk.host a10.par).2.2.1, (gRanges_spec H10 hs.mem h.mem _ _ _ 3 a10.host.mem hm.umem (by omega) (by decide) (by decide) (by omega) (by omega)).mono ?_⟩
 rintro v H11 ⟨o2, L2, rfl, ow2, u2, w2, e11⟩
 have a11 := a10.ext' e11
 refine ⟨o2, rfl, a11.gh.blk.ok (by simp), letH_mk fun H12 h12 => ?_⟩
 have a12 := ghost_rng (g' := ⟨bu, L1, L2, [], [], [], [], []⟩) (gs' := ⟨o1, o2, ⟨none, 0, 0⟩, ⟨none, 0, 0⟩, ⟨none, 0, 0⟩, ⟨none, 0, 0⟩, ⟨none, 0, 0⟩⟩) a11 h12 rfl a11.gh.io (RT.own ow2 u2) a11.gh.high a11.gh.fio a11.gh.fix ⟨rfl, rfl⟩ ⟨rfl, rfl⟩ ⟨a11.gv.bu, a11.gv.io, (within_mono w2 (by omega) (by omega)), a11.gv.high, a11.gv.fio, a11.gv.fix, a11.gv.lk, a11.gv.rt⟩
 clear h12
 refine ⟨_, (Blk.host a12.par).2.2.2.1, (gRanges_spec H12 hs.high h.high _ _ _ 2 a12.host.high hm.uhigh (by omega) (by decide) (by decide) (by omega) (by omega)).mono ?_⟩
 rintro v H13 ⟨o3, L3, rfl, ow3, u3, w3, e13⟩
 have a13 := a12.ext' e13
 refine ⟨o3, rfl, a13.gh.blk.ok (by simp), letH_mk fun H14 h14 => ?_⟩
 have a14 := ghost_rng (g' := ⟨bu, L1, L2, L3, [], [], [], []⟩) (gs' := ⟨o1, o2, o3, ⟨none, 0, 0⟩, ⟨none, 0, 0⟩, ⟨none, 0, 0⟩, ⟨none, 0, 0⟩⟩) a13 h14 rfl a13.gh.io a13.gh.mem (RT.own ow3 u3) a13.gh.fio a13.gh.fix ⟨rfl, rfl⟩ ⟨rfl, rfl⟩ ⟨a13.gv.bu, a13.gv.io, a13.gv.mem, (within_mono w3 (by omega) (by omega)), a13.gv.fio, a13.gv.fix, a13.gv.lk, a13.gv.rt⟩
 clear h14
 refine ⟨_, (Blk.host a14.par).2.2.2.2.1, (gRanges_spec H14 hs.fio h.fio _ _ _ 2 a14.host.fio hm.ufio (by omega) (by decide) (by decide) (by omega) (by omega)).mono ?_⟩
 rintro v H15 ⟨o4, L4, rfl, ow4, u4, w4, e15⟩
 have a15 := a14.ext' e15
 refine ⟨o4, rfl, a15.gh.blk.ok (by simp), letH_mk fun H16 h16 => ?_⟩
 have a16 := ghost_rng (g' := ⟨bu, L1, L2, L3, L4, [], [], []⟩) (gs' := ⟨o1, o2, o3, o4, ⟨none, 0, 0⟩, ⟨none, 0, 0⟩, ⟨none, 0, 0⟩⟩) a15 h16 rfl a15.gh.io a15.gh.mem a15.gh.high (RT.own ow4 u4) a15.gh.fix ⟨rfl, rfl⟩ ⟨rfl, rfl⟩ ⟨a15.gv.bu, a15.gv.io, a15.gv.mem, a15.gv.high, w4, a15.gv.fix, a15.gv.lk, a15.gv.rt⟩
 clear h16
 refine ⟨_, (Blk.host a16.par).2.2.2.2.2.1, (gRanges_spec H16 hs.fix h.fix _ _ _ 2 a16.host.fix hm.ufix (by omega) (by decide) (by decide) (by omega) (by omega)).mono ?_⟩
 rintro v H17 ⟨o5, L5, rfl, ow5, u5, w5, e17⟩
 have a17 := a16.ext' e17
 refine ⟨o5, rfl, a17.gh.blk.ok (by simp), letH_mk fun H18 h18 => ?_⟩
 have a18 := ghost_rng (g' := ⟨bu, L1, L2, L3, L4, L5, [], []⟩) (gs' := ⟨o1, o2, o3, o4, o5, ⟨none, 0, 0⟩, ⟨none, 0, 0⟩⟩) a17 h18 rfl a17.gh.io a17.gh.mem a17.gh.high a17.gh.fio (RT.own ow5 u5) ⟨rfl, rfl⟩ ⟨rfl, rfl⟩ ⟨a17.gv.bu, a17.gv.io, a17.gv.mem, a17.gv.high, a17.gv.fio, (within_mono w5 (by omega) (by omega)), a17.gv.lk, a17.gv.rt⟩
 clear h18
 refine ⟨fun H' => ∃ g gs, GA H H1 H3 H' h hs g gs /\ g.links = [] /\ g.routes = [], ⟨_, a18.par.rd0 rfl, (Mod_spec _ _ H18 (by omega) (by omega)).mono ?_⟩, fun H26 ⟨g, gs, a, al, ar⟩ => ghost_links a al ar⟩
 rintro v H19 ⟨rfl, rfl⟩
 refine ⟨_, rfl, iteB_dec (fun d => ?_) (fun d => ⟨_, _, a18, rfl, rfl⟩)⟩
 have zero : ∀ {H' : Heap} {s : Sl}, TyB H' s.p t_95 -> Rgs H' ⟨slP s.p s.c 0 2, (0 : Int).toNat - 0, s.c - 0⟩ [] /\ TyB H' (slP s.p s.c 0 2) t_95 /\ U64L [] := fun {H' s} ht => ⟨⟨rfl, .inl rfl⟩, by rw [slP0]; exact ht, fun r hr => by cases hr⟩
 have one : ∀ {H' : Heap} {b : Nat} {x y : Int}, Blk H' b t_95 (encR (x, y)) -> (0 <= x /\ x <= 18446744073709551615) /\ (0 <= y /\ y <= 18446744073709551615) -> Rgs H' ⟨some ⟨b, 0, none⟩, 1, 1⟩ [(x, y)] /\ TyB H' (some ⟨b, 0, none⟩) t_95 /\ U64L [(x, y)] := fun {H' b x y} hb hxy => ⟨IsS.of_blk encR_len hb rfl (fun i v h => h), (fun a ha => by cases ha; exact ⟨_, _, hb⟩), fun r hr => by simp at hr; rw [hr]; exact hxy⟩
 refine ⟨o4, (Blk.host a18.gh.blk).2.2.2.2.1, by omega, by omega, push_mk (vs := encR (4096, 61440)) fun H20 e20 z20 b20 => ⟨e20.keeps, ?_⟩⟩
 have a20 := a18.ext' e20
 refine ⟨a20.gh.blk.ok (by simp), letH_mk fun H21 h21 => ?_⟩
 have a21 := ghost_rng (out := ⟨some ⟨H19.size, 0, none⟩, 1, 1⟩) (g' := ⟨bu, [(4096, 61440)], L2, L3, L4, L5, [], []⟩) (gs' := ⟨⟨some ⟨H19.size, 0, none⟩, 1, 1⟩, o2, o3, o4, o5, ⟨none, 0, 0⟩, ⟨none, 0, 0⟩⟩) a20 h21 rfl (one b20 (by omega)) a20.gh.mem a20.gh.high a20.gh.fio a20.gh.fix ⟨rfl, rfl⟩ ⟨rfl, rfl⟩ ⟨a20.gv.bu, (show WithinR [(4096, 61440)] 0 65536 by decide), a20.gv.mem, a20.gv.high, a20.gv.fio, a20.gv.fix, a20.gv.lk, a20.gv.rt⟩
 clear h21
 refine ⟨a21.gh.blk.ok (by simp), letH_mk fun H22 h22 => ?_⟩
 have a22 := ghost_rng (out := ⟨slP o4.p o4.c 0 2, (0 : Int).toNat - 0, o4.c - 0⟩) (g' := ⟨bu, [(4096, 61440)], L2, L3, [], L5, [], []⟩) (gs' := ⟨⟨some ⟨H19.size, 0, none⟩, 1, 1⟩, o2, o3, ⟨slP o4.p o4.c 0 2, (0 : Int).toNat - 0, o4.c - 0⟩, o5, ⟨none, 0, 0⟩, ⟨none, 0, 0⟩⟩) a21 h22 rfl a21.gh.io a21.gh.mem a21.gh.high (zero a21.gh.fio.2.1) a21.gh.fix ⟨rfl, rfl⟩ ⟨rfl, rfl⟩ ⟨a21.gv.bu, a21.gv.io, a21.gv.mem, a21.gv.high, (within_nil _ _), a21.gv.fix, a21.gv.lk, a21.gv.rt⟩
 clear h22
 refine ⟨o5, (Blk.host a22.gh.blk).2.2.2.2.2.1, by omega, by omega, push_mk (vs := encR (268435456, 4026531840)) fun H23 e23 z23 b23 => ⟨e23.keeps, ?_⟩⟩
 have a23 := a22.ext' e23
 refine ⟨a23.gh.blk.ok (by simp), letH_mk fun H24 h24 => ?_⟩
 have a24 := ghost_rng (out := ⟨some ⟨H22.size, 0, none⟩, 1, 1⟩) (g' := ⟨bu, [(4096, 61440)], [(268435456, 4026531840)], L3, [], L5, [], []⟩) (gs' := ⟨⟨some ⟨H19.size, 0, none⟩, 1, 1⟩, ⟨some ⟨H22.size, 0, none⟩, 1, 1⟩, o3, ⟨slP o4.p o4.c 0 2, (0 : Int).toNat - 0, o4.c - 0⟩, o5, ⟨none, 0, 0⟩, ⟨none, 0, 0⟩⟩) a23 h24 rfl a23.gh.io (one b23 (by omega)) a23.gh.high a23.gh.fio a23.gh.fix ⟨rfl, rfl⟩ ⟨rfl, rfl⟩ ⟨a23.gv.bu, a23.gv.io, (show WithinR [(268435456, 4026531840)] 0 4294967296 by decide), a23.gv.high, a23.gv.fio, a23.gv.fix, a23.gv.lk, a23.gv.rt⟩
 clear h24
 refine ⟨a24.gh.blk.ok (by simp), letH_mk fun H25 h25 => ?_⟩
 exact ⟨_, _, ghost_rng (out := ⟨slP o5.p o5.c 0 2, (0 : Int).toNat - 0, o5.c - 0⟩) (g' := ⟨bu, [(4096, 61440)], [(268435456, 4026531840)], L3, [], [], [], []⟩) (gs' := ⟨⟨some ⟨H19.size, 0, none⟩, 1, 1⟩, ⟨some ⟨H22.size, 0, none⟩, 1, 1⟩, o3, ⟨slP o4.p o4.c 0 2, (0 : Int).toNat - 0, o4.c - 0⟩, ⟨slP o5.p o5.c 0 2, (0 : Int).toNat - 0, o5.c - 0⟩, ⟨none, 0, 0⟩, ⟨none, 0, 0⟩⟩) a24 h25 rfl a24.gh.io a24.gh.mem a24.gh.high a24.gh.fio (zero a24.gh.fix.2.1) ⟨rfl, rfl⟩ ⟨rfl, rfl⟩ ⟨a24.gv.bu, a24.gv.io, a24.gv.mem, a24.gv.high, a24.gv.fio, (within_nil _ _), a24.gv.lk, a24.gv.rt⟩, rfl, rfl⟩

end Go.Proofs.YtnhhncjflnlfaaaGreat
end
