/-
  The contract of the generator's Host.
-/
import Derived.Test.YtigcheamheiopaaM5
namespace Go.Proofs.Ytigcheamheiopaa
open Go.Eng
set_option linter.unusedVariables false

theorem rkLink : RK Try.prog t_sl_api_IntLink t_api_IntLink (.agg #[.int .u32 0]) 1 4 (encI .u32) := ⟨by kernel_rfl, by kernel_rfl, rfl, by omega, by omega, ints_row _, ints_one _⟩
theorem rkRoute : RK Try.prog t_sl_api_Route t_api_Route (.agg #[.int .i64 0, .int .i64 0, .int .i64 0]) 3 24 encRt := ⟨by kernel_rfl, by kernel_rfl, rfl, by omega, by omega, encRt_len, encRt_one⟩

theorem u64L_wrap {l : List Rg} (h : U64L l) (x y : Int) : U64L (l ++ [(IntKind.u64.wrap x, IntKind.u64.wrap y)]) := fun r hr => by
  simp only [List.mem_append, List.mem_singleton] at hr
  rcases hr with hr | rfl
  · exact h r hr
  · have a := u64_nonneg x; have b := u64_lt x; have c := u64_nonneg y; have d := u64_lt y
    dsimp only; omega

theorem gRanges_spec (H : Heap) (s : Sl) (l : List Rg) (fr to un : Int) (most : Nat) (h : Rgs H s l) (hu : U64L l) (hun : 0 < un) (hn1 : 0 < (IntKind.u64.wrap (to - fr)).tdiv un) (hn2 : (IntKind.u64.wrap (to - fr)).tdiv un ≤ 4503599627370496) (hm : most ≤ 10) (hft : 0 ≤ fr ∧ fr ≤ to ∧ to ≤ 4503599627370496) :
    CallsH Try.prog n_gen_ranges #[.slice s.p s.n s.c, .int .u64 fr, .int .u64 to, .int .u64 un, .int .i64 most] H (fun v H' => ∃ (out : Sl) (L : List Rg), v = .slice out.p out.n out.c ∧ Own H.size t_api_Range 2 H' out (L.flatMap encR) ∧ U64L L ∧ WithinR L fr to ∧ Ext H H') := by
  refine F_gen_ranges_ok _ _ _ _ _ ?_
  unfold F_gen_ranges
  have hsn := h.len
  have hnu : (IntKind.u64.wrap (to - fr)).tdiv un * un ≤ to - fr := by
    rw [u64_in (n := to - fr) (by omega), Int.tdiv_eq_ediv_of_nonneg (by omega)]
    exact Int.ediv_mul_le _ (by omega)
  generalize (IntKind.u64.wrap (to - fr)).tdiv un = n at *
  refine ⟨by omega, letV_mk n (u64_in (by omega)) ?_⟩
  refine loop2 10 (fun k out H' => ∃ L : List Rg, Own H.size t_api_Range 2 H' out (L.flatMap encR) ∧ U64L L ∧ L.length ≤ k ∧ (∀ r ∈ L, RgOk r ∧ fr ≤ r.1 ∧ r.1 + r.2 ≤ to) ∧ Ext H H') ⟨[], Own.nil _ _ _ _, (fun r hr => by cases hr), by simp, (fun r hr => by cases hr), .refl _⟩ ?_
  rintro k out H1 hk ⟨L, o1, u1, l1, w1, e1⟩
  unfold F_gen_ranges_r1
  have wi : WithinR L fr to := ⟨by omega, ⟨by omega, fun r hr => (w1 r hr).1⟩, fun r hr => (w1 r hr).2⟩
  refine iteB_dec (fun c => iteB_dec (fun c1 => ?_) (fun c1 => ⟨out, L, rfl, o1, u1, wi, e1⟩)) (fun c => ⟨out, L, rfl, o1, u1, wi, e1⟩)
  have hkn : k < l.length := by omega
  obtain ⟨a, hp, r0, r1⟩ := Rgs.atN (h.ext e1) hkn
  have hr := hu _ (getD_mem' (0, 0) hkn)
  generalize l.getD k (0, 0) = r at *
  have h1 : 0 ≤ r.1.tmod n ∧ r.1.tmod n < n := by
    rw [Int.tmod_eq_emod_of_nonneg hr.1.1]
    exact ⟨Int.emod_nonneg _ (by omega), Int.emod_lt_of_pos _ (by omega)⟩
  have n1 := Own.len rkRange o1
  refine ⟨by omega, by omega, unSome_mk hp ⟨_, r0, by omega, by omega, by omega, unSome_mk hp ⟨_, r1, by rw [u64_in (by omega)]; omega, ?_⟩⟩⟩
  refine apR rkRange (_, _) (lo := H.size) o1 (by omega) e1.size ?_
  intro s' H3 ho hn3 m3
  refine letV_mk _ rfl (next2 (by omega) (by omega) ⟨_, ho, u64L_wrap u1 _ _, by simp; omega, fun x hx => ?_, Mods.ext e1 m3 (blkOf_new o1.new)⟩)
  rcases List.mem_append.1 hx with hx | hx
  · exact w1 x hx
  simp only [List.mem_singleton] at hx
  subst hx
  have h2 : 0 ≤ r.2.tmod (n - r.1.tmod n) ∧ r.2.tmod (n - r.1.tmod n) < n - r.1.tmod n := by
    rw [Int.tmod_eq_emod_of_nonneg hr.2.1]
    exact ⟨Int.emod_nonneg _ (by omega), Int.emod_lt_of_pos _ (by omega)⟩
  rw [u64_in (n := n - r.1.tmod n) (by omega)]
  generalize r.1.tmod n = at1 at *
  generalize r.2.tmod (n - at1) = le1 at *
  have m1 : (at1 + (1 + le1)) * un ≤ n * un := Int.mul_le_mul_of_nonneg_right (by omega) (by omega)
  rw [Int.add_mul] at m1
  have p1 : 0 ≤ at1 * un := Int.mul_nonneg h1.1 (by omega)
  have p2 : 1 * un ≤ (1 + le1) * un := Int.mul_le_mul_of_nonneg_right (by omega) (by omega)
  have b64 : (2 : Int) ^ IntKind.u64.bits = 18446744073709551616 := rfl
  rw [u64_in (n := 1 + le1) (by omega), u64_in (n := at1 * un) (by omega), b64, Int.emod_eq_of_lt (a := fr + at1 * un) (by omega) (by omega), Int.emod_eq_of_lt (a := (1 + le1) * un) (by omega) (by omega)]
  unfold RgOk
  dsimp only
  omega

/-- A host that is being made, in block 'b'. -/
structure GH (H0 H : Heap) (b : Nat) (g : Host) (gs : HostS) : Prop where
  blk : Blk H b t_api_Host (hostL g gs)
  io : Rgs H gs.io g.io ∧ TyB H gs.io.p t_api_Range ∧ U64L g.io
  mem : Rgs H gs.mem g.mem ∧ TyB H gs.mem.p t_api_Range ∧ U64L g.mem
  high : Rgs H gs.high g.high ∧ TyB H gs.high.p t_api_Range ∧ U64L g.high
  fio : Rgs H gs.fio g.fio ∧ TyB H gs.fio.p t_api_Range ∧ U64L g.fio
  fix : Rgs H gs.fix g.fix ∧ TyB H gs.fix.p t_api_Range ∧ U64L g.fix
  links : Own H0.size t_api_IntLink 1 H gs.links (g.links.flatMap (encI .u32))
  routes : Own H0.size t_api_Route 3 H gs.routes (g.routes.flatMap encRt)
  ext : Ext H0 H
  lo : H0.size ≤ b

theorem RT.mods {H H' : Heap} {S : List Nat} {s : Sl} {l : List Rg} (h : Rgs H s l ∧ TyB H s.p t_api_Range ∧ U64L l) (m : Mods S H H') (hn : ∀ a, s.p = some a → a.block ∉ S) : Rgs H' s l ∧ TyB H' s.p t_api_Range ∧ U64L l := ⟨h.1.mods m hn, h.2.1.mods m hn, h.2.2⟩

/-- Writes to blocks of other types. -/
theorem GH.mods {H0 H H' : Heap} {b : Nat} {g : Host} {gs : HostS} {S : List Nat} (h : GH H0 H b g gs) (m : Mods S H H') (hb : b ∉ S) (hr : ∀ q, TyB H q t_api_Range → ∀ a, q = some a → a.block ∉ S) (hl : ∀ q, TyB H q t_api_IntLink → ∀ a, q = some a → a.block ∉ S) (ht : ∀ q, TyB H q t_api_Route → ∀ a, q = some a → a.block ∉ S) (hS : ∀ x ∈ S, H0.size ≤ x) : GH H0 H' b g gs :=
  ⟨h.blk.mods m hb, RT.mods h.io m (hr _ h.io.2.1), RT.mods h.mem m (hr _ h.mem.2.1), RT.mods h.high m (hr _ h.high.2.1), RT.mods h.fio m (hr _ h.fio.2.1), RT.mods h.fix m (hr _ h.fix.2.1), h.links.mods m (hl _ (own_ty h.links)), h.routes.mods m (ht _ (own_ty h.routes)), Mods.ext h.ext m hS, h.lo⟩
theorem GH.ext' {H0 H H' : Heap} {b : Nat} {g : Host} {gs : HostS} (h : GH H0 H b g gs) (e : Ext H H') : GH H0 H' b g gs :=
  h.mods (S := []) e.mods (by simp) (fun _ _ _ _ => by simp) (fun _ _ _ _ => by simp) (fun _ _ _ _ => by simp) (by simp)

theorem GH.off {H0 H : Heap} {b : Nat} {g : Host} {gs : HostS} (h : GH H0 H b g gs) {e : TypeId} (he : e ≠ t_api_Host) {q : Option Addr} (hq : TyB H q e) : ∀ a, q = some a → a.block ∉ [b] := fun a ha => by
  have t1 : TyB H (some ⟨b, 0, none⟩) t_api_Host := fun a ha => by cases ha; exact ⟨_, _, h.blk⟩
  have := ty_ne hq t1 he a ha
  simpa [blkOf] using this

/-- A field of the host is written. -/
theorem GH.set {H0 H H' : Heap} {b j : Nat} {g g' : Host} {gs gs' : HostS} {v : Value} (hb : Blk H b t_api_Host (hostL g gs)) (hx : Ext H0 H) (hlo : H0.size ≤ b) (hw : H' = wrs H ((⟨b, 0, none⟩ : Addr).add j) [v]) (hset : (hostL g gs).set j v = hostL g' gs')
    (hio : Rgs H gs'.io g'.io ∧ TyB H gs'.io.p t_api_Range ∧ U64L g'.io) (hmem : Rgs H gs'.mem g'.mem ∧ TyB H gs'.mem.p t_api_Range ∧ U64L g'.mem) (hhigh : Rgs H gs'.high g'.high ∧ TyB H gs'.high.p t_api_Range ∧ U64L g'.high)
    (hfio : Rgs H gs'.fio g'.fio ∧ TyB H gs'.fio.p t_api_Range ∧ U64L g'.fio) (hfix : Rgs H gs'.fix g'.fix ∧ TyB H gs'.fix.p t_api_Range ∧ U64L g'.fix)
    (hl : Own H0.size t_api_IntLink 1 H gs'.links (g'.links.flatMap (encI .u32))) (hr : Own H0.size t_api_Route 3 H gs'.routes (g'.routes.flatMap encRt)) : GH H0 H' b g' gs' := by
  subst hw
  have b' := hb.wr1 (i := j) (w := v)
  rw [hset] at b'
  have m : Mods [b] H (wrs H ((⟨b, 0, none⟩ : Addr).add j) [v]) := mods_wr_add (by simp)
  have t1 : TyB H (some ⟨b, 0, none⟩) t_api_Host := fun a ha => by cases ha; exact ⟨_, _, hb⟩
  have o : ∀ {e : TypeId}, e ≠ t_api_Host → ∀ {q : Option Addr}, TyB H q e → ∀ a, q = some a → a.block ∉ [b] := fun he _ hq a ha => by
    have := ty_ne hq t1 he a ha
    simpa [blkOf] using this
  exact ⟨b', RT.mods hio m (o (by decide) hio.2.1), RT.mods hmem m (o (by decide) hmem.2.1), RT.mods hhigh m (o (by decide) hhigh.2.1), RT.mods hfio m (o (by decide) hfio.2.1), RT.mods hfix m (o (by decide) hfix.2.1), hl.mods m (o (by decide) (own_ty hl)), hr.mods m (o (by decide) (own_ty hr)), Mods.ext hx m (by simpa using hlo), hlo⟩

/-- A route, a link is appended. -/
theorem GH.appR {H0 H H' : Heap} {b : Nat} {g : Host} {gs : HostS} {s' : Sl} {L : List Rt} (h : GH H0 H b g gs) (ho : Own H0.size t_api_Route 3 H' s' (L.flatMap encRt)) (m : Mods (blkOf gs.routes.p) H H') :
    okRow H' ((⟨b, 0, none⟩ : Addr).add 7) 1 ∧ ∀ H'', H'' = wrs H' ((⟨b, 0, none⟩ : Addr).add 7) [.slice s'.p s'.n s'.c] → GH H0 H'' b { g with routes := L } { gs with routes := s' } := by
  have tr := own_ty h.routes
  have t1 : TyB H (some ⟨b, 0, none⟩) t_api_Host := fun a ha => by cases ha; exact ⟨_, _, h.blk⟩
  have hb : Blk H' b t_api_Host (hostL g gs) := h.blk.mods m (ty_ne t1 tr (by decide) _ rfl)
  refine ⟨hb.ok (by simp), fun H'' hw => ?_⟩
  exact GH.set (g' := { g with routes := L }) (gs' := { gs with routes := s' }) hb (Mods.ext h.ext m (blkOf_new h.routes.new)) h.lo hw rfl (RT.mods h.io m (fun a ha => ty_ne h.io.2.1 tr (by decide) a ha)) (RT.mods h.mem m (fun a ha => ty_ne h.mem.2.1 tr (by decide) a ha)) (RT.mods h.high m (fun a ha => ty_ne h.high.2.1 tr (by decide) a ha)) (RT.mods h.fio m (fun a ha => ty_ne h.fio.2.1 tr (by decide) a ha)) (RT.mods h.fix m (fun a ha => ty_ne h.fix.2.1 tr (by decide) a ha)) (h.links.mods m (fun a ha => ty_ne (own_ty h.links) tr (by decide) a ha)) ho
theorem GH.appL {H0 H H' : Heap} {b : Nat} {g : Host} {gs : HostS} {s' : Sl} {L : List Int} (h : GH H0 H b g gs) (ho : Own H0.size t_api_IntLink 1 H' s' (L.flatMap (encI .u32))) (m : Mods (blkOf gs.links.p) H H') :
    okRow H' ((⟨b, 0, none⟩ : Addr).add 6) 1 ∧ ∀ H'', H'' = wrs H' ((⟨b, 0, none⟩ : Addr).add 6) [.slice s'.p s'.n s'.c] → GH H0 H'' b { g with links := L } { gs with links := s' } := by
  have tr := own_ty h.links
  have t1 : TyB H (some ⟨b, 0, none⟩) t_api_Host := fun a ha => by cases ha; exact ⟨_, _, h.blk⟩
  have hb : Blk H' b t_api_Host (hostL g gs) := h.blk.mods m (ty_ne t1 tr (by decide) _ rfl)
  refine ⟨hb.ok (by simp), fun H'' hw => ?_⟩
  exact GH.set (g' := { g with links := L }) (gs' := { gs with links := s' }) hb (Mods.ext h.ext m (blkOf_new h.links.new)) h.lo hw rfl (RT.mods h.io m (fun a ha => ty_ne h.io.2.1 tr (by decide) a ha)) (RT.mods h.mem m (fun a ha => ty_ne h.mem.2.1 tr (by decide) a ha)) (RT.mods h.high m (fun a ha => ty_ne h.high.2.1 tr (by decide) a ha)) (RT.mods h.fio m (fun a ha => ty_ne h.fio.2.1 tr (by decide) a ha)) (RT.mods h.fix m (fun a ha => ty_ne h.fix.2.1 tr (by decide) a ha)) ho (h.routes.mods m (fun a ha => ty_ne (own_ty h.routes) tr (by decide) a ha))

theorem RT.own {lo : Nat} {H : Heap} {s : Sl} {L : List Rg} (o : Own lo t_api_Range 2 H s (L.flatMap encR)) (u : U64L L) : Rgs H s L ∧ TyB H s.p t_api_Range ∧ U64L L := ⟨Own.is rkRange o, own_ty o, u⟩
theorem RT.ext {H H' : Heap} {s : Sl} {l : List Rg} (h : Rgs H s l ∧ TyB H s.p t_api_Range ∧ U64L l) (e : Ext H H') : Rgs H' s l ∧ TyB H' s.p t_api_Range ∧ U64L l := RT.mods (S := []) h e.mods (fun _ _ => by simp)
theorem RT.nil {H : Heap} : Rgs H (⟨none, 0, 0⟩ : Sl) [] ∧ TyB H (none : Option Addr) t_api_Range ∧ U64L [] := ⟨IsS.nil _ _ _, (fun a ha => by cases ha), fun r hr => by cases hr⟩

/-- In what blocks a host's lists lie. -/
structure HostTy (H : Heap) (gs : HostS) : Prop where
  io : TyB H gs.io.p t_api_Range
  mem : TyB H gs.mem.p t_api_Range
  high : TyB H gs.high.p t_api_Range
  fio : TyB H gs.fio.p t_api_Range
  fix : TyB H gs.fix.p t_api_Range
  links : TyB H gs.links.p t_api_IntLink
  routes : TyB H gs.routes.p t_api_Route
theorem HostM.modsT {H H' : Heap} {g : Host} {gs : HostS} {b : Nat} {vs : List Value} (m : HostM H g gs) (t : HostTy H gs) (hb : Blk H b t_api_Host vs) (md : Mods [b] H H') : HostM H' g gs := by
  have t1 : TyB H (some ⟨b, 0, none⟩) t_api_Host := fun a ha => by cases ha; exact ⟨_, _, hb⟩
  have o : ∀ {e : TypeId}, e ≠ t_api_Host → ∀ {q : Option Addr}, TyB H q e → ∀ a, q = some a → a.block ∉ [b] := fun he _ hq a ha => by
    have := ty_ne hq t1 he a ha
    simpa [blkOf] using this
  exact ⟨m.io.mods md (o (by decide) t.io), m.mem.mods md (o (by decide) t.mem), m.high.mods md (o (by decide) t.high), m.fio.mods md (o (by decide) t.fio), m.fix.mods md (o (by decide) t.fix), m.links.mods md (o (by decide) t.links), m.routes.mods md (o (by decide) t.routes), m.uio, m.umem, m.uhigh, m.ufio, m.ufix⟩

/-- What the generator's host is. -/
structure GV (h g : Host) : Prop where
  bu : 1 ≤ g.buses ∧ g.buses ≤ 256
  io : WithinR g.io 0 65536
  mem : WithinR g.mem 0 4294967296
  high : WithinR g.high 4294967296 4503599627370496
  fio : WithinR g.fio 0 65536
  fix : WithinR g.fix 0 4503599627370496
  lk : (∀ x ∈ h.links, 0 ≤ x ∧ x ≤ 4294967295) → ∀ x ∈ g.links, 0 ≤ x ∧ x ≤ 4294967295
  rt : ∀ x ∈ g.routes, RtOk g.links.length x
theorem within_nil (a b : Int) : WithinR [] a b := ⟨by simp, ⟨by simp, fun r hr => by cases hr⟩, fun r hr => by cases hr⟩
theorem within_mono {l : List Rg} {a b c d : Int} (h : WithinR l a b) (h1 : c ≤ a) (h2 : b ≤ d) : WithinR l c d := ⟨h.1, h.2.1, fun r hr => by have := h.2.2 r hr; omega⟩
theorem GV.valid {h g : Host} (v : GV h g) (hl : g.links.length ≤ 5) (hr : g.routes.length ≤ 72) : ValidH g := ⟨v.bu, by omega, by omega, v.io, v.fio, v.mem, v.fix, v.high, v.rt⟩

/-- A host in memory, made by the generator; a valid one. -/
def GHostV (h : Host) (H : Heap) (v : Value) (H' : Heap) : Prop := ∃ g gs, v = hostV g gs ∧ HostM H' g gs ∧ HostTy H' gs ∧ g.links.length ≤ 5 ∧ g.routes.length ≤ 72 ∧ GV h g ∧ Ext H H'
/-- A host in memory, made by the generator. -/
def GHostP (H : Heap) (v : Value) (H' : Heap) : Prop := ∃ g gs, v = hostV g gs ∧ HostM H' g gs ∧ HostTy H' gs ∧ g.links.length ≤ 5 ∧ g.routes.length ≤ 72 ∧ Ext H H'

/-- The end: the host is handed back. -/
theorem ghost_ret {H0 H1 H3 H41 : Heap} {h0 g : Host} {gs : HostS} {z : List Value} (hz : z.length = 8) (h : GH H3 H41 H3.size g gs) (hr : Blk H41 H1.size t_api_Host z) (e : Ext H0 H41) (h01 : H0.size ≤ H1.size) (h13 : H1.size < H3.size) (hl : g.links.length ≤ 5) (hrt : g.routes.length ≤ 72) (hv : GV h0 g) :
    okRow H41 (⟨H1.size, 0, none⟩ : Addr) 8 ∧ (letH (wrs H41 (⟨H1.size, 0, none⟩ : Addr) (hostL g gs)) (fun H45 : Heap =>
      ∃ r : Int, rd H45 (⟨H1.size, 0, none⟩ : Addr) = some (.int .i64 r) ∧ ∃ r1 : Sl, rd H45 ((⟨H1.size, 0, none⟩ : Addr).add 1) = some (.slice r1.p r1.n r1.c) ∧ ∃ r2 : Sl, rd H45 ((⟨H1.size, 0, none⟩ : Addr).add 2) = some (.slice r2.p r2.n r2.c) ∧ ∃ r3 : Sl, rd H45 ((⟨H1.size, 0, none⟩ : Addr).add 3) = some (.slice r3.p r3.n r3.c) ∧ ∃ r4 : Sl, rd H45 ((⟨H1.size, 0, none⟩ : Addr).add 4) = some (.slice r4.p r4.n r4.c) ∧ ∃ r5 : Sl, rd H45 ((⟨H1.size, 0, none⟩ : Addr).add 5) = some (.slice r5.p r5.n r5.c) ∧ ∃ r6 : Sl, rd H45 ((⟨H1.size, 0, none⟩ : Addr).add 6) = some (.slice r6.p r6.n r6.c) ∧ ∃ r7 : Sl, rd H45 ((⟨H1.size, 0, none⟩ : Addr).add 7) = some (.slice r7.p r7.n r7.c) ∧
      GHostV h0 H0 (.agg #[.int .i64 r, .slice r1.p r1.n r1.c, .slice r2.p r2.n r2.c, .slice r3.p r3.n r3.c, .slice r4.p r4.n r4.c, .slice r5.p r5.n r5.c, .slice r6.p r6.n r6.c, .slice r7.p r7.n r7.c]) H45)) := by
  refine ⟨hr.ok0 (by omega), letH_mk ?_⟩
  intro H45 h45
  have m : Mods [H1.size] H41 H45 := by rw [h45]; exact Mods.wrs (by simp)
  have b45 : Blk H45 H1.size t_api_Host (hostL g gs) := by
    rw [h45]
    have := hr.wr (o := 0) (ws := hostL g gs)
    have e8 : spl z 0 (hostL g gs) = hostL g gs := by
      match z, hz with
      | [z0, z1, z2, z3, z4, z5, z6, z7], _ => rfl
    rw [e8] at this
    exact this
  clear h45
  have t1 : TyB H41 (some ⟨H1.size, 0, none⟩) t_api_Host := fun a ha => by cases ha; exact ⟨_, _, hr⟩
  have o : ∀ {e : TypeId}, e ≠ t_api_Host → ∀ {q : Option Addr}, TyB H41 q e → ∀ a, q = some a → a.block ∉ [H1.size] := fun he _ hq a ha => by
    have := ty_ne hq t1 he a ha
    simpa [blkOf] using this
  obtain ⟨p0, p1, p2, p3, p4, p5, p6, p7⟩ := Blk.host b45
  refine ⟨_, p0, _, p1, _, p2, _, p3, _, p4, _, p5, _, p6, _, p7, g, gs, rfl, ?_, ?_, hl, hrt, hv, Mods.ext e m (by simpa using h01)⟩
  rotate_left
  · exact ⟨h.io.2.1.mods m (o (by decide) h.io.2.1), h.mem.2.1.mods m (o (by decide) h.mem.2.1), h.high.2.1.mods m (o (by decide) h.high.2.1), h.fio.2.1.mods m (o (by decide) h.fio.2.1), h.fix.2.1.mods m (o (by decide) h.fix.2.1), (own_ty h.links).mods m (o (by decide) (own_ty h.links)), (own_ty h.routes).mods m (o (by decide) (own_ty h.routes))⟩
  exact ⟨h.io.1.mods m (o (by decide) h.io.2.1), h.mem.1.mods m (o (by decide) h.mem.2.1), h.high.1.mods m (o (by decide) h.high.2.1), h.fio.1.mods m (o (by decide) h.fio.2.1), h.fix.1.mods m (o (by decide) h.fix.2.1), Own.is rkLink (h.links.mods m (o (by decide) (own_ty h.links))), Own.is rkRoute (h.routes.mods m (o (by decide) (own_ty h.routes))), h.io.2.2, h.mem.2.2, h.high.2.2, h.fio.2.2, h.fix.2.2⟩

end Go.Proofs.Ytigcheamheiopaa
