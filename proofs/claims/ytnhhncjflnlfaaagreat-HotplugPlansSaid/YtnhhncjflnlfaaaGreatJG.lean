import Derived.Test.YtnhhncjflnlfaaaGreatG4

section
/-
 The contract of the generator's Topology.
-/
namespace Go.Proofs.YtnhhncjflnlfaaaGreat
open Go.Eng

structure GTopo (most : Nat) (H : Heap) (v : Value) (H' : Heap) : Prop where
 ex : ∃ (out : Sl) (T : List FS), v = .slice out.p out.n out.c /\ Topo H' out T /\ ValidT T /\ T.length <= most /\ Ext H H'

structure GTopoT (most : Nat) (H : Heap) (v : Value) (H' : Heap) : Prop where
 ex : ∃ (out : Sl) (T : List FS), v = .slice out.p out.n out.c /\ Topo H' out T /\ ValidT T /\ T.length <= most /\ Ext H H' /\ TyB H' out.p t_58 /\ GT H' T
theorem GTopoT.to {most : Nat} {H : Heap} {v : Value} {H' : Heap} (h : GTopoT most H v H') : GTopo most H v H' := by
 obtain ⟨out, T, h1, h2, h3, h4, h5, _⟩ := h
 exact ⟨out, T, h1, h2, h3, h4, h5⟩

structure GTopoO (most : Nat) (H : Heap) (v : Value) (H' : Heap) : Prop where
 ex : ∃ (out : Sl) (T : List FS), v = .slice out.p out.n out.c /\ Topo H' out T /\ ValidT T /\ T.length <= most /\ Ext H H' /\ TyB H' out.p t_58 /\ GT H' T /\ Own H.size t_58 11 H' out (T.flatMap encF)
theorem GTopoO.to {most : Nat} {H : Heap} {v : Value} {H' : Heap} (h : GTopoO most H v H') : GTopoT most H v H' := by
 obtain ⟨out, T, h1, h2, h3, h4, h5, h6, h7, _⟩ := h
 exact ⟨out, T, h1, h2, h3, h4, h5, h6, h7⟩

theorem GS.done {H0 H : Heap} {most : Nat} {out bridges : Sl} {T : List FS} {Bs : List Int} (h : GS H0 most H out bridges T Bs) (hm : most <= 64) : GTopoO most H0 (.slice out.p out.n out.c) H :=
 ⟨out, T, rfl, ⟨h.own.isS encF_len (by omega), fun x hx => (h.gt x hx).1⟩, ⟨by have := h.most; omega, h.ok⟩, h.most, h.ext, own_ty h.own, h.gt, h.own⟩

abbrev GI (H0 : Heap) (most : Nat) (_k : Nat) (out bridges : Sl) (H : Heap) : Prop := ∃ T Bs, GS H0 most H out bridges T Bs

structure GR (H0 : Heap) (most : Nat) (H3 H : Heap) (gb : Nat) (f : Fn) (fs : Sl) (G : Fn) (out bridges : Sl) (T : List FS) (Bs : List Int) : Prop where
 ext : Ext H0 H
 own : Own H0.size t_58 11 H out (T.flatMap encF)
 n : out.n = T.length
 gt : GT H T
 ok : ∀ i, i < T.length -> OkAt T i
 most : T.length < most
 set : PSet H H0.size (tab T.length (fun i => ((fnAt T i).parent, (fnAt T i).slot)) ++ [(G.parent, G.slot)])
 un : (G.parent, G.slot) ∉ tab T.length (fun i => ((fnAt T i).parent, (fnAt T i).slot))
 fb : Blk H H3.size t_58 (fnL f fs)
 g : Blk H gb t_58 (fnL G ⟨none, 0, 0⟩)
 gn : H3.size < gb
 lo : H0.size < H3.size
 old : ∀ a, out.p = some a -> a.block < H3.size
 gok : GOk T G

theorem GR.mods {H0 H3 H H' : Heap} {most gb : Nat} {f : Fn} {fs : Sl} {G G' : Fn} {out bridges : Sl} {T : List FS} {Bs : List Int} (h : GR H0 most H3 H gb f fs G out bridges T Bs) (m : Mods [gb] H H') (hg : Blk H' gb t_58 (fnL G' ⟨none, 0, 0⟩)) (hp : G'.parent = G.parent) (hs : G'.slot = G.slot) (hok : GOk T G') : GR H0 most H3 H' gb f fs G' out bridges T Bs := by
 have h1 := h.gn
 have h2 := h.lo
 refine ⟨Mods.ext h.ext m (by simp; omega), h.own.mods m (fun a ha => by have := h.old a ha; simp; omega), h.n, h.gt.mods m (fun p hp a ha => ?_), h.ok, h.most, ?_, ?_, h.fb.mods m (by simp; omega), hg, h.gn, h.lo, h.old, hok⟩
 ·have hgt : TyB H (some ⟨gb, 0, none⟩) t_58 := fun a ha => by cases ha; exact ⟨_, _, h.g⟩
  have := ty_ne hp hgt (by decide) a ha
  simpa [blkOf] using this
 ·rw [hp, hs]; exact h.set.mods m (by simp; omega)
 ·rw [hp, hs]; exact h.un

theorem topo_k3 (H0 : Heap) (most : Nat) (hm : most <= 64) (n k : Nat) (hkn : k < n) (hn : n <= 9223372036854775807) (H3 : Heap) (out bridges bridges2 : Sl) (most2 : Nat) (gb : Nat) (H31 : Heap) (f : Fn) (fs : Sl) (G : Fn) (T : List FS) (Bs Bs2 : List Int)
  (h : GR H0 most H3 H31 gb f fs G out bridges T Bs) (hfs : Bars H31 fs f.bars) (hfl : f.bars.length <= 9223372036854775807) (h2 : most2 = regs G.bridge) (sp : 0 <= G.spare /\ G.spare <= 3) (sh : 0 < G.spare -> G.bridge = true /\ G.hot = true) (nb : G.bridge = false -> G.pref = false /\ G.hot = false)
  (bown : Own H0.size t_3 1 H31 bridges2 (Bs2.flatMap (encI .i64))) (bn : bridges2.n = Bs2.length) (b0 : 0 < Bs2.length) (bl : Bs2.length <= T.length + 2) (bb : ∀ p ∈ Bs2, p = -1 \/ (0 <= p /\ p < T.length /\ (fnAt T p.toNat).bridge = true) \/ (p = T.length /\ G.bridge = true)) :
  F_20_k3 (CI3 n (GI H0 most)) (CM3 n) out bridges k H3 ⟨gb, 0, none⟩ bridges2 most2 H31 := by
 unfold F_20_k3
 have q10 := (Blk.fn h.fb).2.2.2.2.2.2.2.2.2.2
 have hr : regs G.bridge <= 6 := by unfold regs; split <;> omega
 refine ⟨fs, q10, (gBars_spec H31 fs f.bars most2 hfs (by omega) hfl).mono ?_⟩
 rintro v H32 ⟨bs, B, rfl, ob, nb', okb, lb, e32⟩
 have h32 := h.mods (H' := H32) (G' := G) e32.mods (h.g.ext e32) rfl rfl h.gok
 refine ⟨bs, rfl, h32.g.ok (i := 10) (n := 1) (by simp), letH_mk ?_⟩
 intro H33 hh
 have g33 : Blk H33 gb t_58 (fnL G bs) := by rw [hh]; exact h32.g.wr1 (i := 10) (w := .slice bs.p bs.n bs.c)
 have m33 : Mods [gb] H32 H33 := by rw [hh]; exact mods_wr_add (by simp)
 clear hh
 have hgl := h.g.lt
 have h1 := h.gn
 have hlo := h.lo
 have hz32 := e32.size
 have hz33 := m33.size
 have hgt : TyB H32 (some ⟨gb, 0, none⟩) t_58 := fun a ha => by cases ha; exact ⟨_, _, h32.g⟩
 have nbar : ∀ p, TyB H32 p t_101 -> ∀ a, p = some a -> a.block ∉ [gb] := fun p hp a ha => by
  have := ty_ne hp hgt (by decide) a ha
  simpa [blkOf] using this
 have gt33 := h32.gt.mods m33 nbar
 have bs33 : Bars H33 bs B /\ TyB H33 bs.p t_101 := ⟨(ob.isS encBar_len (by omega)).mods m33 (nbar _ (own_ty ob)), (own_ty ob).mods m33 (nbar _ (own_ty ob))⟩
 have own33 := h32.own.mods m33 (fun a ha => by have := h.old a ha; simp; omega)
 have set33 := h32.set.mods m33 (by simp; omega)
 have bo33 : Own H0.size t_3 1 H33 bridges2 (Bs2.flatMap (encI .i64)) := (bown.ext e32).mods m33 (fun a ha => by
  have := ty_ne (own_ty (bown.ext e32)) hgt (by decide) a ha
  simpa [blkOf] using this)
 have x33 : Ext H0 H33 := Mods.ext h32.ext m33 (by simp; omega)
 obtain ⟨p0, p1, p2, p3, p4, p5, p6, p7, p8, p9, p10⟩ := Blk.fn g33
 refine ⟨_, p0, _, p1, _, p2, _, p3, _, p4, _, p5, _, p6, _, p7, _, p8, _, p9, bs, p10, ?_⟩
 have hmost := h.most
 have hon := h.n
 refine append_row (enc := encF) (l := T) (z := .agg #[.int .i64 0, .int .i64 0, .int .i64 0, .int .i64 0, .bool false, .bool false, .bool false, .int .i64 0, .int .i64 0, .int .i64 0, .slice none 0 0]) (sz := 11) (bytes := 88) (lo := H0.size) ({ G with bars := B }, bs) (by kernel_rfl) (by kernel_rfl) rfl (by omega) encF_len encF_one own33 (by simp [maxLen]; omega) (by omega) x33.size ?_
 intro s' H35 ho35 hn35 m35
 have nout : ∀ p, TyB H33 p t_101 -> ∀ a, p = some a -> a.block ∉ blkOf out.p := fun p hp a ha => ty_ne hp (own_ty own33) (by decide) a ha
 have hnb := blkOf_new own33.new
 have hlast : fnAt (T ++ [({ G with bars := B }, bs)]) T.length = { G with bars := B } := fnAt_last
 have hGv : ValidF { G with bars := B } := GOk.valid (T := T) ⟨h.gok.pa, h.gok.sl, h.gok.ve, h.gok.de, h.gok.pi, h.gok.vc⟩ sp sh nb (by show B.length <= regs G.bridge; omega) okb
 refine letV_mk _ rfl (next3 hkn hn ⟨T ++ [({ G with bars := B }, bs)], Bs2, ⟨Mods.ext x33 m35 hnb, ho35, by simp; omega, ?_, ?_, by simp; omega, ?_, bo33.mods m35 (fun a ha => ty_ne (own_ty bo33) (own_ty own33) (by decide) a ha), bn, b0, by simp; omega, ?_⟩⟩)
 ·intro x hx
  simp only [List.mem_append, List.mem_singleton] at hx
  rcases hx with hx | rfl
  ·exact (gt33.mods m35 nout) x hx
  ·exact ⟨bs33.1.mods m35 (nout _ bs33.2), bs33.2.mods m35 (nout _ bs33.2)⟩
 ·intro i hi
  by_cases e : i < T.length
  ·exact (h.ok i e).append e
  ·obtain rfl : i = T.length := by simp at hi; omega
   have hpa := h.gok.pa
   refine ⟨by rw [hlast]; exact hGv, by rw [hlast]; show -1 <= G.parent /\ G.parent < _; omega, ?_, fun j hj hjj => h.un ?_⟩
   ·rw [hlast]
    intro h0
    have h0' : 0 <= G.parent := h0
    show (fnAt _ G.parent.toNat).bridge = true
    rw [fnAt_append (by omega)]
    rcases hpa with e | ⟨_, _, e⟩
    ·omega
    ·exact e
   ·rw [hlast, fnAt_append hj] at hjj
    refine List.mem_map.2 ⟨j, by simpa using hj, ?_⟩
    have e1 : (fnAt T j).parent = G.parent := hjj.1
    have e2 : (fnAt T j).slot = G.slot := hjj.2
    rw [e1, e2]
 ·have := set33.mods m35 (fun hh => by
   have := (own_ty own33)
   cases hp : out.p with
   | none => rw [hp] at hh; simp [blkOf] at hh
   | some a =>
    rw [hp] at hh this
    simp only [blkOf, List.mem_singleton] at hh
    exact ps_nty set33 this a rfl hh.symm)
  rw [List.length_append, List.length_singleton, tab_succ, hlast]
  rw [tab_congr (g := fun i => ((fnAt T i).parent, (fnAt T i).slot)) (fun i hi => by rw [fnAt_append hi])]
  exact this
 ·intro p hp
  rcases bb p hp with e | ⟨e1, e2, e3⟩ | ⟨e1, e2⟩
  ·exact .inl e
  ·refine .inr ⟨e1, by simp; omega, ?_⟩
   rw [fnAt_append (by omega)]
   exact e3
  ·refine .inr ⟨by omega, by simp; omega, ?_⟩
   rw [e1, Int.toNat_natCast, hlast]
   exact e2

end Go.Proofs.YtnhhncjflnlfaaaGreat
end

section
/-
 The contract of the generator's Topology, whole.
-/
namespace Go.Proofs.YtnhhncjflnlfaaaGreat
open Go.Eng

theorem ints_row (k : IntKind) (x : Int) : (encI k x).length = 1 := rfl
theorem ints_one (k : IntKind) (x : Int) : ∀ u ∈ encI k x, oneC u = true := fun u hu => by simp [encI] at hu; subst hu; rfl

structure GJ (H0 : Heap) (most : Nat) (H3 : Heap) (gb : Nat) (f : Fn) (fs : Sl) (out bridges : Sl) (T : List FS) (Bs : List Int) (bridges2 : Sl) (most2 : Int) (H : Heap) : Prop where
 ex : ∃ (G : Fn) (Bs2 : List Int), GR H0 most H3 H gb f fs G out bridges T Bs /\ most2 = (regs G.bridge : Int) /\ (0 <= G.spare /\ G.spare <= 3) /\ (0 < G.spare -> G.bridge = true /\ G.hot = true) /\ (G.bridge = false -> G.pref = false /\ G.hot = false) /\
  Own H0.size t_3 1 H bridges2 (Bs2.flatMap (encI .i64)) /\ bridges2.n = Bs2.length /\ 0 < Bs2.length /\ Bs2.length <= T.length + 2 /\ (∀ p ∈ Bs2, p = -1 \/ (0 <= p /\ p < T.length /\ (fnAt T p.toNat).bridge = true) \/ (p = T.length /\ G.bridge = true))

theorem GR.nint {H0 H3 H : Heap} {most gb : Nat} {f : Fn} {fs : Sl} {G : Fn} {out bridges : Sl} {T : List FS} {Bs : List Int} (h : GR H0 most H3 H gb f fs G out bridges T Bs) {e : TypeId} (he : e ≠ t_58) {p : Option Addr} (hp : TyB H p e) : ∀ a, p = some a -> a.block ∉ [gb] := fun a ha => by
 have hgt : TyB H (some ⟨gb, 0, none⟩) t_58 := fun a ha => by cases ha; exact ⟨_, _, h.g⟩
 have := ty_ne hp hgt he a ha
 simpa [blkOf] using this

theorem topo_k2 (H0 : Heap) (most : Nat) (H3 : Heap) (gb : Nat) (f : Fn) (fs : Sl) (out bridges : Sl) (T : List FS) (Bs : List Int) (G : Fn) (H25 : Heap) (hm : most <= 64) (h : GR H0 most H3 H25 gb f fs G out bridges T Bs) (hb : G.bridge = true) (hs : G.spare = 0)
  (bown : Own H0.size t_3 1 H25 bridges (Bs.flatMap (encI .i64))) (bn : bridges.n = Bs.length) (bl : Bs.length <= T.length + 1) (bb : ∀ p ∈ Bs, p = -1 \/ (0 <= p /\ p < T.length /\ (fnAt T p.toNat).bridge = true)) :
  F_20_k2 out bridges H3 ⟨gb, 0, none⟩ (GJ H0 most H3 gb f fs out bridges T Bs) H25 := by
 unfold F_20_k2
 refine ⟨fun H' => ∃ G', GR H0 most H3 H' gb f fs G' out bridges T Bs /\ G'.bridge = true /\ (0 <= G'.spare /\ G'.spare <= 3) /\ (0 < G'.spare -> G'.hot = true) /\ Own H0.size t_3 1 H' bridges (Bs.flatMap (encI .i64)), ⟨_, (Blk.fn h.g).2.2.2.2.2.2.1, iteB_intro (fun c => ?_) (fun c => ⟨G, h, hb, by omega, fun hh => by omega, bown⟩)⟩, ?_⟩
 ·refine ⟨_, (Blk.fn h.fb).2.2.2.2.2.2.2.1, (Mod_spec _ _ H25 (by omega) (by omega)).mono ?_⟩
  rintro v H26 ⟨rfl, rfl⟩
  have m4 := modI_range f.spare (n := 4) (by omega)
  refine ⟨_, rfl, h.g.ok (i := 7) (n := 1) (by simp), letH_mk ?_⟩
  intro H27 hh
  have g27 : Blk H27 gb t_58 (fnL { G with spare := modI f.spare 4 } ⟨none, 0, 0⟩) := by rw [hh]; exact h.g.wr1 (i := 7) (w := .int .i64 (modI f.spare 4))
  have m27 : Mods [gb] H26 H27 := by rw [hh]; exact mods_wr_add (by simp)
  clear hh
  exact ⟨{ G with spare := modI f.spare 4 }, h.mods m27 g27 rfl rfl ⟨h.gok.pa, h.gok.sl, h.gok.ve, h.gok.de, h.gok.pi, h.gok.vc⟩, hb, by dsimp only; omega, fun _ => c, bown.mods m27 (h.nint (by decide) (own_ty bown))⟩
 ·rintro H28 ⟨G', h28, hb', sp, sh, bo⟩
  unfold F_20_k1
  have hmost := h28.most
  refine append_row (enc := encI .i64) (l := Bs) (z := .int .i64 0) (sz := 1) (bytes := 8) (lo := H0.size) (out.n : Int) (by kernel_rfl) (by kernel_rfl) rfl (by omega) (ints_row _) (ints_one _) bo (by simp [maxLen]; omega) (by omega) h28.ext.size ?_
  intro s' H30 ho hn m30
  have hne : ∀ (e : TypeId), e ≠ t_3 -> ∀ p, TyB H28 p e -> ∀ a, p = some a -> a.block ∉ blkOf bridges.p := fun e he p hp a ha => ty_ne hp (own_ty bo) he a ha
  have nb := blkOf_new bo.new
  have hblk : ∀ b vs, Blk H28 b t_58 vs -> b ∉ blkOf bridges.p := fun b vs hb => by
   have : TyB H28 (some ⟨b, 0, none⟩) t_58 := fun a ha => by cases ha; exact ⟨_, _, hb⟩
   exact hne _ (by decide) _ this ⟨b, 0, none⟩ rfl
  refine ⟨G', Bs ++ [(out.n : Int)], ⟨Mods.ext h28.ext m30 nb, h28.own.mods m30 (hne _ (by decide) _ (own_ty h28.own)), h28.n, h28.gt.mods m30 (fun p hp => hne _ (by decide) p hp), h28.ok, h28.most, h28.set.mods m30 (fun hh => ?_), h28.un, h28.fb.mods m30 (hblk _ _ h28.fb), h28.g.mods m30 (hblk _ _ h28.g), h28.gn, h28.lo, h28.old, h28.gok⟩, by rw [hb']; rfl, sp, fun h0 => ⟨hb', sh h0⟩, fun h0 => (by rw [hb'] at h0; cases h0), ho, by simp; omega, by simp, by simp; omega, ?_⟩
  ·have hty := own_ty bo
   cases hp : bridges.p with
   | none => rw [hp] at hh; simp [blkOf] at hh
   | some a =>
    rw [hp] at hh hty
    simp only [blkOf, List.mem_singleton] at hh
    exact ps_nty h28.set hty a rfl hh.symm
  ·intro p hp
   simp only [List.mem_append, List.mem_singleton] at hp
   rcases hp with hp | rfl
   ·rcases bb p hp with e | e
    ·exact .inl e
    ·exact .inr (.inl e)
   ·exact .inr (.inr ⟨by rw [h28.n], hb'⟩)

theorem topo_k4 (H0 : Heap) (most : Nat) (hm : most <= 64) (n k : Nat) (hkn : k < n) (hn : n <= 9223372036854775807) (H3 : Heap) (out bridges : Sl) (T : List FS) (Bs : List Int) (h3 : GS H0 most H3 out bridges T Bs) (hlt : T.length < most) (gb : Nat) (H18 : Heap) (f : Fn) (fs : Sl) (G : Fn)
  (hfs : Bars H0 fs f.bars) (hfl : f.bars.length <= 9223372036854775807) (gn : H3.size < gb) (g18 : Blk H18 gb t_58 (fnL G ⟨none, 0, 0⟩)) (f18 : Blk H18 H3.size t_58 (fnL f fs)) (gok : GOk T G) (hpr : G.pref = false) (hho : G.hot = false) (hsp : G.spare = 0) (e18 : Ext H3 H18) :
  F_20_k4 H0 (CI3 n (GI H0 most)) (CM3 n) out bridges k H3 ⟨gb, 0, none⟩ H18 := by
 unfold F_20_k4
 have h18 := h3.ext' e18
 obtain ⟨p0, p1, _⟩ := Blk.fn g18
 have hpa := gok.pa
 have hsl := gok.sl
 have hmost := h3.most
 have ha : In64 G.parent := in64 (by omega)
 have hb : In64 G.slot := in64 (by omega)
 have hlo := h3.lo
 refine ⟨_, p0, _, p1, lookup_ps pairs_key (et := t_4) (by kernel_rfl) (by kernel_rfl) h18.set ha hb ⟨_, rfl, iteB_dec (fun c => letV_mk _ rfl (next3 hkn hn ⟨T, Bs, h18⟩)) (fun c => ⟨_, p0, _, p1, update_ps pairs_key (et := t_4) (by kernel_rfl) h18.set ha hb c fun H20 s20 m20 z20 => ?_⟩)⟩⟩
 have nty : ∀ (e : TypeId) p, TyB H18 p e -> ∀ a, p = some a -> a.block ∉ [H0.size] := fun e p hp a ha => by simpa using ps_nty h18.set hp a ha
 have x20 : Ext H0 H20 := Mods.ext h18.ext m20 (by simp)
 have bo20 := h18.bown.mods m20 (nty _ _ (own_ty h18.bown))
 have hR : GR H0 most H3 H20 gb f fs G out bridges T Bs := ⟨x20, h18.own.mods m20 (nty _ _ (own_ty h18.own)), h18.n, h18.gt.mods m20 (fun p hp => nty _ p hp), h18.ok, hlt, s20, c, f18.mods m20 (by simp; omega), g18.mods m20 (by simp; omega), gn, hlo, fun a ha => (own_ty h3.own).lt a ha, gok⟩
 refine ⟨GJ H0 most H3 gb f fs out bridges T Bs, ⟨_, (Blk.fn hR.g).2.2.2.2.1, iteB_intro (fun cb => ?_) (fun cb => ⟨G, Bs, hR, by rw [cb]; rfl, by omega, fun h0 => by omega, fun _ => ⟨hpr, hho⟩, bo20, h18.bn, h18.b0, by have := h18.bl; omega, fun p hp => (h18.bb p hp).elim .inl (fun e => .inr (.inl e))⟩)⟩, ?_⟩
 ·obtain ⟨_, _, _, q3, _, _, q6, _, _, _, _⟩ := Blk.fn hR.fb
  refine ⟨fun H' => ∃ G', GR H0 most H3 H' gb f fs G' out bridges T Bs /\ G'.bridge = true /\ G'.spare = 0 /\ Own H0.size t_3 1 H' bridges (Bs.flatMap (encI .i64)), ⟨_, q3, Mod_pure _ _ (by omega) (by omega) ⟨_, rfl, _, q6, ?_⟩⟩, ?_⟩
  ·have two : ∀ (x y : Bool) (H' : Heap), H' = wrs (wrs H20 ((⟨gb, 0, none⟩ : Addr).add 5) [.bool x]) ((⟨gb, 0, none⟩ : Addr).add 6) [.bool y] -> ∃ G', GR H0 most H3 H' gb f fs G' out bridges T Bs /\ G'.bridge = true /\ G'.spare = 0 /\ Own H0.size t_3 1 H' bridges (Bs.flatMap (encI .i64)) := by
    intro x y H' hH
    have g1 : Blk (wrs H20 ((⟨gb, 0, none⟩ : Addr).add 5) [.bool x]) gb t_58 (fnL { G with pref := x } ⟨none, 0, 0⟩) := hR.g.wr1 (i := 5) (w := .bool x)
    have g2 : Blk H' gb t_58 (fnL { G with pref := x, hot := y } ⟨none, 0, 0⟩) := by rw [hH]; exact g1.wr1 (i := 6) (w := .bool y)
    have mm : Mods [gb] H20 H' := by rw [hH]; exact (mods_wr_add (by simp)).trans (mods_wr_add (by simp))
    exact ⟨{ G with pref := x, hot := y }, hR.mods mm g2 rfl rfl ⟨gok.pa, gok.sl, gok.ve, gok.de, gok.pi, gok.vc⟩, cb, hsp, bo20.mods mm (hR.nint (by decide) (own_ty bo20))⟩
   have ok5 : okRow H20 ((⟨gb, 0, none⟩ : Addr).add 5) 1 := hR.g.ok (i := 5) (n := 1) (by simp)
   have ok6 : ∀ x, okRow (wrs H20 ((⟨gb, 0, none⟩ : Addr).add 5) [.bool x]) ((⟨gb, 0, none⟩ : Addr).add 6) 1 := fun x => (hR.g.wr1 (i := 5) (w := .bool x)).ok (i := 6) (n := 1) (by simp)
   refine iteB_intro (fun c6 => ⟨ok5, letH_mk ?_⟩) (fun c6 => ⟨_, q3, Mod_pure _ _ (by omega) (by omega) ⟨_, rfl, ok5, letH_mk ?_⟩⟩)
   ·rintro H21 rfl
    exact ⟨ok6 _, letH_mk (by rintro H22 hh; exact two _ _ _ hh)⟩
   ·rintro H21 rfl
    exact ⟨ok6 _, letH_mk (by rintro H22 hh; exact two _ _ _ hh)⟩
  ·rintro H25 ⟨G', hR', hb', hs', bo'⟩
   exact topo_k2 H0 most H3 gb f fs out bridges T Bs G' H25 hm hR' hb' hs' bo' h18.bn h18.bl h18.bb
 ·rintro bridges2 most2 H31 ⟨G', Bs2, hR', rfl, sp, sh, nb, bo', bn', b0', bl', bb'⟩
  exact topo_k3 H0 most hm n k hkn hn H3 out bridges bridges2 _ gb H31 f fs G' T Bs Bs2 hR' (hfs.ext hR'.ext) hfl rfl sp sh nb bo' bn' b0' bl' bb'

end Go.Proofs.YtnhhncjflnlfaaaGreat
end

section
/-
 The contract of the generator's Topology, whole.
-/
namespace Go.Proofs.YtnhhncjflnlfaaaGreat
open Go.Eng

def vecs : List Value := [.int .i64 0, .int .i64 1, .int .i64 2, .int .i64 4, .int .i64 16, .int .i64 32]
theorem vecs_at {x : Int} (h0 : 0 <= x) (h1 : x < 6) : ∃ v, vecs[x.toNat * 1]? = some (.int .i64 v) /\ (v = 0 \/ v = 1 \/ v = 2 \/ v = 4 \/ v = 16 \/ v = 32) := by
 rcases (by omega : x = 0 \/ x = 1 \/ x = 2 \/ x = 3 \/ x = 4 \/ x = 5) with rfl | rfl | rfl | rfl | rfl | rfl
 ·exact ⟨0, rfl, by omega⟩
 ·exact ⟨1, rfl, by omega⟩
 ·exact ⟨2, rfl, by omega⟩
 ·exact ⟨4, rfl, by omega⟩
 ·exact ⟨16, rfl, by omega⟩
 ·exact ⟨32, rfl, by omega⟩

def GN (H3 : Heap) (f : Fn) (fs : Sl) (T : List FS) (g : Addr) (H : Heap) : Prop := ∃ gb G, g = ⟨gb, 0, none⟩ /\ H3.size < gb /\ Blk H gb t_58 (fnL G ⟨none, 0, 0⟩) /\ Blk H H3.size t_58 (fnL f fs) /\ GOk T G /\ G.pref = false /\ G.hot = false /\ G.spare = 0 /\ Ext H3 H

theorem topo_leaf {H3 H5 : Heap} {f : Fn} {fs : Sl} {T : List FS} (e5 : Ext H3 H5) (z5 : H5.size = H3.size + 1) (b5 : Blk H5 H3.size t_58 (fnL f fs)) {x : Int} (h0 : 0 <= x) (h1 : x < 6) (G : Int -> Fn) (hG : ∀ v, (v = 0 \/ v = 1 \/ v = 2 \/ v = 4 \/ v = 16 \/ v = 32) -> GOk T (G v) /\ (G v).pref = false /\ (G v).hot = false /\ (G v).spare = 0)
  (l1 l2 l3 l4 : List (Addr × Nat)) :
  (letH (H5.push (.cells vecs.toArray t_3 (0, 0))) (fun H6 : Heap => Keeps H5 H6 l1 /\ (0 <= x /\ x < (6 : Int) /\ (∃ x25 : Int, rd H6 ((⟨H5.size, 0, none⟩ : Addr).add (x.toNat * 1)) = some (.int .i64 x25) /\ (
   letH (H6.push (.cells (fnL ⟨0, 0, 0, 0, false, false, false, 0, 0, 0, []⟩ ⟨none, 0, 0⟩).toArray t_58 (0, 0))) (fun H7 : Heap => Keeps H6 H7 l2 /\ (okRow H7 (⟨H6.size, 0, none⟩ : Addr) 11 /\ (
    letH (wrs H7 (⟨H6.size, 0, none⟩ : Addr) (fnL (G x25) ⟨none, 0, 0⟩)) (fun H8 : Heap => GN H3 f fs T (⟨H6.size, 0, none⟩ : Addr) H8)))))))) ) /\
  (letH (H5.push (.cells (fnL ⟨0, 0, 0, 0, false, false, false, 0, 0, 0, []⟩ ⟨none, 0, 0⟩).toArray t_58 (0, 0))) (fun H9 : Heap => Keeps H5 H9 l3 /\ (
   letH (H9.push (.cells vecs.toArray t_3 (0, 0))) (fun H10 : Heap => Keeps H9 H10 l4 /\ (0 <= x /\ x < (6 : Int) /\ (∃ x26 : Int, rd H10 ((⟨H9.size, 0, none⟩ : Addr).add (x.toNat * 1)) = some (.int .i64 x26) /\ (okRow H10 (⟨H5.size, 0, none⟩ : Addr) 11 /\ (
    letH (wrs H10 (⟨H5.size, 0, none⟩ : Addr) (fnL (G x26) ⟨none, 0, 0⟩)) (fun H11 : Heap => GN H3 f fs T (⟨H5.size, 0, none⟩ : Addr) H11)))))))) ) := by
 obtain ⟨v, hv, hvv⟩ := vecs_at h0 h1
 obtain ⟨g1, g2, g3, g4⟩ := hG v hvv
 constructor
 ·refine push_mk fun H6 e6 z6 b6 => ⟨e6.keeps, h0, h1, v, b6.rd hv, push_mk fun H7 e7 z7 b7 => ⟨e7.keeps, b7.ok0 (by simp), letH_mk ?_⟩⟩
  rintro H8 rfl
  have mm : Mods [H6.size] H7 (wrs H7 (⟨H6.size, 0, none⟩ : Addr) (fnL (G v) ⟨none, 0, 0⟩)) := Mods.wrs (by simp)
  exact ⟨H6.size, G v, rfl, by omega, b7.wr, ((b5.ext e6).ext e7).mods mm (by simp; omega), g1, g2, g3, g4, Mods.ext ((e5.trans e6).trans e7) mm (by simp; omega)⟩
 ·refine push_mk fun H9 e9 z9 b9 => ⟨e9.keeps, push_mk fun H10 e10 z10 b10 => ⟨e10.keeps, h0, h1, v, b10.rd hv, (b9.ext e10).ok0 (by simp), letH_mk ?_⟩⟩
  rintro H11 rfl
  have mm : Mods [H5.size] H10 (wrs H10 (⟨H5.size, 0, none⟩ : Addr) (fnL (G v) ⟨none, 0, 0⟩)) := Mods.wrs (by simp)
  exact ⟨H5.size, G v, rfl, by omega, (b9.ext e10).wr, ((b5.ext e9).ext e10).mods mm (by simp; omega), g1, g2, g3, g4, Mods.ext ((e5.trans e9).trans e10) mm (by simp; omega)⟩

theorem gTopoO_spec (H : Heap) (s : Sl) (L : List FS) (most : Nat) (hm : most <= 64) (h : Topo H s L) (hl : L.length <= 9223372036854775807) (hb : ∀ x ∈ L, x.1.bars.length <= 9223372036854775807) :
  CallsH Tryz.prog n_20 #[.slice s.p s.n s.c, .int .i64 most] H (GTopoO most H) := by
 refine F_20_ok _ _ ?_
 unfold F_20
 refine letH_mk ?_
 intro H1 h1
 have e1 : Ext H H1 := by rw [h1]; exact Ext.push _ _
 have s1 : PSet H1 H.size [] := by rw [h1]; exact PSet.new H
 have z1 : H1.size = H.size + 1 := by rw [h1]; simp
 clear h1
 refine push_mk (vs := encI .i64 (-1)) fun H2 e2 z2 b2 => ?_
 have hn := h.len
 have b0 : Own H.size t_3 1 H2 ⟨some ⟨H1.size, 0, none⟩, 1, 1⟩ (([-1] : List Int).flatMap (encI .i64)) := Own.of_blk b2 rfl (by omega) (by simp [maxLen])
 refine loop3 L.length (GI H most) ⟨[], [-1], ⟨e1.trans e2, Own.nil _ _ _ _, rfl, fun x hx => by simp at hx, fun i hi => by simp at hi, by simp, s1.ext e2, b0, rfl, by simp, by simp, fun p hp => .inl (by simpa using hp)⟩⟩ ?_
 rintro k out bridges H3 hk ⟨T, Bs, h3⟩
 unfold F_20_r5
 refine iteB_dec (fun c1 => iteB_dec (fun c2 => ?_) (fun _ => h3.done hm)) (fun _ => h3.done hm)
 have hkn : k < L.length := by omega
 have h3n := h3.n
 have hlt : T.length < most := by omega
 obtain ⟨a, hp, hr⟩ := (h.ext h3.ext).at hkn
 obtain ⟨p0, p1, p2, p3, p4, p5, p6, p7, p8, p9, p10⟩ := rdFn hr
 refine ⟨by omega, by omega, unSome_mk hp ⟨_, p0, _, p1, _, p2, _, p3, _, p4, _, p5, _, p6, _, p7, _, p8, _, p9, slAt L k, p10, local_mk (vs := fnL (fnAt L k) (slAt L k)) rfl rfl fun H5 e5 z5 b5 => ?_⟩⟩
 have hfs := h.barsAt hkn
 have hfl : (fnAt L k).bars.length <= 9223372036854775807 := by
  have : L.getD k zF = L[k] := by simp [List.getD, hkn]
  unfold fnAt
  rw [this]
  exact hb _ (List.getElem_mem hkn)
 generalize fnAt L k = f at *
 generalize slAt L k = fs at *
 obtain ⟨q0, q1, q2, q3, q4, q5, q6, q7, q8, q9, q10⟩ := Blk.fn b5
 have hbn := h3.bn
 have hb0 := h3.b0
 have hbl := h3.bl
 have hmp := modI_range f.parent (n := (bridges.n : Int)) (by omega)
 have hints : Ints .i64 H5 bridges Bs := (h3.bown.ext e5).isS (ints_row _) (by omega)
 obtain ⟨a1, hp1, hr1⟩ := hints.at hmp.1 (by omega)
 have hpar : Bs.getD (modI f.parent bridges.n).toNat 0 ∈ Bs := by
  have : (modI f.parent bridges.n).toNat < Bs.length := by omega
  simp [List.getD, this]
 have hpa := h3.bb _ hpar
 generalize Bs.getD (modI f.parent bridges.n).toNat 0 = par at *
 have m8 := modI_range f.slot (n := 8) (by omega)
 have m9 := modI_range f.vendor (n := 9) (by omega)
 have m9' := modI_range f.device (n := 9) (by omega)
 have m5 := modI_range f.pin (n := 5) (by omega)
 have m6 := modI_range f.vec (n := 6) (by omega)
 have hG : ∀ (br : Bool) (v : Int), (v = 0 \/ v = 1 \/ v = 2 \/ v = 4 \/ v = 16 \/ v = 32) -> GOk T ⟨par, modI f.slot 8, IntKind.i64.wrap (1 + modI f.vendor 9), modI f.device 9, br, false, false, 0, modI f.pin 5, v, []⟩ := fun br v hv => by
  refine ⟨hpa, by dsimp only; omega, ?_, by dsimp only; omega, by dsimp only; omega, hv⟩
  show 1 <= IntKind.i64.wrap (1 + modI f.vendor 9) /\ IntKind.i64.wrap (1 + modI f.vendor 9) <= 9
  rw [i64_in (by omega)]
  omega
 refine ⟨GN H3 f fs T, ⟨_, q0, Mod_pure _ _ (by omega) (by omega) ⟨_, rfl, hmp.1, hmp.2, unSome_mk hp1 ⟨_, hr1, _, q1, Mod_pure _ _ (by omega) (by omega) ⟨_, rfl, _, q2, Mod_pure _ _ (by omega) (by omega) ⟨_, rfl, _, q3, Mod_pure _ _ (by omega) (by omega) ⟨_, rfl, _, q4, iteB_intro (fun c3 => ?_) (fun c3 => ?_)⟩⟩⟩⟩⟩⟩, ?_⟩
 ·refine ⟨_, q8, Mod_pure _ _ (by omega) (by omega) ⟨_, rfl, _, q9, Mod_pure _ _ (by omega) (by omega) ⟨_, rfl, ?_⟩⟩⟩
  exact topo_leaf e5 z5 b5 m6.1 m6.2 (fun v => ⟨par, modI f.slot 8, IntKind.i64.wrap (1 + modI f.vendor 9), modI f.device 9, true, false, false, 0, modI f.pin 5, v, []⟩) (fun v hv => ⟨hG true v hv, rfl, rfl, rfl⟩) _ _ _ _
 ·refine ⟨_, q2, Mod_pure _ _ (by omega) (by omega) ⟨_, rfl, _, q8, Mod_pure _ _ (by omega) (by omega) ⟨_, rfl, _, q9, Mod_pure _ _ (by omega) (by omega) ⟨_, rfl, ?_⟩⟩⟩⟩
  exact topo_leaf e5 z5 b5 m6.1 m6.2 (fun v => ⟨par, modI f.slot 8, IntKind.i64.wrap (1 + modI f.vendor 9), modI f.device 9, modI f.vendor 3 == 0, false, false, 0, modI f.pin 5, v, []⟩) (fun v hv => ⟨hG _ v hv, rfl, rfl, rfl⟩) _ _ _ _
 ·rintro g H18 ⟨gb, G, rfl, gn, g18, f18, gok, hpr, hho, hsp, e18⟩
  exact topo_k4 H most hm L.length k hkn hl H3 out bridges T Bs h3 hlt gb H18 f fs G hfs hfl gn g18 f18 gok hpr hho hsp e18

theorem gTopoT_spec (H : Heap) (s : Sl) (L : List FS) (most : Nat) (hm : most <= 64) (h : Topo H s L) (hl : L.length <= 9223372036854775807) (hb : ∀ x ∈ L, x.1.bars.length <= 9223372036854775807) :
  CallsH Tryz.prog n_20 #[.slice s.p s.n s.c, .int .i64 most] H (GTopoT most H) :=
 (gTopoO_spec H s L most hm h hl hb).mono (fun _ _ h => h.to)
theorem gTopo_spec (H : Heap) (s : Sl) (L : List FS) (most : Nat) (hm : most <= 64) (h : Topo H s L) (hl : L.length <= 9223372036854775807) (hb : ∀ x ∈ L, x.1.bars.length <= 9223372036854775807) :
  CallsH Tryz.prog n_20 #[.slice s.p s.n s.c, .int .i64 most] H (GTopo most H) :=
 (gTopoT_spec H s L most hm h hl hb).mono (fun _ _ h => h.to)

end Go.Proofs.YtnhhncjflnlfaaaGreat
end
