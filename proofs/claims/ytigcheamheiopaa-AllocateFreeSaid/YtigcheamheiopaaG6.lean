/-
  The contract of the generator's Topology, whole.
-/
import Derived.Test.YtigcheamheiopaaG5
namespace Go.Proofs.Ytigcheamheiopaa
open Go.Eng

theorem ints_row (k : IntKind) (x : Int) : (encI k x).length = 1 := rfl
theorem ints_one (k : IntKind) (x : Int) : ∀ u ∈ encI k x, oneC u = true := fun u hu => by simp [encI] at hu; subst hu; rfl

/-- What holds when the registers are to be made. -/
structure GJ (H0 : Heap) (most : Nat) (H3 : Heap) (gb : Nat) (f : Fn) (fs : Sl) (out bridges : Sl) (T : List FS) (Bs : List Int) (bridges2 : Sl) (most2 : Int) (H : Heap) : Prop where
  ex : ∃ (G : Fn) (Bs2 : List Int), GR H0 most H3 H gb f fs G out bridges T Bs ∧ most2 = (regs G.bridge : Int) ∧ (0 ≤ G.spare ∧ G.spare ≤ 3) ∧ (0 < G.spare → G.bridge = true ∧ G.hot = true) ∧ (G.bridge = false → G.pref = false ∧ G.hot = false) ∧
    Own H0.size t_int 1 H bridges2 (Bs2.flatMap (encI .i64)) ∧ bridges2.n = Bs2.length ∧ 0 < Bs2.length ∧ Bs2.length ≤ T.length + 2 ∧ (∀ p ∈ Bs2, p = -1 ∨ (0 ≤ p ∧ p < T.length ∧ (fnAt T p.toNat).bridge = true) ∨ (p = T.length ∧ G.bridge = true))

theorem GR.nint {H0 H3 H : Heap} {most gb : Nat} {f : Fn} {fs : Sl} {G : Fn} {out bridges : Sl} {T : List FS} {Bs : List Int} (h : GR H0 most H3 H gb f fs G out bridges T Bs) {e : TypeId} (he : e ≠ t_api_Function) {p : Option Addr} (hp : TyB H p e) : ∀ a, p = some a → a.block ∉ [gb] := fun a ha => by
  have hgt : TyB H (some ⟨gb, 0, none⟩) t_api_Function := fun a ha => by cases ha; exact ⟨_, _, h.g⟩
  have := ty_ne hp hgt he a ha
  simpa [blkOf] using this

theorem topo_k2 (H0 : Heap) (most : Nat) (H3 : Heap) (gb : Nat) (f : Fn) (fs : Sl) (out bridges : Sl) (T : List FS) (Bs : List Int) (G : Fn) (H25 : Heap) (hm : most ≤ 64) (h : GR H0 most H3 H25 gb f fs G out bridges T Bs) (hb : G.bridge = true) (hs : G.spare = 0)
    (bown : Own H0.size t_int 1 H25 bridges (Bs.flatMap (encI .i64))) (bn : bridges.n = Bs.length) (bl : Bs.length ≤ T.length + 1) (bb : ∀ p ∈ Bs, p = -1 ∨ (0 ≤ p ∧ p < T.length ∧ (fnAt T p.toNat).bridge = true)) :
    F_gen_Topology_k2 out bridges H3 ⟨gb, 0, none⟩ (GJ H0 most H3 gb f fs out bridges T Bs) H25 := by
  unfold F_gen_Topology_k2
  refine ⟨fun H' => ∃ G', GR H0 most H3 H' gb f fs G' out bridges T Bs ∧ G'.bridge = true ∧ (0 ≤ G'.spare ∧ G'.spare ≤ 3) ∧ (0 < G'.spare → G'.hot = true) ∧ Own H0.size t_int 1 H' bridges (Bs.flatMap (encI .i64)), ⟨_, (Blk.fn h.g).2.2.2.2.2.2.1, iteB_intro (fun c => ?_) (fun c => ⟨G, h, hb, by omega, fun hh => by omega, bown⟩)⟩, ?_⟩
  · refine ⟨_, (Blk.fn h.fb).2.2.2.2.2.2.2.1, (Mod_spec _ _ H25 (by omega) (by omega)).mono ?_⟩
    rintro v H26 ⟨rfl, rfl⟩
    have m4 := modI_range f.spare (n := 4) (by omega)
    refine ⟨_, rfl, h.g.ok (i := 7) (n := 1) (by simp), letH_mk ?_⟩
    intro H27 hh
    have g27 : Blk H27 gb t_api_Function (fnL { G with spare := modI f.spare 4 } ⟨none, 0, 0⟩) := by rw [hh]; exact h.g.wr1 (i := 7) (w := .int .i64 (modI f.spare 4))
    have m27 : Mods [gb] H26 H27 := by rw [hh]; exact mods_wr_add (by simp)
    clear hh
    exact ⟨{ G with spare := modI f.spare 4 }, h.mods m27 g27 rfl rfl ⟨h.gok.pa, h.gok.sl, h.gok.ve, h.gok.de, h.gok.pi, h.gok.vc⟩, hb, by dsimp only; omega, fun _ => c, bown.mods m27 (h.nint (by decide) (own_ty bown))⟩
  · rintro H28 ⟨G', h28, hb', sp, sh, bo⟩
    unfold F_gen_Topology_k1
    have hmost := h28.most
    refine append_row (enc := encI .i64) (l := Bs) (z := .int .i64 0) (sz := 1) (bytes := 8) (lo := H0.size) (out.n : Int) (by kernel_rfl) (by kernel_rfl) rfl (by omega) (ints_row _) (ints_one _) bo (by simp [maxLen]; omega) (by omega) h28.ext.size ?_
    intro s' H30 ho hn m30
    have hne : ∀ (e : TypeId), e ≠ t_int → ∀ p, TyB H28 p e → ∀ a, p = some a → a.block ∉ blkOf bridges.p := fun e he p hp a ha => ty_ne hp (own_ty bo) he a ha
    have nb := blkOf_new bo.new
    have hblk : ∀ b vs, Blk H28 b t_api_Function vs → b ∉ blkOf bridges.p := fun b vs hb => by
      have : TyB H28 (some ⟨b, 0, none⟩) t_api_Function := fun a ha => by cases ha; exact ⟨_, _, hb⟩
      exact hne _ (by decide) _ this ⟨b, 0, none⟩ rfl
    refine ⟨G', Bs ++ [(out.n : Int)], ⟨Mods.ext h28.ext m30 nb, h28.own.mods m30 (hne _ (by decide) _ (own_ty h28.own)), h28.n, h28.gt.mods m30 (fun p hp => hne _ (by decide) p hp), h28.ok, h28.most, h28.set.mods m30 (fun hh => ?_), h28.un, h28.fb.mods m30 (hblk _ _ h28.fb), h28.g.mods m30 (hblk _ _ h28.g), h28.gn, h28.lo, h28.old, h28.gok⟩, by rw [hb']; rfl, sp, fun h0 => ⟨hb', sh h0⟩, fun h0 => (by rw [hb'] at h0; cases h0), ho, by simp; omega, by simp, by simp; omega, ?_⟩
    · have hty := own_ty bo
      cases hp : bridges.p with
      | none => rw [hp] at hh; simp [blkOf] at hh
      | some a =>
        rw [hp] at hh hty
        simp only [blkOf, List.mem_singleton] at hh
        exact ps_nty h28.set hty a rfl hh.symm
    · intro p hp
      simp only [List.mem_append, List.mem_singleton] at hp
      rcases hp with hp | rfl
      · rcases bb p hp with e | e
        · exact .inl e
        · exact .inr (.inl e)
      · exact .inr (.inr ⟨by rw [h28.n], hb'⟩)

theorem topo_k4 (H0 : Heap) (most : Nat) (hm : most ≤ 64) (n k : Nat) (hkn : k < n) (hn : n ≤ 9223372036854775807) (H3 : Heap) (out bridges : Sl) (T : List FS) (Bs : List Int) (h3 : GS H0 most H3 out bridges T Bs) (hlt : T.length < most) (gb : Nat) (H18 : Heap) (f : Fn) (fs : Sl) (G : Fn)
    (hfs : Bars H0 fs f.bars) (hfl : f.bars.length ≤ 9223372036854775807) (gn : H3.size < gb) (g18 : Blk H18 gb t_api_Function (fnL G ⟨none, 0, 0⟩)) (f18 : Blk H18 H3.size t_api_Function (fnL f fs)) (gok : GOk T G) (hpr : G.pref = false) (hho : G.hot = false) (hsp : G.spare = 0) (e18 : Ext H3 H18) :
    F_gen_Topology_k4 H0 (CI3 n (GI H0 most)) (CM3 n) out bridges k H3 ⟨gb, 0, none⟩ H18 := by
  unfold F_gen_Topology_k4
  have h18 := h3.ext' e18
  obtain ⟨p0, p1, _⟩ := Blk.fn g18
  have hpa := gok.pa
  have hsl := gok.sl
  have hmost := h3.most
  have ha : In64 G.parent := in64 (by omega)
  have hb : In64 G.slot := in64 (by omega)
  have hlo := h3.lo
  refine ⟨_, p0, _, p1, lookup_ps pairs_key (et := t_bool) (by kernel_rfl) (by kernel_rfl) h18.set ha hb ⟨_, rfl, iteB_dec (fun c => letV_mk _ rfl (next3 hkn hn ⟨T, Bs, h18⟩)) (fun c => ⟨_, p0, _, p1, update_ps pairs_key (et := t_bool) (by kernel_rfl) h18.set ha hb c fun H20 s20 m20 z20 => ?_⟩)⟩⟩
  have nty : ∀ (e : TypeId) p, TyB H18 p e → ∀ a, p = some a → a.block ∉ [H0.size] := fun e p hp a ha => by simpa using ps_nty h18.set hp a ha
  have x20 : Ext H0 H20 := Mods.ext h18.ext m20 (by simp)
  have bo20 := h18.bown.mods m20 (nty _ _ (own_ty h18.bown))
  have hR : GR H0 most H3 H20 gb f fs G out bridges T Bs := ⟨x20, h18.own.mods m20 (nty _ _ (own_ty h18.own)), h18.n, h18.gt.mods m20 (fun p hp => nty _ p hp), h18.ok, hlt, s20, c, f18.mods m20 (by simp; omega), g18.mods m20 (by simp; omega), gn, hlo, fun a ha => (own_ty h3.own).lt a ha, gok⟩
  refine ⟨GJ H0 most H3 gb f fs out bridges T Bs, ⟨_, (Blk.fn hR.g).2.2.2.2.1, iteB_intro (fun cb => ?_) (fun cb => ⟨G, Bs, hR, by rw [cb]; rfl, by omega, fun h0 => by omega, fun _ => ⟨hpr, hho⟩, bo20, h18.bn, h18.b0, by have := h18.bl; omega, fun p hp => (h18.bb p hp).elim .inl (fun e => .inr (.inl e))⟩)⟩, ?_⟩
  · obtain ⟨_, _, _, q3, _, _, q6, _, _, _, _⟩ := Blk.fn hR.fb
    refine ⟨fun H' => ∃ G', GR H0 most H3 H' gb f fs G' out bridges T Bs ∧ G'.bridge = true ∧ G'.spare = 0 ∧ Own H0.size t_int 1 H' bridges (Bs.flatMap (encI .i64)), ⟨_, q3, Mod_pure _ _ (by omega) (by omega) ⟨_, rfl, _, q6, ?_⟩⟩, ?_⟩
    · have two : ∀ (x y : Bool) (H' : Heap), H' = wrs (wrs H20 ((⟨gb, 0, none⟩ : Addr).add 5) [.bool x]) ((⟨gb, 0, none⟩ : Addr).add 6) [.bool y] → ∃ G', GR H0 most H3 H' gb f fs G' out bridges T Bs ∧ G'.bridge = true ∧ G'.spare = 0 ∧ Own H0.size t_int 1 H' bridges (Bs.flatMap (encI .i64)) := by
        intro x y H' hH
        have g1 : Blk (wrs H20 ((⟨gb, 0, none⟩ : Addr).add 5) [.bool x]) gb t_api_Function (fnL { G with pref := x } ⟨none, 0, 0⟩) := hR.g.wr1 (i := 5) (w := .bool x)
        have g2 : Blk H' gb t_api_Function (fnL { G with pref := x, hot := y } ⟨none, 0, 0⟩) := by rw [hH]; exact g1.wr1 (i := 6) (w := .bool y)
        have mm : Mods [gb] H20 H' := by rw [hH]; exact (mods_wr_add (by simp)).trans (mods_wr_add (by simp))
        exact ⟨{ G with pref := x, hot := y }, hR.mods mm g2 rfl rfl ⟨gok.pa, gok.sl, gok.ve, gok.de, gok.pi, gok.vc⟩, cb, hsp, bo20.mods mm (hR.nint (by decide) (own_ty bo20))⟩
      have ok5 : okRow H20 ((⟨gb, 0, none⟩ : Addr).add 5) 1 := hR.g.ok (i := 5) (n := 1) (by simp)
      have ok6 : ∀ x, okRow (wrs H20 ((⟨gb, 0, none⟩ : Addr).add 5) [.bool x]) ((⟨gb, 0, none⟩ : Addr).add 6) 1 := fun x => (hR.g.wr1 (i := 5) (w := .bool x)).ok (i := 6) (n := 1) (by simp)
      refine iteB_intro (fun c6 => ⟨ok5, letH_mk ?_⟩) (fun c6 => ⟨_, q3, Mod_pure _ _ (by omega) (by omega) ⟨_, rfl, ok5, letH_mk ?_⟩⟩)
      · rintro H21 rfl
        exact ⟨ok6 _, letH_mk (by rintro H22 hh; exact two _ _ _ hh)⟩
      · rintro H21 rfl
        exact ⟨ok6 _, letH_mk (by rintro H22 hh; exact two _ _ _ hh)⟩
    · rintro H25 ⟨G', hR', hb', hs', bo'⟩
      exact topo_k2 H0 most H3 gb f fs out bridges T Bs G' H25 hm hR' hb' hs' bo' h18.bn h18.bl h18.bb
  · rintro bridges2 most2 H31 ⟨G', Bs2, hR', rfl, sp, sh, nb, bo', bn', b0', bl', bb'⟩
    exact topo_k3 H0 most hm n k hkn hn H3 out bridges bridges2 _ gb H31 f fs G' T Bs Bs2 hR' (hfs.ext hR'.ext) hfl rfl sp sh nb bo' bn' b0' bl' bb'

end Go.Proofs.Ytigcheamheiopaa
