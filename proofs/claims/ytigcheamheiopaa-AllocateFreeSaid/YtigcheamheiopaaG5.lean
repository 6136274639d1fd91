/-
  The contract of the generator's Topology.
-/
import Derived.Test.YtigcheamheiopaaG4
namespace Go.Proofs.Ytigcheamheiopaa
open Go.Eng

structure GTopo (most : Nat) (H : Heap) (v : Value) (H' : Heap) : Prop where
  ex : ∃ (out : Sl) (T : List FS), v = .slice out.p out.n out.c ∧ Topo H' out T ∧ ValidT T ∧ T.length ≤ most ∧ Ext H H'

/-- And in what blocks it lies. -/
structure GTopoT (most : Nat) (H : Heap) (v : Value) (H' : Heap) : Prop where
  ex : ∃ (out : Sl) (T : List FS), v = .slice out.p out.n out.c ∧ Topo H' out T ∧ ValidT T ∧ T.length ≤ most ∧ Ext H H' ∧ TyB H' out.p t_api_Function ∧ GT H' T
theorem GTopoT.to {most : Nat} {H : Heap} {v : Value} {H' : Heap} (h : GTopoT most H v H') : GTopo most H v H' := by
  obtain ⟨out, T, h1, h2, h3, h4, h5, _⟩ := h
  exact ⟨out, T, h1, h2, h3, h4, h5⟩

structure GTopoO (most : Nat) (H : Heap) (v : Value) (H' : Heap) : Prop where
  ex : ∃ (out : Sl) (T : List FS), v = .slice out.p out.n out.c ∧ Topo H' out T ∧ ValidT T ∧ T.length ≤ most ∧ Ext H H' ∧ TyB H' out.p t_api_Function ∧ GT H' T ∧ Own H.size t_api_Function 11 H' out (T.flatMap encF)
theorem GTopoO.to {most : Nat} {H : Heap} {v : Value} {H' : Heap} (h : GTopoO most H v H') : GTopoT most H v H' := by
  obtain ⟨out, T, h1, h2, h3, h4, h5, h6, h7, _⟩ := h
  exact ⟨out, T, h1, h2, h3, h4, h5, h6, h7⟩

theorem GS.done {H0 H : Heap} {most : Nat} {out bridges : Sl} {T : List FS} {Bs : List Int} (h : GS H0 most H out bridges T Bs) (hm : most ≤ 64) : GTopoO most H0 (.slice out.p out.n out.c) H :=
  ⟨out, T, rfl, ⟨h.own.isS encF_len (by omega), fun x hx => (h.gt x hx).1⟩, ⟨by have := h.most; omega, h.ok⟩, h.most, h.ext, own_ty h.own, h.gt, h.own⟩

abbrev GI (H0 : Heap) (most : Nat) (_k : Nat) (out bridges : Sl) (H : Heap) : Prop := ∃ T Bs, GS H0 most H out bridges T Bs

/-- The state of a round once the place is taken: 'x' is the key that was put in. -/
structure GR (H0 : Heap) (most : Nat) (H3 H : Heap) (gb : Nat) (f : Fn) (fs : Sl) (G : Fn) (out bridges : Sl) (T : List FS) (Bs : List Int) : Prop where
  ext : Ext H0 H
  own : Own H0.size t_api_Function 11 H out (T.flatMap encF)
  n : out.n = T.length
  gt : GT H T
  ok : ∀ i, i < T.length → OkAt T i
  most : T.length < most
  set : PSet H H0.size (tab T.length (fun i => ((fnAt T i).parent, (fnAt T i).slot)) ++ [(G.parent, G.slot)])
  un : (G.parent, G.slot) ∉ tab T.length (fun i => ((fnAt T i).parent, (fnAt T i).slot))
  fb : Blk H H3.size t_api_Function (fnL f fs)
  g : Blk H gb t_api_Function (fnL G ⟨none, 0, 0⟩)
  gn : H3.size < gb
  lo : H0.size < H3.size
  old : ∀ a, out.p = some a → a.block < H3.size
  gok : GOk T G

theorem GR.mods {H0 H3 H H' : Heap} {most gb : Nat} {f : Fn} {fs : Sl} {G G' : Fn} {out bridges : Sl} {T : List FS} {Bs : List Int} (h : GR H0 most H3 H gb f fs G out bridges T Bs) (m : Mods [gb] H H') (hg : Blk H' gb t_api_Function (fnL G' ⟨none, 0, 0⟩)) (hp : G'.parent = G.parent) (hs : G'.slot = G.slot) (hok : GOk T G') : GR H0 most H3 H' gb f fs G' out bridges T Bs := by
  have h1 := h.gn
  have h2 := h.lo
  refine ⟨Mods.ext h.ext m (by simp; omega), h.own.mods m (fun a ha => by have := h.old a ha; simp; omega), h.n, h.gt.mods m (fun p hp a ha => ?_), h.ok, h.most, ?_, ?_, h.fb.mods m (by simp; omega), hg, h.gn, h.lo, h.old, hok⟩
  · have hgt : TyB H (some ⟨gb, 0, none⟩) t_api_Function := fun a ha => by cases ha; exact ⟨_, _, h.g⟩
    have := ty_ne hp hgt (by decide) a ha
    simpa [blkOf] using this
  · rw [hp, hs]; exact h.set.mods m (by simp; omega)
  · rw [hp, hs]; exact h.un

theorem topo_k3 (H0 : Heap) (most : Nat) (hm : most ≤ 64) (n k : Nat) (hkn : k < n) (hn : n ≤ 9223372036854775807) (H3 : Heap) (out bridges bridges2 : Sl) (most2 : Nat) (gb : Nat) (H31 : Heap) (f : Fn) (fs : Sl) (G : Fn) (T : List FS) (Bs Bs2 : List Int)
    (h : GR H0 most H3 H31 gb f fs G out bridges T Bs) (hfs : Bars H31 fs f.bars) (hfl : f.bars.length ≤ 9223372036854775807) (h2 : most2 = regs G.bridge) (sp : 0 ≤ G.spare ∧ G.spare ≤ 3) (sh : 0 < G.spare → G.bridge = true ∧ G.hot = true) (nb : G.bridge = false → G.pref = false ∧ G.hot = false)
    (bown : Own H0.size t_int 1 H31 bridges2 (Bs2.flatMap (encI .i64))) (bn : bridges2.n = Bs2.length) (b0 : 0 < Bs2.length) (bl : Bs2.length ≤ T.length + 2) (bb : ∀ p ∈ Bs2, p = -1 ∨ (0 ≤ p ∧ p < T.length ∧ (fnAt T p.toNat).bridge = true) ∨ (p = T.length ∧ G.bridge = true)) :
    F_gen_Topology_k3 (CI3 n (GI H0 most)) (CM3 n) out bridges k H3 ⟨gb, 0, none⟩ bridges2 most2 H31 := by
  unfold F_gen_Topology_k3
  have q10 := (Blk.fn h.fb).2.2.2.2.2.2.2.2.2.2
  have hr : regs G.bridge ≤ 6 := by unfold regs; split <;> omega
  refine ⟨fs, q10, (gBars_spec H31 fs f.bars most2 hfs (by omega) hfl).mono ?_⟩
  rintro v H32 ⟨bs, B, rfl, ob, nb', okb, lb, e32⟩
  have h32 := h.mods (H' := H32) (G' := G) e32.mods (h.g.ext e32) rfl rfl h.gok
  refine ⟨bs, rfl, h32.g.ok (i := 10) (n := 1) (by simp), letH_mk ?_⟩
  intro H33 hh
  have g33 : Blk H33 gb t_api_Function (fnL G bs) := by rw [hh]; exact h32.g.wr1 (i := 10) (w := .slice bs.p bs.n bs.c)
  have m33 : Mods [gb] H32 H33 := by rw [hh]; exact mods_wr_add (by simp)
  clear hh
  have hgl := h.g.lt
  have h1 := h.gn
  have hlo := h.lo
  have hz32 := e32.size
  have hz33 := m33.size
  have hgt : TyB H32 (some ⟨gb, 0, none⟩) t_api_Function := fun a ha => by cases ha; exact ⟨_, _, h32.g⟩
  have nbar : ∀ p, TyB H32 p t_api_Bar → ∀ a, p = some a → a.block ∉ [gb] := fun p hp a ha => by
    have := ty_ne hp hgt (by decide) a ha
    simpa [blkOf] using this
  have gt33 := h32.gt.mods m33 nbar
  have bs33 : Bars H33 bs B ∧ TyB H33 bs.p t_api_Bar := ⟨(ob.isS encBar_len (by omega)).mods m33 (nbar _ (own_ty ob)), (own_ty ob).mods m33 (nbar _ (own_ty ob))⟩
  have own33 := h32.own.mods m33 (fun a ha => by have := h.old a ha; simp; omega)
  have set33 := h32.set.mods m33 (by simp; omega)
  have bo33 : Own H0.size t_int 1 H33 bridges2 (Bs2.flatMap (encI .i64)) := (bown.ext e32).mods m33 (fun a ha => by
    have := ty_ne (own_ty (bown.ext e32)) hgt (by decide) a ha
    simpa [blkOf] using this)
  have x33 : Ext H0 H33 := Mods.ext h32.ext m33 (by simp; omega)
  obtain ⟨p0, p1, p2, p3, p4, p5, p6, p7, p8, p9, p10⟩ := Blk.fn g33
  refine ⟨_, p0, _, p1, _, p2, _, p3, _, p4, _, p5, _, p6, _, p7, _, p8, _, p9, bs, p10, ?_⟩
  have hmost := h.most
  have hon := h.n
  refine append_row (enc := encF) (l := T) (z := .agg #[.int .i64 0, .int .i64 0, .int .i64 0, .int .i64 0, .bool false, .bool false, .bool false, .int .i64 0, .int .i64 0, .int .i64 0, .slice none 0 0]) (sz := 11) (bytes := 88) (lo := H0.size) ({ G with bars := B }, bs) (by kernel_rfl) (by kernel_rfl) rfl (by omega) encF_len encF_one own33 (by simp [maxLen]; omega) (by omega) x33.size ?_
  intro s' H35 ho35 hn35 m35
  have nout : ∀ p, TyB H33 p t_api_Bar → ∀ a, p = some a → a.block ∉ blkOf out.p := fun p hp a ha => ty_ne hp (own_ty own33) (by decide) a ha
  have hnb := blkOf_new own33.new
  have hlast : fnAt (T ++ [({ G with bars := B }, bs)]) T.length = { G with bars := B } := fnAt_last
  have hGv : ValidF { G with bars := B } := GOk.valid (T := T) ⟨h.gok.pa, h.gok.sl, h.gok.ve, h.gok.de, h.gok.pi, h.gok.vc⟩ sp sh nb (by show B.length ≤ regs G.bridge; omega) okb
  refine letV_mk _ rfl (next3 hkn hn ⟨T ++ [({ G with bars := B }, bs)], Bs2, ⟨Mods.ext x33 m35 hnb, ho35, by simp; omega, ?_, ?_, by simp; omega, ?_, bo33.mods m35 (fun a ha => ty_ne (own_ty bo33) (own_ty own33) (by decide) a ha), bn, b0, by simp; omega, ?_⟩⟩)
  · intro x hx
    simp only [List.mem_append, List.mem_singleton] at hx
    rcases hx with hx | rfl
    · exact (gt33.mods m35 nout) x hx
    · exact ⟨bs33.1.mods m35 (nout _ bs33.2), bs33.2.mods m35 (nout _ bs33.2)⟩
  · intro i hi
    by_cases e : i < T.length
    · exact (h.ok i e).append e
    · obtain rfl : i = T.length := by simp at hi; omega
      have hpa := h.gok.pa
      refine ⟨by rw [hlast]; exact hGv, by rw [hlast]; show -1 ≤ G.parent ∧ G.parent < _; omega, ?_, fun j hj hjj => h.un ?_⟩
      · rw [hlast]
        intro h0
        have h0' : 0 ≤ G.parent := h0
        show (fnAt _ G.parent.toNat).bridge = true
        rw [fnAt_append (by omega)]
        rcases hpa with e | ⟨_, _, e⟩
        · omega
        · exact e
      · rw [hlast, fnAt_append hj] at hjj
        refine List.mem_map.2 ⟨j, by simpa using hj, ?_⟩
        have e1 : (fnAt T j).parent = G.parent := hjj.1
        have e2 : (fnAt T j).slot = G.slot := hjj.2
        rw [e1, e2]
  · have := set33.mods m35 (fun hh => by
      have := (own_ty own33)
      cases hp : out.p with
      | none => rw [hp] at hh; simp [blkOf] at hh
      | some a =>
        rw [hp] at hh this
        simp only [blkOf, List.mem_singleton] at hh
        exact ps_nty set33 this a rfl hh.symm)
    rw [List.length_append, List.length_singleton, tab_succ, hlast]
    rw [tab_congr (g := fun i => ((fnAt T i).parent, (fnAt T i).slot)) (fun i hi => by rw [fnAt_append hi])]
    exact this
  · intro p hp
    rcases bb p hp with e | ⟨e1, e2, e3⟩ | ⟨e1, e2⟩
    · exact .inl e
    · refine .inr ⟨e1, by simp; omega, ?_⟩
      rw [fnAt_append (by omega)]
      exact e3
    · refine .inr ⟨by omega, by simp; omega, ?_⟩
      rw [e1, Int.toNat_natCast, hlast]
      exact e2

end Go.Proofs.Ytigcheamheiopaa
