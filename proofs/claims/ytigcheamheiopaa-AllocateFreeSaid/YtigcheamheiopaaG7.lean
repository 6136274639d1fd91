/-
  The contract of the generator's Topology, whole.
-/
import Derived.Test.YtigcheamheiopaaG6
namespace Go.Proofs.Ytigcheamheiopaa
open Go.Eng

def vecs : List Value := [.int .i64 0, .int .i64 1, .int .i64 2, .int .i64 4, .int .i64 16, .int .i64 32]
theorem vecs_at {x : Int} (h0 : 0 ≤ x) (h1 : x < 6) : ∃ v, vecs[x.toNat * 1]? = some (.int .i64 v) ∧ (v = 0 ∨ v = 1 ∨ v = 2 ∨ v = 4 ∨ v = 16 ∨ v = 32) := by
  rcases (by omega : x = 0 ∨ x = 1 ∨ x = 2 ∨ x = 3 ∨ x = 4 ∨ x = 5) with rfl | rfl | rfl | rfl | rfl | rfl
  · exact ⟨0, rfl, by omega⟩
  · exact ⟨1, rfl, by omega⟩
  · exact ⟨2, rfl, by omega⟩
  · exact ⟨4, rfl, by omega⟩
  · exact ⟨16, rfl, by omega⟩
  · exact ⟨32, rfl, by omega⟩

/-- What holds when the new function is made. -/
def GN (H3 : Heap) (f : Fn) (fs : Sl) (T : List FS) (g : Addr) (H : Heap) : Prop := ∃ gb G, g = ⟨gb, 0, none⟩ ∧ H3.size < gb ∧ Blk H gb t_api_Function (fnL G ⟨none, 0, 0⟩) ∧ Blk H H3.size t_api_Function (fnL f fs) ∧ GOk T G ∧ G.pref = false ∧ G.hot = false ∧ G.spare = 0 ∧ Ext H3 H

theorem topo_leaf {H3 H5 : Heap} {f : Fn} {fs : Sl} {T : List FS} (e5 : Ext H3 H5) (z5 : H5.size = H3.size + 1) (b5 : Blk H5 H3.size t_api_Function (fnL f fs)) {x : Int} (h0 : 0 ≤ x) (h1 : x < 6) (G : Int → Fn) (hG : ∀ v, (v = 0 ∨ v = 1 ∨ v = 2 ∨ v = 4 ∨ v = 16 ∨ v = 32) → GOk T (G v) ∧ (G v).pref = false ∧ (G v).hot = false ∧ (G v).spare = 0)
    (l1 l2 l3 l4 : List (Addr × Nat)) :
    (letH (H5.push (.cells vecs.toArray t_int (0, 0))) (fun H6 : Heap => Keeps H5 H6 l1 ∧ (0 ≤ x ∧ x < (6 : Int) ∧ (∃ x25 : Int, rd H6 ((⟨H5.size, 0, none⟩ : Addr).add (x.toNat * 1)) = some (.int .i64 x25) ∧ (
      letH (H6.push (.cells (fnL ⟨0, 0, 0, 0, false, false, false, 0, 0, 0, []⟩ ⟨none, 0, 0⟩).toArray t_api_Function (0, 0))) (fun H7 : Heap => Keeps H6 H7 l2 ∧ (okRow H7 (⟨H6.size, 0, none⟩ : Addr) 11 ∧ (
        letH (wrs H7 (⟨H6.size, 0, none⟩ : Addr) (fnL (G x25) ⟨none, 0, 0⟩)) (fun H8 : Heap => GN H3 f fs T (⟨H6.size, 0, none⟩ : Addr) H8)))))))) ) ∧
    (letH (H5.push (.cells (fnL ⟨0, 0, 0, 0, false, false, false, 0, 0, 0, []⟩ ⟨none, 0, 0⟩).toArray t_api_Function (0, 0))) (fun H9 : Heap => Keeps H5 H9 l3 ∧ (
      letH (H9.push (.cells vecs.toArray t_int (0, 0))) (fun H10 : Heap => Keeps H9 H10 l4 ∧ (0 ≤ x ∧ x < (6 : Int) ∧ (∃ x26 : Int, rd H10 ((⟨H9.size, 0, none⟩ : Addr).add (x.toNat * 1)) = some (.int .i64 x26) ∧ (okRow H10 (⟨H5.size, 0, none⟩ : Addr) 11 ∧ (
        letH (wrs H10 (⟨H5.size, 0, none⟩ : Addr) (fnL (G x26) ⟨none, 0, 0⟩)) (fun H11 : Heap => GN H3 f fs T (⟨H5.size, 0, none⟩ : Addr) H11)))))))) ) := by
  obtain ⟨v, hv, hvv⟩ := vecs_at h0 h1
  obtain ⟨g1, g2, g3, g4⟩ := hG v hvv
  constructor
  · refine push_mk fun H6 e6 z6 b6 => ⟨e6.keeps, h0, h1, v, b6.rd hv, push_mk fun H7 e7 z7 b7 => ⟨e7.keeps, b7.ok0 (by simp), letH_mk ?_⟩⟩
    rintro H8 rfl
    have mm : Mods [H6.size] H7 (wrs H7 (⟨H6.size, 0, none⟩ : Addr) (fnL (G v) ⟨none, 0, 0⟩)) := Mods.wrs (by simp)
    exact ⟨H6.size, G v, rfl, by omega, b7.wr, ((b5.ext e6).ext e7).mods mm (by simp; omega), g1, g2, g3, g4, Mods.ext ((e5.trans e6).trans e7) mm (by simp; omega)⟩
  · refine push_mk fun H9 e9 z9 b9 => ⟨e9.keeps, push_mk fun H10 e10 z10 b10 => ⟨e10.keeps, h0, h1, v, b10.rd hv, (b9.ext e10).ok0 (by simp), letH_mk ?_⟩⟩
    rintro H11 rfl
    have mm : Mods [H5.size] H10 (wrs H10 (⟨H5.size, 0, none⟩ : Addr) (fnL (G v) ⟨none, 0, 0⟩)) := Mods.wrs (by simp)
    exact ⟨H5.size, G v, rfl, by omega, (b9.ext e10).wr, ((b5.ext e9).ext e10).mods mm (by simp; omega), g1, g2, g3, g4, Mods.ext ((e5.trans e9).trans e10) mm (by simp; omega)⟩

theorem gTopoO_spec (H : Heap) (s : Sl) (L : List FS) (most : Nat) (hm : most ≤ 64) (h : Topo H s L) (hl : L.length ≤ 9223372036854775807) (hb : ∀ x ∈ L, x.1.bars.length ≤ 9223372036854775807) :
    CallsH Try.prog n_gen_Topology #[.slice s.p s.n s.c, .int .i64 most] H (GTopoO most H) := by
  refine F_gen_Topology_ok _ _ ?_
  unfold F_gen_Topology
  refine letH_mk ?_
  intro H1 h1
  have e1 : Ext H H1 := by rw [h1]; exact Ext.push _ _
  have s1 : PSet H1 H.size [] := by rw [h1]; exact PSet.new H
  have z1 : H1.size = H.size + 1 := by rw [h1]; simp
  clear h1
  refine push_mk (vs := encI .i64 (-1)) fun H2 e2 z2 b2 => ?_
  have hn := h.len
  have b0 : Own H.size t_int 1 H2 ⟨some ⟨H1.size, 0, none⟩, 1, 1⟩ (([-1] : List Int).flatMap (encI .i64)) := Own.of_blk b2 rfl (by omega) (by simp [maxLen])
  refine loop3 L.length (GI H most) ⟨[], [-1], ⟨e1.trans e2, Own.nil _ _ _ _, rfl, fun x hx => by simp at hx, fun i hi => by simp at hi, by simp, s1.ext e2, b0, rfl, by simp, by simp, fun p hp => .inl (by simpa using hp)⟩⟩ ?_
  rintro k out bridges H3 hk ⟨T, Bs, h3⟩
  unfold F_gen_Topology_r5
  refine iteB_dec (fun c1 => iteB_dec (fun c2 => ?_) (fun _ => h3.done hm)) (fun _ => h3.done hm)
  have hkn : k < L.length := by omega
  have h3n := h3.n
  have hlt : T.length < most := by omega
  obtain ⟨a, hp, hr⟩ := (h.ext h3.ext).at hkn
  obtain ⟨p0, p1, p2, p3, p4, p5, p6, p7, p8, p9, p10⟩ := rdFn hr
  refine ⟨by omega, by omega, unSome_mk hp ⟨_, p0, _, p1, _, p2, _, p3, _, p4, _, p5, _, p6, _, p7, _, p8, _, p9, slAt L k, p10, local_mk (vs := fnL (fnAt L k) (slAt L k)) rfl rfl fun H5 e5 z5 b5 => ?_⟩⟩
  have hfs := h.barsAt hkn
  have hfl : (fnAt L k).bars.length ≤ 9223372036854775807 := by
    have : L.getD k zF = L[k] := by simp [List.getD, hkn]
    unfold fnAt
    rw [this]
    exact hb _ (List.getElem_mem hkn)
  generalize fnAt L k = f at *
  generalize slAt L k = fs at *
  obtain ⟨q0, q1, q2, q3, q4, q5, q6, q7, q8, q9, q10⟩ := Blk.fn b5
  have hbn := h3.bn
  have hb0 := h3.b0
  have hbl := h3.bl
  have hmp := modI_range f.parent (n := (bridges.n : Int)) (by omega)
  have hints : Ints .i64 H5 bridges Bs := (h3.bown.ext e5).isS (ints_row _) (by omega)
  obtain ⟨a1, hp1, hr1⟩ := hints.at hmp.1 (by omega)
  have hpar : Bs.getD (modI f.parent bridges.n).toNat 0 ∈ Bs := by
    have : (modI f.parent bridges.n).toNat < Bs.length := by omega
    simp [List.getD, this]
  have hpa := h3.bb _ hpar
  generalize Bs.getD (modI f.parent bridges.n).toNat 0 = par at *
  have m8 := modI_range f.slot (n := 8) (by omega)
  have m9 := modI_range f.vendor (n := 9) (by omega)
  have m9' := modI_range f.device (n := 9) (by omega)
  have m5 := modI_range f.pin (n := 5) (by omega)
  have m6 := modI_range f.vec (n := 6) (by omega)
  have hG : ∀ (br : Bool) (v : Int), (v = 0 ∨ v = 1 ∨ v = 2 ∨ v = 4 ∨ v = 16 ∨ v = 32) → GOk T ⟨par, modI f.slot 8, IntKind.i64.wrap (1 + modI f.vendor 9), modI f.device 9, br, false, false, 0, modI f.pin 5, v, []⟩ := fun br v hv => by
    refine ⟨hpa, by dsimp only; omega, ?_, by dsimp only; omega, by dsimp only; omega, hv⟩
    show 1 ≤ IntKind.i64.wrap (1 + modI f.vendor 9) ∧ IntKind.i64.wrap (1 + modI f.vendor 9) ≤ 9
    rw [i64_in (by omega)]
    omega
  refine ⟨GN H3 f fs T, ⟨_, q0, Mod_pure _ _ (by omega) (by omega) ⟨_, rfl, hmp.1, hmp.2, unSome_mk hp1 ⟨_, hr1, _, q1, Mod_pure _ _ (by omega) (by omega) ⟨_, rfl, _, q2, Mod_pure _ _ (by omega) (by omega) ⟨_, rfl, _, q3, Mod_pure _ _ (by omega) (by omega) ⟨_, rfl, _, q4, iteB_intro (fun c3 => ?_) (fun c3 => ?_)⟩⟩⟩⟩⟩⟩, ?_⟩
  · refine ⟨_, q8, Mod_pure _ _ (by omega) (by omega) ⟨_, rfl, _, q9, Mod_pure _ _ (by omega) (by omega) ⟨_, rfl, ?_⟩⟩⟩
    exact topo_leaf e5 z5 b5 m6.1 m6.2 (fun v => ⟨par, modI f.slot 8, IntKind.i64.wrap (1 + modI f.vendor 9), modI f.device 9, true, false, false, 0, modI f.pin 5, v, []⟩) (fun v hv => ⟨hG true v hv, rfl, rfl, rfl⟩) _ _ _ _
  · refine ⟨_, q2, Mod_pure _ _ (by omega) (by omega) ⟨_, rfl, _, q8, Mod_pure _ _ (by omega) (by omega) ⟨_, rfl, _, q9, Mod_pure _ _ (by omega) (by omega) ⟨_, rfl, ?_⟩⟩⟩⟩
    exact topo_leaf e5 z5 b5 m6.1 m6.2 (fun v => ⟨par, modI f.slot 8, IntKind.i64.wrap (1 + modI f.vendor 9), modI f.device 9, modI f.vendor 3 == 0, false, false, 0, modI f.pin 5, v, []⟩) (fun v hv => ⟨hG _ v hv, rfl, rfl, rfl⟩) _ _ _ _
  · rintro g H18 ⟨gb, G, rfl, gn, g18, f18, gok, hpr, hho, hsp, e18⟩
    exact topo_k4 H most hm L.length k hkn hl H3 out bridges T Bs h3 hlt gb H18 f fs G hfs hfl gn g18 f18 gok hpr hho hsp e18

theorem gTopoT_spec (H : Heap) (s : Sl) (L : List FS) (most : Nat) (hm : most ≤ 64) (h : Topo H s L) (hl : L.length ≤ 9223372036854775807) (hb : ∀ x ∈ L, x.1.bars.length ≤ 9223372036854775807) :
    CallsH Try.prog n_gen_Topology #[.slice s.p s.n s.c, .int .i64 most] H (GTopoT most H) :=
  (gTopoO_spec H s L most hm h hl hb).mono (fun _ _ h => h.to)
theorem gTopo_spec (H : Heap) (s : Sl) (L : List FS) (most : Nat) (hm : most ≤ 64) (h : Topo H s L) (hl : L.length ≤ 9223372036854775807) (hb : ∀ x ∈ L, x.1.bars.length ≤ 9223372036854775807) :
    CallsH Try.prog n_gen_Topology #[.slice s.p s.n s.c, .int .i64 most] H (GTopo most H) :=
  (gTopoT_spec H s L most hm h hl hb).mono (fun _ _ h => h.to)

end Go.Proofs.Ytigcheamheiopaa
