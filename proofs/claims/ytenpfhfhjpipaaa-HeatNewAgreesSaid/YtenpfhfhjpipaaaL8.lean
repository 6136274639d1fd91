/-
  The law HeatNewAgrees, over the shallow readings.
-/
import Derived.Test.YtenpfhfhjpipaaaR3
import Derived.Test.YtenpfhfhjpipaaaL4
namespace Go.Proofs.Ytenpfhfhjpipaaa
open Go.Eng Go.Heat

open Classical in
noncomputable def bres (D : List Dom) (L : List Lnk) (amb : Int) (p : List Int) : Int × Int := if VS D L amb ∧ powOk p D.length = true then (amb + bndF D (fun i => p.getD i 0) D.length, 0) else (0, 1)

theorem BoundP.res {D : List Dom} {L : List Lnk} {amb : Int} {p : List Int} {H H' : Heap} {v : Value} (h : BoundP D L amb p H v H') : v = .tuple #[.int .i64 (bres D L amb p).1, .int .i64 (bres D L amb p).2] ∧ Ext H H' := by
  obtain ⟨⟨h1, h2, rfl⟩ | ⟨h1, rfl⟩, e⟩ := h
  · refine ⟨?_, e⟩
    unfold bres
    rw [if_pos ⟨h1, h2⟩]
  · refine ⟨?_, e⟩
    unfold bres
    rw [if_neg h1]

/-- One round: New and Bound agree on a system. -/
theorem na_round (R : Value → Heap → Prop) (H18 : Heap) (ds ls power : Sl) (D : List Dom) (L : List Lnk) (amb : Int) (pl : List Int) (hd : Doms H18 ds D) (hl : Lnks H18 ls L) (hp : Ints .i64 H18 power pl) (hll : L.length ≤ 1000) (hdl : D.length ≤ 1000) (hpl : pl.length ≤ 1000)
    (K : Heap → Prop) (hK : ∀ H', Ext H18 H' → K H') :
    letH (H18.push (.cells #[.slice none 0 0, .slice none 0 0, .int .i64 (0 : Int)] t_law38_System (0, 0))) (fun H19 : Heap =>
    okRow H19 (⟨H18.size, 0, none⟩ : Addr) 3 ∧ (
    letH (wrs H19 (⟨H18.size, 0, none⟩ : Addr) [.slice ds.p ds.n ds.c, .slice ls.p ls.n ls.c, .int .i64 amb]) (fun H20 : Heap =>
    ∃ x24 : Sl, rd H20 (⟨H18.size, 0, none⟩ : Addr) = some (.slice x24.p x24.n x24.c) ∧ (
    ∃ x25 : Sl, rd H20 ((⟨H18.size, 0, none⟩ : Addr).add 1) = some (.slice x25.p x25.n x25.c) ∧ (
    ∃ x26 : Int, rd H20 ((⟨H18.size, 0, none⟩ : Addr).add 2) = some (.int .i64 x26) ∧ (
    CallsH Try.prog n_heat_New #[.slice x24.p x24.n x24.c, .slice x25.p x25.n x25.c, .int .i64 x26] H20 (fun v7 H21 =>
    ∃ x27 : Option Addr, ∃ x28 : Int, v7 = .tuple #[.pointer x27, .int .i64 x28] ∧ (
    ∃ x29 : Sl, rd H21 (⟨H18.size, 0, none⟩ : Addr) = some (.slice x29.p x29.n x29.c) ∧ (
    ∃ x30 : Sl, rd H21 ((⟨H18.size, 0, none⟩ : Addr).add 1) = some (.slice x30.p x30.n x30.c) ∧ (
    ∃ x31 : Int, rd H21 ((⟨H18.size, 0, none⟩ : Addr).add 2) = some (.int .i64 x31) ∧ (
    CallsH Try.prog n_ref38_New #[.slice x29.p x29.n x29.c, .slice x30.p x30.n x30.c, .int .i64 x31] H21 (fun v8 H22 =>
    ∃ x32 : Option Addr, ∃ x33 : Int, v8 = .tuple #[.pointer x32, .int .i64 x33] ∧ (
    ∃ x34 : Sl, rd H22 (⟨H18.size, 0, none⟩ : Addr) = some (.slice x34.p x34.n x34.c) ∧ (
    CallsH Try.prog n_law38_Powers #[.slice power.p power.n power.c, .int .i64 (x34.n : Int), .int .i64 (200 : Int)] H22 (fun v9 H23 =>
    ∃ p : Sl, v9 = .slice p.p p.n p.c ∧ (
    ∃ x35 : Sl, rd H23 (⟨H18.size, 0, none⟩ : Addr) = some (.slice x35.p x35.n x35.c) ∧ (
    ∃ x36 : Sl, rd H23 ((⟨H18.size, 0, none⟩ : Addr).add 1) = some (.slice x36.p x36.n x36.c) ∧ (
    ∃ x37 : Int, rd H23 ((⟨H18.size, 0, none⟩ : Addr).add 2) = some (.int .i64 x37) ∧ (
    CallsH Try.prog n_heat_Bound #[.slice x35.p x35.n x35.c, .slice x36.p x36.n x36.c, .int .i64 x37, .slice p.p p.n p.c] H23 (fun v10 H24 =>
    ∃ x38 : Int, ∃ x39 : Int, v10 = .tuple #[.int .i64 x38, .int .i64 x39] ∧ (
    ∃ x40 : Sl, rd H24 (⟨H18.size, 0, none⟩ : Addr) = some (.slice x40.p x40.n x40.c) ∧ (
    ∃ x41 : Sl, rd H24 ((⟨H18.size, 0, none⟩ : Addr).add 1) = some (.slice x41.p x41.n x41.c) ∧ (
    ∃ x42 : Int, rd H24 ((⟨H18.size, 0, none⟩ : Addr).add 2) = some (.int .i64 x42) ∧ (
    CallsH Try.prog n_ref38_Bound #[.slice x40.p x40.n x40.c, .slice x41.p x41.n x41.c, .int .i64 x42, .slice p.p p.n p.c] H24 (fun v11 H25 =>
    ∃ x43 : Int, ∃ x44 : Int, v11 = .tuple #[.int .i64 x43, .int .i64 x44] ∧ (
    ∃ x45 : Sl, rd H25 (⟨H18.size, 0, none⟩ : Addr) = some (.slice x45.p x45.n x45.c) ∧ (
    ∃ x46 : Sl, rd H25 ((⟨H18.size, 0, none⟩ : Addr).add 1) = some (.slice x46.p x46.n x46.c) ∧ (
    ∃ x47 : Int, rd H25 ((⟨H18.size, 0, none⟩ : Addr).add 2) = some (.int .i64 x47) ∧ (
    CallsH Try.prog n_heat_Bound #[.slice x45.p x45.n x45.c, .slice x46.p x46.n x46.c, .int .i64 x47, .slice power.p power.n power.c] H25 (fun v12 H26 =>
    ∃ x48 : Int, ∃ x49 : Int, v12 = .tuple #[.int .i64 x48, .int .i64 x49] ∧ (
    ∃ x50 : Sl, rd H26 (⟨H18.size, 0, none⟩ : Addr) = some (.slice x50.p x50.n x50.c) ∧ (
    ∃ x51 : Sl, rd H26 ((⟨H18.size, 0, none⟩ : Addr).add 1) = some (.slice x51.p x51.n x51.c) ∧ (
    ∃ x52 : Int, rd H26 ((⟨H18.size, 0, none⟩ : Addr).add 2) = some (.int .i64 x52) ∧ (
    CallsH Try.prog n_ref38_Bound #[.slice x50.p x50.n x50.c, .slice x51.p x51.n x51.c, .int .i64 x52, .slice power.p power.n power.c] H26 (fun v13 H27 =>
    ∃ x53 : Int, ∃ x54 : Int, v13 = .tuple #[.int .i64 x53, .int .i64 x54] ∧ (
    iteB (x28 != x33) (
    R (.bool false) H27) (
    iteB (!(x27.isNone == (x28 != (0 : Int)))) (
    R (.bool false) H27) (
    iteB (x38 != x43) (
    R (.bool false) H27) (
    iteB (x39 != x44) (
    R (.bool false) H27) (
    iteB (x48 != x53) (
    R (.bool false) H27) (
    iteB (x49 != x54) (
    R (.bool false) H27) (
    K H27)))))))))))))))))))))))))))))))))))))))))) := by
  refine local_mk (by simp) (by simp) ?_
  intro H20 e20 z20 b20
  refine ⟨ds, b20.rd0 rfl, ls, b20.rd (i := 1) rfl, amb, b20.rd (i := 2) rfl, ?_⟩
  refine (New_spec H20 ds ls D L amb (hd.ext e20) (hl.ext e20) hll).mono ?_
  intro v H21 hnew
  obtain ⟨x27, x28, rfl, hx, e21⟩ : ∃ (x27 : Option Addr) (x28 : Int), v = .tuple #[.pointer x27, .int .i64 x28] ∧ ((VS D L amb ∧ x28 = 0 ∧ x27.isNone = false) ∨ (¬ VS D L amb ∧ x28 = 1 ∧ x27.isNone = true)) ∧ Ext H20 H21 := by
    rcases hnew with ⟨hv, b, be, rfl, _, _, _, e⟩ | ⟨hv, rfl, e⟩
    · exact ⟨_, _, rfl, .inl ⟨hv, rfl, rfl⟩, e⟩
    · exact ⟨_, _, rfl, .inr ⟨hv, rfl, rfl⟩, e⟩
  have b21 := b20.ext e21
  refine ⟨x27, x28, rfl, ds, b21.rd0 rfl, ls, b21.rd (i := 1) rfl, amb, b21.rd (i := 2) rfl, ?_⟩
  have E21 := e20.trans e21
  refine (rNew_spec (fun _ => True) H21 ds ls D L amb (hd.ext E21) (hl.ext E21) hll).mono ?_
  intro v H22 hrnew
  obtain ⟨x32, x33, rfl, hy, e22⟩ : ∃ (x32 : Option Addr) (x33 : Int), v = .tuple #[.pointer x32, .int .i64 x33] ∧ ((VS D L amb ∧ x33 = 0) ∨ (¬ VS D L amb ∧ x33 = 1)) ∧ Ext H21 H22 := by
    rcases hrnew with ⟨⟨hv, b, be, rfl, _⟩ | ⟨hv, rfl⟩, e⟩
    · exact ⟨_, _, rfl, .inl ⟨hv, rfl⟩, e⟩
    · exact ⟨_, _, rfl, .inr ⟨hv, rfl⟩, e⟩
  have b22 := b21.ext e22
  have E22 := E21.trans e22
  refine ⟨x32, x33, rfl, ds, b22.rd0 rfl, ?_⟩
  rw [hd.len]
  refine (Powers_run H22 power pl D.length 200 (hp.ext E22) (by omega) (by omega)).mono ?_
  rintro v H23 ⟨p, rfl, _, ip, _, _, e23⟩
  have b23 := b22.ext e23
  have E23 := E22.trans e23
  refine ⟨p, rfl, ds, b23.rd0 rfl, ls, b23.rd (i := 1) rfl, amb, b23.rd (i := 2) rfl, ?_⟩
  have hql : (tab D.length (powersF pl 200)).length ≤ 9223372036854775807 := by rw [tab_length]; omega
  generalize tab D.length (powersF pl 200) = q at ip hql
  refine (Bound_spec H23 ds ls p D L amb q (hd.ext E23) (hl.ext E23) hll ip hql).mono ?_
  intro v H24 hb24
  obtain ⟨rfl, e24⟩ := hb24.res
  have b24 := b23.ext e24
  have E24 := E23.trans e24
  refine ⟨_, _, rfl, ds, b24.rd0 rfl, ls, b24.rd (i := 1) rfl, amb, b24.rd (i := 2) rfl, ?_⟩
  refine (rBound_spec H24 ds ls p D L amb q (hd.ext E24) (hl.ext E24) hll (ip.ext e24) hql).mono ?_
  intro v H25 hb25
  obtain ⟨rfl, e25⟩ := hb25.res
  have b25 := b24.ext e25
  have E25 := E24.trans e25
  refine ⟨_, _, rfl, ds, b25.rd0 rfl, ls, b25.rd (i := 1) rfl, amb, b25.rd (i := 2) rfl, ?_⟩
  refine (Bound_spec H25 ds ls power D L amb pl (hd.ext E25) (hl.ext E25) hll (hp.ext E25) (by omega)).mono ?_
  intro v H26 hb26
  obtain ⟨rfl, e26⟩ := hb26.res
  have b26 := b25.ext e26
  have E26 := E25.trans e26
  refine ⟨_, _, rfl, ds, b26.rd0 rfl, ls, b26.rd (i := 1) rfl, amb, b26.rd (i := 2) rfl, ?_⟩
  refine (rBound_spec H26 ds ls power D L amb pl (hd.ext E26) (hl.ext E26) hll (hp.ext E26) (by omega)).mono ?_
  intro v H27 hb27
  obtain ⟨rfl, e27⟩ := hb27.res
  refine ⟨_, _, rfl, iteB_neg ?_ (iteB_neg ?_ (iteB_neg (by simp) (iteB_neg (by simp) (iteB_neg (by simp) (iteB_neg (by simp) (hK H27 (E26.trans e27)))))))⟩
  · rcases hx with ⟨h1, rfl, _⟩ | ⟨h1, rfl, _⟩ <;> rcases hy with ⟨h2, rfl⟩ | ⟨h2, rfl⟩
    · rfl
    · exact absurd h1 h2
    · exact absurd h2 h1
    · rfl
  · rcases hx with ⟨_, rfl, h1⟩ | ⟨_, rfl, h1⟩ <;> rw [h1] <;> rfl

theorem na_r1 (R : Value → Heap → Prop) (H18 : Heap) (ds ls pw d1 l1 d2 l2 : Sl) (D0 D1 D2 : List Dom) (L0 L1 L2 : List Lnk) (amb a1 a2 : Int) (pl : List Int) (I_ : Int → Heap → Prop) (M_ : Int → Heap → Nat) (x : Int)
    (hd0 : Doms H18 ds D0) (hl0 : Lnks H18 ls L0) (hd1 : Doms H18 d1 D1) (hl1 : Lnks H18 l1 L1) (hd2 : Doms H18 d2 D2) (hl2 : Lnks H18 l2 L2) (hp : Ints .i64 H18 pw pl)
    (hs0 : L0.length ≤ 1000 ∧ D0.length ≤ 1000) (hs1 : L1.length ≤ 1000 ∧ D1.length ≤ 1000) (hs2 : L2.length ≤ 1000 ∧ D2.length ≤ 1000) (hpl : pl.length ≤ 1000) (hx0 : 0 ≤ x)
    (hfin : x < 3 → ∀ H', Ext H18 H' → I_ (IntKind.i64.wrap (x + 1)) H' ∧ M_ (IntKind.i64.wrap (x + 1)) H' < M_ x H18) (hend : ∀ H', Ext H18 H' → R (.bool true) H') :
    F_law38_HeatNewAgrees_r1 R ds ls amb pw d1 l1 a1 d2 l2 a2 I_ M_ x H18 := by
  unfold F_law38_HeatNewAgrees_r1
  refine iteB_intro (fun c => ?_) (fun c => ?_)
  · have hx3 : x < 3 := by simpa using c
    refine ⟨hx0, by simpa using hx3, iteB_intro (fun c0 => ?_) (fun c0 => iteB_intro (fun c1 => ?_) (fun c1 => iteB_pos ?_ ?_))⟩
    · exact na_round R H18 ds ls pw D0 L0 amb pl hd0 hl0 hp hs0.1 hs0.2 hpl (fun H' => I_ (IntKind.i64.wrap (x + 1)) H' ∧ M_ (IntKind.i64.wrap (x + 1)) H' < M_ x H18) (hfin hx3)
    · exact na_round R H18 d1 l1 pw D1 L1 a1 pl hd1 hl1 hp hs1.1 hs1.2 hpl (fun H' => I_ (IntKind.i64.wrap (x + 1)) H' ∧ M_ (IntKind.i64.wrap (x + 1)) H' < M_ x H18) (hfin hx3)
    · have h0 : x ≠ 0 := by simpa using c0
      have h1 : x ≠ 1 := by simpa using c1
      simp
      omega
    · exact na_round R H18 d2 l2 pw D2 L2 a2 pl hd2 hl2 hp hs2.1 hs2.2 hpl (fun H' => I_ (IntKind.i64.wrap (x + 1)) H' ∧ M_ (IntKind.i64.wrap (x + 1)) H' < M_ x H18) (hfin hx3)
  · refine (awake_spec H18).mono ?_
    rintro v H' ⟨rfl, e⟩
    exact ⟨true, rfl, hend H' e⟩

theorem law_newAgrees (H : Heap) (ds ls pw : Sl) (D0 : List Dom) (L0 : List Lnk) (amb0 : Int) (pl : List Int) (kk v how : Int) (hd : Doms H ds D0) (hl : Lnks H ls L0) (hp : Ints .i64 H pw pl) :
    CallsH Try.prog n_law38_HeatNewAgrees #[.slice ds.p ds.n ds.c, .slice ls.p ls.n ls.c, .int .i64 amb0, .slice pw.p pw.n pw.c, .int .i64 kk, .int .i64 v, .int .u8 how] H (fun v H' => v = .bool true ∧ Ext H H') := by
  refine F_law38_HeatNewAgrees_ok _ _ _ _ _ _ _ ?_
  unfold F_law38_HeatNewAgrees
  rw [hd.len, hl.len, hp.len]
  refine ⟨fun x H' => H' = H ∧ (x = false → D0.length ≤ 20 ∧ L0.length ≤ 20 ∧ pl.length ≤ 20), ?_, ?_⟩
  · refine iteB_intro (fun c => ⟨rfl, fun h => by cases h⟩) (fun c => iteB_intro (fun c2 => ⟨rfl, fun h => by cases h⟩) (fun c2 => ⟨rfl, fun h => ?_⟩))
    have c1 : ¬ ((D0.length : Int) > 20) := by simpa using c
    have c2 : ¬ ((L0.length : Int) > 20) := by simpa using c2
    have c3 : ¬ ((pl.length : Int) > 20) := by simpa using h
    omega
  rintro x H1 ⟨rfl, hx⟩
  unfold F_law38_HeatNewAgrees_k3
  refine iteB_intro (fun c => ?_) (fun c => ?_)
  · refine (awake_spec H1).mono ?_
    rintro v H' ⟨rfl, e⟩
    exact ⟨true, rfl, rfl, e⟩
  obtain ⟨hd20, hl20, hp20⟩ := hx c
  refine (Some_spec H1 ds ls D0 L0 amb0 hd hl).mono ?_
  rintro v H3 ⟨bd, sl, D, L, amb, rfl, hs, hbd, rd3, ol3, e3⟩
  refine ⟨⟨some ⟨bd, 0, none⟩, D.length, D.length⟩, sl, amb, rfl, local_mk (by simp) (by simp) ?_⟩
  intro H5 e5 z5 b5
  have rd5 := rd3.ext e5
  have ol5 := ol3.ext e5
  have eH5 : Ext H1 H5 := e3.trans e5
  refine (Some_spec H5 ds ls D0 L0 amb0 (hd.ext eH5) (hl.ext eH5)).mono ?_
  rintro v H6 ⟨bt, st, Dt, Lt, at', rfl, ht, hbt, rd6, ol6, e6⟩
  refine ⟨⟨some ⟨bt, 0, none⟩, Dt.length, Dt.length⟩, st, at', rfl, local_mk (by simp) (by simp) ?_⟩
  intro H8 e8 z8 b8
  have rd8 := rd6.ext e8
  have ol8 := ol6.ext e8
  have e58 := e6.trans e8
  have z6 := e6.size
  have hn1 := ht.vs.n1
  have hn5 := ht.n5
  have hl12 := ht.l12
  have hbtl := rd6.lt
  have holt := ol6.lt
  refine ⟨⟨some ⟨bt, 0, none⟩, Dt.length, Dt.length⟩, b8.rd0 rfl, ?_⟩
  refine (Mod_spec kk Dt.length H8 (by omega) (by omega)).mono ?_
  rintro v9 H9 ⟨rfl, rfl⟩
  have hi := modI_range kk (n := (Dt.length : Int)) (by omega)
  generalize modI kk Dt.length = i at hi
  have hin : i.toNat < Dt.length := by omega
  refine ⟨i, rfl, fun H' => Ext H5 H' ∧ ∃ (D' : List Dom) (L' : List Lnk) (a' : Int) (s' : Sl), Blk H' H6.size t_law38_System [.slice (some ⟨bt, 0, none⟩) Dt.length Dt.length, .slice s'.p s'.n s'.c, .int .i64 a'] ∧ D'.length = Dt.length ∧ L'.length ≤ 13 ∧
      RB H' bt t_api_HeatDomain 2 encD D' ∧ Lnks H' s' L', ?_, ?_⟩
  · have l8 : Lnks H9 st Lt := ol8.isS encL_len (by omega)
    have wrD : ∀ (H' : Heap) (D' : List Dom), Mods [bt] H9 H' → D'.length = Dt.length → RB H' bt t_api_HeatDomain 2 encD D' → Ext H5 H' ∧ ∃ (D' : List Dom) (L' : List Lnk) (a' : Int) (s' : Sl), Blk H' H6.size t_law38_System [.slice (some ⟨bt, 0, none⟩) Dt.length Dt.length, .slice s'.p s'.n s'.c, .int .i64 a'] ∧ D'.length = Dt.length ∧ L'.length ≤ 13 ∧
        RB H' bt t_api_HeatDomain 2 encD D' ∧ Lnks H' s' L' := by
      intro H' D' m' hlen hrb
      refine ⟨Mods.ext e58 m' (by simpa using hbt), D', Lt, at', st, b8.mods m' (by simp; omega), hlen, by omega, hrb, l8.mods m' (fun x hx => ?_)⟩
      have := ol8.new x hx
      simp
      omega
    have wr0 : ∀ (X : Int) (H10 : Heap), H10 = wrs H9 ((⟨bt, 0, none⟩ : Addr).add (i.toNat * 2)) [.int .i64 X] → Ext H5 H10 ∧ ∃ (D' : List Dom) (L' : List Lnk) (a' : Int) (s' : Sl), Blk H10 H6.size t_law38_System [.slice (some ⟨bt, 0, none⟩) Dt.length Dt.length, .slice s'.p s'.n s'.c, .int .i64 a'] ∧ D'.length = Dt.length ∧ L'.length ≤ 13 ∧
        RB H10 bt t_api_HeatDomain 2 encD D' ∧ Lnks H10 s' L' := by
      intro X H10 h10
      refine wrD H10 (Dt.set i.toNat (X, ambOf Dt i.toNat)) (by rw [h10]; exact mods_wr_add (by simp)) (by simp) ?_
      rw [h10]
      exact rd8.wr0 (dom_get hin) (by omega) rfl
    refine iteB_intro (fun c => ?_) (fun c => iteB_intro (fun c => ?_) (fun c => iteB_intro (fun c => ?_) (fun c => iteB_intro (fun c => ?_) (fun c => iteB_intro (fun c => ?_) (fun c => ?_)))))
    · refine ⟨⟨some ⟨bt, 0, none⟩, Dt.length, Dt.length⟩, b8.rd0 rfl, ⟨some ⟨bt, 0, none⟩, Dt.length, Dt.length⟩, b8.rd0 rfl, hi.1, hi.2, ?_⟩
      refine ⟨_, rd8.rd0 (dom_get hin) rfl, hi.1, hi.2, rd8.ok0 hin (by omega), letH_mk ?_⟩
      exact fun H10 h10 => wr0 _ H10 h10
    · refine ⟨⟨some ⟨bt, 0, none⟩, Dt.length, Dt.length⟩, b8.rd0 rfl, hi.1, hi.2, rd8.ok hin (by omega), letH_mk ?_⟩
      intro H10 h10
      refine wrD H10 (Dt.set i.toNat (capOf Dt i.toNat, v)) (by rw [h10, add_add]; exact mods_wr_add (by simp)) (by simp) ?_
      rw [h10]
      exact rd8.wr (dom_get hin) (by omega) rfl
    · refine ⟨b8.ok (i := 2) (n := 1) (by simp), letH_mk ?_⟩
      intro H10 h10
      have m10 : Mods [H6.size] H9 H10 := by rw [h10]; exact mods_wr_add (by simp)
      refine ⟨Mods.ext e58 m10 (by simpa using z6), Dt, Lt, v, st, by rw [h10]; exact b8.wr1, rfl, by omega, rd8.mods m10 (by simp; omega), l8.mods m10 (fun x hx => ?_)⟩
      have := holt x hx
      simp
      omega
    · refine ⟨st, b8.rd (i := 1) rfl, Mod_pure _ _ (by omega) (by omega) ⟨_, rfl, ?_⟩⟩
      refine append_rowE (P := Try.prog) (st := t_sl_api_HeatLink) (e := t_api_HeatLink) (x := ((i, _, _) : Lnk)) (z := .agg #[.int .i64 0, .int .i64 0, .int .i64 0]) (sz := 3) (bytes := 24) (enc := encL) (by kernel_rfl) (by kernel_rfl) rfl (by omega) encL_len oneL ol8 (by have := l8.len; simp [maxLen]; omega) (by have := l8.len; omega) (by omega) ?_
      intro s' H14 o14 hn14 m14
      have hblk : ∀ y, y ∈ blkOf st.p → bt + 2 ≤ y := own_blk ol8
      have hblk2 : ∀ y, y ∈ blkOf st.p → y < H6.size := by
        intro y hy
        cases hpp : st.p with
        | none => rw [hpp] at hy; simp [blkOf] at hy
        | some a =>
          rw [hpp] at hy
          simp [blkOf] at hy
          have := holt a hpp
          omega
      have b14 := b8.mods m14 (fun h => by have := hblk2 _ h; omega)
      have rd14 := rd8.mods m14 (fun h => by have := hblk _ h; omega)
      have e14 : Ext H5 H14 := Mods.ext e58 m14 (fun y hy => by have := hblk y hy; omega)
      refine ⟨b14.ok (i := 1) (n := 1) (by simp), letH_mk ?_⟩
      intro H15 h15
      have m15 : Mods [H6.size] H14 H15 := by rw [h15]; exact mods_wr_add (by simp)
      have l14 : Lnks H14 s' (Lt ++ [_]) := o14.isS encL_len (by omega)
      refine ⟨Mods.ext e14 m15 (by simpa using z6), Dt, Lt ++ [_], at', s', by rw [h15]; exact b14.wr1, rfl, by simp; omega, rd14.mods m15 (by simp; omega), l14.mods m15 (fun x hx => ?_)⟩
      rcases o14.cases.2 with ⟨h0, _⟩ | ⟨g, cur, hg, _, hcur, _⟩
      · rw [h0] at hx; cases hx
      · rw [hg] at hx
        cases hx
        simp only [List.mem_singleton]
        rintro rfl
        unfold Blk at b14
        rw [hcur] at b14
        simp only [Option.some.injEq, Obj.cells.injEq] at b14
        exact absurd b14.2.1 (by decide)
    · refine ⟨⟨some ⟨bt, 0, none⟩, Dt.length, Dt.length⟩, b8.rd0 rfl, hi.1, hi.2, rd8.ok0 hin (by omega), letH_mk ?_⟩
      exact fun H10 h10 => wr0 _ H10 h10
    · exact wrD H9 Dt (Mods.refl _ _) rfl rd8
  rintro H17 ⟨e17, D', L', a', s', b17, hD', hL', rd17, l17⟩
  unfold F_law38_HeatNewAgrees_k2
  have bs17 := b5.ext e17
  refine ⟨_, bs17.rd0 rfl, sl, bs17.rd (i := 1) rfl, amb, bs17.rd (i := 2) rfl, ⟨some ⟨bt, 0, none⟩, Dt.length, Dt.length⟩, b17.rd0 rfl, s', b17.rd (i := 1) rfl, a', b17.rd (i := 2) rfl, ?_⟩
  have e117 : Ext H1 H17 := eH5.trans e17
  refine ⟨fun x H' => Ext H17 H' ∧ 0 ≤ x ∧ x ≤ 3, fun x _ => (3 - x).toNat, ⟨Ext.refl _, by omega, by omega⟩, ?_⟩
  rintro x H18 ⟨e18, hx0, hx3⟩
  have E18 := e117.trans e18
  refine na_r1 _ H18 ds ls pw ⟨some ⟨bd, 0, none⟩, D.length, D.length⟩ sl ⟨some ⟨bt, 0, none⟩, Dt.length, Dt.length⟩ s' D0 D D' L0 L L' amb0 amb a' pl _ _ x (hd.ext E18) (hl.ext E18) (((rd5.ext e17).ext e18).isS D.length D.length rfl) (((ol5.ext e17).ext e18).isS encL_len (by omega))
    ((rd17.ext e18).isS Dt.length Dt.length hD'.symm) (l17.ext e18) (hp.ext E18) (by omega) (by have := hs.l12; have := hs.n5; omega) (by omega) (by omega) hx0 ?_ ?_
  · intro hx3 H' e
    rw [i64_in (n := x + 1) (by omega)]
    exact ⟨⟨e18.trans e, by omega, by omega⟩, by omega⟩
  · exact fun H' e => ⟨rfl, E18.trans e⟩

end Go.Proofs.Ytenpfhfhjpipaaa
