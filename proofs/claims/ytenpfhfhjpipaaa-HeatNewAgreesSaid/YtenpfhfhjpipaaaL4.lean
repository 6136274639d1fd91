/-
  The law HeatBoundHolds, over the shallow readings.
-/
import Derived.Test.YtenpfhfhjpipaaaL3p
import Derived.Test.YtenpfhfhjpipaaaC9
namespace Go.Proofs.Ytenpfhfhjpipaaa
open Go.Eng Go.Heat

theorem law_boundHolds (H : Heap) (ds ls ms pw : Sl) (D0 : List Dom) (L0 : List Lnk) (amb0 : Int) (most : List Int) (pws : List (List Int)) (hd : Doms H ds D0) (hl : Lnks H ls L0) (hmost : Ints .i64 H ms most) (hp : IRows .i64 H pw pws) :
    CallsH Try.prog n_law38_HeatBoundHolds #[.slice ds.p ds.n ds.c, .slice ls.p ls.n ls.c, .int .i64 amb0, .slice ms.p ms.n ms.c, .slice pw.p pw.n pw.c] H (fun v H' => v = .bool true ∧ Ext H H') := by
  refine F_law38_HeatBoundHolds_ok _ _ _ _ _ ?_
  unfold F_law38_HeatBoundHolds
  rw [hp.len]
  refine iteB_intro (fun c => ?_) (fun c => ?_)
  · refine (awake_spec H).mono ?_
    rintro v H' ⟨rfl, e⟩
    exact ⟨true, rfl, rfl, e⟩
  have h60 : pws.length ≤ 60 := by simp at c; omega
  refine (Some_spec H ds ls D0 L0 amb0 hd hl).mono ?_
  rintro v H2 ⟨bd, sl, D, L, amb, rfl, hs, hbd, rd2, ol2, e2⟩
  have hv := hs.vs
  have hn1 := hs.vs.n1
  have hn5 := hs.n5
  have hl12 := hs.l12
  have ha := hs.a100
  refine ⟨⟨some ⟨bd, 0, none⟩, D.length, D.length⟩, sl, amb, rfl, local_mk (by simp) (by simp) ?_⟩
  intro H4 e4 z4 b4
  have rd4 := rd2.ext e4
  have ol4 := ol2.ext e4
  refine ⟨⟨some ⟨bd, 0, none⟩, D.length, D.length⟩, b4.rd0 rfl, ⟨some ⟨bd, 0, none⟩, D.length, D.length⟩, b4.rd0 rfl, sl, b4.rd (i := 1) rfl, amb, b4.rd (i := 2) rfl, ?_⟩
  refine (newSys H4 _ sl D L amb hs (rd4.isS D.length D.length rfl) (ol4.isS encL_len (by omega))).mono ?_
  rintro v H5 ⟨b, be, rfl, hm5, hb, hbe, e5⟩
  refine ⟨_, _, rfl, ?_⟩
  have z2 := e2.size
  have z5 := e5.size
  have hbl5 := hm5.blt
  refine (Powers_run H5 ms most D.length 300 (hmost.ext ((e2.trans e4).trans e5)) (by omega) (by omega)).mono ?_
  rintro v H6 ⟨top, rfl, htp, hti, htb, htok, e6⟩
  generalize htf : powersF most 300 = tf at hti htb htok
  have htr : ∀ i, 0 ≤ tf i ∧ tf i ≤ 300 := fun i => by rw [← htf]; exact powersF_range _ (by omega) i
  have htn : top.n = D.length := by rw [hti.len, tab_length]
  have b6 := (b4.ext e5).ext e6
  have z6 := e6.size
  refine ⟨top, rfl, ⟨some ⟨bd, 0, none⟩, D.length, D.length⟩, b6.rd0 rfl, sl, b6.rd (i := 1) rfl, amb, b6.rd (i := 2) rfl, ?_⟩
  refine (Bound_spec H6 ⟨some ⟨bd, 0, none⟩, D.length, D.length⟩ sl top D L amb _ (((rd4.ext e5).ext e6).isS D.length D.length rfl) (((ol4.ext e5).ext e6).isS encL_len (by omega)) (by omega) hti (by rw [tab_length]; omega)).mono ?_
  rintro v H7 ⟨⟨_, _, rfl⟩ | ⟨hbad, _⟩, e7⟩
  rotate_left
  · exact absurd ⟨hv, htok⟩ hbad
  refine ⟨_, _, rfl, iteB_neg rfl (iteB_neg rfl (iteB_neg rfl ?_))⟩
  have hbr := bnd_range (D := D) (p := fun i => (tab D.length tf).getD i 0) (B := 306) (by omega) D.length (fun i hi => by
    have h1 := hv.dom i hi
    have h2 := htr i
    have h3 := hs.small i hi
    rw [tab_getD _ hi]
    omega)
  have hcl : ∀ i, i < D.length → tf i ≤ ambOf D i * bndF D (fun i => (tab D.length tf).getD i 0) D.length := fun i hi => by
    have h1 := hv.dom i hi
    have h2 := htr i
    have h4 := ceil_range (D := D) (p := fun i => (tab D.length tf).getD i 0) (i := i) h1.1 (by rw [tab_getD _ hi]; omega)
    rw [tab_getD _ hi] at h4
    have h5 : ambOf D i * ceilOf D (fun i => (tab D.length tf).getD i 0) i ≤ ambOf D i * bndF D (fun i => (tab D.length tf).getD i 0) D.length := Int.mul_le_mul_of_nonneg_left (hbr.2.2 i hi) (by omega)
    omega
  generalize bndF D (fun i => (tab D.length tf).getD i 0) D.length = B at hbr hcl
  have eH : Ext H H7 := (((e2.trans e4).trans e5).trans e6).trans e7
  have z7 := e7.size
  refine ⟨fun x H' => Ext H H' ∧ ∃ j : Nat, x = j ∧ j ≤ pws.length ∧ Blk H' H2.size t_law38_System [.slice (some ⟨bd, 0, none⟩) D.length D.length, .slice sl.p sl.n sl.c, .int .i64 amb] ∧ IBlk .i64 H' H5.size t_int64 D.length tf ∧
      ∃ (E : Nat → Int) (rel : Int), HM t_heat_Model (fun k => H4.size ≤ k) H' b be D L amb E rel ∧ TB D E amb (amb + B) ∧ 0 ≤ rel ∧ rel ≤ 4503599627370496 * j, fun x _ => pws.length - x.toNat,
    ⟨eH, 0, rfl, Nat.zero_le _, b6.ext e7, htb.ext e7, _, _, (hm5.ext e6).ext e7, start_TB hv (by omega), by omega, by omega⟩, ?_⟩
  rintro x H8 ⟨e8, j, rfl, hj, b8, t8, E, rel, hm8, hT, hr0, hr1⟩
  unfold F_law38_HeatBoundHolds_r3
  rw [hp.len]
  refine iteB_intro (fun c => ?_) (fun c => ?_)
  rotate_left
  · refine (awake_spec H8).mono ?_
    rintro v H' ⟨rfl, e⟩
    exact ⟨true, rfl, rfl, e8.trans e⟩
  have hjl : j < pws.length := by simpa using c
  obtain ⟨pa, r, hpa, hr, hri, hrl⟩ := (hp.ext e8).at (x := j) (by omega) (by omega)
  refine ⟨by omega, by omega, unSome_mk hpa ⟨r, hr, ?_⟩⟩
  refine (Powers_run H8 r _ D.length 300 hri (by omega) (by omega)).mono ?_
  rintro v H9 ⟨ps, rfl, hpp, hpi, hpb, hpok, e9⟩
  generalize hpf : powersF (pws.getD (j : Int).toNat []) 300 = pf at hpi hpb hpok
  have hpr : ∀ i, 0 ≤ pf i ∧ pf i ≤ 300 := fun i => by rw [← hpf]; exact powersF_range _ (by omega) i
  have hpn : ps.n = D.length := by rw [hpi.len, tab_length]
  have hbl8 := hm8.blt
  have z8 := e8.size
  have hb8l := b8.lt
  have ht8l := t8.lt
  refine ⟨ps, rfl, ?_⟩
  refine ⟨fun x H' => Ext H8 H' ∧ ∃ k : Nat, x = k ∧ k ≤ D.length ∧ IBlk .i64 H' H8.size t_int64 D.length (fun i => if i < k then (if tf i < pf i then tf i else pf i) else pf i), fun x _ => D.length - x.toNat,
    ⟨e9, 0, rfl, Nat.zero_le _, hpb.congr (fun i _ => by simp)⟩, ?_⟩
  rintro x H10 ⟨e10, k, rfl, hk, q10⟩
  unfold F_law38_HeatBoundHolds_r2
  dsimp only
  refine iteB_intro (fun c => ?_) (fun c => ?_)
  · have hkn : k < D.length := by simpa using c
    have hrk := q10.rd hkn
    simp only [Nat.lt_irrefl, if_false] at hrk
    simp only [Int.toNat_natCast]
    refine ⟨by omega, by omega, unSome_mk hpp ⟨pf k, hrk, by omega, by omega, unSome_mk htp ⟨tf k, (t8.ext e10).rd hkn, by omega, by omega, unSome_mk hpp ⟨q10.ok hkn, letH_mk ?_⟩⟩⟩⟩
    rintro H11 rfl
    refine letV_mk ((k + 1 : Nat) : Int) (by rw [i64_in (by omega)]; simp) ⟨⟨Mods.ext e10 (mods_wr_add (S := [H8.size]) (by simp)) (by simp), k + 1, rfl, by omega, ?_⟩, by simp only [Int.toNat_natCast]; omega⟩
    refine (q10.wr hkn _).congr (fun i hi => ?_)
    by_cases e : i = k
    · subst e; rw [upd_same, if_pos (show i < i + 1 by omega)]
    · rw [upd_ne e]
      by_cases e2 : i < k
      · rw [if_pos e2, if_pos (show i < k + 1 by omega)]
      · rw [if_neg e2, if_neg (show ¬ i < k + 1 by omega)]
  have hkn : k = D.length := by simp at c; omega
  subst hkn
  have q10' : IBlk .i64 H10 H8.size t_int64 D.length (fun i => if tf i < pf i then tf i else pf i) := q10.congr (fun i hi => by rw [if_pos hi])
  generalize hgf : (fun i => if tf i < pf i then tf i else pf i) = gf at q10'
  have hgr : ∀ i, 0 ≤ gf i ∧ gf i ≤ 300 ∧ gf i ≤ tf i := fun i => by
    rw [← hgf]
    have := hpr i
    have := htr i
    dsimp only
    split <;> omega
  have hgok : powOk (tab D.length gf) D.length = true := powOk_tab (fun i _ => by have := hgr i; omega)
  have hgi : Ints .i64 H10 ps (tab D.length gf) := by
    have := q10'.ints ps.c
    rw [← hpp] at this
    obtain ⟨p1, p2, p3⟩ := ps
    simp only at hpn this
    subst hpn
    exact this
  have z10 := e10.size
  refine (Step_run b be D L amb E rel _ ps H10 (hm8.ext e10) hv (by omega) (hT.mono (by omega)) hgi (by rw [tab_length]; omega) (fun x hx _ => by rw [hpp] at hx; cases hx; dsimp only; omega) (by omega)).mono ?_
  rintro v H12 (⟨_, t, rfl, it, nt, hm12, m12⟩ | ⟨hbad, _⟩)
  rotate_left
  · rw [hgok] at hbad; cases hbad
  have hT2 : TB D (stepE D L amb E (fun i => (tab D.length gf).getD i 0)) amb (amb + B) := step_TB hv hT (fun i hi => by
    have h1 := hgr i
    have h2 := hcl i hi
    rw [tab_getD _ hi, show amb + B - amb = B by omega]
    omega)
  have hos := osum16 hT hv (by omega)
  have htn' : t.n = D.length := by rw [it.len, tab_length]
  have b12 := (b8.ext e10).mods m12 (by simp; omega)
  have t12 := (t8.ext e10).mods m12 (by simp; omega)
  have e12 : Ext H H12 := Mods.ext (e8.trans e10) m12 (by simp; omega)
  generalize stepE D L amb E (fun i => (tab D.length gf).getD i 0) = E2 at hm12 hT2 it
  refine ⟨t, 0, rfl, iteB_neg rfl (iteB_neg (by rw [htn']; simp) ?_)⟩
  refine ⟨fun x H' => H' = H12 ∧ ∃ k : Nat, x = k ∧ k ≤ D.length, fun x _ => D.length - x.toNat, ⟨rfl, 0, rfl, Nat.zero_le _⟩, ?_⟩
  rintro x H13 ⟨rfl, k, rfl, hk⟩
  unfold F_law38_HeatBoundHolds_r1
  dsimp only
  refine iteB_intro (fun c => ?_) (fun c => ?_)
  · have hkn : k < D.length := by simpa using c
    obtain ⟨a6, hp6, hr6⟩ := Ints.at it (x := k) (by omega) (by rw [tab_length]; omega)
    simp only [Int.toNat_natCast] at hr6 ⊢
    rw [tab_getD _ hkn] at hr6
    have hTk := hT2 k hkn
    refine ⟨by omega, by omega, unSome_mk hp6 ⟨_, hr6, amb, b12.rd (i := 2) rfl, iteB_neg (by simp; omega) ⟨by omega, by omega, unSome_mk hp6 ⟨_, hr6, iteB_neg (by simp; omega) ⟨by omega, by omega, unSome_mk hp6 ⟨_, hr6, ?_⟩⟩⟩⟩⟩⟩
    refine (Temperature_spec b be _ _ _ _ _ k H13 hm12 (hT2.sane hv (by omega) (by omega))).mono ?_
    rintro v H14 ⟨rfl, rfl⟩
    have htz : tempZ D E2 k = tempOf D E2 k := by
      unfold tempZ
      rw [if_neg (by omega)]
      simp
    rw [htz]
    exact ⟨_, rfl, Ext.refl _, iteB_neg (by simp) (letV_mk ((k + 1 : Nat) : Int) (by rw [i64_in (by omega)]; simp) ⟨⟨rfl, k + 1, rfl, by omega⟩, by simp only [Int.toNat_natCast]; omega⟩)⟩
  · exact letV_mk ((j + 1 : Nat) : Int) (by rw [i64_in (by omega)]; simp) ⟨⟨e12, j + 1, rfl, by omega, b12, t12, E2, _, hm12, hT2, by omega, by omega⟩, by simp only [Int.toNat_natCast]; omega⟩

end Go.Proofs.Ytenpfhfhjpipaaa
