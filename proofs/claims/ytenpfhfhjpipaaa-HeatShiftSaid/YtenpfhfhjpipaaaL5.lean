/-
  The law HeatShift, over the shallow readings.
-/
import Derived.Test.YtenpfhfhjpipaaaL4
namespace Go.Proofs.Ytenpfhfhjpipaaa
open Go.Eng Go.Heat

theorem shift_temp {D : List Dom} {L : List Lnk} {amb up : Int} (hv : VS D L amb) {E E' : Nat → Int} (hE : ∀ i, i < D.length → E' i = E i + capOf D i * up) {i : Nat} (hi : i < D.length) : tempOf D E' i = tempOf D E i + up := by
  have hd := hv.dom i hi
  have hc := hv.cap i hi
  have hn := need_bound (L := L) (n := D.length) i L.length hv.lnk
  unfold tempOf
  rw [hE i hi]
  exact Int.add_mul_ediv_left _ _ (by omega)

theorem shift_lsum {n : Nat} {L : List Lnk} {T T' : Nat → Int} {up : Int} (hT : ∀ i, i < n → T' i = T i + up) (i : Nat) : ∀ k, (∀ j, j < k → LnkOk n L j) → lsum L T' k i = lsum L T k i := by
  intro k
  induction k with
  | zero => intro _; rfl
  | succ k ih =>
    intro h
    obtain ⟨a0, a1, b0, b1, ne, c0, c1, _⟩ := h k (by omega)
    have hf : flowOf L T' k = flowOf L T k := by
      unfold flowOf
      rw [hT _ (by omega), hT _ (by omega)]
      congr 1
      omega
    simp only [lsum]
    rw [ih (fun j hj => h j (by omega)), hf]

theorem shift_step {D : List Dom} {L : List Lnk} {amb up : Int} (hv : VS D L amb) {E E' p : Nat → Int} (hE : ∀ i, i < D.length → E' i = E i + capOf D i * up) :
    ∀ i, i < D.length → stepE D L (amb + up) E' p i = stepE D L amb E p i + capOf D i * up := by
  intro i hi
  unfold stepE outOf
  rw [shift_lsum (n := D.length) (T := tempOf D E) (T' := tempOf D E') (up := up) (fun i hi => shift_temp hv hE hi) i L.length hv.lnk, shift_temp hv hE hi, hE i hi]
  rw [show tempOf D E i + up - (amb + up) = tempOf D E i - amb by omega]
  omega

theorem shift_osum {D : List Dom} {L : List Lnk} {amb up : Int} (hv : VS D L amb) {E E' : Nat → Int} (hE : ∀ i, i < D.length → E' i = E i + capOf D i * up) : osum D (amb + up) E' D.length = osum D amb E D.length := by
  rw [osum_sumZ, osum_sumZ]
  refine sumZ_congr _ (fun i hi => ?_)
  unfold outOf
  rw [shift_temp hv hE hi]
  congr 1
  omega

theorem law_shift (H : Heap) (ds ls pw : Sl) (D0 : List Dom) (L0 : List Lnk) (amb0 : Int) (pws : List (List Int)) (deg : Int) (hd : Doms H ds D0) (hl : Lnks H ls L0) (hp : IRows .i64 H pw pws) (hdeg : 0 ≤ deg ∧ deg ≤ 65535) :
    CallsH Try.prog n_law38_HeatShift #[.slice ds.p ds.n ds.c, .slice ls.p ls.n ls.c, .int .i64 amb0, .slice pw.p pw.n pw.c, .int .u16 deg] H (fun v H' => v = .bool true ∧ Ext H H') := by
  refine F_law38_HeatShift_ok _ _ _ _ _ ?_
  unfold F_law38_HeatShift
  rw [hp.len]
  refine iteB_intro (fun c => ?_) (fun c => ?_)
  · refine (awake_spec H).mono ?_
    rintro v H' ⟨rfl, e⟩
    exact ⟨true, rfl, rfl, e⟩
  have h30 : pws.length ≤ 30 := by simp at c; omega
  refine (Some_spec H ds ls D0 L0 amb0 hd hl).mono ?_
  rintro v H2 ⟨bd, sl, D, L, amb, rfl, hs, hbd, rd2, ol2, e2⟩
  have hv := hs.vs
  have hn1 := hs.vs.n1
  have hn5 := hs.n5
  have hl12 := hs.l12
  have ha := hs.a100
  refine ⟨⟨some ⟨bd, 0, none⟩, D.length, D.length⟩, sl, amb, rfl, local_mk (by simp) (by simp) ?_⟩
  intro H4 e4 z4 b4
  have rd4 := rd2.ext e4
  have ol4 := ol2.ext e4
  refine ⟨⟨some ⟨bd, 0, none⟩, D.length, D.length⟩, b4.rd0 rfl, letV_mk deg (i64_in (by omega)) ⟨⟨some ⟨bd, 0, none⟩, D.length, D.length⟩, b4.rd0 rfl, sl, b4.rd (i := 1) rfl, amb, b4.rd (i := 2) rfl, ?_⟩⟩
  refine (newSys H4 _ sl D L amb hs (rd4.isS D.length D.length rfl) (ol4.isS encL_len (by omega))).mono ?_
  rintro v H5 ⟨a, ae, rfl, hA5, ha', hae, e5⟩
  have b5 := b4.ext e5
  refine ⟨_, _, rfl, ⟨some ⟨bd, 0, none⟩, D.length, D.length⟩, b5.rd0 rfl, sl, b5.rd (i := 1) rfl, amb, b5.rd (i := 2) rfl, ?_⟩
  have hv2 : VS D L (amb + deg) := ⟨hv.n1, hv.n16, by omega, by omega, hv.dom, hv.lnk, hv.cap⟩
  rw [i64_in (n := amb + deg) (by omega)]
  refine (New_spec H5 ⟨some ⟨bd, 0, none⟩, D.length, D.length⟩ sl D L (amb + deg) ((rd4.ext e5).isS D.length D.length rfl) ((ol4.ext e5).isS encL_len (by omega)) (by omega)).mono ?_
  rintro v H6 (⟨_, b, be, rfl, hB6, hb, hbe, e6⟩ | ⟨hbad, _⟩)
  rotate_left
  · exact absurd hv2 hbad
  refine ⟨_, _, rfl, iteB_neg rfl (iteB_neg rfl (iteB_neg rfl (iteB_neg rfl ?_)))⟩
  have z2 := e2.size
  have z5 := e5.size
  have z6 := e6.size
  have hblA := hA5.blt
  have hbdl := rd2.lt
  have eH : Ext H H6 := ((e2.trans e4).trans e5).trans e6
  have hol := ol2.lt
  refine ⟨fun x H' => Ext H H' ∧ ∃ j : Nat, x = j ∧ j ≤ pws.length ∧ Blk H' H2.size t_law38_System [.slice (some ⟨bd, 0, none⟩) D.length D.length, .slice sl.p sl.n sl.c, .int .i64 amb] ∧ RB H' bd t_api_HeatDomain 2 encD D ∧ Own (bd + 2) t_api_HeatLink 3 H' sl (L.flatMap encL) ∧
      ∃ (E E' : Nat → Int) (rel : Int), HM t_heat_Model (fun k => H4.size ≤ k ∧ k < H5.size) H' a ae D L amb E rel ∧ HM t_heat_Model (fun k => H5.size ≤ k) H' b be D L (amb + deg) E' rel ∧ (∀ i, i < D.length → E' i = E i + capOf D i * deg) ∧ TB D E amb (amb + 16777216) ∧ 0 ≤ rel ∧ rel ≤ 4503599627370496 * j,
    fun x _ => pws.length - x.toNat,
    ⟨eH, 0, rfl, Nat.zero_le _, b5.ext e6, (rd4.ext e5).ext e6, (ol4.ext e5).ext e6, _, _, _, hA5.tight.ext e6, hB6, fun i _ => Int.mul_add _ _ _, start_TB hv (by omega), by omega, by omega⟩, ?_⟩
  rintro x H7 ⟨e7, j, rfl, hj, b7, rd7, ol7, E, E', rel, hA7, hB7, hE, hT, hr0, hr1⟩
  unfold F_law38_HeatShift_r2
  rw [hp.len]
  refine iteB_intro (fun c => ?_) (fun c => ?_)
  rotate_left
  · refine (awake_spec H7).mono ?_
    rintro v H' ⟨rfl, e⟩
    exact ⟨true, rfl, rfl, e7.trans e⟩
  have hjl : j < pws.length := by simpa using c
  obtain ⟨pa, r, hpa, hr, hri, hrl⟩ := (hp.ext e7).at (x := j) (by omega) (by omega)
  refine ⟨by omega, by omega, unSome_mk hpa ⟨r, hr, ?_⟩⟩
  refine (Powers_run H7 r _ D.length 200 hri (by omega) (by omega)).mono ?_
  rintro v H8 ⟨ps, rfl, hpp, hpi, hpb, hpok, e8⟩
  generalize hpf : powersF (pws.getD (j : Int).toNat []) 200 = pf at hpi hpb hpok
  have hpn : ps.n = D.length := by rw [hpi.len, tab_length]
  have hbl7A := hA7.blt
  have hbl7B := hB7.blt
  have z7 := e7.size
  have z8 := e8.size
  have hpbl := hpb.lt
  have hT' : TB D E' (amb + deg) (amb + deg + 16777216) := fun i hi => by
    have := hT i hi
    rw [shift_temp hv hE hi]
    omega
  refine ⟨ps, rfl, ?_⟩
  refine (Step_run a ae D L amb E rel _ ps H8 (hA7.ext e8) hv (by omega) hT hpi (by rw [tab_length]; omega) (fun x hx _ => by rw [hpp] at hx; cases hx; dsimp only; omega) (by omega)).mono ?_
  rintro v H9 (⟨_, t, rfl, it, nt, hA9, m9⟩ | ⟨hbad, _⟩)
  rotate_left
  · rw [hpok] at hbad; cases hbad
  have z9 := m9.size
  have hB9 := (hB7.ext e8).mods m9 (by simp; omega) (by simp; omega) (fun k hk => by simp; omega)
  have hpi9 : Ints .i64 H9 ps (tab D.length pf) := IsS.mods hpi m9 (fun x hx => by rw [hpp] at hx; cases hx; simp; omega)
  refine ⟨t, 0, rfl, ?_⟩
  refine (Step_run b be D L (amb + deg) E' rel _ ps H9 hB9 hv2 (by omega) hT' hpi9 (by rw [tab_length]; omega) (fun x hx _ => by rw [hpp] at hx; cases hx; dsimp only; omega) (by omega)).mono ?_
  rintro v H10 (⟨_, t2, rfl, it2, nt2, hB10, m10⟩ | ⟨hbad, _⟩)
  rotate_left
  · rw [hpok] at hbad; cases hbad
  have z10 := m10.size
  have hlk : ∀ x, sl.p = some x → x.block < H4.size := fun x hx => by have := hol x hx; omega
  have b10 := ((b7.ext e8).mods m9 (by simp; omega)).mods m10 (by simp; omega)
  have rd10 := ((rd7.ext e8).mods m9 (by simp; omega)).mods m10 (by simp; omega)
  have ol10 := ((ol7.ext e8).mods m9 (fun x hx => by have := hlk x hx; simp; omega)).mods m10 (fun x hx => by have := hlk x hx; simp; omega)
  have hA10 := hA9.mods m10 (by simp; omega) (by simp; omega) (fun k hk => by simp; omega)
  have it10 := IsS.mods it m10 (fun x hx => by have := nt x hx; simp; omega)
  have hpi10 : Ints .i64 H10 ps (tab D.length pf) := IsS.mods hpi9 m10 (fun x hx => by rw [hpp] at hx; cases hx; simp; omega)
  have e9 : Ext H H9 := Mods.ext (e7.trans e8) m9 (by simp; omega)
  have e10 : Ext H H10 := Mods.ext e9 m10 (by simp; omega)
  refine ⟨t2, 0, rfl, ⟨some ⟨bd, 0, none⟩, D.length, D.length⟩, b10.rd0 rfl, sl, b10.rd (i := 1) rfl, amb, b10.rd (i := 2) rfl, ?_⟩
  refine (Bound_spec H10 ⟨some ⟨bd, 0, none⟩, D.length, D.length⟩ sl ps D L amb _ (rd10.isS D.length D.length rfl) (ol10.isS encL_len (by omega)) (by omega) hpi10 (by rw [tab_length]; omega)).mono ?_
  rintro v H11 ⟨⟨_, _, rfl⟩ | ⟨hbad, _⟩, e11⟩
  rotate_left
  · exact absurd ⟨hv, hpok⟩ hbad
  have b11 := b10.ext e11
  refine ⟨_, _, rfl, ⟨some ⟨bd, 0, none⟩, D.length, D.length⟩, b11.rd0 rfl, sl, b11.rd (i := 1) rfl, amb, b11.rd (i := 2) rfl, ?_⟩
  rw [i64_in (n := amb + deg) (by omega)]
  refine (Bound_spec H11 ⟨some ⟨bd, 0, none⟩, D.length, D.length⟩ sl ps D L (amb + deg) _ ((rd10.ext e11).isS D.length D.length rfl) ((ol10.ext e11).isS encL_len (by omega)) (by omega) (hpi10.ext e11) (by rw [tab_length]; omega)).mono ?_
  rintro v H12 ⟨⟨_, _, rfl⟩ | ⟨hbad, _⟩, e12⟩
  rotate_left
  · exact absurd ⟨hv2, hpok⟩ hbad
  have hbr := bnd_range (D := D) (p := fun i => (tab D.length pf).getD i 0) (B := 33554432) (by omega) D.length (fun i hi => by
    have h1 := hv.dom i hi
    have h2 := (powOk_iff.1 hpok).2 i hi
    omega)
  generalize bndF D (fun i => (tab D.length pf).getD i 0) D.length = B at hbr
  have htn : t.n = D.length := by rw [it.len, tab_length]
  have htn2 : t2.n = D.length := by rw [it2.len, tab_length]
  have hT2 := step_wide hv hT hpok
  have hst := shift_step hv hE (p := fun i => (tab D.length pf).getD i 0)
  have hos := osum16 hT hv (by omega)
  rw [shift_osum hv hE] at hB10
  generalize stepE D L amb E (fun i => (tab D.length pf).getD i 0) = E2 at hA10 hT2 hst it10
  generalize stepE D L (amb + deg) E' (fun i => (tab D.length pf).getD i 0) = E2' at hB10 hst it2
  have e1012 := e11.trans e12
  have hA12 := hA10.ext e1012
  have hB12 := hB10.ext e1012
  refine ⟨_, _, rfl, iteB_neg rfl (iteB_neg rfl (iteB_neg rfl (iteB_neg rfl (iteB_neg (by rw [htn]; simp) (iteB_neg (by rw [htn2]; simp) (iteB_neg (by rw [i64_in (by omega)]; simp; omega) ?_))))))⟩
  refine (Released_spec a ae _ _ _ _ _ H12 hA12).mono ?_
  rintro v H13 ⟨rfl, rfl⟩
  refine ⟨_, rfl, ?_⟩
  refine (Released_spec b be _ _ _ _ _ H13 hB12).mono ?_
  rintro v H14 ⟨rfl, rfl⟩
  refine ⟨_, rfl, iteB_neg (by simp) ?_⟩
  refine ⟨fun x H' => H' = H14 ∧ ∃ k : Nat, x = k ∧ k ≤ D.length, fun x _ => D.length - x.toNat, ⟨rfl, 0, rfl, Nat.zero_le _⟩, ?_⟩
  rintro x H15 ⟨rfl, k, rfl, hk⟩
  unfold F_law38_HeatShift_r1
  dsimp only
  refine iteB_intro (fun c => ?_) (fun c => ?_)
  · have hkn : k < D.length := by simpa using c
    obtain ⟨a6, hp6, hr6⟩ := Ints.at (it10.ext e1012) (x := k) (by omega) (by rw [tab_length]; omega)
    obtain ⟨a7, hp7, hr7⟩ := Ints.at (IsS.ext it2 e1012) (x := k) (by omega) (by rw [tab_length]; omega)
    simp only [Int.toNat_natCast] at hr6 hr7 ⊢
    rw [tab_getD _ hkn] at hr6 hr7
    have hTk := hT2 k hkn
    rw [shift_temp hv hst hkn] at hr7
    have hsm := hs.small k hkn
    have hdk := hv.dom k hkn
    have hck := hv.cap k hkn
    have hnk := need_bound (L := L) (n := D.length) k L.length hv.lnk
    have hCu := mul_bound (a := capOf D k) (b := deg) (A := 73) (B := 65535) (by omega) (by omega) (by omega) (by omega)
    have hEk := en_bound hs hT2 hkn
    refine ⟨by omega, by omega, unSome_mk hp7 ⟨_, hr7, by omega, by omega, unSome_mk hp6 ⟨_, hr6, iteB_neg (by rw [i64_in (by omega)]; simp) ?_⟩⟩⟩
    refine ⟨⟨some ⟨bd, 0, none⟩, D.length, D.length⟩, (b10.ext e1012).rd0 rfl, by omega, by dsimp only; omega, ?_⟩
    refine ⟨capOf D k, (rd10.ext e1012).rd0 (dom_get hkn) rfl, ?_⟩
    refine (Energy_spec b be _ _ _ _ _ k H15 hB12).mono ?_
    rintro v H16 ⟨rfl, rfl⟩
    refine ⟨_, rfl, Ext.refl _, ?_⟩
    refine (Energy_spec a ae _ _ _ _ _ k H16 hA12).mono ?_
    rintro v H17 ⟨rfl, rfl⟩
    refine ⟨_, rfl, Ext.refl _, iteB_neg ?_ (letV_mk ((k + 1 : Nat) : Int) (by rw [i64_in (by omega)]; simp) ⟨⟨rfl, k + 1, rfl, by omega⟩, by simp only [Int.toNat_natCast]; omega⟩)⟩
    unfold energyZ
    rw [if_neg (by omega), if_neg (by omega)]
    simp only [Int.toNat_natCast]
    rw [hst k hkn, i64_in (n := capOf D k * deg) (by omega), i64_in (by omega)]
    simp
  · exact letV_mk ((j + 1 : Nat) : Int) (by rw [i64_in (by omega)]; simp) ⟨⟨e10.trans e1012, j + 1, rfl, by omega, b10.ext e1012, rd10.ext e1012, ol10.ext e1012, E2, E2', _, hA12, hB12, hst, hT2, by omega, by omega⟩, by simp only [Int.toNat_natCast]; omega⟩

end Go.Proofs.Ytenpfhfhjpipaaa
