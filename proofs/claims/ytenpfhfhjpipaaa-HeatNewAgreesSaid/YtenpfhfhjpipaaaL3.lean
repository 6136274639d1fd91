/-
  The law HeatRelabeling, over the shallow readings.
-/
import Derived.Test.YtenpfhfhjpipaaaL3p
namespace Go.Proofs.Ytenpfhfhjpipaaa
open Go.Eng Go.Heat

theorem own_blk {lo : Nat} {e : TypeId} {sz : Nat} {H : Heap} {s : Sl} {xs : List Value} (h : Own lo e sz H s xs) : ∀ x ∈ blkOf s.p, lo ≤ x := by
  intro x hx
  cases hp : s.p with
  | none => rw [hp] at hx; simp [blkOf] at hx
  | some a =>
    rw [hp] at hx
    simp [blkOf] at hx
    have := h.new a hp
    omega

/-- The rounds of HeatRelabeling. -/
theorem relabel_rounds (H H12 : Heap) (pw : Sl) (pws : List (List Int)) (hp : IRows .i64 H pw pws) (h30 : pws.length ≤ 30) (D : List Dom) (L : List Lnk) (amb : Int) (hs : Sys D L amb) (a ae b be m1 m2 : Nat) (x4c : Nat)
    (eH : Ext H H12) (hla : H.size ≤ a ∧ H.size ≤ ae ∧ a < m1 ∧ ae < m1 ∧ m1 ≤ b ∧ m1 ≤ be ∧ H.size ≤ m2)
    (hA : HM t_heat_Model (fun k => m2 ≤ k ∧ k < m1) H12 a ae D L amb (fun i => capOf D i * amb) 0) (hB : HM t_heat_Model (fun k => m1 ≤ k) H12 b be (revD D) (revL L D.length) amb (fun i => capOf (revD D) i * amb) 0) (xp : Option Addr) :
    ∃ I_2 : Int → Heap → Prop, ∃ M_2 : Int → Heap → Nat, I_2 (0 : Int) H12 ∧ (∀ i6 : Int, ∀ H13 : Heap, I_2 i6 H13 → F_law38_HeatRelabeling_r3 (fun v H' => v = .bool true ∧ Ext H H') pw ⟨xp, D.length, x4c⟩ (some ⟨a, 0, none⟩) (some ⟨b, 0, none⟩) I_2 M_2 i6 H13) := by
  have hv := hs.vs
  have hn1 := hv.n1
  have hn5 := hs.n5
  have hrv := rev_VS hv
  have hrl := revD_len D
  refine ⟨fun x H' => Ext H H' ∧ ∃ j : Nat, x = j ∧ j ≤ pws.length ∧ ∃ (E E' : Nat → Int) (rel : Int), HM t_heat_Model (fun k => m2 ≤ k ∧ k < m1) H' a ae D L amb E rel ∧ HM t_heat_Model (fun k => m1 ≤ k) H' b be (revD D) (revL L D.length) amb E' rel ∧
      (∀ i, i < D.length → E' i = E (D.length - 1 - i)) ∧ TB D E amb (amb + 16777216) ∧ 0 ≤ rel ∧ rel ≤ 4503599627370496 * j, fun x _ => pws.length - x.toNat,
    ⟨eH, 0, rfl, Nat.zero_le _, _, _, _, hA, hB, fun i hi => by rw [revD_cap hi], start_TB hv (by omega), by omega, by omega⟩, ?_⟩
  rintro x H13 ⟨e13, j, rfl, hj, E, E', rel, hA13, hB13, hE, hT, hr0, hr1⟩
  unfold F_law38_HeatRelabeling_r3
  rw [hp.len]
  refine iteB_intro (fun c => ?_) (fun c => ?_)
  rotate_left
  · refine (Released_spec a ae _ _ _ _ _ H13 hA13).mono ?_
    rintro v H23 ⟨rfl, rfl⟩
    refine ⟨_, rfl, ?_⟩
    refine (Released_spec b be _ _ _ _ _ H23 hB13).mono ?_
    rintro v H24 ⟨rfl, rfl⟩
    refine ⟨_, rfl, iteB_pos (by simp) ?_⟩
    refine (awake_spec H24).mono ?_
    rintro v H' ⟨rfl, e⟩
    exact ⟨true, rfl, rfl, e13.trans e⟩
  have hjl : j < pws.length := by simpa using c
  obtain ⟨pa, r, hpa, hr, hri, hrl2⟩ := (hp.ext e13).at (x := j) (by omega) (by omega)
  refine ⟨by omega, by omega, unSome_mk hpa ⟨r, hr, ?_⟩⟩
  refine (Powers_run H13 r _ D.length 200 hri (by omega) (by omega)).mono ?_
  rintro v H14 ⟨ps, rfl, hpp, hpi, hpb, hpok, e14⟩
  generalize hpf : powersF (pws.getD (j : Int).toNat []) 200 = pf at hpi hpb hpok
  have hpr : ∀ i, 0 ≤ pf i ∧ pf i ≤ 200 := fun i => by rw [← hpf]; exact powersF_range _ (by omega) i
  have hpn : ps.n = D.length := by rw [hpi.len, tab_length]
  refine ⟨ps, rfl, by dsimp only; omega, by dsimp only; omega, by dsimp only; omega, letH_mk ?_⟩
  have hto : ((D.length : Int).toNat) = D.length := by simp
  dsimp only
  rw [hto]
  intro H15 h15
  have q15 : IBlk .i64 H15 H14.size t_int64 D.length (fun _ => 0) := by rw [h15]; exact IBlk.zero _ _ _
  have e15 : Ext H14 H15 := by rw [h15]; exact Ext.push _ _
  clear h15
  have hz13 := e13.size
  have hz14 := e14.size
  have hz15 := e15.size
  have hblA := hA13.blt
  have hblB := hB13.blt
  have hpbl := hpb.lt
  refine ⟨fun x H' => Ext H14 H' ∧ ∃ k : Nat, x = k ∧ k ≤ D.length ∧ IBlk .i64 H' H14.size t_int64 D.length (fun i => if D.length ≤ i + k then pf (D.length - 1 - i) else 0), fun x _ => D.length - x.toNat,
    ⟨e15, 0, rfl, Nat.zero_le _, q15.congr (fun i hi => by rw [if_neg (by omega)])⟩, ?_⟩
  rintro x H16 ⟨e16, k, rfl, hk, q16⟩
  unfold F_law38_HeatRelabeling_r2
  dsimp only
  have hidx : ∀ k : Nat, k < D.length → IntKind.i64.wrap (IntKind.i64.wrap ((D.length : Int) - 1) - k) = ((D.length - 1 - k : Nat) : Int) := fun k hk => by
    rw [i64_in (n := (D.length : Int) - 1) (by omega), i64_in (by omega)]
    omega
  refine iteB_intro (fun c => ?_) (fun c => ?_)
  · have hkn : k < D.length := by simpa using c
    rw [hidx k hkn, hto]
    simp only [Int.toNat_natCast]
    refine ⟨by omega, by omega, unSome_mk hpp ⟨pf k, (hpb.ext e16).rd hkn, by omega, by omega, q16.ok (by omega), letH_mk ?_⟩⟩
    rintro H17 rfl
    refine letV_mk ((k + 1 : Nat) : Int) (by rw [i64_in (by omega)]; simp) ⟨⟨Mods.ext e16 (mods_wr_add (S := [H14.size]) (by simp)) (by simp), k + 1, rfl, by omega, ?_⟩, by simp only [Int.toNat_natCast]; omega⟩
    refine (q16.wr (i := D.length - 1 - k) (by omega) _).congr (fun i hi => ?_)
    by_cases e : i = D.length - 1 - k
    · rw [e, upd_same, if_pos (by omega)]
      congr 1
      omega
    · rw [upd_ne e]
      by_cases e2 : D.length ≤ i + k
      · rw [if_pos e2, if_pos (by omega)]
      · rw [if_neg e2, if_neg (by omega)]
  have hkn : k = D.length := by simp at c; omega
  subst hkn
  have q16' : IBlk .i64 H16 H14.size t_int64 D.length (fun i => pf (D.length - 1 - i)) := q16.congr (fun i hi => by rw [if_pos (by omega)])
  have hz16 := e16.size
  have hAs := (hA13.ext e14).ext e16
  have hBs := (hB13.ext e14).ext e16
  refine (Step_run a ae D L amb E rel _ ps H16 hAs hv (by have := hs.l12; omega) hT (hpi.ext e16) (by rw [tab_length]; omega) (fun x hx _ => by rw [hpp] at hx; cases hx; dsimp only; omega) (by omega)).mono ?_
  rintro v H18 (⟨_, t, rfl, it, nt, hA18, m18⟩ | ⟨hbad, _⟩)
  rotate_left
  · rw [hpok] at hbad; cases hbad
  refine ⟨t, 0, rfl, ?_⟩
  have hz18 := m18.size
  have hBs18 := hBs.mods m18 (by simp; omega) (by simp; omega) (fun k hk => by simp; omega)
  have q18 := q16'.mods m18 (by simp; omega)
  have hT' : TB (revD D) E' amb (amb + 16777216) := fun i hi => by
    rw [hrl] at hi
    rw [rev_temp hE hi]
    exact hT _ (by omega)
  have hqok : powOk (tab D.length (fun i => pf (D.length - 1 - i))) (revD D).length = true := by
    rw [hrl]
    exact powOk_tab (fun i _ => by have := hpr (D.length - 1 - i); omega)
  rw [hto]
  refine (Step_run b be (revD D) (revL L D.length) amb E' rel _ ⟨some ⟨H14.size, 0, none⟩, D.length, D.length⟩ H18 hBs18 hrv (by rw [revL_len]; have := hs.l12; omega) hT' (q18.ints _) (by rw [tab_length]; omega) (fun x hx _ => by cases hx; dsimp only; omega) (by omega)).mono ?_
  rintro v H19 (⟨_, t2, rfl, it2, nt2, hB19, m19⟩ | ⟨hbad, _⟩)
  rotate_left
  · rw [hqok] at hbad; cases hbad
  have it' := IsS.mods it m19 (fun x hx => by have := nt x hx; simp; omega)
  have hA19 := hA18.mods m19 (by simp; omega) (by simp; omega) (fun k hk => by simp; omega)
  have e18 : Ext H H18 := Mods.ext ((e13.trans e14).trans e16) m18 (by simp; omega)
  have e19 : Ext H H19 := Mods.ext e18 m19 (by simp; omega)
  have hos := osum16 hT hv (by omega)
  have hT2 := step_wide hv hT hpok
  have htn : t.n = D.length := by rw [it.len, tab_length]
  have htn2 : t2.n = D.length := by rw [it2.len, tab_length, hrl]
  rw [rev_osum hE] at hB19
  have hst := rev_step hv hE (p := fun i => (tab D.length pf).getD i 0) (p' := fun i => (tab D.length (fun i => pf (D.length - 1 - i))).getD i 0) (fun i hi => by rw [tab_getD _ hi, tab_getD _ (by omega)])
  generalize hE2 : stepE D L amb E (fun i => (tab D.length pf).getD i 0) = E2 at hA19 hT2 hst it'
  generalize hE2' : stepE (revD D) (revL L D.length) amb E' (fun i => (tab D.length (fun i => pf (D.length - 1 - i))).getD i 0) = E2' at hB19 hst it2
  refine ⟨t2, 0, rfl, iteB_neg rfl (iteB_neg rfl (iteB_neg (by rw [htn]; simp) (iteB_neg (by rw [htn2]; simp) ?_)))⟩
  refine ⟨fun x H' => H' = H19 ∧ ∃ k : Nat, x = k ∧ k ≤ D.length, fun x _ => D.length - x.toNat, ⟨rfl, 0, rfl, Nat.zero_le _⟩, ?_⟩
  rintro x H20 ⟨rfl, k, rfl, hk⟩
  unfold F_law38_HeatRelabeling_r1
  dsimp only
  refine iteB_intro (fun c => ?_) (fun c => ?_)
  · have hkn : k < D.length := by simpa using c
    rw [hidx k hkn]
    obtain ⟨a6, hp6, hr6⟩ := Ints.at it' (x := k) (by omega) (by rw [tab_length]; omega)
    obtain ⟨a7, hp7, hr7⟩ := Ints.at it2 (x := ((D.length - 1 - k : Nat) : Int)) (by omega) (by rw [tab_length, hrl]; omega)
    simp only [Int.toNat_natCast] at hr6 hr7 ⊢
    rw [tab_getD _ hkn] at hr6
    rw [tab_getD _ (by omega)] at hr7
    have hback : D.length - 1 - (D.length - 1 - k) = k := by omega
    have htt : tempOf (revD D) E2' (D.length - 1 - k) = tempOf D E2 k := by
      rw [rev_temp hst (by omega), hback]
    rw [htt] at hr7
    refine ⟨by omega, by omega, unSome_mk hp6 ⟨_, hr6, by omega, by omega, unSome_mk hp7 ⟨_, hr7, iteB_neg (by simp) ?_⟩⟩⟩
    refine (Energy_spec a ae _ _ _ _ _ k H20 hA19).mono ?_
    rintro v H21 ⟨rfl, rfl⟩
    refine ⟨_, rfl, ?_⟩
    refine (Energy_spec b be _ _ _ _ _ _ H21 hB19).mono ?_
    rintro v H22 ⟨rfl, rfl⟩
    refine ⟨_, rfl, iteB_neg ?_ (letV_mk ((k + 1 : Nat) : Int) (by rw [i64_in (by omega)]; simp) ⟨⟨rfl, k + 1, rfl, by omega⟩, by simp only [Int.toNat_natCast]; omega⟩)⟩
    unfold energyZ
    rw [if_neg (by omega), if_neg (by rw [hrl]; omega)]
    simp only [Int.toNat_natCast]
    rw [hst _ (by omega), hback]
    simp
  · exact letV_mk ((j + 1 : Nat) : Int) (by rw [i64_in (by omega)]; simp) ⟨⟨e19, j + 1, rfl, by omega, E2, E2', _, hA19, hB19, hst, hT2, by omega, by omega⟩, by simp only [Int.toNat_natCast]; omega⟩

theorem law_relabeling (H : Heap) (ds ls pw : Sl) (D0 : List Dom) (L0 : List Lnk) (amb0 : Int) (pws : List (List Int)) (hd : Doms H ds D0) (hl : Lnks H ls L0) (hp : IRows .i64 H pw pws) :
    CallsH Try.prog n_law38_HeatRelabeling #[.slice ds.p ds.n ds.c, .slice ls.p ls.n ls.c, .int .i64 amb0, .slice pw.p pw.n pw.c] H (fun v H' => v = .bool true ∧ Ext H H') := by
  refine F_law38_HeatRelabeling_ok _ _ _ _ ?_
  unfold F_law38_HeatRelabeling
  rw [hp.len]
  refine iteB_intro (fun c => ?_) (fun c => ?_)
  · refine (awake_spec H).mono ?_
    rintro v H' ⟨rfl, e⟩
    exact ⟨true, rfl, rfl, e⟩
  have h30 : pws.length ≤ 30 := by simp at c; omega
  refine (Some_spec H ds ls D0 L0 amb0 hd hl).mono ?_
  rintro v H2 ⟨bd, sl, D, L, amb, rfl, hs, hbd, rd2, ol2, e2⟩
  have hn1 := hs.vs.n1
  have hn5 := hs.n5
  have hl12 := hs.l12
  refine ⟨⟨some ⟨bd, 0, none⟩, D.length, D.length⟩, sl, amb, rfl, local_mk (by simp) (by simp) ?_⟩
  intro H4 e4 z4 b4
  have rd4 := rd2.ext e4
  have ol4 := ol2.ext e4
  have z2 := e2.size
  refine ⟨⟨some ⟨bd, 0, none⟩, D.length, D.length⟩, b4.rd0 rfl, letV_mk ((D.length : Int) - 1) (i64_in (by dsimp only; omega)) ?_⟩
  refine ⟨fun d x H' => Ext H4 H' ∧ ∃ k : Nat, x = (D.length : Int) - 1 - k ∧ k ≤ D.length ∧ Own H4.size t_api_HeatDomain 2 H' d ((tab k (fun j => (capOf D (D.length - 1 - j), ambOf D (D.length - 1 - j)))).flatMap encD), fun _ x _ => (x + 1).toNat,
    ⟨Ext.refl _, 0, by omega, Nat.zero_le _, Own.nil _ _ _ _⟩, ?_⟩
  rintro d x H5 ⟨e5, k, rfl, hk, od⟩
  unfold F_law38_HeatRelabeling_r5
  have b5 := b4.ext e5
  have rd5 := rd4.ext e5
  have ol5 := ol4.ext e5
  have hdn : d.n = k := by
    have := (od.isS encD_len (by omega)).len
    rw [tab_length] at this
    exact this
  have z5 := e5.size
  refine iteB_intro (fun c => ?_) (fun c => ?_)
  · have hkn : k < D.length := by simp at c; omega
    have hx : ((D.length : Int) - 1 - k).toNat = D.length - 1 - k := by omega
    refine ⟨⟨some ⟨bd, 0, none⟩, D.length, D.length⟩, b5.rd0 rfl, by omega, by dsimp only; omega, ?_⟩
    rw [hx]
    refine ⟨_, rd5.rd0 (dom_get (by omega)) rfl, _, rd5.rd (j := 1) (dom_get (by omega)) rfl, ?_⟩
    refine append_row (P := Try.prog) (st := t_sl_api_HeatDomain) (e := t_api_HeatDomain) (x := ((capOf D (D.length - 1 - k), ambOf D (D.length - 1 - k)) : Dom)) (z := .agg #[.int .i64 0, .int .i64 0]) (sz := 2) (bytes := 16) (enc := encD) (by kernel_rfl) (by kernel_rfl) rfl (by omega) encD_len oneD od (by simp [maxLen]; omega) (by omega) (by omega) ?_
    intro d' H7 od7 _ m7
    refine letV_mk ((D.length : Int) - 1 - ((k + 1 : Nat) : Int)) (by rw [i64_in (by omega)]; omega) ⟨⟨Mods.ext e5 m7 (own_blk od), k + 1, rfl, by omega, ?_⟩, by dsimp only; omega⟩
    rw [tab_succ]
    exact od7
  have hkn : k = D.length := by simp at c; omega
  subst hkn
  have ln : sl.n = L.length := (ol5.isS encL_len (by omega)).len
  refine ⟨sl, b5.rd (i := 1) rfl, letV_mk ((L.length : Int) - 1) (by rw [ln]; exact i64_in (by omega)) ?_⟩
  have hidx : ∀ y : Int, 0 ≤ y ∧ y < D.length → IntKind.i64.wrap (IntKind.i64.wrap ((D.length : Int) - 1) - y) = (D.length : Int) - 1 - y := fun y hy => by
    rw [i64_in (n := (D.length : Int) - 1) (by omega), i64_in (by omega)]
  refine ⟨fun l x H' => Ext H5 H' ∧ ∃ k : Nat, x = (L.length : Int) - 1 - k ∧ k ≤ L.length ∧ Own H5.size t_api_HeatLink 3 H' l ((tab k (fun j => ((D.length : Int) - 1 - lB L (L.length - 1 - j), (D.length : Int) - 1 - lA L (L.length - 1 - j), lC L (L.length - 1 - j)))).flatMap encL), fun _ x _ => (x + 1).toNat,
    ⟨Ext.refl _, 0, by omega, Nat.zero_le _, Own.nil _ _ _ _⟩, ?_⟩
  rintro l x H8 ⟨e8, k, rfl, hk, ol⟩
  unfold F_law38_HeatRelabeling_r4
  have b8 := b5.ext e8
  have rd8 := rd5.ext e8
  have ol8 := ol5.ext e8
  have l8 : Lnks H8 sl L := ol8.isS encL_len (by omega)
  have od8 := od.ext e8
  have z8 := e8.size
  have hln : l.n = k := by
    have := (ol.isS encL_len (by omega)).len
    rw [tab_length] at this
    exact this
  refine iteB_intro (fun c => ?_) (fun c => ?_)
  · have hkn : k < L.length := by simp at c; omega
    have hx : ((L.length : Int) - 1 - k).toNat = L.length - 1 - k := by omega
    obtain ⟨al, hpl, t0, t1, t2⟩ := Lnks.at l8 (x := (L.length : Int) - 1 - k) (by omega) (by omega)
    rw [hx] at t0 t1 t2 ⊢
    obtain ⟨a0, a1, b0, b1, ne, c0, c1, _⟩ := hs.vs.lnk (L.length - 1 - k) (by omega)
    refine ⟨sl, b8.rd (i := 1) rfl, by omega, by omega, unSome_mk hpl ⟨_, t1, sl, b8.rd (i := 1) rfl, by omega, by omega, unSome_mk hpl ⟨_, t0, sl, b8.rd (i := 1) rfl, by omega, by omega, unSome_mk hpl ⟨_, t2, ?_⟩⟩⟩⟩
    dsimp only
    rw [hidx _ ⟨b0, b1⟩, hidx _ ⟨a0, a1⟩]
    refine append_row (P := Try.prog) (st := t_sl_api_HeatLink) (e := t_api_HeatLink) (x := (((D.length : Int) - 1 - lB L (L.length - 1 - k), (D.length : Int) - 1 - lA L (L.length - 1 - k), lC L (L.length - 1 - k)) : Lnk)) (z := .agg #[.int .i64 0, .int .i64 0, .int .i64 0]) (sz := 3) (bytes := 24) (enc := encL) (by kernel_rfl) (by kernel_rfl) rfl (by omega) encL_len oneL ol (by simp [maxLen]; omega) (by omega) (by omega) ?_
    intro l' H10 ol10 _ m10
    refine letV_mk ((L.length : Int) - 1 - ((k + 1 : Nat) : Int)) (by rw [i64_in (by omega)]; omega) ⟨⟨Mods.ext e8 m10 (own_blk ol), k + 1, rfl, by omega, ?_⟩, by omega⟩
    rw [tab_succ]
    exact ol10
  have hkn : k = L.length := by simp at c; omega
  subst hkn
  refine ⟨⟨some ⟨bd, 0, none⟩, D.length, D.length⟩, b8.rd0 rfl, sl, b8.rd (i := 1) rfl, amb, b8.rd (i := 2) rfl, ?_⟩
  refine (newSys H8 _ sl D L amb hs (rd8.isS D.length D.length rfl) l8).mono ?_
  rintro v H11 ⟨a, ae, rfl, hA, ha, hae, e11⟩
  have z11 := e11.size
  refine ⟨_, _, rfl, amb, (b8.ext e11).rd (i := 2) rfl, ?_⟩
  refine (New_spec H11 d l (revD D) (revL L D.length) amb ((od8.ext e11).isS encD_len (by omega)) ((ol.ext e11).isS encL_len (by omega)) (by rw [revL_len]; omega)).mono ?_
  rintro v H12 (⟨_, b, be, rfl, hB, hb, hbe, e12⟩ | ⟨hbad, _⟩)
  rotate_left
  · exact absurd (rev_VS hs.vs) hbad
  refine ⟨_, _, rfl, iteB_neg rfl (iteB_neg rfl (iteB_neg rfl (iteB_neg rfl ?_)))⟩
  have hbl := hA.blt
  exact relabel_rounds H H12 pw pws hp h30 D L amb hs a ae b be H11.size H8.size D.length (((((e2.trans e4).trans e5).trans e8).trans e11).trans e12) (by omega) (hA.tight.ext e12) hB (some ⟨bd, 0, none⟩)

end Go.Proofs.Ytenpfhfhjpipaaa
