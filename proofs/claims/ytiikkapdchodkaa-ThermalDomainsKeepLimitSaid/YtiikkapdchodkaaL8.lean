/-
  The contract of the law ThermalDomainsKeepLimit.
-/
import Derived.Test.YtiikkapdchodkaaL7
import Derived.Test.YtiikkapdchodkaaEngO
namespace Go.Proofs.Ytiikkapdchodkaa
open Go.Eng Go.Heat

variable {Q : Nat → Prop}

/-- The actors of the law: requests 'f', maxima 'S'. -/
def dAct (S f : Nat → Int) (i : Nat) : Act := (f i, 0, S i)

theorem dAct_rq {n : Nat} {S f : Nat → Int} {i : Nat} (hi : i < n) : rq (tab n (dAct S f)) i = f i := by unfold rq; rw [tab_getD _ hi]; rfl
theorem dAct_mn {n : Nat} {S f : Nat → Int} {i : Nat} : mn (tab n (dAct S f)) i = 0 := by
  unfold mn
  by_cases hi : i < n
  · rw [tab_getD _ hi]; rfl
  · rw [List.getD_eq_getElem?_getD, List.getElem?_eq_none (by rw [tab_length]; omega)]; rfl
theorem dAct_mx {n : Nat} {S f : Nat → Int} {i : Nat} (hi : i < n) : mx (tab n (dAct S f)) i = S i := by unfold mx; rw [tab_getD _ hi]; rfl

theorem dAct_ok {n : Nat} {S f : Nat → Int} (h : ∀ i, i < n → 0 ≤ f i ∧ 0 ≤ S i) : okA (tab n (dAct S f)) := by
  intro i
  refine ⟨?_, by rw [dAct_mn]; omega, ?_⟩
  · by_cases hi : i < n
    · rw [dAct_rq hi]; exact (h i hi).1
    · unfold rq; rw [List.getD_eq_getElem?_getD, List.getElem?_eq_none (by rw [tab_length]; omega)]; simp
  · by_cases hi : i < n
    · rw [dAct_mx hi]; exact (h i hi).2
    · unfold mx; rw [List.getD_eq_getElem?_getD, List.getElem?_eq_none (by rw [tab_length]; omega)]; simp

theorem dAct_VA {n : Nat} {S f : Nat → Int} (hn : n ≤ 32) (h : ∀ i, i < n → 0 ≤ S i ∧ S i ≤ 4294967296) : VA (tab n (dAct S f)) := by
  refine ⟨by rw [tab_length]; exact hn, fun i hi => ?_⟩
  rw [tab_length] at hi
  rw [dAct_mn, dAct_mx hi]
  exact h i hi

theorem dAct_tot {n : Nat} {S f : Nat → Int} (h : ∀ i, i < n → 0 ≤ S i) : ∀ k, k ≤ n → totA (tab n (dAct S f)) 0 k = 0 := by
  intro k
  induction k with
  | zero => intro _; rfl
  | succ k ih =>
    intro hk
    have := h k (by omega)
    simp only [totA]
    rw [ih (by omega)]
    unfold atI atF wantF
    rw [dAct_mn, dAct_mx (by omega)]
    omega

theorem law_domainsKeepLimit (H : Heap) (sd sl sb sr : Sl) (D0 : List Dom) (L0 : List Lnk) (amb0 lim : Int) (bs : List Int) (rs : List (List Int)) (hd : Doms H sd D0) (hlk : Lnks H sl L0) (hb : Ints .u64 H sb bs) (hb0 : ∀ i, 0 ≤ gI bs i)
    (hr : IRows .u64 H sr rs) (hr0 : ∀ i j, 0 ≤ (rs.getD i []).getD j 0) :
    CallsH Try.prog n_law39_ThermalDomainsKeepLimit #[.slice sd.p sd.n sd.c, .slice sl.p sl.n sl.c, .int .i64 amb0, .int .i64 lim, .slice sb.p sb.n sb.c, .slice sr.p sr.n sr.c] H (fun v H' => v = .bool true ∧ Ext H H') := by
  refine F_law39_ThermalDomainsKeepLimit_ok _ _ _ _ _ _ ?_
  unfold F_law39_ThermalDomainsKeepLimit
  refine iteB_dec (fun c => awake39_true _ _ (.refl _)) (fun c => ?_)
  refine (Some_spec1 H sd sl D0 L0 amb0 hd hlk).mono ?_
  rintro v H2 ⟨bd, ls, D, L, amb, ⟨rfl, hsys, hbd, hD, hLo, e2⟩, hDn⟩
  have hv := hsys.vs
  have hn1 := hv.n1
  have hn5 := hsys.n5
  have h100 := hsys.a100
  have hl12 := hsys.l12
  refine ⟨⟨_, _, _⟩, _, _, rfl, local_mk rfl rfl fun H4 e4 z4 b4 => ?_⟩
  have hm := modI_range lim (n := 60) (by omega)
  rw [umod_code _ (by omega) (by omega)]
  have hD4 := hD.ext e4
  have hL4 : Lnks H4 ls L := (hLo.ext e4).isS encL_len (by omega)
  refine ⟨⟨some ⟨bd, 0, none⟩, D.length, D.length⟩, b4.rd0 rfl, _, b4.rd (i := 2) rfl, letV_mk (amb + modI lim 60) (i64_in (by omega)) ⟨⟨some ⟨bd, 0, none⟩, D.length, D.length⟩, b4.rd0 rfl, ls, b4.rd (i := 1) rfl, _, b4.rd (i := 2) rfl, ?_⟩⟩
  generalize hk : modI lim 60 = k at *
  refine (New_spec H4 ⟨some ⟨bd, 0, none⟩, D.length, D.length⟩ ls D L amb (hD4.isS _ _ rfl) hL4 (by omega)).mono ?_
  rintro v H5 (⟨_, b, be, rfl, hm5, hb5, hbe5, e5⟩ | ⟨hbad, _⟩)
  rotate_left
  · exact absurd hv hbad
  have x5 := (e2.trans e4).trans e5
  have hto : ((D.length : Int).toNat) = D.length := by simp
  refine ⟨_, _, rfl, iteB_neg rfl (iteB_neg rfl ⟨by omega, by omega, by dsimp only; omega, letH_mk ?_⟩)⟩
  rw [hto]
  intro H6 h6
  have ra6 : RB H6 H5.size t_api_Actor 3 encA (List.replicate D.length (0, 0, 0)) := by rw [h6]; exact RB.zero _ _ encA_len _ _ _ rfl
  have e6 : Ext H5 H6 := by rw [h6]; exact Ext.push _ _
  have z6 : H6.size = H5.size + 1 := by rw [h6]; simp
  clear h6
  rw [tab_replicate] at ra6
  have hlt5 := hm5.blt
  have z2 := e2.size
  have z5 := e5.size
  have zz4 := e4.size
  have hS : ∀ i, i < D.length → 0 ≤ ambOf D i * k ∧ ambOf D i * k ≤ 360 := by
    intro i hi
    have h1 := (hv.dom i hi).1
    have h2 := (hsys.small i hi).1
    have h3 := mul_bound (a := ambOf D i) (b := k) (A := 6) (B := 60) (by omega) (by omega) (by omega) (by omega)
    exact ⟨Int.mul_nonneg (by omega) (by omega), by omega⟩
  refine loop1 D.length (fun i H' => Ext H H' ∧ Ext H5 H' ∧ RB H' H5.size t_api_Actor 3 encA (tab D.length (fun j => if j < i then (0, 0, ambOf D j * k) else (0, 0, 0)))) ⟨x5.trans e6, e6, by simpa using ra6⟩ ?_
  rintro i H7 hi ⟨x7, e7, ra7⟩
  unfold F_law39_ThermalDomainsKeepLimit_r6
  dsimp only
  rw [hto]
  refine iteB_dec (fun c1 => ?_) (fun c1 => ?_)
  · have hin : i < D.length := by omega
    have b7 := ((b4.ext e5).ext e7)
    have hD7 := (hD4.ext e5).ext e7
    have hdi := dom_get hin
    have hsm := hsys.small i hin
    refine ⟨⟨some ⟨bd, 0, none⟩, D.length, D.length⟩, b7.rd0 rfl, by omega, by dsimp only; omega, _, hD7.rd0 (by simpa using hdi) rfl, _, hD7.rd (by simpa using hdi) rfl, _, b7.rd (i := 2) rfl, ?_⟩
    refine (Sustainable_spec H7 (capOf D i) (ambOf D i) amb (amb + k) (hv.one hin) (by omega) (by have := (hv.dom i hin).2; omega)).mono ?_
    rintro v H8 ⟨rfl, e8⟩
    rw [show amb + k - amb = k by omega]
    have hSi := hS i hin
    have ra8 := ra7.ext e8
    refine ⟨_, _, rfl, iteB_neg rfl (iteB_dec (fun c2 => by omega) (fun c2 => ⟨by omega, by omega, ra8.ok (by rw [tab_length]; simpa using hin) (by omega), letH_mk ?_⟩))⟩
    rw [u64_in (n := ambOf D i * k) (by omega)]
    intro H9 h9
    have w9 := ra8.wr (i := (i : Int).toNat) (j := 2) (v := .int .u64 (ambOf D i * k)) (y := (0, 0, ambOf D i * k)) (by rw [tab_get (by simpa using hin)]) (by omega) (by simp [encA])
    rw [← h9] at w9
    have m9 : Mods [H5.size] H8 H9 := by rw [h9]; rw [add_add]; exact mods_wr_add (by simp)
    clear h9
    refine next1 hin (by omega) ⟨Mods.ext (x7.trans e8) m9 (by simp; omega), Mods.ext (e7.trans e8) m9 (by simp), ?_⟩
    rw [Int.toNat_natCast, tab_set hin] at w9
    rw [tab_congr (g := upd (fun j => if j < i then (0, 0, ambOf D j * k) else (0, 0, 0)) i (0, 0, ambOf D i * k))]
    · exact w9
    · intro j hj
      by_cases e : j = i
      · subst e; rw [upd_same, if_pos (by omega)]
      · rw [upd_ne e]
        by_cases e2 : j < i
        · rw [if_pos e2, if_pos (by omega)]
        · rw [if_neg e2, if_neg (by omega)]
  obtain rfl : i = D.length := by omega
  have hbn := hb.len
  have hrn := hr.len
  have hT0 : TB D (fun i => capOf D i * amb) amb (amb + k) := start_TB hv (by omega)
  generalize hSS : (fun j => ambOf D j * k) = S at *
  have hSe : ∀ i, S i = ambOf D i * k := fun i => by rw [← hSS]
  refine loop1 bs.length (fun i H' => Ext H H' ∧ H5.size < H'.size ∧ ∃ E rel, HM t_heat_Model (fun k => H4.size ≤ k ∧ k < H5.size) H' b be D L amb E rel ∧ TB D E amb (amb + k) ∧ (0 ≤ rel ∧ rel ≤ 4503599627370496 * i) ∧ ∃ f, (∀ j, j < D.length → 0 ≤ f j) ∧ RB H' H5.size t_api_Actor 3 encA (tab D.length (dAct S f)))
    ⟨x7, ra7.lt, _, _, (hm5.tight).ext e7, hT0, by omega, fun _ => 0, fun _ _ => Int.le_refl _, ?_⟩ ?_
  · rw [tab_congr (g := fun j => if j < D.length then (0, 0, ambOf D j * k) else (0, 0, 0)) (fun j hj => by rw [if_pos hj]; unfold dAct; rw [hSe])]
    exact ra7
  rintro i H10 hi ⟨x10, z10, E, rel, m10, t10, rl, f, hf, ra10⟩
  unfold F_law39_ThermalDomainsKeepLimit_r5
  refine iteB_dec (fun c2 => ?_) (fun c2 => awake39_true _ _ x10)
  have hin : i < bs.length := by omega
  have sepb : ∀ q, (H4.size ≤ q ∧ q < H5.size) → q ∉ [H5.size] := fun q hq => by simp; omega
  refine loop1 D.length (fun j H' => Ext H H' ∧ H5.size < H'.size ∧ HM t_heat_Model (fun k => H4.size ≤ k ∧ k < H5.size) H' b be D L amb E rel ∧ ∃ f, (∀ j, j < D.length → 0 ≤ f j) ∧ RB H' H5.size t_api_Actor 3 encA (tab D.length (dAct S f)))
    ⟨x10, z10, m10, f, hf, ra10⟩ ?_
  clear ra10 hf f
  rintro j H11 hj ⟨x11, z11, m11, f, hf, ra11⟩
  unfold F_law39_ThermalDomainsKeepLimit_r4
  dsimp only
  rw [hto]
  refine iteB_dec (fun c3 => ?_) (fun c3 => ?_)
  · have hjn : j < D.length := by omega
    rw [i64_in (n := (i : Int) + j) (by omega), u64_in (n := (i : Int) + j) (by omega)]
    have setR : ∀ (H11 : Heap) (f : Nat → Int) (v : Int), Ext H H11 → H5.size < H11.size → HM t_heat_Model (fun k => H4.size ≤ k ∧ k < H5.size) H11 b be D L amb E rel → (∀ j, j < D.length → 0 ≤ f j) → RB H11 H5.size t_api_Actor 3 encA (tab D.length (dAct S f)) → 0 ≤ v →
        Ext H (wrs H11 ((⟨H5.size, 0, none⟩ : Addr).add ((j : Int).toNat * 3)) [.int .u64 v]) ∧ H5.size < (wrs H11 ((⟨H5.size, 0, none⟩ : Addr).add ((j : Int).toNat * 3)) [.int .u64 v]).size ∧ HM t_heat_Model (fun k => H4.size ≤ k ∧ k < H5.size) (wrs H11 ((⟨H5.size, 0, none⟩ : Addr).add ((j : Int).toNat * 3)) [.int .u64 v]) b be D L amb E rel ∧
          ∃ f, (∀ j, j < D.length → 0 ≤ f j) ∧ RB (wrs H11 ((⟨H5.size, 0, none⟩ : Addr).add ((j : Int).toNat * 3)) [.int .u64 v]) H5.size t_api_Actor 3 encA (tab D.length (dAct S f)) := by
      intro H11 f v x11 z11 m11 hf ra11 hv0
      have mm : Mods [H5.size] H11 (wrs H11 ((⟨H5.size, 0, none⟩ : Addr).add ((j : Int).toNat * 3)) [.int .u64 v]) := mods_wr_add (by simp)
      have w := ra11.wr0 (i := (j : Int).toNat) (v := .int .u64 v) (y := (v, 0, S j)) (by rw [tab_get (by simpa using hjn)]) (by omega) (by simp [encA, dAct])
      refine ⟨Mods.ext x11 mm (by simp; omega), by rw [wrs_size]; exact z11, m11.mods mm (by simp; omega) (by simp; omega) sepb, upd f j v, fun q hq => ?_, ?_⟩
      · by_cases e : q = j
        · subst e; rw [upd_same]; exact hv0
        · rw [upd_ne e]; exact hf q hq
      · rw [Int.toNat_natCast, tab_set hjn] at w
        rw [tab_congr (g := upd (dAct S f) j (v, 0, S j)) (fun q hq => ?_)]
        · exact w
        · by_cases e : q = j
          · subst e; unfold dAct; rw [upd_same, upd_same]
          · rw [upd_ne e]; unfold dAct; rw [upd_ne e]
    refine ⟨by omega, by omega, ra11.ok0 (by rw [tab_length]; simpa using hjn) (by omega), letH_mk ?_⟩
    intro H12 h12
    obtain ⟨x12, z12, m12, f', hf', ra12⟩ := setR H11 f ((i : Int) + j) x11 z11 m11 hf ra11 (by omega)
    rw [← h12] at x12 z12 m12 ra12
    clear h12
    refine ⟨fun x H' => H' = H12 ∧ x = decide (i < rs.length ∧ j < (rs.getD i []).length), ?_, ?_⟩
    · refine iteB_dec (fun c4 => ?_) (fun c4 => ⟨rfl, by rw [decide_eq_false]; omega⟩)
      obtain ⟨a, r, hp, hrd, hri, _⟩ := (hr.ext x12).at (x := i) (by omega) (by omega)
      refine ⟨by omega, by omega, unSome_mk hp ⟨r, hrd, rfl, ?_⟩⟩
      have := hri.len
      simp only [Int.toNat_natCast] at this
      exact decide_eq_decide.2 (by omega)
    rintro x H13 ⟨rfl, rfl⟩
    unfold F_law39_ThermalDomainsKeepLimit_k1
    rw [hto]
    refine iteB_dec (fun c4 => ?_) (fun c4 => next1 hjn (by omega) ⟨x12, z12, m12, f', hf', ra12⟩)
    obtain ⟨a, r, hp, hrd, hri, _⟩ := (hr.ext x12).at (x := i) (by omega) (by omega)
    simp only [Int.toNat_natCast] at hri
    obtain ⟨a', hp', hrd'⟩ := Ints.atN hri c4.2
    have := hri.len
    refine ⟨by omega, by omega, unSome_mk hp ⟨r, hrd, by omega, by omega, unSome_mk hp' ⟨_, hrd', by omega, by omega, ra12.ok0 (by rw [tab_length]; simpa using hjn) (by omega), letH_mk ?_⟩⟩⟩
    rintro H14 rfl
    exact next1 hjn (by omega) (setR H13 f' _ x12 z12 m12 hf' ra12 (hr0 i j))
  obtain rfl : j = D.length := by omega
  obtain ⟨ab, hpb, hrb⟩ := Ints.atN (hb.ext x11) hin
  have hbi := hb0 i
  unfold gI at hbi
  have hB : 0 ≤ bs.getD i 0 % 600 ∧ bs.getD i 0 % 600 < 600 := by omega
  have hAl : (tab D.length (dAct S f)).length = D.length := tab_length _ _
  have hoA : okA (tab D.length (dAct S f)) := dAct_ok (fun q hq => ⟨hf q hq, by rw [hSe]; exact (hS q hq).1⟩)
  have hVA : VA (tab D.length (dAct S f)) := dAct_VA (by omega) (fun q hq => by rw [hSe]; have := hS q hq; omega)
  refine ⟨by omega, by omega, unSome_mk hpb ⟨_, hrb, ?_⟩⟩
  rw [Int.tmod_eq_emod_of_nonneg hbi]
  refine (Allocate_spec H11 ⟨some ⟨H5.size, 0, none⟩, D.length, D.length⟩ (tab D.length (dAct S f)) (bs.getD i 0 % 600) (ra11.isS _ _ hAl.symm) hoA (by omega)).mono ?_
  rintro v H15 ⟨e15, ⟨hbad, _⟩ | ⟨_, hbad, _⟩ | ⟨_, _, lev, hlev, sg, rfl, hrow⟩⟩
  · exact absurd hVA hbad
  · rw [hAl, dAct_tot (fun q hq => by rw [hSe]; exact (hS q hq).1) _ (Nat.le_refl _)] at hbad; omega
  have hfair := gr_fair hVA hoA hlev
  have ig := hrow.ints
  obtain ⟨gn, gb⟩ := hrow
  rw [hAl] at gn gb ig hfair
  have hfr := hfair.2.2.1
  have hsm := hfair.2.2.2.1
  rw [hAl] at hfr hsm
  generalize hG : tab D.length (grA (tab D.length (dAct S f)) lev (bs.getD i 0 % 600 - totA (tab D.length (dAct S f)) lev D.length)) = G at *
  have hGl : G.length = D.length := by rw [← hG, tab_length]
  have hgi : ∀ q, q < D.length → 0 ≤ G.getD q 0 ∧ G.getD q 0 ≤ S q ∧ S q ≤ 360 := by
    intro q hq
    have h1 := hfr q hq
    have h2 := at_bound hVA hoA 0 (i := q) (by rw [hAl]; exact hq)
    have h3 := hS q hq
    unfold Fr1 gI at h1
    rw [dAct_mn] at h1
    rw [dAct_mx hq] at h2
    rw [← hSe] at h3
    omega
  refine ⟨sg, _, rfl, iteB_neg rfl (iteB_neg (by rw [gn]; simp) ⟨by omega, by omega, by omega, letH_mk ?_⟩)⟩
  intro H16 h16
  have p16 := IBlk.zero (k := .i64) H15 t_int64 D.length
  rw [← h16] at p16
  have e16 : Ext H15 H16 := by rw [h16]; exact Ext.push _ _
  have z16 : H16.size = H15.size + 1 := by rw [h16]; simp
  clear h16
  have zz15 := e15.size
  have x16 := (x11.trans e15).trans e16
  have gsep : ∀ a, sg.p = some a → a.block < H15.size ∨ G = [] := by
    intro a ha
    rcases gb with gb | ⟨g, g1, g2, g3⟩
    · right; exact List.eq_nil_of_length_eq_zero (by omega)
    · left; rw [g1] at ha; cases ha; exact g3.lt
  refine loop2 D.length (fun q (t : Int) H' => Ext H H' ∧ H15.size < H'.size ∧ t = sumG G q ∧ HM t_heat_Model (fun k => H4.size ≤ k ∧ k < H5.size) H' b be D L amb E rel ∧ RB H' H5.size t_api_Actor 3 encA (tab D.length (dAct S f)) ∧ Ints .u64 H' sg G ∧ IBlk .i64 H' H15.size t_int64 D.length (fun j => if j < q then G.getD j 0 else 0))
    ⟨x16, by omega, rfl, (m11.ext e15).ext e16, (ra11.ext e15).ext e16, ig.ext e16, p16.congr (fun j _ => by simp)⟩ ?_
  rintro q t H17 hq ⟨x17, z17, rfl, m17, ra17, g17, p17⟩
  unfold F_law39_ThermalDomainsKeepLimit_r3
  dsimp only
  rw [hto]
  refine iteB_dec (fun c5 => ?_) (fun c5 => ?_)
  · have hqn : q < D.length := by omega
    obtain ⟨ag, hpg, rg⟩ := Ints.atN g17 (i := q) (by omega)
    have hgq := hgi q hqn
    refine ⟨by omega, by omega, unSome_mk hpg ⟨_, rg, by omega, by omega, _, ra17.rd (x := dAct S f q) (tab_get (by simpa using hqn)) rfl, iteB_dec (fun c6 => by unfold dAct at c6; dsimp only at c6; omega) (fun c6 => ?_)⟩⟩
    refine ⟨by omega, by omega, unSome_mk hpg ⟨_, rg, by omega, by omega, p17.ok hqn, letH_mk ?_⟩⟩
    rw [i64_in (n := G.getD q 0) (by omega)]
    intro H18 h18
    have m18 : Mods [H15.size] H17 H18 := by rw [h18]; exact mods_wr_add (by simp)
    have w18 := p17.wr hqn (G.getD q 0)
    change IBlk .i64 (wrs H17 ((⟨H15.size, 0, none⟩ : Addr).add ((q : Int).toNat * 1)) _) H15.size t_int64 D.length _ at w18
    rw [← h18] at w18
    clear h18
    have g18 : Ints .u64 H18 sg G := by
      by_cases hne : G = []
      · exact ⟨g17.len, .inl hne⟩
      · exact g17.mods m18 (fun a ha => by have := (gsep a ha).resolve_right hne; simp; omega)
    obtain ⟨ag', hpg', rg'⟩ := Ints.atN g18 (i := q) (by omega)
    have hsb := sumG_bound hVA hoA (k := q + 1) (G := G) (by rw [hAl]; omega) (fun i hi => hfr i (by omega))
    refine ⟨by omega, by omega, unSome_mk hpg' ⟨_, rg', letV_mk (sumG G (q + 1)) (u64_in (by simp only [sumG] at hsb; unfold gI at hsb; omega)) (next2 hqn (by omega) ⟨Mods.ext x17 m18 (by have := x11.size; simp; omega), by have := m18.size; omega, rfl, m17.mods m18 (by simp; omega) (by simp; omega) (fun k hk => by simp; omega), ra17.mods m18 (by simp; omega), g18, w18.congr (fun j hj => ?_)⟩)⟩⟩
    by_cases e : j = q
    · subst e; rw [upd_same, if_pos (by omega)]
    · rw [upd_ne e]
      by_cases e2 : j < q
      · rw [if_pos e2, if_pos (by omega)]
      · rw [if_neg e2, if_neg (by omega)]
  obtain rfl : q = D.length := by omega
  have pG : ∀ i, i < D.length → (tab D.length (fun j => if j < D.length then G.getD j 0 else 0)).getD i 0 = G.getD i 0 := fun i hi => by rw [tab_getD _ hi, if_pos hi]
  refine (Step_keep b be D L amb (amb + k) E rel _ ⟨some ⟨H15.size, 0, none⟩, D.length, D.length⟩ H17 m17 hv (by omega) (by omega) t10 (p17.ints _) (tab_length _ _) (fun i hi => ?_) (fun a ha => by cases ha; simp; omega) (by omega)).mono ?_
  · rw [pG i hi]
    have h1 := hgi i hi
    rw [hSe] at h1
    rw [show amb + k - amb = k by omega]
    omega
  rintro v H19 ⟨tt, rel', rfl, it, nt, m19, t19, l1, l2, mm⟩
  have x19 : Ext H H19 := Mods.ext x17 mm (by simp; omega)
  have hn := it.len
  rw [tab_length] at hn
  obtain ⟨ab', hpb', hrb'⟩ := Ints.atN (hb.ext x19) hin
  have z19 := mm.size
  refine ⟨tt, _, rfl, iteB_neg rfl (iteB_neg (by rw [hn]; simp) ⟨by omega, by omega, unSome_mk hpb' ⟨_, hrb', ?_⟩⟩)⟩
  rw [Int.tmod_eq_emod_of_nonneg hbi]
  refine iteB_dec (fun c6 => by omega) (fun c6 => ?_)
  refine loop1 D.length (fun q H' => H' = H19) rfl ?_
  rintro q H20 hq rfl
  unfold F_law39_ThermalDomainsKeepLimit_r2
  dsimp only
  refine iteB_dec (fun c7 => ?_) (fun c7 => ?_)
  · have hqn : q < D.length := by omega
    obtain ⟨at', hpt, hrt⟩ := Ints.atN it (i := q) (by rw [tab_length]; exact hqn)
    rw [tab_getD _ hqn] at hrt
    have := t19 q hqn
    exact ⟨by omega, by omega, unSome_mk hpt ⟨_, hrt, iteB_dec (fun c8 => by omega) (fun c8 => next1 hqn (by omega) rfl)⟩⟩
  · exact next1 hin (by omega) ⟨x19, by omega, _, rel', m19, t19, by simp only [Int.natCast_add, Int.natCast_one]; omega, f, hf, ra17.mods mm (by simp; omega)⟩

end Go.Proofs.Ytiikkapdchodkaa
