/-
  The contracts of the laws ThermalKeepsLimit and ThermalBudgetKeepsLimit.
-/
import Derived.Test.YtiikkapdchodkaaL5
import Derived.Test.YtiikkapdchodkaaT9
namespace Go.Proofs.Ytiikkapdchodkaa
open Go.Eng Go.Heat

variable {Q : Nat → Prop}

theorem law_keepsLimit (H : Heap) (d : Dom) (amb0 lim : Int) (s : Sl) (ps : List Int) (hps : Ints .i64 H s ps) :
    CallsH Try.prog n_law39_ThermalKeepsLimit #[.agg (encD d).toArray, .int .i64 amb0, .int .i64 lim, .slice s.p s.n s.c] H (fun v H' => v = .bool true ∧ Ext H H') := by
  refine F_law39_ThermalKeepsLimit_ok _ _ _ _ _ ?_
  unfold F_law39_ThermalKeepsLimit
  refine push_mk (vs := encD d) fun H1 e1 z1 b1 => ?_
  refine iteB_dec (fun c => awake39_true _ _ e1) (fun c => ?_)
  refine ⟨_, b1.rd0 rfl, _, b1.rd (i := 1) rfl, push_mk (vs := ([d] : List Dom).flatMap encD) fun H3 e3 z3 b3 => ?_⟩
  refine (Some_spec1 H3 ⟨some ⟨H1.size, 0, none⟩, 1, 1⟩ ⟨none, 0, 0⟩ [d] [] amb0 (IsS.of_blk encD_len b3 rfl (fun _ _ h => h)) (IsS.nil _ _ _)).mono ?_
  rintro v H4 ⟨bd, ls, D, L, amb, ⟨rfl, hsys, hbd, hD, _, e4⟩, hDn⟩
  have hv := hsys.vs
  have hDl : D.length = 1 := by have := hv.n1; simp at hDn; omega
  have hsm := hsys.small 0 (by omega)
  have ha1 := hv.dom 0 (by omega)
  have h100 := hsys.a100
  have x4 := (e1.trans e3).trans e4
  refine ⟨⟨_, _, _⟩, _, _, rfl, local_mk rfl rfl fun H6 e6 z6 b6 => ?_⟩
  have hm := modI_range lim (n := 50) (by omega)
  rw [umod_code _ (by omega) (by omega)]
  have hD6 := hD.ext e6
  have hd0 := dom_get (D := D) (i := 0) (by omega)
  refine ⟨_, b6.rd (i := 2) rfl, letV_mk (amb + modI lim 50) (i64_in (by omega)) ⟨⟨some ⟨bd, 0, none⟩, D.length, D.length⟩, b6.rd0 rfl, by omega, by dsimp only; omega, _, hD6.rd0 hd0 rfl, _, hD6.rd hd0 rfl, _, b6.rd (i := 2) rfl, ?_⟩⟩
  generalize hk : modI lim 50 = k at *
  generalize hA : ambOf D 0 = A at *
  refine (Sustainable_spec H6 (capOf D 0) A amb (amb + k) (hA ▸ hv.one (by omega)) (by omega) (by omega)).mono ?_
  rintro v H7 ⟨rfl, e7⟩
  have b7 := b6.ext e7
  have hD7 := hD6.ext e7
  rw [show amb + k - amb = k by omega]
  have hmul := mul_bound (a := A) (b := k) (A := 6) (B := 50) (by omega) (by omega) (by omega) (by omega)
  have hmul0 : 0 ≤ A * k := Int.mul_nonneg (by omega) (by omega)
  have hv' := hv.noLinks
  refine ⟨_, _, rfl, ⟨_, _, _⟩, b7.rd0 rfl, _, b7.rd (i := 2) rfl, (New_spec H7 ⟨some ⟨bd, 0, none⟩, D.length, D.length⟩ ⟨none, 0, 0⟩ D [] amb (hD7.isS _ _ rfl) (IsS.nil _ _ _) (by simp)).mono ?_⟩
  rintro v H8 (⟨_, b, be, rfl, hm8, hb, hbe, e8⟩ | ⟨hbad, _⟩)
  rotate_left
  · exact absurd hv' hbad
  have x8 := ((x4.trans e6).trans e7).trans e8
  have y8 := ((e6.trans e7).trans e8)
  have z7 := (((x4.trans e6).trans e7)).size
  refine ⟨_, _, rfl, iteB_neg rfl (iteB_neg rfl (iteB_neg rfl (iteB_dec (fun c1 => by omega) (fun c1 => ?_))))⟩
  have hT0 : TB D (fun i => capOf D i * amb) amb (amb + k) := start_TB hv' (by omega)
  have hpsn := hps.len
  refine loop1 ps.length (fun j H' => Ext H H' ∧ ∃ E rel, HM t_heat_Model (fun k => H7.size ≤ k) H' b be D [] amb E rel ∧ TB D E amb (amb + k) ∧ 0 ≤ rel ∧ rel ≤ 4503599627370496 * j) ⟨x8, _, _, hm8, hT0, by omega, by omega⟩ ?_
  rintro j H9 hj ⟨e9, E, rel, m9, t9, rl0, rl1⟩
  unfold F_law39_ThermalKeepsLimit_r2
  refine iteB_dec (fun c2 => ?_) (fun c2 => awake39_true _ _ e9)
  have hjn : j < ps.length := by omega
  obtain ⟨a1, hp1, hr1⟩ := Ints.atN (hps.ext e9) hjn
  refine ⟨by omega, by omega, unSome_mk hp1 ⟨_, hr1, push_mk (vs := ([ps.getD j 0] : List Int).map (Value.int .i64)) fun H10 e10 z10 b10 => ?_⟩⟩
  refine (Powers_spec H10 ⟨some ⟨H9.size, 0, none⟩, 1, 1⟩ [ps.getD j 0] 1 (A * k) (Ints.of_blk b10 rfl) (by omega) (by omega)).mono ?_
  rintro v H11 ⟨sp, rfl, hsp, hspn, bp, e11⟩
  have x11 := (e9.trans e10).trans e11
  have m11 := (m9.ext e10).ext e11
  have hlt := m9.blt
  have z11 := e11.size
  refine ⟨sp, rfl, fun H' => Ext H H' ∧ HM t_heat_Model (fun k => H7.size ≤ k ∧ k < H10.size) H' b be D [] amb E rel ∧ ∃ f, IBlk .i64 H' H10.size t_int64 1 f ∧ 0 ≤ f 0 ∧ f 0 ≤ A * k, ?_, ?_⟩
  · have m10t := ((m9.ext e10).tight).ext e11
    refine iteB_beq (fun c3 => ?_) (fun c3 => ⟨x11, m10t, _, bp, powersF_range _ (by omega) 0⟩)
    refine ⟨by omega, by omega, unSome_mk hsp ⟨bp.ok (i := 0) (by omega), letH_mk ?_⟩⟩
    rintro H12 rfl
    refine ⟨Mods.ext x11 (mods_wr_add (S := [H10.size]) (by simp)) (by have := x8.size; have := (e9.trans e10).size; simp; omega), m10t.mods (mods_wr_add (S := [H10.size]) (by simp)) (by simp; omega) (by simp; omega) (fun q hq => by simp; omega), _, bp.wr (i := 0) (by omega) (A * k), ?_⟩
    rw [upd_same]; omega
  rintro H13 ⟨x13, m13, f, bf, f0, f1⟩
  unfold F_law39_ThermalKeepsLimit_k1
  have isp : Ints .i64 H13 sp (tab 1 f) := by
    obtain ⟨p, n, cc⟩ := sp
    dsimp only at hsp hspn
    subst hsp hspn
    exact bf.ints cc
  have hg : ∀ i, i < D.length → (tab 1 f).getD i 0 = f 0 := by
    intro i hi
    obtain rfl : i = 0 := by omega
    exact tab_getD _ (by omega)
  refine (Step_keep b be D [] amb (amb + k) E rel (tab 1 f) sp H13 m13 hv' (by simp) (by omega) t9 isp (by rw [tab_length, hDl]) (fun i hi => ?_) (fun a ha => by rw [hsp] at ha; cases ha; simp; omega) (by omega)).mono ?_
  · rw [hg i hi]
    obtain rfl : i = 0 := by omega
    rw [hA, show amb + k - amb = k by omega]
    omega
  rintro v H14 ⟨t, rel', rfl, it, nt, m14, t14, l1, l2, mm⟩
  have hn := it.len
  rw [tab_length, hDl] at hn
  obtain ⟨a3, hp3, hr3⟩ := Ints.atN it (i := 0) (by rw [tab_length]; omega)
  rw [tab_getD _ (by omega)] at hr3
  have ht0 := t14 0 (by omega)
  refine ⟨t, _, rfl, iteB_neg rfl (iteB_neg (by rw [hn]; rfl) ⟨by omega, by rw [hn]; decide, unSome_mk hp3 ⟨_, hr3, iteB_dec (fun c4 => by omega) (fun c4 => ?_)⟩⟩)⟩
  refine next1 hjn (by omega) ⟨Mods.ext x13 mm (by simp; omega), _, rel', m14.weaken (fun k hk => hk.1), t14, by omega, by simp only [Int.natCast_add, Int.natCast_one]; omega⟩

theorem sumG_le {A : List Act} {G : List Int} (ho : okA A) : ∀ n k, k ≤ n → (∀ i, i < n → Fr1 A G i) → sumG G k ≤ sumG G n := by
  intro n
  induction n with
  | zero => intro k hk _; obtain rfl : k = 0 := by omega
            exact Int.le_refl _
  | succ n ih =>
    intro k hk hf
    by_cases e : k = n + 1
    · subst e; exact Int.le_refl _
    · have := ih k (by omega) (fun i hi => hf i (by omega))
      have h1 := (hf n (by omega)).1
      have h2 := ho n
      simp only [sumG]
      omega

theorem law_budgetKeepsLimit (H : Heap) (d : Dom) (amb0 lim : Int) (s su : Sl) (A0 : List Act) (us : List Int) (h : Acts H s A0) (ho0 : okA A0) (hus : Ints .i64 H su us) :
    CallsH Try.prog n_law39_ThermalBudgetKeepsLimit #[.agg (encD d).toArray, .int .i64 amb0, .int .i64 lim, .slice s.p s.n s.c, .slice su.p su.n su.c] H (fun v H' => v = .bool true ∧ Ext H H') := by
  refine F_law39_ThermalBudgetKeepsLimit_ok _ _ _ _ _ _ ?_
  unfold F_law39_ThermalBudgetKeepsLimit
  refine push_mk (vs := encD d) fun H1 e1 z1 b1 => ?_
  refine ⟨fun x H' => x = decide (s.n > 40 ∨ su.n > 40) ∧ H' = H1, ?_, ?_⟩
  · refine iteB_dec (fun c => ?_) (fun c => ?_)
    · exact ⟨by rw [decide_eq_true]; omega, rfl⟩
    · exact ⟨decide_eq_decide.2 (by omega), rfl⟩
  rintro x H2 ⟨rfl, rfl⟩
  unfold F_law39_ThermalBudgetKeepsLimit_k3
  refine iteB_dec (fun c => awake39_true _ _ e1) (fun c => ?_)
  refine ⟨_, b1.rd0 rfl, _, b1.rd (i := 1) rfl, push_mk (vs := ([d] : List Dom).flatMap encD) fun H3 e3 z3 b3 => ?_⟩
  refine (Some_spec1 H3 ⟨some ⟨H2.size, 0, none⟩, 1, 1⟩ ⟨none, 0, 0⟩ [d] [] amb0 (IsS.of_blk encD_len b3 rfl (fun _ _ h => h)) (IsS.nil _ _ _)).mono ?_
  rintro v H4 ⟨bd, ls, D, L, amb, ⟨rfl, hsys, hbd, hD, _, e4⟩, hDn⟩
  have hv := hsys.vs
  have hDl : D.length = 1 := by have := hv.n1; simp at hDn; omega
  have hsm := hsys.small 0 (by omega)
  have ha1 := hv.dom 0 (by omega)
  have h100 := hsys.a100
  have x4 := (e1.trans e3).trans e4
  refine ⟨⟨_, _, _⟩, _, _, rfl, local_mk rfl rfl fun H6 e6 z6 b6 => ?_⟩
  have hm := modI_range lim (n := 60) (by omega)
  rw [umod_code _ (by omega) (by omega)]
  have hD6 := hD.ext e6
  have hd0 := dom_get (D := D) (i := 0) (by omega)
  refine ⟨_, b6.rd (i := 2) rfl, letV_mk (amb + modI lim 60) (i64_in (by omega)) ⟨⟨some ⟨bd, 0, none⟩, D.length, D.length⟩, b6.rd0 rfl, by omega, by dsimp only; omega, _, hD6.rd0 hd0 rfl, _, hD6.rd hd0 rfl, _, b6.rd (i := 2) rfl, ?_⟩⟩
  generalize hk : modI lim 60 = k at *
  generalize hA : ambOf D 0 = A at *
  refine (Sustainable_spec H6 (capOf D 0) A amb (amb + k) (hA ▸ hv.one (by omega)) (by omega) (by omega)).mono ?_
  rintro v H7 ⟨rfl, e7⟩
  have b7 := b6.ext e7
  have hD7 := hD6.ext e7
  rw [show amb + k - amb = k by omega]
  have hmul := mul_bound (a := A) (b := k) (A := 6) (B := 60) (by omega) (by omega) (by omega) (by omega)
  have hmul0 : 0 ≤ A * k := Int.mul_nonneg (by omega) (by omega)
  have hv' := hv.noLinks
  refine ⟨_, _, rfl, ⟨_, _, _⟩, b7.rd0 rfl, _, b7.rd (i := 2) rfl, (New_spec H7 ⟨some ⟨bd, 0, none⟩, D.length, D.length⟩ ⟨none, 0, 0⟩ D [] amb (hD7.isS _ _ rfl) (IsS.nil _ _ _) (by simp)).mono ?_⟩
  rintro v H8 (⟨_, b, be, rfl, hm8, hb, hbe, e8⟩ | ⟨hbad, _⟩)
  rotate_left
  · exact absurd hv' hbad
  have x8 := ((x4.trans e6).trans e7).trans e8
  have z7 := (((x4.trans e6).trans e7)).size
  have hlt8 := hm8.blt
  refine ⟨_, _, rfl, iteB_neg rfl (iteB_neg rfl (iteB_neg rfl (iteB_dec (fun c1 => by omega) (fun c1 => ?_))))⟩
  refine (Actors_spec H8 s A0 (h.ext x8) ho0).mono ?_
  rintro v H9 ⟨l, rfl, hl, e9⟩
  have hl2 : Acts H9 l (actorsF A0) := hl.isS encA_len (by omega)
  have ho := okA_actorsF ho0
  have hV := VA_actorsF ho0
  have hln := hl2.len
  generalize actorsF A0 = B at *
  rw [u64_in (n := A * k) (by omega)]
  refine ⟨l, rfl, (Allocate_spec H9 l B (A * k) hl2 ho (by omega)).mono ?_⟩
  intro v H10 hAl
  obtain ⟨e10, ⟨hbad, _⟩ | ⟨_, _, rfl⟩ | ⟨_, h0, lev, hlev, sg, rfl, hrow⟩⟩ := hAl
  · exact absurd hV hbad
  · exact ⟨⟨none, 0, 0⟩, _, rfl, iteB_pos rfl (iteB_pos rfl (awake39_true _ _ ((x8.trans e9).trans e10)))⟩
  have hfair := gr_fair hV ho hlev
  have ig := hrow.ints
  obtain ⟨gn, gb⟩ := hrow
  generalize hG : tab B.length (grA B lev (A * k - totA B lev B.length)) = G at *
  have hGl : G.length = B.length := by rw [← hG, tab_length]
  have hB32 := hV.1
  have hsum : sumG G B.length ≤ A * k := by have := hfair.2.2.2.1; omega
  refine ⟨sg, _, rfl, iteB_neg rfl (iteB_neg (by rw [gn, hln]; simp) ?_)⟩
  have hT0 : TB D (fun i => capOf D i * amb) amb (amb + k) := start_TB hv' (by omega)
  have husn := hus.len
  have x10 := (x8.trans e9).trans e10
  have z9 := e9.size
  have gsep : ∀ a, sg.p = some a → G ≠ [] → a.block ≠ b ∧ a.block ≠ be := by
    intro a ha hne
    rcases gb with gb | ⟨g, g1, g2, _⟩
    · exact absurd (List.eq_nil_of_length_eq_zero (by omega)) hne
    · rw [g1] at ha; cases ha; simp; omega
  refine loop1 us.length (fun j H' => Ext H H' ∧ ∃ E rel, HM t_heat_Model (fun k => H7.size ≤ k) H' b be D [] amb E rel ∧ TB D E amb (amb + k) ∧ (0 ≤ rel ∧ rel ≤ 4503599627370496 * j) ∧ Ints .u64 H' sg G) ⟨x10, _, _, (hm8.ext e9).ext e10, hT0, by omega, ig⟩ ?_
  rintro j H13 hj ⟨e13, E, rel, m13, t13, rl, g13⟩
  unfold F_law39_ThermalBudgetKeepsLimit_r2
  refine iteB_dec (fun c2 => ?_) (fun c2 => awake39_true _ _ e13)
  have hjn : j < us.length := by omega
  refine loop2 B.length (fun q (p : Int) H' => H' = H13 ∧ 0 ≤ p ∧ p ≤ sumG G q) ⟨rfl, by omega, by simp [sumG]⟩ ?_
  rintro q p H14 hq ⟨rfl, p0, p1⟩
  unfold F_law39_ThermalBudgetKeepsLimit_r1
  have hsq := sumG_le ho B.length q hq hfair.2.2.1
  refine iteB_dec (fun c3 => ?_) (fun c3 => ?_)
  · have hqn : q < B.length := by omega
    obtain ⟨ag, hpg, rg⟩ := Ints.atN g13 (i := q) (by omega)
    obtain ⟨au, hpu, ru⟩ := Ints.atN (hus.ext e13) hjn
    have hf := hfair.2.2.1 q hqn
    have hwt := want_top hV hqn
    have hok := ho q
    unfold Fr1 gI at hf
    refine ⟨by omega, by omega, unSome_mk hpg ⟨_, rg, iteB_dec (fun c4 => by omega) (fun c4 => ⟨by omega, by omega, unSome_mk hpu ⟨_, ru, u64_nonneg _, by omega, by omega, unSome_mk hpg ⟨_, rg, by omega, by omega, unSome_mk hpg ⟨_, rg, ?_⟩⟩⟩⟩)⟩⟩
    rw [u64_in (n := G.getD q 0 + 1) (by omega), Int.tmod_eq_emod_of_nonneg (u64_nonneg _)]
    generalize IntKind.u64.wrap _ = X
    have hx1 := Int.emod_nonneg X (b := G.getD q 0 + 1) (by omega)
    have hx2 := Int.emod_lt_of_pos X (b := G.getD q 0 + 1) (by omega)
    rw [i64_in (n := X % (G.getD q 0 + 1)) (by omega)]
    refine ⟨by omega, letV_mk (p + X % (G.getD q 0 + 1)) (i64_in (by omega)) (next2 hqn (by omega) ⟨rfl, by omega, ?_⟩)⟩
    simp only [sumG]
    unfold gI
    omega
  · obtain rfl : q = B.length := by omega
    refine push_mk (vs := ([p] : List Int).map (Value.int .i64)) fun H15 e15 z15 b15 => ?_
    have hlt := m13.blt
    refine (Step_keep b be D [] amb (amb + k) E rel [p] ⟨some ⟨H14.size, 0, none⟩, 1, 1⟩ H15 (m13.ext e15) hv' (by simp) (by omega) t13 (Ints.of_blk b15 rfl) (by simp [hDl]) (fun i hi => ?_) (fun a ha => by cases ha; simp; omega) (by omega)).mono ?_
    · obtain rfl : i = 0 := by omega
      rw [hA, show amb + k - amb = k by omega]
      simp
      omega
    rintro v H16 ⟨t, rel', rfl, it, nt, m16, t16, l1, l2, mm⟩
    have hn := it.len
    rw [tab_length, hDl] at hn
    obtain ⟨a3, hp3, hr3⟩ := Ints.atN it (i := 0) (by rw [tab_length]; omega)
    rw [tab_getD _ (by omega)] at hr3
    have ht0 := t16 0 (by omega)
    refine ⟨t, _, rfl, iteB_neg rfl (iteB_neg (by rw [hn]; rfl) ⟨by omega, by rw [hn]; decide, unSome_mk hp3 ⟨_, hr3, iteB_dec (fun c4 => by omega) (fun c4 => ?_)⟩⟩)⟩
    refine next1 hjn (by omega) ⟨Mods.ext (e13.trans e15) mm (by simp; omega), _, rel', m16, t16, by simp only [Int.natCast_add, Int.natCast_one]; omega, ?_⟩
    by_cases hne : G = []
    · exact ⟨g13.len, .inl hne⟩
    · exact (g13.ext e15).mods mm (fun a ha => by have := gsep a ha hne; simp; omega)

end Go.Proofs.Ytiikkapdchodkaa
