/-
  The law HeatConservation, over the shallow readings.
-/
import Derived.Test.YtenpfhfhjpipaaaC8
import Derived.Test.YtenpfhfhjpipaaaEngO
namespace Go.Proofs.Ytenpfhfhjpipaaa
open Go.Eng Go.Heat

variable {Q : Nat → Prop}

/-- The start of every law: a system, laid into a local of its own; then a model of it. -/
theorem newSys (H : Heap) (ds ls : Sl) (D : List Dom) (L : List Lnk) (amb : Int) (hs : Sys D L amb) (hd : Doms H ds D) (hl : Lnks H ls L) :
    CallsH Try.prog n_heat_New #[.slice ds.p ds.n ds.c, .slice ls.p ls.n ls.c, .int .i64 amb] H (fun v H' => ∃ b be : Nat, v = .tuple #[.pointer (some ⟨b, 0, none⟩), .int .i64 0] ∧ HM t_heat_Model (fun k => H.size ≤ k) H' b be D L amb (fun i => capOf D i * amb) 0 ∧ H.size ≤ b ∧ H.size ≤ be ∧ Ext H H') := by
  refine (New_spec H ds ls D L amb hd hl (by have := hs.l12; omega)).mono ?_
  rintro v H' (⟨_, b, be, h⟩ | ⟨hv, _⟩)
  · exact ⟨b, be, h⟩
  · exact absurd hs.vs hv

theorem en_bound {D : List Dom} {L : List Lnk} {amb : Int} {E : Nat → Int} (hs : Sys D L amb) (h : TB D E amb (amb + 16777216)) {i : Nat} (hi : i < D.length) : -10000 ≤ E i ∧ E i ≤ 1230000000 := by
  have hd := hs.vs.dom i hi
  have hc := hs.vs.cap i hi
  have hn := need_bound (L := L) (n := D.length) i L.length hs.vs.lnk
  have ha := hs.a100
  have hsm := hs.small i hi
  have ht := h i hi
  have hE1 : capOf D i * tempOf D E i ≤ E i := Int.mul_ediv_self_le (by omega)
  have hE2 : E i < capOf D i * tempOf D E i + capOf D i := Int.lt_mul_ediv_self_add (by omega)
  have g1 : capOf D i * (-100) ≤ capOf D i * tempOf D E i := Int.mul_le_mul_of_nonneg_left (by omega) (by omega)
  have g2 : capOf D i * tempOf D E i ≤ capOf D i * 16777316 := Int.mul_le_mul_of_nonneg_left (by omega) (by omega)
  omega

theorem law_conservation (H : Heap) (ds ls pw : Sl) (D0 : List Dom) (L0 : List Lnk) (amb0 : Int) (pws : List (List Int)) (hd : Doms H ds D0) (hl : Lnks H ls L0) (hp : IRows .i64 H pw pws) :
    CallsH Try.prog n_law38_HeatConservation #[.slice ds.p ds.n ds.c, .slice ls.p ls.n ls.c, .int .i64 amb0, .slice pw.p pw.n pw.c] H (fun v H' => v = .bool true ∧ Ext H H') := by
  refine F_law38_HeatConservation_ok _ _ _ _ ?_
  unfold F_law38_HeatConservation
  rw [hp.len]
  refine iteB_intro (fun c => ?_) (fun c => ?_)
  · refine (awake_spec H).mono ?_
    rintro v H' ⟨rfl, e⟩
    exact ⟨true, rfl, rfl, e⟩
  have h40 : pws.length ≤ 40 := by simp at c; omega
  refine (Some_spec H ds ls D0 L0 amb0 hd hl).mono ?_
  rintro v H2 ⟨bd, sl, D, L, amb, rfl, hs, hbd, rd2, ol2, e2⟩
  refine ⟨⟨some ⟨bd, 0, none⟩, D.length, D.length⟩, sl, amb, rfl, local_mk (by simp) (by simp) ?_⟩
  intro H4 e4 z4 b4
  have rd4 := rd2.ext e4
  have ol4 := ol2.ext e4
  refine ⟨⟨some ⟨bd, 0, none⟩, D.length, D.length⟩, b4.rd0 rfl, ⟨some ⟨bd, 0, none⟩, D.length, D.length⟩, b4.rd0 rfl, sl, b4.rd (i := 1) rfl, amb, b4.rd (i := 2) rfl, ?_⟩
  refine (newSys H4 _ sl D L amb hs (rd4.isS D.length D.length rfl) (ol4.isS encL_len (by omega))).mono ?_
  rintro v H5 ⟨b, be, rfl, hm, hb, hbe, e5⟩
  refine ⟨_, _, rfl, iteB_neg rfl (iteB_neg rfl ?_)⟩
  have hv := hs.vs
  have hn5 := hs.n5
  have ha := hs.a100
  have z2 := e2.size
  have eH : Ext H H5 := (e2.trans e4).trans e5
  have b5 := b4.ext e5
  have rd5 := rd4.ext e5
  refine ⟨fun tot x H' => H' = H5 ∧ ∃ k : Nat, x = k ∧ k ≤ D.length ∧ tot = sumZ (fun i => capOf D i * amb) k, fun _ x _ => D.length - x.toNat, ⟨rfl, 0, rfl, Nat.zero_le _, rfl⟩, ?_⟩
  rintro tot x H6 ⟨rfl, k, rfl, hk, rfl⟩
  unfold F_law38_HeatConservation_r3
  have hT0 : TB D (fun i => capOf D i * amb) amb (amb + 16777216) := start_TB hv (by omega)
  have hsb : ∀ k, k ≤ D.length → -10000 * (k : Int) ≤ sumZ (fun i => capOf D i * amb) k ∧ sumZ (fun i => capOf D i * amb) k ≤ 1230000000 * k := fun k hk => sumZ_bound k (fun i hi => en_bound hs hT0 (by omega))
  refine iteB_intro (fun c => ?_) (fun c => ?_)
  · have hkn : k < D.length := by simpa using c
    refine ⟨⟨some ⟨bd, 0, none⟩, D.length, D.length⟩, b5.rd0 rfl, by omega, by simpa using hkn, ?_⟩
    refine ⟨capOf D k, by simpa using rd5.rd0 (dom_get hkn) rfl, amb, b5.rd (i := 2) rfl, ?_⟩
    have h1 := hsb k hk
    have h2 := hsb (k + 1) (by omega)
    have h3 := en_bound hs hT0 hkn
    simp only [sumZ] at h2
    rw [i64_in (n := capOf D k * amb) (by omega)]
    refine letV_mk (sumZ (fun i => capOf D i * amb) (k + 1)) (i64_in (by omega)) (letV_mk ((k + 1 : Nat) : Int) (by rw [i64_in (by omega)]; simp) ⟨⟨rfl, k + 1, rfl, by omega, rfl⟩, by simp only [Int.toNat_natCast]; omega⟩)
  have hkn : k = D.length := by simp at c; omega
  subst hkn
  refine ⟨fun tot x H' => Ext H H' ∧ ∃ j : Nat, x = j ∧ j ≤ pws.length ∧ ∃ (E : Nat → Int) (rel : Int), HM t_heat_Model (fun k => H4.size ≤ k) H' b be D L amb E rel ∧ TB D E amb (amb + 16777216) ∧ 0 ≤ rel ∧ rel ≤ 4503599627370496 * j ∧ tot = sumZ E D.length + rel, fun _ x _ => pws.length - x.toNat,
    ⟨eH, 0, rfl, Nat.zero_le _, _, _, hm, hT0, by omega, by omega, by omega⟩, ?_⟩
  rintro tot x H7 ⟨e7, j, rfl, hj, E, rel, hm7, hT, hr0, hr1, rfl⟩
  unfold F_law38_HeatConservation_r2
  rw [hp.len]
  refine iteB_intro (fun c => ?_) (fun c => ?_)
  rotate_left
  · refine (awake_spec H7).mono ?_
    rintro v H' ⟨rfl, e⟩
    exact ⟨true, rfl, rfl, e7.trans e⟩
  have hjl : j < pws.length := by simpa using c
  obtain ⟨pa, r, hpa, hr, hri, hrl⟩ := (hp.ext e7).at (x := j) (by omega) (by omega)
  refine ⟨by omega, by omega, unSome_mk hpa ⟨r, hr, ?_⟩⟩
  refine (Powers_spec H7 r _ D.length 1000 hri (by omega) (by omega)).mono ?_
  rintro v H8 ⟨ps, rfl, hpp, hpn, hpb, e8⟩
  refine ⟨ps, rfl, ?_⟩
  have hps : Ints .i64 H8 ps (tab D.length (powersF (pws.getD (j : Int).toNat []) 1000)) := by
    have := hpb.ints ps.c
    obtain ⟨p1, p2, p3⟩ := ps
    simp only at hpp hpn
    subst hpp hpn
    exact this
  have hbb := hm7.blt
  generalize hpf : powersF (pws.getD (j : Int).toNat []) 1000 = pf at hps hpb
  have hpr : ∀ i, 0 ≤ pf i ∧ pf i ≤ 1000 := fun i => by rw [← hpf]; exact powersF_range _ (by omega) i
  have hpok : powOk (tab D.length pf) D.length = true := powOk_tab (fun i _ => by have := hpr i; omega)
  refine (Step_run b be D L amb E rel _ ps H8 (hm7.ext e8) hv (by have := hs.l12; omega) hT hps (by rw [tab_length]; omega) (fun a ha _ => by rw [hpp] at ha; cases ha; dsimp only; omega) (by omega)).mono ?_
  rintro v H9 (⟨_, t, rfl, _, _, hm9, m9⟩ | ⟨hbad, _⟩)
  rotate_left
  · rw [hpok] at hbad; cases hbad
  refine ⟨t, 0, rfl, iteB_neg rfl ?_⟩
  refine (Released_spec b be _ _ _ _ _ H9 hm9).mono ?_
  rintro v H10 ⟨rfl, rfl⟩
  refine ⟨_, rfl, ?_⟩
  have hT2 := step_wide hv hT hpok
  have hos := osum16 hT hv (by omega)
  have hpb9 := hpb.mods m9 (by simp; omega)
  have e9 : Ext H H10 := by
    have := Mods.ext (e7.trans e8) m9 (S := [b, be])
    refine this ?_
    have := e4.size
    have := e5.size
    simp
    omega
  have htot := step_total (E := E) (p := fun i => (tab D.length pf).getD i 0) hv
  have hsp : sumZ (fun i => (tab D.length pf).getD i 0) D.length = sumZ pf D.length := sumZ_congr _ (fun i hi => by rw [tab_getD _ hi])
  rw [hsp] at htot
  have hB1 : ∀ k, k ≤ D.length → -10000 * (k : Int) ≤ sumZ E k ∧ sumZ E k ≤ 1230000000 * k := fun k hk => sumZ_bound k (fun i hi => en_bound hs hT (by omega))
  generalize hE2 : stepE D L amb E (fun i => (tab D.length pf).getD i 0) = E2 at hm9 hT2 htot
  have hB2 : ∀ k, k ≤ D.length → -10000 * (k : Int) ≤ sumZ E2 k ∧ sumZ E2 k ≤ 1230000000 * k := fun k hk => sumZ_bound k (fun i hi => en_bound hs hT2 (by omega))
  have hB3 : ∀ k, k ≤ D.length → 0 * (k : Int) ≤ sumZ pf k ∧ sumZ pf k ≤ 1000 * k := fun k hk => sumZ_bound k (fun i _ => hpr i)
  generalize hrel2 : rel + osum D amb E D.length = rel2 at hm9
  refine ⟨fun tot sum x H' => H' = H10 ∧ ∃ k : Nat, x = k ∧ k ≤ D.length ∧ tot = sumZ E D.length + rel + sumZ pf k ∧ sum = rel2 + sumZ E2 k, fun _ _ x _ => D.length - x.toNat, ⟨rfl, 0, rfl, Nat.zero_le _, by simp [sumZ], by simp [sumZ]⟩, ?_⟩
  rintro tot sum x H11 ⟨rfl, k, rfl, hk, rfl, rfl⟩
  unfold F_law38_HeatConservation_r1
  have q0 := hB1 D.length (Nat.le_refl _)
  have q2 := hB2 k hk
  have q3 := hB3 k hk
  refine iteB_intro (fun c => ?_) (fun c => ?_)
  · have hkn : k < D.length := by simpa using c
    have q2' := hB2 (k + 1) (by omega)
    have q3' := hB3 (k + 1) (by omega)
    simp only [sumZ] at q2' q3'
    refine ⟨by omega, by omega, unSome_mk hpp ⟨pf k, hpb9.rd hkn, letV_mk (sumZ E D.length + rel + sumZ pf (k + 1)) (by simp only [sumZ]; rw [i64_in (by omega)]; omega) ?_⟩⟩
    refine (Energy_spec b be _ _ _ _ _ k H11 hm9).mono ?_
    rintro v H12 ⟨rfl, rfl⟩
    have hen : energyZ D.length E2 k = E2 k := by
      unfold energyZ
      rw [if_neg (by omega)]
      simp
    rw [hen]
    refine ⟨_, rfl, letV_mk (rel2 + sumZ E2 (k + 1)) (by simp only [sumZ]; rw [i64_in (by omega)]; omega) (letV_mk ((k + 1 : Nat) : Int) (by rw [i64_in (by omega)]; simp) ⟨⟨rfl, k + 1, rfl, by omega, rfl, rfl⟩, by simp only [Int.toNat_natCast]; omega⟩)⟩
  · have hkn : k = D.length := by simp at c; omega
    subst hkn
    refine iteB_neg (by simp; omega) (letV_mk ((j + 1 : Nat) : Int) (by rw [i64_in (by omega)]; simp) ⟨⟨e9, j + 1, rfl, by omega, E2, rel2, hm9, hT2, by omega, by omega, by omega⟩, by simp only [Int.toNat_natCast]; omega⟩)

end Go.Proofs.Ytenpfhfhjpipaaa
