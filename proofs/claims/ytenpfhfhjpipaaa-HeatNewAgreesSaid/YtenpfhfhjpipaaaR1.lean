/-
  Contracts of the reference heat model's queries and Step, over the shallow readings.
-/
import Derived.Test.YtenpfhfhjpipaaaL3
namespace Go.Proofs.Ytenpfhfhjpipaaa
open Go.Eng Go.Heat

variable {Q : Nat → Prop}

theorem rfloor_spec (a b : Int) (H : Heap) (hb : 0 < b) (h1 : -1125899906842624 ≤ a) (h2 : a ≤ 1125899906842624) :
    CallsH Try.prog n_ref38_floor #[.int .i64 a, .int .i64 b] H (fun v H' => v = .int .i64 (a / b) ∧ H' = H) := by
  refine F_ref38_floor_ok _ _ ?_
  unfold F_ref38_floor
  have hbd := tdiv_bound (C := b) h1 h2
  have hfl := floor_code (E := a) (C := b) hb
  rw [← hfl]
  refine ⟨by omega, letV_mk _ (i64_in (by omega)) ⟨by omega, iteB_intro (fun c3 => ?_) (fun c3 => ?_)⟩⟩
  · have c3' : a.tmod b < 0 := by simpa using c3
    refine letV_mk _ (i64_in (by omega)) ?_
    rw [if_pos c3']
    exact ⟨rfl, rfl⟩
  · have c3' : ¬ a.tmod b < 0 := by simpa using c3
    rw [if_neg c3']
    exact ⟨rfl, rfl⟩

theorem rTemperature_spec (b be : Nat) (D : List Dom) (L : List Lnk) (amb : Int) (E : Nat → Int) (rel x : Int) (H : Heap) (h : HM t_ref38_Model Q H b be D L amb E rel) (hs : Sane D L amb E) :
    CallsH Try.prog n_ref38_Model_Temperature #[.pointer (some ⟨b, 0, none⟩), .int .i64 x] H (fun v H' => v = .int .i64 (tempZ D E x) ∧ H' = H) := by
  obtain ⟨⟨d, l, ce, g1, g2, g3, g4, g5⟩, g6, g7⟩ := h
  refine F_ref38_Model_Temperature_ok _ _ ?_
  unfold F_ref38_Model_Temperature
  refine iteB_intro (fun c => ?_) (fun c => ?_)
  · have : x < 0 := by simpa using c
    exact ⟨by simp [tempZ, this], rfl⟩
  · have hx0 : 0 ≤ x := by simpa using c
    refine ⟨d, g1.rd0 rfl, iteB_intro (fun c2 => ?_) (fun c2 => ?_)⟩
    · rw [g2.len] at c2
      have : x ≥ D.length := by simpa using c2
      exact ⟨by simp [tempZ, this], rfl⟩
    · rw [g2.len] at c2
      have hx1 : x < D.length := by simpa using c2
      have hn : x.toNat < D.length := by omega
      obtain ⟨a, hp, hr, _⟩ := Doms.at g2 hx0 hx1
      refine ⟨⟨some ⟨be, 0, none⟩, D.length, ce⟩, g1.rd (i := 3) rfl, hx0, hx1, ?_⟩
      refine ⟨E x.toNat, g6.rd hn, d, g1.rd0 rfl, hx0, by rw [g2.len]; exact hx1, unSome_mk hp ⟨capOf D x.toNat, hr, ?_⟩⟩
      have hc := hs.cap _ hn
      have he := hs.en _ hn
      refine (rfloor_spec _ _ H (by omega) he.1 he.2).mono ?_
      rintro v H1 ⟨rfl, rfl⟩
      refine ⟨_, rfl, ?_, rfl⟩
      unfold tempZ
      rw [if_neg (by omega)]
      rfl

theorem rEnergy_spec (b be : Nat) (D : List Dom) (L : List Lnk) (amb : Int) (E : Nat → Int) (rel x : Int) (H : Heap) (h : HM t_ref38_Model Q H b be D L amb E rel) :
    CallsH Try.prog n_ref38_Model_Energy #[.pointer (some ⟨b, 0, none⟩), .int .i64 x] H (fun v H' => v = .int .i64 (energyZ D.length E x) ∧ H' = H) := by
  obtain ⟨⟨d, l, ce, g1, g2, g3, g4, g5⟩, g6, g7⟩ := h
  refine F_ref38_Model_Energy_ok _ _ ?_
  unfold F_ref38_Model_Energy
  refine iteB_intro (fun c => ?_) (fun c => ?_)
  · have : x < 0 := by simpa using c
    exact ⟨by simp [energyZ, this], rfl⟩
  · have hx0 : 0 ≤ x := by simpa using c
    refine ⟨d, g1.rd0 rfl, iteB_intro (fun c2 => ?_) (fun c2 => ?_)⟩
    · rw [g2.len] at c2
      have : x ≥ D.length := by simpa using c2
      exact ⟨by simp [energyZ, this], rfl⟩
    · rw [g2.len] at c2
      have hx1 : x < D.length := by simpa using c2
      have hn : x.toNat < D.length := by omega
      refine ⟨⟨some ⟨be, 0, none⟩, D.length, ce⟩, g1.rd (i := 3) rfl, hx0, hx1, E x.toNat, g6.rd hn, ?_, rfl⟩
      have : ¬ (x < 0 ∨ x ≥ D.length) := by omega
      simp [energyZ, this]

theorem rReleased_spec (b be : Nat) (D : List Dom) (L : List Lnk) (amb : Int) (E : Nat → Int) (rel : Int) (H : Heap) (h : HM t_ref38_Model Q H b be D L amb E rel) :
    CallsH Try.prog n_ref38_Model_Released #[.pointer (some ⟨b, 0, none⟩)] H (fun v H' => v = .int .i64 rel ∧ H' = H) := by
  obtain ⟨⟨d, l, ce, g1, g2, g3, g4, g5⟩, g6, g7⟩ := h
  refine F_ref38_Model_Released_ok _ ?_
  exact ⟨rel, g1.rd (i := 4) rfl, rfl, rfl⟩

theorem rtemperatures_spec (b be : Nat) (D : List Dom) (L : List Lnk) (amb : Int) (E : Nat → Int) (rel : Int) (H : Heap) (h : HM t_ref38_Model Q H b be D L amb E rel) (hs : Sane D L amb E) :
    CallsH Try.prog n_ref38_Model_temperatures #[.pointer (some ⟨b, 0, none⟩)] H (fun v H' => ∃ s : Sl, v = .slice s.p s.n s.c ∧ Ints .i64 H' s (tab D.length (tempOf D E)) ∧ NewP H.size s.p ∧ Ext H H') := by
  have hn16 := hs.n16
  refine F_ref38_Model_temperatures_ok _ ?_
  unfold F_ref38_Model_temperatures
  refine ⟨fun t x H' => Ext H H' ∧ ∃ k : Nat, x = k ∧ k ≤ D.length ∧ Own H.size t_int64 1 H' t ((tab k (tempOf D E)).flatMap (encI .i64)), fun _ x _ => D.length - x.toNat, ⟨Ext.refl _, 0, rfl, Nat.zero_le _, Own.nil _ _ _ _⟩, ?_⟩
  rintro t x H1 ⟨e1, k, rfl, hk, ot⟩
  unfold F_ref38_Model_temperatures_r1
  obtain ⟨⟨d, l, ce, g1, g2, g3, g4, g5⟩, g6, g7⟩ := h.ext e1
  have it : Ints .i64 H1 t (tab k (tempOf D E)) := ot.isS (fun _ => rfl) (by omega)
  have htn : t.n = k := by rw [it.len, tab_length]
  have z1 := e1.size
  refine ⟨d, g1.rd0 rfl, ?_⟩
  rw [g2.len]
  refine iteB_intro (fun c => ?_) (fun c => ?_)
  · have hkn : k < D.length := by simpa using c
    refine (rTemperature_spec b be D L amb E rel k H1 (h.ext e1) hs).mono ?_
    rintro v H2 ⟨rfl, rfl⟩
    have ht : tempZ D E k = tempOf D E k := by
      unfold tempZ
      rw [if_neg (by omega)]
      simp
    rw [ht]
    refine ⟨_, rfl, ?_⟩
    refine append_row (P := Try.prog) (st := t_sl_int64) (e := t_int64) (x := tempOf D E k) (z := .int .i64 0) (sz := 1) (bytes := 8) (enc := encI .i64) (by kernel_rfl) (by kernel_rfl) rfl (by omega) (fun _ => rfl) (fun x u hu => by simp [encI] at hu; subst hu; rfl) ot (by simp [maxLen]; omega) (by omega) (by omega) ?_
    intro t' H4 ot4 _ m4
    refine letV_mk ((k + 1 : Nat) : Int) (by rw [i64_in (by omega)]; simp) ⟨⟨Mods.ext e1 m4 (own_blk ot), k + 1, rfl, by omega, ?_⟩, by simp only [Int.toNat_natCast]; omega⟩
    rw [tab_succ]
    exact ot4
  · have hkn : k = D.length := by simp at c; omega
    subst hkn
    exact ⟨t, rfl, it, ot.new, e1⟩

theorem rpowers_spec (H : Heap) (s : Sl) (p : List Int) (n : Int) (h : Ints .i64 H s p) (hl : p.length ≤ 9223372036854775807) :
    CallsH Try.prog n_ref38_powers #[.int .i64 n, .slice s.p s.n s.c] H (fun v H' => v = .bool (powOk p n) ∧ H' = H) := by
  refine F_ref38_powers_ok _ _ ?_
  unfold F_ref38_powers
  refine iteB_intro (fun c => ?_) (fun c => ?_)
  · rw [h.len] at c
    have : (p.length : Int) ≠ n := by simpa using c
    refine ⟨?_, rfl⟩
    have : powOk p n = false := by unfold powOk; simp [this]
    rw [this]
  · rw [h.len] at c
    have hn : (p.length : Int) = n := by simpa using c
    refine ⟨fun x H' => H' = H ∧ ∃ k : Nat, x = k ∧ k ≤ p.length ∧ ∀ i, i < k → 0 ≤ p.getD i 0 ∧ p.getD i 0 ≤ 16777216, fun x _ => p.length - x.toNat, ⟨rfl, 0, rfl, Nat.zero_le _, fun i hi => by omega⟩, ?_⟩
    rintro x H1 ⟨rfl, k, rfl, hk, hall⟩
    unfold F_ref38_powers_r1
    rw [h.len, ← hn]
    refine iteB_intro (fun c => ?_) (fun c => ?_)
    · have hkn : k < p.length := by simp at c; omega
      obtain ⟨a, hp, hr⟩ := Ints.at h (x := k) (by omega) (by omega)
      have bad : ¬ (0 ≤ p.getD k 0 ∧ p.getD k 0 ≤ 16777216) → powOk p p.length = false := by
        intro hbad
        rw [← Bool.not_eq_true, powOk_iff]
        exact fun hh => hbad (hh.2 k hkn)
      simp only [Int.toNat_natCast] at hr
      refine ⟨by omega, by omega, unSome_mk hp ⟨_, hr, iteB_intro (fun c2 => ?_) (fun c2 => ⟨by omega, by omega, unSome_mk hp ⟨_, hr, iteB_intro (fun c3 => ?_) (fun c3 => ?_)⟩⟩)⟩⟩
      · have c2' : p.getD k 0 < 0 := by simpa using c2
        rw [bad (by omega)]
        exact ⟨rfl, rfl⟩
      · have c3' : p.getD k 0 > 16777216 := by simpa using c3
        rw [bad (by omega)]
        exact ⟨rfl, rfl⟩
      · have c2' : ¬ p.getD k 0 < 0 := by simpa using c2
        have c3' : ¬ p.getD k 0 > 16777216 := by simpa using c3
        refine letV_mk ((k + 1 : Nat) : Int) (by rw [i64_in (by omega)]; simp) ⟨⟨rfl, k + 1, rfl, by omega, fun i hi => ?_⟩, by simp only [Int.toNat_natCast]; omega⟩
        by_cases e : i = k
        · subst e; omega
        · exact hall i (by omega)
    · have hkn : k = p.length := by simp at c; omega
      subst hkn
      have : powOk p p.length = true := powOk_iff.2 ⟨rfl, hall⟩
      rw [this]
      exact ⟨rfl, rfl⟩

theorem rStep_spec (b be : Nat) (D : List Dom) (L : List Lnk) (amb : Int) (E : Nat → Int) (rel : Int) (p : List Int) (s : Sl) (H : Heap) (h : HM t_ref38_Model Q H b be D L amb E rel) (hs : Sane D L amb E)
    (hp : Ints .i64 H s p) (hpl : p.length ≤ 9223372036854775807) (hsep : ∀ a, s.p = some a → p ≠ [] → a.block ≠ b ∧ a.block ≠ be) (hrel : -1152921504606846976 ≤ rel ∧ rel ≤ 1152921504606846976)
    (hs' : powOk p D.length = true → Sane D L amb (stepE D L amb E (fun i => p.getD i 0))) :
    CallsH Try.prog n_ref38_Model_Step #[.pointer (some ⟨b, 0, none⟩), .slice s.p s.n s.c] H (StepPost t_ref38_Model Q b be D L amb E rel p H) := by
  have hh := h
  obtain ⟨⟨d, l, ce, g1, g2, g3, g4, g5⟩, g6, g7⟩ := h
  refine F_ref38_Model_Step_ok _ _ ?_
  unfold F_ref38_Model_Step
  refine ⟨d, g1.rd0 rfl, (rpowers_spec H s p d.n hp hpl).mono ?_⟩
  rintro v H1 ⟨rfl, rfl⟩
  rw [g2.len]
  refine ⟨_, rfl, iteB_intro (fun c => ?_) (fun c => ?_)⟩
  · exact .inr ⟨by simpa using c, rfl, rfl⟩
  have hpow : powOk p D.length = true := by simpa using c
  have hps := powOk_iff.1 hpow
  refine (rtemperatures_spec b be D L amb E rel H1 hh hs).mono ?_
  rintro v H2 ⟨t, rfl, ht, htn, e2⟩
  refine ⟨t, rfl, ?_⟩
  have hn16 := hs.n16
  have hb1 := hh.blt
  have htb : ∀ a, t.p = some a → a.block ∉ [b, be] := by
    intro a ha
    have := htn a ha
    simp; omega
  have hob := osum_bound hs
  have htl : t.n = D.length := by rw [ht.len, tab_length]
  refine ⟨fun x H' => Mods [b, be] H2 H' ∧ ∃ k : Nat, x = k ∧ k ≤ D.length ∧ HM t_ref38_Model Q H' b be D L amb (fun i => if i < k then E i + (p.getD i 0 - outOf D amb E i) else E i) (rel + osum D amb E k), fun x _ => D.length - x.toNat,
    ⟨Mods.refl _ _, 0, rfl, Nat.zero_le _, by simpa [osum] using hh.ext e2⟩, ?_⟩
  rintro x H3 ⟨m3, k, rfl, hk, h3⟩
  unfold F_ref38_Model_Step_r2
  obtain ⟨⟨d', l', ce', q1, q2, q3, q4, q5⟩, q6, q7⟩ := id h3
  have t3 : Ints .i64 H3 t (tab D.length (tempOf D E)) := ht.mods m3 htb
  have p3 : Ints .i64 H3 s p := by
    by_cases h0 : p = []
    · exact ⟨hp.len, .inl h0⟩
    · exact (hp.ext e2).mods m3 (fun a ha => by have := hsep a ha h0; simp; omega)
  refine ⟨d', q1.rd0 rfl, ?_⟩
  rw [q2.len]
  refine iteB_intro (fun c => ?_) (fun c => ?_)
  · have hkn : k < D.length := by simpa using c
    obtain ⟨a, hpa, hr0, hr1⟩ := Doms.at q2 (x := k) (by omega) (by omega)
    obtain ⟨a1, hpt, hrt⟩ := Ints.at t3 (x := k) (by omega) (by rw [tab_length]; omega)
    obtain ⟨a3, hpp, hrp⟩ := Ints.at p3 (x := k) (by omega) (by omega)
    simp only [Int.toNat_natCast] at hr0 hr1 hrt hrp ⊢
    rw [tab_getD _ hkn] at hrt
    have hrd := q6.rd hkn
    simp only [Nat.lt_irrefl, if_false] at hrd
    have hpk := hps.2 k hkn
    have hek := hs.en k hkn
    have hout := out_bound hs hkn
    have htk := hs.tmp k hkn
    have hak := hs.amb
    refine ⟨d', q1.rd0 rfl, by omega, by rw [q2.len]; omega, unSome_mk hpa ⟨_, hr1, by omega, by omega, unSome_mk hpt ⟨_, hrt, amb, q1.rd (i := 2) rfl, ?_⟩⟩⟩
    refine letV_mk (outOf D amb E k) ?_ ?_
    · rw [i64_in (n := tempOf D E k - amb) (by unfold tempOf; omega)]
      exact i64_in (by unfold outOf at hout; omega)
    refine ⟨⟨some ⟨be, 0, none⟩, D.length, ce'⟩, q1.rd (i := 3) rfl, ⟨some ⟨be, 0, none⟩, D.length, ce'⟩, q1.rd (i := 3) rfl, by omega, by simpa using hkn, ?_⟩
    refine ⟨_, hrd, by omega, by rw [hp.len]; omega, unSome_mk hpp ⟨_, hrp, by omega, by simpa using hkn, q6.ok hkn, letH_mk ?_⟩⟩
    rintro H4 rfl
    rw [i64_in (n := E k + p.getD k 0) (by omega), i64_in (n := E k + p.getD k 0 - outOf D amb E k) (by omega)]
    have h4 := h3.setEn hkn (E k + p.getD k 0 - outOf D amb E k)
    obtain ⟨⟨d6, l6, ce6, r1, r2, r3, r4, r5⟩, r6, r7⟩ := id h4
    have ho1 := hob k hk
    refine ⟨_, r1.rd (i := 4) rfl, r1.ok (i := 4) (n := 1) (by simp), letH_mk ?_⟩
    rintro H5 rfl
    have h5 := h4.setRel (rel + osum D amb E k + outOf D amb E k)
    rw [i64_in (n := rel + osum D amb E k + outOf D amb E k) (by omega)]
    refine letV_mk ((k + 1 : Nat) : Int) (by rw [i64_in (by omega)]; simp) ⟨⟨?_, k + 1, rfl, by omega, ?_⟩, by simp only [Int.toNat_natCast]; omega⟩
    · exact (m3.trans (mods_wr_add (by simp))).trans (mods_wr_add (by simp))
    · rw [show rel + osum D amb E (k + 1) = rel + osum D amb E k + outOf D amb E k by simp only [osum]; omega]
      refine h5.congr (fun i hi => ?_)
      by_cases e : i = k
      · subst e; rw [upd_same, if_pos (by omega)]; omega
      · rw [upd_ne e]
        by_cases e2 : i < k
        · rw [if_pos e2, if_pos (by omega)]
        · rw [if_neg e2, if_neg (by omega)]
  · have hkn : k = D.length := by simp at c; omega
    subst hkn
    refine ⟨fun x H' => Mods [b, be] H3 H' ∧ ∃ j : Nat, x = j ∧ j ≤ L.length ∧ HM t_ref38_Model Q H' b be D L amb (fun i => E i + (p.getD i 0 - outOf D amb E i) + lsum L (tempOf D E) j i) (rel + osum D amb E D.length), fun x _ => L.length - x.toNat,
      ⟨Mods.refl _ _, 0, rfl, Nat.zero_le _, h3.congr (fun i hi => by rw [if_pos hi]; simp [lsum])⟩, ?_⟩
    clear q1 q2 q3 q4 q5 q6 q7
    rintro x H6 ⟨m6, j, rfl, hj, h6⟩
    unfold F_ref38_Model_Step_r1
    obtain ⟨⟨d', l', ce', q1, q2, q3, q4, q5⟩, q6, q7⟩ := id h6
    have t6 : Ints .i64 H6 t (tab D.length (tempOf D E)) := t3.mods m6 htb
    have hnl := hs.nl
    refine ⟨l', q1.rd (i := 1) rfl, ?_⟩
    rw [q3.len]
    refine iteB_intro (fun c => ?_) (fun c => ?_)
    · have hjn : j < L.length := by simpa using c
      obtain ⟨b1, b2, b3, b4, b5, b6, b7⟩ := hs.lnk j hjn
      obtain ⟨a, hpa, hr0, hr1, hr2⟩ := Lnks.at q3 (x := j) (by omega) (by omega)
      refine ⟨l', q1.rd (i := 1) rfl, by omega, by rw [q3.len]; omega, unSome_mk hpa ⟨_, hr0, _, hr1, _, hr2, ?_⟩⟩
      simp only [Int.toNat_natCast]
      refine local_mk (by simp) (by simp) ?_
      intro H8 e8 z8 hb8
      have hA : (lA L j).toNat < D.length := by omega
      have hB : (lB L j).toNat < D.length := by omega
      have hAB : (lA L j).toNat ≠ (lB L j).toNat := by omega
      obtain ⟨a6, hpA, hrA⟩ := Ints.at (t6.ext e8) (x := lA L j) b1 (by rw [tab_length]; omega)
      obtain ⟨a7, hpB, hrB⟩ := Ints.at (t6.ext e8) (x := lB L j) b3 (by rw [tab_length]; omega)
      rw [tab_getD _ hA] at hrA
      rw [tab_getD _ hB] at hrB
      have hfl := flow_bound hs hjn
      have htA := hs.tmp _ hA
      have htB := hs.tmp _ hB
      refine ⟨lC L j, hb8.rd (i := 2) rfl, lA L j, hb8.rd0 rfl, b1, by omega, unSome_mk hpA ⟨_, hrA, lB L j, hb8.rd (i := 1) rfl, b3, by omega, unSome_mk hpB ⟨_, hrB, ?_⟩⟩⟩
      refine letV_mk (flowOf L (tempOf D E) j) ?_ ?_
      · rw [i64_in (n := tempOf D E (lA L j).toNat - tempOf D E (lB L j).toNat) (by unfold tempOf; omega)]
        exact i64_in (by unfold flowOf at hfl; omega)
      have h8 := h6.ext e8
      obtain ⟨⟨d1, l1, ce1, r1, r2, r3, r4, r5⟩, r6, r7⟩ := id h8
      have ll := lsum_bound hs (lA L j).toNat j hj
      have lb := lsum_bound hs (lB L j).toNat j hj
      have eA := hs.en _ hA
      have eB := hs.en _ hB
      have oA := out_bound hs hA
      have oB := out_bound hs hB
      have pA := hps.2 _ hA
      have pB := hps.2 _ hB
      refine ⟨⟨some ⟨be, 0, none⟩, D.length, ce1⟩, r1.rd (i := 3) rfl, lA L j, hb8.rd0 rfl, ⟨some ⟨be, 0, none⟩, D.length, ce1⟩, r1.rd (i := 3) rfl, lA L j, hb8.rd0 rfl, b1, b2, ?_⟩
      refine ⟨_, r6.rd hA, b1, b2, r6.ok hA, letH_mk ?_⟩
      intro H9 h9e
      rw [i64_in (n := E (lA L j).toNat + (p.getD (lA L j).toNat 0 - outOf D amb E (lA L j).toNat) + lsum L (tempOf D E) j (lA L j).toNat - flowOf L (tempOf D E) j) (by omega)] at h9e
      have h9 := h8.setEn hA (E (lA L j).toNat + (p.getD (lA L j).toNat 0 - outOf D amb E (lA L j).toNat) + lsum L (tempOf D E) j (lA L j).toNat - flowOf L (tempOf D E) j)
      have m9 : Mods [be] H8 H9 := by rw [h9e]; exact mods_wr_add (by simp)
      rw [← h9e] at h9
      clear h9e
      obtain ⟨⟨d2, l2, ce2, u1, u2, u3, u4, u5⟩, u6, u7⟩ := id h9
      have hb9 := hb8.mods m9 (by have := h6.blt; simp; omega)
      have hrB2 := u6.rd hB
      rw [upd_ne (fun e => hAB e.symm)] at hrB2
      refine ⟨⟨some ⟨be, 0, none⟩, D.length, ce2⟩, u1.rd (i := 3) rfl, lB L j, hb9.rd (i := 1) rfl, ⟨some ⟨be, 0, none⟩, D.length, ce2⟩, u1.rd (i := 3) rfl, lB L j, hb9.rd (i := 1) rfl, b3, b4, ?_⟩
      refine ⟨_, hrB2, b3, b4, u6.ok hB, letH_mk ?_⟩
      rintro H10 rfl
      rw [i64_in (n := E (lB L j).toNat + (p.getD (lB L j).toNat 0 - outOf D amb E (lB L j).toNat) + lsum L (tempOf D E) j (lB L j).toNat + flowOf L (tempOf D E) j) (by omega)]
      have h10 := h9.setEn hB (E (lB L j).toNat + (p.getD (lB L j).toNat 0 - outOf D amb E (lB L j).toNat) + lsum L (tempOf D E) j (lB L j).toNat + flowOf L (tempOf D E) j)
      refine letV_mk ((j + 1 : Nat) : Int) (by rw [i64_in (by omega)]; simp) ⟨⟨?_, j + 1, rfl, by omega, ?_⟩, by simp only [Int.toNat_natCast]; omega⟩
      · exact ((m6.trans e8.mods).trans (m9.mono (by simp))).trans (mods_wr_add (by simp))
      · refine h10.congr (fun i hi => ?_)
        simp only [lsum]
        by_cases eB' : i = (lB L j).toNat
        · subst eB'
          rw [upd_same, if_neg hAB, if_pos rfl]
          omega
        · have eB2 : ¬ (lB L j).toNat = i := fun e => eB' e.symm
          rw [upd_ne eB']
          by_cases eA' : i = (lA L j).toNat
          · subst eA'
            simp only [upd_same, if_true, eB2, if_false]
            omega
          · have eA2 : ¬ (lA L j).toNat = i := fun e => eA' e.symm
            simp only [upd_ne eA', eA2, eB2, if_false]
            omega
    · have hjn : j = L.length := by simp at c; omega
      subst hjn
      have hfin : HM t_ref38_Model Q H6 b be D L amb (stepE D L amb E (fun i => p.getD i 0)) (rel + osum D amb E D.length) := h6
      refine (rtemperatures_spec b be D L amb _ _ H6 hfin (hs' hpow)).mono ?_
      rintro v H11 ⟨t', rfl, ht', htn', e11⟩
      have z2 := e2.size
      have z3 := m3.size
      have z6 := m6.size
      exact ⟨t', rfl, .inl ⟨hpow, t', rfl, ht', htn'.mono (by omega), hfin.ext e11, ((e2.mods.trans m3).trans m6).trans e11.mods⟩⟩

end Go.Proofs.Ytenpfhfhjpipaaa
