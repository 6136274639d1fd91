/-
  The contract of the heat model's Step, over the shallow reading.
-/
import Derived.Test.YtiikkapdchodkaaC1
namespace Go.Proofs.Ytiikkapdchodkaa
open Go.Eng Go.Heat

variable {Q : Nat → Prop}

theorem mul_bound {a b A B : Int} (h0 : 0 ≤ a) (h1 : a ≤ A) (h2 : -B ≤ b) (h3 : b ≤ B) : -(A * B) ≤ a * b ∧ a * b ≤ A * B := by
  have hB : 0 ≤ B := by omega
  have x1 : a * b ≤ a * B := Int.mul_le_mul_of_nonneg_left h3 h0
  have x2 : a * B ≤ A * B := Int.mul_le_mul_of_nonneg_right h1 hB
  have x3 : a * (-B) ≤ a * b := Int.mul_le_mul_of_nonneg_left h2 h0
  rw [Int.mul_neg] at x3
  omega

def outOf (D : List Dom) (amb : Int) (E : Nat → Int) (i : Nat) : Int := ambOf D i * (tempOf D E i - amb)
def osum (D : List Dom) (amb : Int) (E : Nat → Int) : Nat → Int
  | 0 => 0
  | k + 1 => osum D amb E k + outOf D amb E k
def flowOf (L : List Lnk) (T : Nat → Int) (m : Nat) : Int := lC L m * (T (lA L m).toNat - T (lB L m).toNat)
def lsum (L : List Lnk) (T : Nat → Int) : Nat → Nat → Int
  | 0, _ => 0
  | j + 1, i => lsum L T j i + ((if (lA L j).toNat = i then -flowOf L T j else 0) + (if (lB L j).toNat = i then flowOf L T j else 0))
/-- The energies behind a step. -/
def stepE (D : List Dom) (L : List Lnk) (amb : Int) (E p : Nat → Int) (i : Nat) : Int :=
  E i + (p i - outOf D amb E i) + lsum L (tempOf D E) L.length i

theorem out_bound {D : List Dom} {L : List Lnk} {amb : Int} {E : Nat → Int} (hs : Sane D L amb E) {i : Nat} (hi : i < D.length) :
    -1688849860263936 ≤ outOf D amb E i ∧ outOf D amb E i ≤ 1688849860263936 := by
  have h1 := hs.am i hi
  have h2 := hs.tmp i hi
  have h3 := hs.amb
  exact mul_bound (A := 16777216) (B := 100663296) h1.1 h1.2 (by unfold tempOf; omega) (by unfold tempOf; omega)

theorem osum_bound {D : List Dom} {L : List Lnk} {amb : Int} {E : Nat → Int} (hs : Sane D L amb E) : ∀ k, k ≤ D.length →
    -(1688849860263936 * k) ≤ osum D amb E k ∧ osum D amb E k ≤ 1688849860263936 * k := by
  intro k
  induction k with
  | zero => intro _; simp [osum]
  | succ k ih =>
    intro hk
    have h1 := ih (by omega)
    have h2 := out_bound hs (i := k) (by omega)
    simp only [osum]
    omega

theorem flow_bound {D : List Dom} {L : List Lnk} {amb : Int} {E : Nat → Int} (hs : Sane D L amb E) {m : Nat} (hm : m < L.length) :
    -2251799813685248 ≤ flowOf L (tempOf D E) m ∧ flowOf L (tempOf D E) m ≤ 2251799813685248 := by
  obtain ⟨a1, a2, a3, a4, a5, a6, a7⟩ := hs.lnk m hm
  have h1 := hs.tmp (lA L m).toNat (by omega)
  have h2 := hs.tmp (lB L m).toNat (by omega)
  exact mul_bound (A := 16777216) (B := 134217728) a6 a7 (by unfold tempOf; omega) (by unfold tempOf; omega)

theorem lsum_bound {D : List Dom} {L : List Lnk} {amb : Int} {E : Nat → Int} (hs : Sane D L amb E) (i : Nat) : ∀ j, j ≤ L.length →
    -(2251799813685248 * j) ≤ lsum L (tempOf D E) j i ∧ lsum L (tempOf D E) j i ≤ 2251799813685248 * j := by
  intro j
  induction j with
  | zero => intro _; simp [lsum]
  | succ j ih =>
    intro hj
    have h1 := ih (by omega)
    have h2 := flow_bound hs (m := j) (by omega)
    obtain ⟨a1, a2, a3, a4, a5, a6, a7⟩ := hs.lnk j (by omega)
    simp only [lsum]
    split <;> split <;> omega

/-- A cell of a model's block is written. -/
theorem HM.setRel {tm : TypeId} {H : Heap} {b be : Nat} {D : List Dom} {L : List Lnk} {amb : Int} {E : Nat → Int} {rel : Int} (h : HM tm Q H b be D L amb E rel) (r : Int) :
    HM tm Q (wrs H ((⟨b, 0, none⟩ : Addr).add 4) [.int .i64 r]) b be D L amb E r := by
  obtain ⟨⟨d, l, ce, g1, g2, g3, g4, g5⟩, g6, g7⟩ := h
  have hm : Mods [b] H (wrs H ((⟨b, 0, none⟩ : Addr).add 4) [.int .i64 r]) := mods_wr_add (by simp)
  have hsz := hm.size
  refine ⟨⟨d, l, ce, g1.wr1, g2.mods hm (fun a ha => by simp [(g4 a ha).1]), g3.mods hm (fun a ha => by simp [(g5 a ha).1]), fun a ha => ⟨(g4 a ha).1, (g4 a ha).2.1, by have := (g4 a ha).2.2.1; omega, (g4 a ha).2.2.2⟩,
    fun a ha => ⟨(g5 a ha).1, (g5 a ha).2.1, by have := (g5 a ha).2.2.1; omega, (g5 a ha).2.2.2⟩⟩, g6.mods hm (by simp; exact fun e => g7 e.symm), g7⟩

theorem HM.setEn {tm : TypeId} {H : Heap} {b be : Nat} {D : List Dom} {L : List Lnk} {amb : Int} {E : Nat → Int} {rel : Int} (h : HM tm Q H b be D L amb E rel) {i : Nat} (hi : i < D.length) (v : Int) :
    HM tm Q (wrs H ((⟨be, 0, none⟩ : Addr).add (i * 1)) [.int .i64 v]) b be D L amb (upd E i v) rel := by
  obtain ⟨⟨d, l, ce, g1, g2, g3, g4, g5⟩, g6, g7⟩ := h
  have hm : Mods [be] H (wrs H ((⟨be, 0, none⟩ : Addr).add (i * 1)) [.int .i64 v]) := mods_wr_add (by simp)
  have hsz := hm.size
  refine ⟨⟨d, l, ce, g1.mods hm (by simpa using g7), g2.mods hm (fun a ha => by simp [(g4 a ha).2.1]), g3.mods hm (fun a ha => by simp [(g5 a ha).2.1]), fun a ha => ⟨(g4 a ha).1, (g4 a ha).2.1, by have := (g4 a ha).2.2.1; omega, (g4 a ha).2.2.2⟩,
    fun a ha => ⟨(g5 a ha).1, (g5 a ha).2.1, by have := (g5 a ha).2.2.1; omega, (g5 a ha).2.2.2⟩⟩, g6.wr hi v, g7⟩

def StepPost (tm : TypeId) (Q : Nat → Prop) (b be : Nat) (D : List Dom) (L : List Lnk) (amb : Int) (E : Nat → Int) (rel : Int) (p : List Int) (H : Heap) (v : Value) (H' : Heap) : Prop :=
  (powOk p D.length = true ∧ ∃ t : Sl, v = .tuple #[.slice t.p t.n t.c, .int .i64 0] ∧ Ints .i64 H' t (tab D.length (tempOf D (stepE D L amb E (fun i => p.getD i 0)))) ∧ NewP H.size t.p ∧
    HM tm Q H' b be D L amb (stepE D L amb E (fun i => p.getD i 0)) (rel + osum D amb E D.length) ∧ Mods [b, be] H H') ∨
  (powOk p D.length = false ∧ v = .tuple #[.slice none 0 0, .int .i64 1] ∧ H' = H)

theorem Step_spec (b be : Nat) (D : List Dom) (L : List Lnk) (amb : Int) (E : Nat → Int) (rel : Int) (p : List Int) (s : Sl) (H : Heap) (h : HM t_heat_Model Q H b be D L amb E rel) (hs : Sane D L amb E)
    (hp : Ints .i64 H s p) (hpl : p.length ≤ 9223372036854775807) (hsep : ∀ a, s.p = some a → p ≠ [] → a.block ≠ b ∧ a.block ≠ be) (hrel : -1152921504606846976 ≤ rel ∧ rel ≤ 1152921504606846976)
    (hs' : powOk p D.length = true → Sane D L amb (stepE D L amb E (fun i => p.getD i 0))) :
    CallsH Try.prog n_heat_Model_Step #[.pointer (some ⟨b, 0, none⟩), .slice s.p s.n s.c] H (StepPost t_heat_Model Q b be D L amb E rel p H) := by
  have hh := h
  obtain ⟨⟨d, l, ce, g1, g2, g3, g4, g5⟩, g6, g7⟩ := h
  refine F_heat_Model_Step_ok _ _ ?_
  unfold F_heat_Model_Step
  refine ⟨d, g1.rd0 rfl, (validPower_spec H s p d.n hp hpl).mono ?_⟩
  rintro v H1 ⟨rfl, rfl⟩
  rw [g2.len]
  refine ⟨_, rfl, iteB_intro (fun c => ?_) (fun c => ?_)⟩
  · exact .inr ⟨by simpa using c, rfl, rfl⟩
  have hpow : powOk p D.length = true := by simpa using c
  have hps : p.length = D.length ∧ ∀ i, i < D.length → 0 ≤ p.getD i 0 ∧ p.getD i 0 ≤ 16777216 := by
    unfold powOk at hpow
    simp only [decide_eq_true_eq] at hpow
    refine ⟨by omega, fun i hi => ?_⟩
    have hip : i < p.length := by omega
    exact hpow.2 (p.getD i 0) (by simp [hip])
  refine (temperatures_spec b be D L amb E rel H1 hh hs).mono ?_
  rintro v H2 ⟨t, rfl, ht, htn, e2⟩
  refine ⟨t, rfl, d, (g1.ext e2).rd0 rfl, ?_⟩
  have hn16 := hs.n16
  have hb1 := hh.blt
  have htb : ∀ a, t.p = some a → a.block ∉ [b, be] := by
    intro a ha
    have := htn a ha
    simp; omega
  have hob := osum_bound hs
  refine ⟨fun x H' => Mods [b, be] H2 H' ∧ ∃ k : Nat, x = k ∧ k ≤ D.length ∧ HM t_heat_Model Q H' b be D L amb (fun i => if i < k then E i + (p.getD i 0 - outOf D amb E i) else E i) (rel + osum D amb E k), fun x _ => D.length - x.toNat,
    ⟨Mods.refl _ _, 0, rfl, Nat.zero_le _, by simpa [osum] using hh.ext e2⟩, ?_⟩
  rintro x H3 ⟨m3, k, rfl, hk, h3⟩
  unfold F_heat_Model_Step_r2
  have d3 : Doms H3 d D := (g2.ext e2).mods m3 (fun a ha => by have := g4 a ha; simp; omega)
  have t3 : Ints .i64 H3 t (tab D.length (tempOf D E)) := ht.mods m3 htb
  have p3 : Ints .i64 H3 s p := by
    by_cases h0 : p = []
    · exact ⟨hp.len, .inl h0⟩
    · exact (hp.ext e2).mods m3 (fun a ha => by have := hsep a ha h0; simp; omega)
  refine iteB_intro (fun c => ?_) (fun c => ?_)
  · rw [g2.len] at c
    have hkn : k < D.length := by simpa using c
    obtain ⟨a, hpa, hr0, hr1⟩ := d3.at (x := k) (by omega) (by omega)
    refine ⟨by omega, by rw [g2.len]; omega, unSome_mk hpa ⟨_, hr0, _, hr1, ?_⟩⟩
    refine local_mk (by simp) (by simp) ?_
    intro H5 e5 z5 hb5
    have h5 := h3.ext e5
    obtain ⟨⟨d', l', ce', q1, q2, q3, q4, q5⟩, q6, q7⟩ := h5
    obtain ⟨a1, hpt, hrt⟩ := Ints.at (t3.ext e5) (x := k) (by omega) (by rw [tab_length]; omega)
    obtain ⟨a3, hpp, hrp⟩ := Ints.at (p3.ext e5) (x := k) (by omega) (by omega)
    simp only [Int.toNat_natCast] at hrt hrp ⊢
    rw [tab_getD _ hkn] at hrt
    have hok := q6.ok hkn
    have hrd := q6.rd hkn
    simp only [Nat.lt_irrefl, if_false] at hrd
    have hpk := hps.2 k hkn
    have hek := hs.en k hkn
    have hout := out_bound hs hkn
    have htk := hs.tmp k hkn
    have hak := hs.amb
    refine ⟨ambOf D k, hb5.rd (i := 1) rfl, by omega, by rw [ht.len, tab_length]; omega, unSome_mk hpt ⟨_, hrt, amb, q1.rd (i := 2) rfl, ?_⟩⟩
    refine letV_mk (outOf D amb E k) ?_ ?_
    · rw [i64_in (n := tempOf D E k - amb) (by unfold tempOf; omega)]
      exact i64_in (by unfold outOf at hout; omega)
    refine ⟨⟨some ⟨be, 0, none⟩, D.length, ce'⟩, q1.rd (i := 3) rfl, by omega, by simpa using hkn, ?_⟩
    refine ⟨_, hrd, by omega, by rw [hp.len]; omega, unSome_mk hpp ⟨_, hrp, by omega, by simpa using hkn, ?_⟩⟩
    refine ⟨hok, letH_mk ?_⟩
    rintro H6 rfl
    rw [i64_in (n := p.getD k 0 - outOf D amb E k) (by omega), i64_in (n := E k + (p.getD k 0 - outOf D amb E k)) (by omega)]
    have h6 := (h3.ext e5).setEn hkn (E k + (p.getD k 0 - outOf D amb E k))
    obtain ⟨⟨d6, l6, ce6, r1, r2, r3, r4, r5⟩, r6, r7⟩ := id h6
    have ho1 := hob k hk
    refine ⟨_, r1.rd (i := 4) rfl, r1.ok (i := 4) (n := 1) (by simp), letH_mk ?_⟩
    rintro H7 rfl
    have h7 := h6.setRel (rel + osum D amb E k + outOf D amb E k)
    rw [i64_in (n := rel + osum D amb E k + outOf D amb E k) (by omega)]
    rw [show IntKind.i64.wrap ((k : Int) + 1) = ((k + 1 : Nat) : Int) by rw [i64_in (by omega)]; simp]
    refine ⟨⟨?_, k + 1, rfl, by omega, ?_⟩, by simp only [Int.toNat_natCast]; omega⟩
    · exact ((m3.trans e5.mods).trans (mods_wr_add (by simp))).trans (mods_wr_add (by simp))
    · rw [show rel + osum D amb E (k + 1) = rel + osum D amb E k + outOf D amb E k by simp only [osum]; omega]
      refine h7.congr (fun i hi => ?_)
      by_cases e : i = k
      · subst e; rw [upd_same, if_pos (by omega)]
      · rw [upd_ne e]
        by_cases e2 : i < k
        · rw [if_pos e2, if_pos (by omega)]
        · rw [if_neg e2, if_neg (by omega)]
  · rw [g2.len] at c
    have hkn : k = D.length := by simp at c; omega
    subst hkn
    obtain ⟨⟨d', l', ce', q1, q2, q3, q4, q5⟩, q6, q7⟩ := id h3
    refine ⟨l', q1.rd (i := 1) rfl, ?_⟩
    refine ⟨fun x H' => Mods [b, be] H3 H' ∧ ∃ j : Nat, x = j ∧ j ≤ L.length ∧ HM t_heat_Model Q H' b be D L amb (fun i => E i + (p.getD i 0 - outOf D amb E i) + lsum L (tempOf D E) j i) (rel + osum D amb E D.length), fun x _ => L.length - x.toNat,
      ⟨Mods.refl _ _, 0, rfl, Nat.zero_le _, h3.congr (fun i hi => by rw [if_pos hi]; simp [lsum])⟩, ?_⟩
    rintro x H8 ⟨m8, j, rfl, hj, h8⟩
    unfold F_heat_Model_Step_r1
    have l8 : Lnks H8 l' L := q3.mods m8 (fun a ha => by have := q5 a ha; simp; omega)
    have t8 : Ints .i64 H8 t (tab D.length (tempOf D E)) := t3.mods m8 htb
    have hnl := hs.nl
    refine iteB_intro (fun c => ?_) (fun c => ?_)
    · rw [q3.len] at c
      have hjn : j < L.length := by simpa using c
      obtain ⟨b1, b2, b3, b4, b5, b6, b7⟩ := hs.lnk j hjn
      obtain ⟨a, hpa, hr0, hr1, hr2⟩ := l8.at (x := j) (by omega) (by omega)
      refine ⟨by omega, by rw [q3.len]; omega, unSome_mk hpa ⟨_, hr0, _, hr1, _, hr2, ?_⟩⟩
      simp only [Int.toNat_natCast]
      refine local_mk (by simp) (by simp) ?_
      intro H10 e10 z10 hb10
      have hA : (lA L j).toNat < D.length := by omega
      have hB : (lB L j).toNat < D.length := by omega
      have hAB : (lA L j).toNat ≠ (lB L j).toNat := by omega
      obtain ⟨a6, hpA, hrA⟩ := Ints.at (t8.ext e10) (x := lA L j) b1 (by rw [tab_length]; omega)
      obtain ⟨a7, hpB, hrB⟩ := Ints.at (t8.ext e10) (x := lB L j) b3 (by rw [tab_length]; omega)
      rw [tab_getD _ hA] at hrA
      rw [tab_getD _ hB] at hrB
      have hfl := flow_bound hs hjn
      have htA := hs.tmp _ hA
      have htB := hs.tmp _ hB
      refine ⟨lC L j, hb10.rd (i := 2) rfl, lA L j, hb10.rd0 rfl, b1, by rw [ht.len, tab_length]; omega, unSome_mk hpA ⟨_, hrA, lB L j, hb10.rd (i := 1) rfl, b3, by rw [ht.len, tab_length]; omega, unSome_mk hpB ⟨_, hrB, ?_⟩⟩⟩
      refine letV_mk (flowOf L (tempOf D E) j) ?_ ?_
      · rw [i64_in (n := tempOf D E (lA L j).toNat - tempOf D E (lB L j).toNat) (by unfold tempOf; omega)]
        exact i64_in (by unfold flowOf at hfl; omega)
      have h10 := h8.ext e10
      obtain ⟨⟨d1, l1, ce1, r1, r2, r3, r4, r5⟩, r6, r7⟩ := id h10
      have ll := lsum_bound hs (lA L j).toNat j hj
      have lb := lsum_bound hs (lB L j).toNat j hj
      have eA := hs.en _ hA
      have eB := hs.en _ hB
      have oA := out_bound hs hA
      have oB := out_bound hs hB
      have pA := hps.2 _ hA
      have pB := hps.2 _ hB
      refine ⟨⟨some ⟨be, 0, none⟩, D.length, ce1⟩, r1.rd (i := 3) rfl, lA L j, hb10.rd0 rfl, b1, b2, ?_⟩
      refine ⟨_, r6.rd hA, b1, b2, r6.ok hA, letH_mk ?_⟩
      rintro H11 rfl
      rw [i64_in (n := E (lA L j).toNat + (p.getD (lA L j).toNat 0 - outOf D amb E (lA L j).toNat) + lsum L (tempOf D E) j (lA L j).toNat - flowOf L (tempOf D E) j) (by omega)]
      have h11 := h10.setEn hA (E (lA L j).toNat + (p.getD (lA L j).toNat 0 - outOf D amb E (lA L j).toNat) + lsum L (tempOf D E) j (lA L j).toNat - flowOf L (tempOf D E) j)
      obtain ⟨⟨d2, l2, ce2, u1, u2, u3, u4, u5⟩, u6, u7⟩ := id h11
      have hb11 := hb10.mods (H' := _) (mods_wr_add (S := [be]) (H := H10) (b := be) (i := (lA L j).toNat * 1) (vs := [.int .i64 (E (lA L j).toNat + (p.getD (lA L j).toNat 0 - outOf D amb E (lA L j).toNat) + lsum L (tempOf D E) j (lA L j).toNat - flowOf L (tempOf D E) j)]) (by simp))
        (by have := h8.blt; simp; omega)
      have hrB2 := u6.rd hB
      rw [upd_ne (fun e => hAB e.symm)] at hrB2
      refine ⟨⟨some ⟨be, 0, none⟩, D.length, ce2⟩, u1.rd (i := 3) rfl, lB L j, hb11.rd (i := 1) rfl, b3, b4, ?_⟩
      refine ⟨_, hrB2, b3, b4, u6.ok hB, letH_mk ?_⟩
      rintro H12 rfl
      rw [i64_in (n := E (lB L j).toNat + (p.getD (lB L j).toNat 0 - outOf D amb E (lB L j).toNat) + lsum L (tempOf D E) j (lB L j).toNat + flowOf L (tempOf D E) j) (by omega)]
      have h12 := h11.setEn hB (E (lB L j).toNat + (p.getD (lB L j).toNat 0 - outOf D amb E (lB L j).toNat) + lsum L (tempOf D E) j (lB L j).toNat + flowOf L (tempOf D E) j)
      rw [show IntKind.i64.wrap ((j : Int) + 1) = ((j + 1 : Nat) : Int) by rw [i64_in (by omega)]; simp]
      refine ⟨⟨?_, j + 1, rfl, by omega, ?_⟩, by simp only [Int.toNat_natCast]; omega⟩
      · exact ((m8.trans e10.mods).trans (mods_wr_add (by simp))).trans (mods_wr_add (by simp))
      · refine h12.congr (fun i hi => ?_)
        simp only [lsum]
        by_cases eB' : i = (lB L j).toNat
        · subst eB'
          rw [upd_same, if_neg hAB, if_pos rfl]
          omega
        · have eB2 : ¬ (lB L j).toNat = i := fun e => eB' e.symm
          rw [upd_ne eB']
          by_cases eA' : i = (lA L j).toNat
          · subst eA'
            simp only [upd_same, if_true, eB2, if_false]
            omega
          · have eA2 : ¬ (lA L j).toNat = i := fun e => eA' e.symm
            simp only [upd_ne eA', eA2, eB2, if_false]
            omega
    · rw [q3.len] at c
      have hjn : j = L.length := by simp at c; omega
      subst hjn
      have hfin : HM t_heat_Model Q H8 b be D L amb (stepE D L amb E (fun i => p.getD i 0)) (rel + osum D amb E D.length) := h8
      refine (temperatures_spec b be D L amb _ _ H8 hfin (hs' hpow)).mono ?_
      rintro v H13 ⟨t', rfl, ht', htn', e13⟩
      have z2 := e2.size
      have z3 := m3.size
      have z8 := m8.size
      exact ⟨t', rfl, .inl ⟨hpow, t', rfl, ht', htn'.mono (by omega), hfin.ext e13, ((e2.mods.trans m3).trans m8).trans e13.mods⟩⟩

end Go.Proofs.Ytiikkapdchodkaa
