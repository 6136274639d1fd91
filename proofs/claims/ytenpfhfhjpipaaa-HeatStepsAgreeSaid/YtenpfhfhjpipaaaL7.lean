/-
  The law HeatStepsAgree, over the shallow readings.
-/
import Derived.Test.YtenpfhfhjpipaaaR3
namespace Go.Proofs.Ytenpfhfhjpipaaa
open Go.Eng Go.Heat

variable {Q : Nat → Prop}

theorem rStep_run (b be : Nat) (D : List Dom) (L : List Lnk) (amb : Int) (E : Nat → Int) (rel : Int) (p : List Int) (s : Sl) (H : Heap) (h : HM t_ref38_Model Q H b be D L amb E rel) (hv : VS D L amb) (hl : L.length ≤ 1000)
    (hT : TB D E amb (amb + 16777216)) (hp : Ints .i64 H s p) (hpl : p.length ≤ 9223372036854775807) (hsep : ∀ a, s.p = some a → p ≠ [] → a.block ≠ b ∧ a.block ≠ be) (hrel : 0 ≤ rel ∧ rel ≤ 1152921504606846976) :
    CallsH Try.prog n_ref38_Model_Step #[.pointer (some ⟨b, 0, none⟩), .slice s.p s.n s.c] H (StepPost t_ref38_Model Q b be D L amb E rel p H) :=
  rStep_spec b be D L amb E rel p s H h (hT.sane hv hl (by have := hv.amb1; omega)) hp hpl hsep (by omega) (fun hok => (step_wide hv hT hok).sane hv hl (by have := hv.amb1; omega))

theorem rows_at {k : IntKind} {H H' : Heap} {s : Sl} {l : List (List Int)} (h : IRows k H s l) (he : Ext H H') {x : Int} (h0 : 0 ≤ x) (h1 : x < l.length) :
    ∃ a r, s.p = some a ∧ rd H' (a.add (x.toNat * 1)) = some (.slice r.p r.n r.c) ∧ Ints k H' r (l.getD x.toNat []) ∧ (l.getD x.toNat []).length ≤ maxLen ∧ (∀ a, r.p = some a → l.getD x.toNat [] ≠ [] → a.block < H.size) := by
  have hx : x.toNat < l.length := by omega
  rcases h.row with h2 | ⟨a, hp, hr⟩
  · rw [h2] at h1; simp at h1; omega
  · obtain ⟨r, g1, g2, g3, g4⟩ := hr x.toNat (l.getD x.toNat []) (by simp [hx])
    exact ⟨a, r, hp, (he.mods (S := [])).rd g1 (by simp), g2.ext he, g3, g4⟩

def nextE (D : List Dom) (L : List Lnk) (amb : Int) (E : Nat → Int) (p : List Int) : Nat → Int := if powOk p D.length then stepE D L amb E (fun i => p.getD i 0) else E
def nextR (D : List Dom) (amb : Int) (E : Nat → Int) (rel : Int) (p : List Int) : Int := if powOk p D.length then rel + osum D amb E D.length else rel
def nextT (D : List Dom) (L : List Lnk) (amb : Int) (E : Nat → Int) (p : List Int) : List Int := if powOk p D.length then tab D.length (tempOf D (stepE D L amb E (fun i => p.getD i 0))) else []
def nextC (D : List Dom) (p : List Int) : Int := if powOk p D.length then 0 else 1

theorem StepPost.unify {tm : TypeId} {b be : Nat} {D : List Dom} {L : List Lnk} {amb : Int} {E : Nat → Int} {rel : Int} {p : List Int} {H H' : Heap} {v : Value} (h : StepPost tm Q b be D L amb E rel p H v H') (h0 : HM tm Q H b be D L amb E rel) :
    ∃ t : Sl, v = .tuple #[.slice t.p t.n t.c, .int .i64 (nextC D p)] ∧ Ints .i64 H' t (nextT D L amb E p) ∧ NewP H.size t.p ∧ HM tm Q H' b be D L amb (nextE D L amb E p) (nextR D amb E rel p) ∧ Mods [b, be] H H' := by
  rcases h with ⟨hok, t, rfl, it, nt, hm, m⟩ | ⟨hok, rfl, rfl⟩
  · refine ⟨t, ?_, ?_, nt, ?_, m⟩
    · simp [nextC, hok]
    · simpa [nextT, hok] using it
    · simpa [nextE, nextR, hok] using hm
  · refine ⟨⟨none, 0, 0⟩, ?_, ?_, NewP.none _, ?_, Mods.refl _ _⟩
    · simp [nextC, hok]
    · simp only [nextT, hok]
      exact IsS.nil _ _ _
    · simpa [nextE, nextR, hok] using h0

theorem law_stepsAgree (H : Heap) (ds ls pw : Sl) (D0 : List Dom) (L0 : List Lnk) (amb0 : Int) (pws : List (List Int)) (hd : Doms H ds D0) (hl : Lnks H ls L0) (hp : IRows .i64 H pw pws) :
    CallsH Try.prog n_law38_HeatStepsAgree #[.slice ds.p ds.n ds.c, .slice ls.p ls.n ls.c, .int .i64 amb0, .slice pw.p pw.n pw.c] H (fun v H' => v = .bool true ∧ Ext H H') := by
  refine F_law38_HeatStepsAgree_ok _ _ _ _ ?_
  unfold F_law38_HeatStepsAgree
  rw [hp.len]
  refine iteB_intro (fun c => ?_) (fun c => ?_)
  · refine (awake_spec H).mono ?_
    rintro v H' ⟨rfl, e⟩
    exact ⟨true, rfl, rfl, e⟩
  have h30 : pws.length ≤ 30 := by simp at c; omega
  refine (Some_spec H ds ls D0 L0 amb0 hd hl).mono ?_
  rintro v H2 ⟨bd, sl, D, L, amb, rfl, hs, hbd, rd2, ol2, e2⟩
  have hv := hs.vs
  have hn1 := hs.vs.n1
  have hn5 := hs.n5
  have hl12 := hs.l12
  have ha100 := hs.a100
  refine ⟨⟨some ⟨bd, 0, none⟩, D.length, D.length⟩, sl, amb, rfl, local_mk (by simp) (by simp) ?_⟩
  intro H4 e4 z4 b4
  have rd4 := rd2.ext e4
  have ol4 := ol2.ext e4
  refine ⟨⟨some ⟨bd, 0, none⟩, D.length, D.length⟩, b4.rd0 rfl, ⟨some ⟨bd, 0, none⟩, D.length, D.length⟩, b4.rd0 rfl, sl, b4.rd (i := 1) rfl, amb, b4.rd (i := 2) rfl, ?_⟩
  refine (newSys H4 _ sl D L amb hs (rd4.isS D.length D.length rfl) (ol4.isS encL_len (by omega))).mono ?_
  rintro v H5 ⟨a, ae, rfl, hA5, ha, hae, e5⟩
  have b5 := b4.ext e5
  have z2 := e2.size
  have z5 := e5.size
  have hblA := hA5.blt
  have hbdl := rd2.lt
  have hol := ol2.lt
  refine ⟨_, _, rfl, ⟨some ⟨bd, 0, none⟩, D.length, D.length⟩, b5.rd0 rfl, sl, b5.rd (i := 1) rfl, amb, b5.rd (i := 2) rfl, ?_⟩
  refine (rNew_spec (fun k => k < H4.size) H5 ⟨some ⟨bd, 0, none⟩, D.length, D.length⟩ sl D L amb ((rd4.ext e5).isS D.length D.length rfl) ((ol4.ext e5).isS encL_len (by omega)) (by omega)).mono ?_
  rintro v H6 ⟨⟨_, b, be, rfl, hB6', hb, hbe⟩ | ⟨hbad, _⟩, e6⟩
  rotate_left
  · exact absurd hv hbad
  have hB6 := hB6' (fun x hx => by
    rcases hx with hx | hx
    · cases hx
      dsimp only
      omega
    · have := hol x hx
      omega)
  have z6 := e6.size
  have hblB := hB6.blt
  refine ⟨_, _, rfl, iteB_neg rfl (iteB_neg rfl (iteB_neg rfl ?_))⟩
  have eH : Ext H H6 := ((e2.trans e4).trans e5).trans e6
  refine ⟨fun x H' => Ext H H' ∧ ∃ j : Nat, x = j ∧ j ≤ pws.length ∧ ∃ (E : Nat → Int) (rel : Int), HM t_heat_Model (fun k => H4.size ≤ k ∧ k < H5.size) H' a ae D L amb E rel ∧ HM t_ref38_Model (fun k => k < H4.size) H' b be D L amb E rel ∧ TB D E amb (amb + 16777216) ∧ 0 ≤ rel ∧ rel ≤ 4503599627370496 * j,
    fun x _ => pws.length - x.toNat, ⟨eH, 0, rfl, Nat.zero_le _, _, _, hA5.tight.ext e6, hB6, start_TB hv (by omega), by omega, by omega⟩, ?_⟩
  rintro x H7 ⟨e7, j, rfl, hj, E, rel, hA7, hB7, hT, hr0, hr1⟩
  unfold F_law38_HeatStepsAgree_r3
  rw [hp.len]
  refine iteB_intro (fun c => ?_) (fun c => ?_)
  rotate_left
  · refine (awake_spec H7).mono ?_
    rintro v H' ⟨rfl, e⟩
    exact ⟨true, rfl, rfl, e7.trans e⟩
  have hjl : j < pws.length := by simpa using c
  obtain ⟨pa, r, hpa, hr, hri, hrl, hrs⟩ := rows_at hp e7 (x := j) (by omega) (by omega)
  refine ⟨by omega, by omega, unSome_mk hpa ⟨r, hr, ?_⟩⟩
  refine (Powers_run H7 r _ D.length 100 hri (by omega) (by omega)).mono ?_
  rintro v H8 ⟨ps, rfl, hpp, hpi, hpb, hpok, e8⟩
  have z7 := e7.size
  have z8 := e8.size
  have hpbl := hpb.lt
  have hbl7A := hA7.blt
  have hbl7B := hB7.blt
  refine ⟨ps, rfl, fun p2 H' => H' = H8 ∧ ∃ pl : List Int, Ints .i64 H8 p2 pl ∧ pl.length ≤ maxLen ∧ ∀ x, p2.p = some x → pl ≠ [] → x.block < H.size ∨ x.block = H7.size, ?_, ?_⟩
  · refine iteB_intro (fun c => ?_) (fun c => ?_)
    · exact ⟨by omega, by omega, unSome_mk hpa ⟨r, (e8.mods (S := [])).rd hr (by simp), rfl, _, hri.ext e8, hrl, fun x hx hne => .inl (hrs x hx hne)⟩⟩
    · exact ⟨rfl, _, hpi, by rw [tab_length]; simp [maxLen]; omega, fun x hx _ => by rw [hpp] at hx; cases hx; exact .inr rfl⟩
  rintro p2 H9 ⟨rfl, pl, ip, hpl, hps⟩
  unfold F_law38_HeatStepsAgree_k2
  have hpl' : pl.length ≤ 9223372036854775807 := by simp [maxLen] at hpl; omega
  have hA8 := hA7.ext e8
  have hB8 := hB7.ext e8
  refine (Step_run a ae D L amb E rel pl p2 H9 hA8 hv (by omega) hT ip hpl' (fun x hx hne => by have := hps x hx hne; omega) (by omega)).mono ?_
  intro v H10 hpost
  obtain ⟨t, rfl, it, nt, hA10, m10⟩ := hpost.unify hA8
  have z10 := m10.size
  have hB10 := hB8.mods m10 (by simp; omega) (by simp; omega) (fun k hk => by simp; omega)
  have ip10 : Ints .i64 H10 p2 pl := by
    by_cases h0 : pl = []
    · exact ⟨ip.len, .inl h0⟩
    · exact ip.mods m10 (fun x hx => by have := hps x hx h0; simp; omega)
  refine ⟨t, _, rfl, ?_⟩
  refine (rStep_run b be D L amb E rel pl p2 H10 hB10 hv (by omega) hT ip10 hpl' (fun x hx hne => by have := hps x hx hne; omega) (by omega)).mono ?_
  intro v H11 hpost2
  obtain ⟨t2, rfl, it2, nt2, hB11, m11⟩ := hpost2.unify hB10
  have z11 := m11.size
  have hA11 := hA10.mods m11 (by simp; omega) (by simp; omega) (fun k hk => by simp; omega)
  have it11 := IsS.mods it m11 (fun x hx => by have := nt x hx; simp; omega)
  have hT2 : TB D (nextE D L amb E pl) amb (amb + 16777216) := by
    unfold nextE
    by_cases h0 : powOk pl D.length = true
    · rw [if_pos h0]; exact step_wide hv hT h0
    · rw [if_neg h0]; exact hT
  have hR2 : 0 ≤ nextR D amb E rel pl ∧ nextR D amb E rel pl ≤ rel + 4503599627370496 := by
    unfold nextR
    have := osum16 hT hv (by omega)
    split <;> omega
  have hTl : (nextT D L amb E pl).length ≤ 5 := by
    unfold nextT
    split
    · rw [tab_length]; exact hn5
    · simp
  have e10 : Ext H H10 := Mods.ext (e7.trans e8) m10 (by simp; omega)
  have e11 : Ext H H11 := Mods.ext e10 m11 (by simp; omega)
  generalize nextE D L amb E pl = E2 at hA11 hB11 hT2
  generalize nextR D amb E rel pl = rel2 at hA11 hB11 hR2
  refine ⟨t2, _, rfl, iteB_neg (by simp) ?_⟩
  refine (Equal_int64_spec H11 t t2 _ _ it11 it2 (by omega)).mono ?_
  rintro v H12 ⟨rfl, rfl⟩
  refine ⟨_, rfl, iteB_neg (by simp) ?_⟩
  refine (Released_spec a ae _ _ _ _ _ H12 hA11).mono ?_
  rintro v H13 ⟨rfl, rfl⟩
  refine ⟨_, rfl, ?_⟩
  refine (rReleased_spec b be _ _ _ _ _ H13 hB11).mono ?_
  rintro v H14 ⟨rfl, rfl⟩
  refine ⟨_, rfl, iteB_neg (by simp) ?_⟩
  refine ⟨fun x H' => H' = H14 ∧ -1 ≤ x ∧ x ≤ (D.length : Int) + 1, fun x _ => ((D.length : Int) + 1 - x).toNat, ⟨rfl, by omega, by omega⟩, ?_⟩
  rintro x H15 ⟨rfl, hx0, hx1⟩
  unfold F_law38_HeatStepsAgree_r1
  dsimp only
  have hsane := hT2.sane (L := L) hv (by omega) (by omega)
  refine iteB_intro (fun c => ?_) (fun c => ?_)
  · have hxn : x ≤ D.length := by simpa using c
    refine (Energy_spec a ae _ _ _ _ _ x H15 hA11).mono ?_
    rintro v H16 ⟨rfl, rfl⟩
    refine ⟨_, rfl, ?_⟩
    refine (rEnergy_spec b be _ _ _ _ _ x H16 hB11).mono ?_
    rintro v H17 ⟨rfl, rfl⟩
    refine ⟨_, rfl, iteB_neg (by simp) ?_⟩
    refine (Temperature_spec a ae _ _ _ _ _ x H17 hA11 hsane).mono ?_
    rintro v H18 ⟨rfl, rfl⟩
    refine ⟨_, rfl, ?_⟩
    refine (rTemperature_spec b be _ _ _ _ _ x H18 hB11 hsane).mono ?_
    rintro v H19 ⟨rfl, rfl⟩
    exact ⟨_, rfl, iteB_neg (by simp) (letV_mk (x + 1) (i64_in (by omega)) ⟨⟨rfl, by omega, by omega⟩, by omega⟩)⟩
  · exact letV_mk ((j + 1 : Nat) : Int) (by rw [i64_in (by omega)]; simp) ⟨⟨e11, j + 1, rfl, by omega, E2, rel2, hA11, hB11, hT2, by omega, by omega⟩, by simp only [Int.toNat_natCast]; omega⟩

end Go.Proofs.Ytenpfhfhjpipaaa
