/-
  The law HeatCopies, over the shallow readings.
-/
import Derived.Test.YtenpfhfhjpipaaaL4
namespace Go.Proofs.Ytenpfhfhjpipaaa
open Go.Eng Go.Heat

variable {Q : Nat → Prop}

/-- The energies behind the first 'k' steps. -/
def runE (D : List Dom) (L : List Lnk) (amb : Int) (E : Nat → Int) (P : Nat → Nat → Int) : Nat → Nat → Int
  | 0 => E
  | k + 1 => stepE D L amb (runE D L amb E P k) (fun i => (tab D.length (P k)).getD i 0)
def runR (D : List Dom) (L : List Lnk) (amb : Int) (E : Nat → Int) (rel : Int) (P : Nat → Nat → Int) : Nat → Int
  | 0 => rel
  | k + 1 => runR D L amb E rel P k + osum D amb (runE D L amb E P k) D.length

theorem run_TB {D : List Dom} {L : List Lnk} {amb : Int} {E : Nat → Int} {P : Nat → Nat → Int} (hv : VS D L amb) (hT : TB D E amb (amb + 16777216)) (hP : ∀ k, powOk (tab D.length (P k)) D.length = true) : ∀ k, TB D (runE D L amb E P k) amb (amb + 16777216) := by
  intro k
  induction k with
  | zero => exact hT
  | succ k ih => exact step_wide hv ih (hP k)

theorem run_rel {D : List Dom} {L : List Lnk} {amb : Int} {E : Nat → Int} {rel : Int} {P : Nat → Nat → Int} (hv : VS D L amb) (hT : TB D E amb (amb + 16777216)) (hP : ∀ k, powOk (tab D.length (P k)) D.length = true) (hr : 0 ≤ rel) :
    ∀ k : Nat, 0 ≤ runR D L amb E rel P k ∧ runR D L amb E rel P k ≤ rel + 4503599627370496 * k := by
  intro k
  induction k with
  | zero => simp [runR]; omega
  | succ k ih =>
    have := osum16 (run_TB (P := P) hv hT hP k) hv (by omega)
    simp only [runR]
    omega

/-- One step of a model with the powers that 'Powers' made. -/
theorem step_one (b be : Nat) (D : List Dom) (L : List Lnk) (amb : Int) (E : Nat → Int) (rel : Int) (pf : Nat → Int) (s : Sl) (H : Heap) (pb : Nat) (h : HM t_heat_Model Q H b be D L amb E rel) (hs : Sys D L amb)
    (hT : TB D E amb (amb + 16777216)) (hp : Ints .i64 H s (tab D.length pf)) (hpp : s.p = some ⟨pb, 0, none⟩) (hsep : pb ≠ b ∧ pb ≠ be) (hok : powOk (tab D.length pf) D.length = true) (hrel : 0 ≤ rel ∧ rel ≤ 1152921504606846976) :
    CallsH Try.prog n_heat_Model_Step #[.pointer (some ⟨b, 0, none⟩), .slice s.p s.n s.c] H (fun v H' => ∃ t : Sl, v = .tuple #[.slice t.p t.n t.c, .int .i64 0] ∧ Ints .i64 H' t (tab D.length (tempOf D (stepE D L amb E (fun i => (tab D.length pf).getD i 0)))) ∧ NewP H.size t.p ∧
      HM t_heat_Model Q H' b be D L amb (stepE D L amb E (fun i => (tab D.length pf).getD i 0)) (rel + osum D amb E D.length) ∧ Mods [b, be] H H') := by
  refine (Step_run b be D L amb E rel _ s H h hs.vs (by have := hs.l12; omega) hT hp (by rw [tab_length]; have := hs.n5; omega) (fun x hx _ => by rw [hpp] at hx; cases hx; exact hsep) hrel).mono ?_
  rintro v H' (⟨_, t, rfl, it, nt, hm, m⟩ | ⟨hbad, _⟩)
  · exact ⟨t, rfl, it, nt, hm, m⟩
  · rw [hok] at hbad; cases hbad

theorem law_copies (H : Heap) (ds ls bf af : Sl) (D0 : List Dom) (L0 : List Lnk) (amb0 : Int) (before after : List (List Int)) (hd : Doms H ds D0) (hl : Lnks H ls L0) (hbf : IRows .i64 H bf before) (haf : IRows .i64 H af after) :
    CallsH Try.prog n_law38_HeatCopies #[.slice ds.p ds.n ds.c, .slice ls.p ls.n ls.c, .int .i64 amb0, .slice bf.p bf.n bf.c, .slice af.p af.n af.c] H (fun v H' => v = .bool true ∧ Ext H H') := by
  refine F_law38_HeatCopies_ok _ _ _ _ _ ?_
  unfold F_law38_HeatCopies
  rw [hbf.len, haf.len]
  refine ⟨fun x H' => H' = H ∧ (x = false → before.length ≤ 20 ∧ after.length ≤ 20), ?_, ?_⟩
  · refine iteB_intro (fun c => ⟨rfl, fun h => by cases h⟩) (fun c => ⟨rfl, fun h => ?_⟩)
    have c1 : ¬ ((before.length : Int) > 20) := by simpa using c
    have c2 : ¬ ((after.length : Int) > 20) := by simpa using h
    omega
  rintro x H1 ⟨rfl, hx⟩
  unfold F_law38_HeatCopies_k5
  refine iteB_intro (fun c => ?_) (fun c => ?_)
  · refine (awake_spec H1).mono ?_
    rintro v H' ⟨rfl, e⟩
    exact ⟨true, rfl, rfl, e⟩
  obtain ⟨h20b, h20a⟩ := hx c
  refine (Some_spec H1 ds ls D0 L0 amb0 hd hl).mono ?_
  rintro v H3 ⟨bd, sl, D, L, amb, rfl, hs, hbd, rd3, ol3, e3⟩
  have hv := hs.vs
  have hn1 := hs.vs.n1
  have hn5 := hs.n5
  have hl12 := hs.l12
  refine ⟨⟨some ⟨bd, 0, none⟩, D.length, D.length⟩, sl, amb, rfl, local_mk (by simp) (by simp) ?_⟩
  intro H5 e5 z5 b5
  have rd5 := rd3.ext e5
  have ol5 := ol3.ext e5
  refine ⟨⟨some ⟨bd, 0, none⟩, D.length, D.length⟩, b5.rd0 rfl, ⟨some ⟨bd, 0, none⟩, D.length, D.length⟩, b5.rd0 rfl, sl, b5.rd (i := 1) rfl, amb, b5.rd (i := 2) rfl, ?_⟩
  refine (newSys H5 _ sl D L amb hs (rd5.isS D.length D.length rfl) (ol5.isS encL_len (by omega))).mono ?_
  rintro v H6 ⟨a, ae, rfl, hA6, ha, hae, e6⟩
  have b6 := b5.ext e6
  refine ⟨_, _, rfl, ⟨some ⟨bd, 0, none⟩, D.length, D.length⟩, b6.rd0 rfl, sl, b6.rd (i := 1) rfl, amb, b6.rd (i := 2) rfl, ?_⟩
  refine (newSys H6 _ sl D L amb hs ((rd5.ext e6).isS D.length D.length rfl) ((ol5.ext e6).isS encL_len (by omega))).mono ?_
  rintro v H7 ⟨b, be, rfl, hB7, hb, hbe, e7⟩
  refine ⟨_, _, rfl, iteB_neg rfl (iteB_neg rfl (iteB_neg rfl (iteB_neg rfl ?_)))⟩
  have z3 := e3.size
  have z6 := e6.size
  have z7 := e7.size
  have hblA := hA6.blt
  have hblB := hB7.blt
  have eH : Ext H1 H7 := ((e3.trans e5).trans e6).trans e7
  refine ⟨fun x H' => Ext H1 H' ∧ H7.size ≤ H'.size ∧ ∃ j : Nat, x = j ∧ j ≤ before.length ∧ ∃ (E : Nat → Int) (rel : Int), HM t_heat_Model (fun k => H5.size ≤ k ∧ k < H6.size) H' a ae D L amb E rel ∧ HM t_heat_Model (fun k => H6.size ≤ k ∧ k < H7.size) H' b be D L amb E rel ∧
      TB D E amb (amb + 16777216) ∧ 0 ≤ rel ∧ rel ≤ 4503599627370496 * j, fun x _ => before.length - x.toNat,
    ⟨eH, Nat.le_refl _, 0, rfl, Nat.zero_le _, _, _, hA6.tight.ext e7, hB7.tight, start_TB hv (by omega), by omega, by omega⟩, ?_⟩
  rintro x H8 ⟨e8, z8, j, rfl, hj, E, rel, hA8, hB8, hT, hr0, hr1⟩
  unfold F_law38_HeatCopies_r4
  rw [hbf.len]
  refine iteB_intro (fun c => ?_) (fun c => ?_)
  · have hjl : j < before.length := by simpa using c
    obtain ⟨pa, r, hpa, hr, hri, hrl⟩ := (hbf.ext e8).at (x := j) (by omega) (by omega)
    refine ⟨by omega, by omega, unSome_mk hpa ⟨r, hr, ?_⟩⟩
    refine (Powers_run H8 r _ D.length 200 hri (by omega) (by omega)).mono ?_
    rintro v H9 ⟨ps, rfl, hpp, hpi, hpb, hpok, e9⟩
    have z9 := e9.size
    have hpbl := hpb.lt
    refine ⟨ps, rfl, ?_⟩
    refine (step_one a ae D L amb E rel _ ps H9 H8.size (hA8.ext e9) hs hT hpi hpp (by omega) hpok (by omega)).mono ?_
    rintro v H10 ⟨t, rfl, it, nt, hA10, m10⟩
    have z10 := m10.size
    have hB10 := (hB8.ext e9).mods m10 (by simp; omega) (by simp; omega) (fun k hk => by simp; omega)
    have e10 : Ext H1 H10 := Mods.ext (e8.trans e9) m10 (by simp; omega)
    obtain ⟨pa', r', hpa', hr', hri', hrl'⟩ := (hbf.ext e10).at (x := j) (by omega) (by omega)
    refine ⟨t, 0, rfl, by omega, by omega, unSome_mk hpa' ⟨r', hr', ?_⟩⟩
    refine (Powers_run H10 r' _ D.length 200 hri' (by omega) (by omega)).mono ?_
    rintro v H11 ⟨ps', rfl, hpp', hpi', hpb', hpok', e11⟩
    have z11 := e11.size
    have hpbl' := hpb'.lt
    refine ⟨ps', rfl, ?_⟩
    refine (step_one b be D L amb E rel _ ps' H11 H10.size (hB10.ext e11) hs hT hpi' hpp' (by omega) hpok' (by omega)).mono ?_
    rintro v H12 ⟨t', rfl, it', nt', hB12, m12⟩
    have z12 := m12.size
    have hA12 := (hA10.ext e11).mods m12 (by simp; omega) (by simp; omega) (fun k hk => by simp; omega)
    have hos := osum16 hT hv (by omega)
    refine ⟨t', 0, rfl, letV_mk ((j + 1 : Nat) : Int) (by rw [i64_in (by omega)]; simp) ⟨⟨Mods.ext (e10.trans e11) m12 (by simp; omega), by omega, j + 1, rfl, by omega, _, _, hA12, hB12, step_wide hv hT hpok, by omega, by omega⟩, by simp only [Int.toNat_natCast]; omega⟩⟩
  clear c
  refine (Copy_spec a ae D L amb E rel H8 hA8 hv (by omega)).mono ?_
  rintro v H13 ⟨cc, ce, rfl, hC13, hc, hce, e13⟩
  refine ⟨_, rfl, iteB_neg rfl ?_⟩
  have z13 := e13.size
  have hblC := hC13.blt
  generalize hP : (fun k => powersF (after.getD k []) 200) = P
  have hPe : ∀ k, powersF (after.getD k []) 200 = P k := fun k => by rw [← hP]
  have hPok : ∀ k, powOk (tab D.length (P k)) D.length = true := fun k => by
    rw [← hPe k]
    exact powOk_tab (fun i _ => by have := powersF_range (after.getD k []) (most := 200) (by omega) i; omega)
  have hTk := run_TB (P := P) hv hT hPok
  have hrk := run_rel (P := P) (rel := rel) hv hT hPok hr0
  have hj20 : j ≤ 20 := by omega
  refine ⟨fun x H' => Ext H1 H' ∧ H13.size ≤ H'.size ∧ ∃ k : Nat, x = k ∧ k ≤ after.length ∧ HM t_heat_Model (fun k => H5.size ≤ k ∧ k < H6.size) H' a ae D L amb E rel ∧ HM t_heat_Model (fun k => H6.size ≤ k ∧ k < H7.size) H' b be D L amb (runE D L amb E P k) (runR D L amb E rel P k) ∧
      HM t_heat_Model (fun k => H8.size ≤ k ∧ k < H13.size) H' cc ce D L amb (runE D L amb E P k) (runR D L amb E rel P k), fun x _ => after.length - x.toNat,
    ⟨e8.trans e13, Nat.le_refl _, 0, rfl, Nat.zero_le _, hA8.ext e13, hB8.ext e13, hC13.tight⟩, ?_⟩
  rintro x H14 ⟨e14, z14, k, rfl, hk, hA14, hB14, hC14⟩
  unfold F_law38_HeatCopies_r3
  rw [haf.len]
  have hrkk := hrk k
  refine iteB_intro (fun c => ?_) (fun c => ?_)
  · have hkl : k < after.length := by simpa using c
    obtain ⟨pa, r, hpa, hr, hri, hrl⟩ := (haf.ext e14).at (x := k) (by omega) (by omega)
    refine ⟨by omega, by omega, unSome_mk hpa ⟨r, hr, ?_⟩⟩
    refine (Powers_run H14 r _ D.length 200 hri (by omega) (by omega)).mono ?_
    rintro v H15 ⟨ps, rfl, hpp, hpi, hpb, hpok, e15⟩
    simp only [Int.toNat_natCast] at hpi hpb hpok
    rw [hPe] at hpi hpb hpok
    have z15 := e15.size
    have hpbl := hpb.lt
    refine ⟨ps, rfl, ?_⟩
    refine (step_one cc ce D L amb _ _ _ ps H15 H14.size (hC14.ext e15) hs (hTk k) hpi hpp (by omega) hpok (by omega)).mono ?_
    rintro v H16 ⟨t, rfl, it, nt, hC16, m16⟩
    have z16 := m16.size
    have hA16 := (hA14.ext e15).mods m16 (by simp; omega) (by simp; omega) (fun k hk => by simp; omega)
    have hB16 := (hB14.ext e15).mods m16 (by simp; omega) (by simp; omega) (fun k hk => by simp; omega)
    have hpi16 : Ints .i64 H16 ps (tab D.length (P k)) := IsS.mods hpi m16 (fun x hx => by rw [hpp] at hx; cases hx; simp; omega)
    refine ⟨t, 0, rfl, ?_⟩
    refine (step_one b be D L amb _ _ _ ps H16 H14.size hB16 hs (hTk k) hpi16 hpp (by omega) hpok (by omega)).mono ?_
    rintro v H17 ⟨t', rfl, it', nt', hB17, m17⟩
    have z17 := m17.size
    have hA17 := hA16.mods m17 (by simp; omega) (by simp; omega) (fun k hk => by simp; omega)
    have hC17 := hC16.mods m17 (by simp; omega) (by simp; omega) (fun k hk => by simp; omega)
    have it17 := IsS.mods it m17 (fun x hx => by have := nt x hx; simp; omega)
    refine ⟨t', 0, rfl, iteB_neg rfl ?_⟩
    refine (Equal_int64_spec H17 t t' _ _ it17 it' (by rw [tab_length]; omega)).mono ?_
    rintro v H18 ⟨rfl, rfl⟩
    have e16 : Ext H1 H16 := Mods.ext (e14.trans e15) m16 (by simp; omega)
    refine ⟨_, rfl, iteB_neg (by simp) (letV_mk ((k + 1 : Nat) : Int) (by rw [i64_in (by omega)]; simp) ⟨⟨Mods.ext e16 m17 (by simp; omega), by omega, k + 1, rfl, by omega, hA17, hB17, hC17⟩, by simp only [Int.toNat_natCast]; omega⟩)⟩
  have hkl : k = after.length := by simp at c; omega
  subst hkl
  refine ⟨fun x H' => Ext H1 H' ∧ H13.size ≤ H'.size ∧ ∃ k : Nat, x = k ∧ k ≤ after.length ∧ HM t_heat_Model (fun k => H5.size ≤ k ∧ k < H6.size) H' a ae D L amb (runE D L amb E P k) (runR D L amb E rel P k) ∧
      HM t_heat_Model (fun k => H6.size ≤ k ∧ k < H7.size) H' b be D L amb (runE D L amb E P after.length) (runR D L amb E rel P after.length) ∧
      HM t_heat_Model (fun k => H8.size ≤ k ∧ k < H13.size) H' cc ce D L amb (runE D L amb E P after.length) (runR D L amb E rel P after.length), fun x _ => after.length - x.toNat,
    ⟨e14, z14, 0, rfl, Nat.zero_le _, hA14, hB14, hC14⟩, ?_⟩
  clear hA14 hB14 hC14 e14 z14 hrkk
  rintro x H19 ⟨e19, z19, k, rfl, hk, hA19, hB19, hC19⟩
  unfold F_law38_HeatCopies_r2
  rw [haf.len]
  have hrkk := hrk k
  refine iteB_intro (fun c => ?_) (fun c => ?_)
  · have hkl : k < after.length := by simpa using c
    obtain ⟨pa, r, hpa, hr, hri, hrl⟩ := (haf.ext e19).at (x := k) (by omega) (by omega)
    refine ⟨by omega, by omega, unSome_mk hpa ⟨r, hr, ?_⟩⟩
    refine (Powers_run H19 r _ D.length 200 hri (by omega) (by omega)).mono ?_
    rintro v H20 ⟨ps, rfl, hpp, hpi, hpb, hpok, e20⟩
    simp only [Int.toNat_natCast] at hpi hpb hpok
    rw [hPe] at hpi hpb hpok
    have z20 := e20.size
    have hpbl := hpb.lt
    refine ⟨ps, rfl, ?_⟩
    refine (step_one a ae D L amb _ _ _ ps H20 H19.size (hA19.ext e20) hs (hTk k) hpi hpp (by omega) hpok (by omega)).mono ?_
    rintro v H21 ⟨t, rfl, it, nt, hA21, m21⟩
    have z21 := m21.size
    have hB21 := (hB19.ext e20).mods m21 (by simp; omega) (by simp; omega) (fun k hk => by simp; omega)
    have hC21 := (hC19.ext e20).mods m21 (by simp; omega) (by simp; omega) (fun k hk => by simp; omega)
    exact ⟨t, 0, rfl, iteB_neg rfl (letV_mk ((k + 1 : Nat) : Int) (by rw [i64_in (by omega)]; simp) ⟨⟨Mods.ext (e19.trans e20) m21 (by simp; omega), by omega, k + 1, rfl, by omega, hA21, hB21, hC21⟩, by simp only [Int.toNat_natCast]; omega⟩)⟩
  have hkl : k = after.length := by simp at c; omega
  subst hkl
  refine ⟨fun x H' => H' = H19 ∧ ∃ k : Nat, x = k ∧ k ≤ D.length, fun x _ => D.length - x.toNat, ⟨rfl, 0, rfl, Nat.zero_le _⟩, ?_⟩
  rintro x H22 ⟨rfl, q, rfl, hq⟩
  unfold F_law38_HeatCopies_r1
  dsimp only
  refine iteB_intro (fun c => ?_) (fun c => ?_)
  · have hqn : q < D.length := by simpa using c
    refine (Energy_spec a ae _ _ _ _ _ q H22 hA19).mono ?_
    rintro v H23 ⟨rfl, rfl⟩
    refine ⟨_, rfl, ?_⟩
    refine (Energy_spec b be _ _ _ _ _ q H23 hB19).mono ?_
    rintro v H24 ⟨rfl, rfl⟩
    refine ⟨_, rfl, iteB_neg (by simp) ?_⟩
    refine (Energy_spec cc ce _ _ _ _ _ q H24 hC19).mono ?_
    rintro v H25 ⟨rfl, rfl⟩
    refine ⟨_, rfl, ?_⟩
    refine (Energy_spec b be _ _ _ _ _ q H25 hB19).mono ?_
    rintro v H26 ⟨rfl, rfl⟩
    exact ⟨_, rfl, iteB_neg (by simp) (letV_mk ((q + 1 : Nat) : Int) (by rw [i64_in (by omega)]; simp) ⟨⟨rfl, q + 1, rfl, by omega⟩, by simp only [Int.toNat_natCast]; omega⟩)⟩
  · refine (Released_spec a ae _ _ _ _ _ H22 hA19).mono ?_
    rintro v H27 ⟨rfl, rfl⟩
    refine ⟨_, rfl, ?_⟩
    refine (Released_spec b be _ _ _ _ _ H27 hB19).mono ?_
    rintro v H28 ⟨rfl, rfl⟩
    refine ⟨_, rfl, iteB_pos (by simp) ?_⟩
    refine (awake_spec H28).mono ?_
    rintro v H' ⟨rfl, e⟩
    exact ⟨true, rfl, rfl, e19.trans e⟩

end Go.Proofs.Ytenpfhfhjpipaaa
