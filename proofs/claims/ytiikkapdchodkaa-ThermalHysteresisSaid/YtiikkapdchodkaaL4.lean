/-
  The contract of the law ThermalHysteresis.
-/
import Derived.Test.YtiikkapdchodkaaL3
namespace Go.Proofs.Ytiikkapdchodkaa
open Go.Eng

variable {Q : Nat → Prop}

theorem iteB_eq (c : Bool) (A B : Prop) : iteB c A B = if c then A else B := by cases c <;> rfl

theorem newLev_step {T : List Trp} {a : Nat → Bool} {n lev : Int} (h : 0 ≤ lev ∧ lev ≤ n) : newLev T a n lev ≤ lev + 1 ∧ lev - 1 ≤ newLev T a n lev ∧ (anyK T a 2 T.length = true → lev ≤ newLev T a n lev) ∧ (anyK T a 2 T.length = false → newLev T a n lev ≤ lev) := by
  unfold newLev
  split
  · rename_i hc; rw [hc]; simp; omega
  · rename_i hc; rw [show anyK T a 2 T.length = false by simpa using hc]; simp; omega

theorem law_hysteresis (H : Heap) (s st : Sl) (A : List Trp) (levels : Int) (ts : List Int) (h : Trps H s A) (ht : Ints .i64 H st ts) :
    CallsH Try.prog n_law39_ThermalHysteresis #[.slice s.p s.n s.c, .int .i64 levels, .slice st.p st.n st.c] H (fun v H' => v = .bool true ∧ Ext H H') := by
  refine F_law39_ThermalHysteresis_ok _ _ _ ?_
  unfold F_law39_ThermalHysteresis
  refine ⟨fun x H' => x = decide (s.n > 20 ∨ st.n > 60) ∧ H' = H, ?_, ?_⟩
  · refine iteB_dec (fun c => ?_) (fun c => ?_)
    · exact ⟨by rw [decide_eq_true]; omega, rfl⟩
    · exact ⟨decide_eq_decide.2 (by omega), rfl⟩
  rintro x H1 ⟨rfl, rfl⟩
  unfold F_law39_ThermalHysteresis_k5
  refine iteB_dec (fun c => awake39_true H1 H1 (.refl _)) (fun c => ?_)
  refine (Trips_spec H1 s A h).mono ?_
  rintro v H3 ⟨l, rfl, ho, e3⟩
  refine ⟨l, rfl, (Mod_spec _ _ H3 (by omega) (by omega)).mono ?_⟩
  rintro v H4 ⟨rfl, rfl⟩
  have hm := modI_range levels (n := 8) (by omega)
  have hl : Trps H4 l (tripsF A) := ho.isS encT_len (by omega)
  have hV := tripsF_VT A
  generalize hn : modI levels 8 = n at *
  generalize hT : tripsF A = T at *
  have hok : ZoneOk T n := ⟨hV, by omega, by omega⟩
  have hTl := hV.1
  have hll := hl.len
  refine ⟨_, rfl, (NewZone_spec H4 l T _ hl).mono ?_⟩
  rintro v H5 (⟨_, b, ba, rfl, hb, hba, hz, e5⟩ | ⟨hb, _⟩)
  rotate_left
  · exact absurd hok hb
  have z5 := (hz (fun _ h => h.elim)).tight
  have lt5 := z5.lt
  have hto : ((l.n : Int).toNat) = T.length := by rw [hll]; simp
  refine ⟨_, _, rfl, iteB_neg rfl (iteB_neg rfl ⟨by omega, by omega, by omega, letH_mk ?_⟩)⟩
  rintro H6 rfl
  rw [hto]
  have w6 := BB.zero H5 T.length
  have e6 := Ext.push H5 (.cells (zeroRow (.bool false) T.length) t_bool (0, 0))
  have s3 := e3.size
  have s5 := e5.size
  refine loop3 ts.length (fun k (was : Sl) (lev : Int) H' => Ext H1 H' ∧ ∃ act, (0 ≤ lev ∧ lev ≤ n) ∧ ZM t_thermal_Zone (fun k => H4.size ≤ k ∧ k < H5.size) H' b ba T act n lev ∧ IsS 1 encB H' was (tab T.length act) ∧ NewP H5.size was.p ∧ Trps H' l T ∧ (∀ a, l.p = some a → a.block < H4.size) ∧ H5.size ≤ H'.size)
    ⟨(e3.trans e5).trans e6, _, by omega, z5.ext e6, w6.isS _, NewP.some (Nat.le_refl _), (hl.ext e5).ext e6, fun a ha => ho.lt a ha, e6.size⟩ ?_
  rintro k was lev H7 hk ⟨e7, act, hlev, z7, i7, n7, l7, lb, s57⟩
  unfold F_law39_ThermalHysteresis_r4
  rw [ht.len]
  refine iteB_dec (fun c1 => ?_) (fun c1 => awake39_true _ _ e7)
  have hkn : k < ts.length := by omega
  obtain ⟨a, hp, hr⟩ := Ints.atN (ht.ext e7) hkn
  refine ⟨by omega, by omega, unSome_mk hp ⟨_, hr, (degree_spec _ _ H7).mono ?_⟩⟩
  rintro v H8 ⟨rfl, rfl⟩
  have hdeg : -80 ≤ degF (ts.getD k 0) 0 ∧ degF (ts.getD k 0) 0 ≤ 60 := by
    unfold degF
    rw [if_neg (by decide)]
    have := modI_range (ts.getD k 0) (n := 141) (by omega)
    omega
  generalize degF (ts.getD k 0) 0 = t at *
  refine ⟨_, rfl, (Update_spec b ba _ act _ lev t H8 z7 hV (by omega) hlev).mono ?_⟩
  rintro v H9 (⟨_, rfl, z9, m9⟩ | ⟨r1, _⟩)
  rotate_left
  · omega
  have x9 : Ext H1 H9 := Mods.ext e7 m9 (by simp; omega)
  have i9 := i7.mods m9 (fun a ha => by have := n7 a ha; simp; omega)
  have l9 := l7.mods m9 (fun a ha => by have := lb a ha; simp; omega)
  refine ⟨_, _, _, rfl, (Active_spec b ba _ _ _ _ H9 z9 hTl).mono ?_⟩
  rintro v H10 ⟨now, rfl, in10, nn, _, e10⟩
  have hnl := in10.len
  rw [tab_length] at hnl
  have hr' := newLev_range (T := T) (a := newAct T t act) (by omega : 0 ≤ n) hlev
  have hs' := newLev_step (T := T) (a := newAct T t act) hlev
  rw [i64_in (n := lev + 1) (by omega), i64_in (n := lev - 1) (by omega)]
  refine ⟨now, rfl, iteB_neg rfl (iteB_neg (by rw [hnl, hll]; simp) (iteB_neg (by simp; omega) (iteB_neg (by simp; omega) (iteB_neg (by simp; omega) (iteB_neg (by simp; omega) ((Level_spec b ba _ _ _ _ H10 (z9.ext e10)).mono ?_))))))⟩
  rintro v H11 ⟨rfl, rfl⟩
  have s9 := x9.size
  have m9s := m9.size
  have hw := i7.len
  rw [tab_length] at hw
  have x11 := x9.trans e10
  have l11 : Trps H11 l T := l9.ext e10
  have i11 := i9.ext e10
  refine ⟨_, rfl, iteB_neg (by simp) ?_⟩
  refine loop3 T.length (fun j (p c : Bool) H' => H' = H11 ∧ p = anyK T (newAct T t act) 2 j ∧ c = anyK T (newAct T t act) 3 j) ⟨rfl, rfl, rfl⟩ ?_
  rintro j p cr H12 hj ⟨rfl, rfl, rfl⟩
  unfold F_law39_ThermalHysteresis_r3
  rw [hll]
  refine iteB_dec (fun c2 => ?_) (fun c2 => ?_)
  · have hjn : j < T.length := by omega
    obtain ⟨a1, hp1, r0, r1, r2⟩ := Trps.atN l11 hjn
    obtain ⟨a2, hp2, rn⟩ := IsS.atN in10 false (k := j) (by rw [tab_length]; exact hjn)
    obtain ⟨a3, hp3, rw3⟩ := IsS.atN i11 false (k := j) (by rw [tab_length]; exact hjn)
    rw [tab_getD _ hjn] at rn rw3
    have rn := rn 0 _ rfl
    have rw3 := rw3 0 _ rfl
    change rd H12 (a2.add ((j : Int).toNat * 1)) = some (.bool (newAct T t act j)) at rn
    change rd H12 (a3.add ((j : Int).toNat * 1)) = some (.bool (act j)) at rw3
    obtain ⟨o1, o2, o3, o4, o5, o6⟩ := hV.2 j hjn
    refine ⟨fun H' => H' = H12, ?_, ?_⟩
    · have q0 : 0 ≤ (j : Int) := by omega
      have q1 : (j : Int) < (T.length : Int) := by omega
      have q2 : (j : Int) < (now.n : Int) := by omega
      have q3 : (j : Int) < (was.n : Int) := by omega
      have hwr : IntKind.i64.wrap (tp T j - hy T j) = tp T j - hy T j := i64_in (by omega)
      simp only [hp1, hp2, hp3, unSome_some, r1, r2, rn, rw3, q0, q1, q2, q3, hwr, true_and, Option.some.injEq, Value.int.injEq, Value.bool.injEq, exists_eq_left', iteB_eq]
      unfold newAct
      by_cases d1 : t ≥ tp T j
      · have d2 : ¬ t < tp T j - hy T j := by omega
        have d3 : ¬ t < tp T j := by omega
        simp [d1, d2, d3]
      · by_cases d2 : t < tp T j - hy T j
        · have d4 : ¬ t ≥ tp T j - hy T j := by omega
          have d3 : t < tp T j := by omega
          simp [d1, d2, d3, d4]
        · simp [d1, d2]
    rintro H13 rfl
    unfold F_law39_ThermalHysteresis_k2
    refine ⟨fun x H' => x = anyK T (newAct T t act) 2 (j + 1) ∧ H' = H13, ?_, ?_⟩
    · refine iteB_intro (fun c3 => ⟨by simp only [anyK]; rw [c3]; rfl, rfl⟩) (fun c3 => ?_)
      refine ⟨by omega, by omega, unSome_mk hp2 ⟨_, rn, iteB_intro (fun c4 => ⟨by omega, by omega, unSome_mk hp1 ⟨_, r0, ?_⟩⟩) (fun c4 => ?_)⟩⟩
      · exact ⟨by simp only [anyK]; rw [c3, c4]; rfl, rfl⟩
      · exact ⟨by simp only [anyK]; rw [c3, c4]; rfl, rfl⟩
    rintro x H14 ⟨rfl, rfl⟩
    unfold F_law39_ThermalHysteresis_k1
    refine iteB_intro (fun c3 => next3 hjn (by omega) ⟨rfl, rfl, by simp only [anyK]; rw [c3]; rfl⟩) (fun c3 => ?_)
    refine ⟨by omega, by omega, unSome_mk hp2 ⟨_, rn, iteB_intro (fun c4 => ⟨by omega, by omega, unSome_mk hp1 ⟨_, r0, ?_⟩⟩) (fun c4 => ?_)⟩⟩
    · exact next3 hjn (by omega) ⟨rfl, rfl, by simp only [anyK]; rw [c3, c4]; rfl⟩
    · exact next3 hjn (by omega) ⟨rfl, rfl, by simp only [anyK]; rw [c3, c4]; rfl⟩
  · obtain rfl : j = T.length := by omega
    have nx : CI3 ts.length (fun k (was : Sl) (lev : Int) H' => Ext H1 H' ∧ ∃ act, (0 ≤ lev ∧ lev ≤ n) ∧ ZM t_thermal_Zone (fun k => H4.size ≤ k ∧ k < H5.size) H' b ba T act n lev ∧ IsS 1 encB H' was (tab T.length act) ∧ NewP H5.size was.p ∧ Trps H' l T ∧ (∀ a, l.p = some a → a.block < H4.size) ∧ H5.size ≤ H'.size) now (newLev T (newAct T t act) n lev) (IntKind.i64.wrap ((k : Int) + 1)) H12 ∧
        CM3 ts.length now (newLev T (newAct T t act) n lev) (IntKind.i64.wrap ((k : Int) + 1)) H12 < CM3 ts.length was lev (k : Int) H8 :=
      next3 hkn (by have := ht.len; omega) ⟨x11, _, hr', z9.ext e10, in10, nn.mono (by omega), l11, lb, by have := e10.size; omega⟩
    refine iteB_neg (by simp) (iteB_intro (fun c3 => iteB_neg ?_ (iteB_neg (by rw [c3]; rfl) nx)) (fun c3 => iteB_pos (by rw [c3]; rfl) (iteB_neg ?_ nx)))
    · have := hs'.2.2.1 c3; simp; omega
    · have := hs'.2.2.2 c3; simp; omega

end Go.Proofs.Ytiikkapdchodkaa
