/-
  The contracts of the laws ThermalZoneAgrees and ThermalHysteresis.
-/
import Derived.Test.YtiikkapdchodkaaT6
namespace Go.Proofs.Ytiikkapdchodkaa
open Go.Eng

variable {Q : Nat → Prop}

theorem ZM.tight {tm : TypeId} {H : Heap} {b ba : Nat} {T : List Trp} {act : Nat → Bool} {n lev : Int} (h : ZM tm Q H b ba T act n lev) : ZM tm (fun k => Q k ∧ k < H.size) H b ba T act n lev := by
  obtain ⟨⟨d, ca, g1, g2, g3⟩, g4, g5⟩ := h
  exact ⟨⟨d, ca, g1, g2, fun a ha => ⟨(g3 a ha).1, (g3 a ha).2.1, (g3 a ha).2.2.1, (g3 a ha).2.2.2, (g3 a ha).2.2.1⟩⟩, g4, g5⟩

theorem newLev_range {T : List Trp} {a : Nat → Bool} {n lev : Int} (hn : 0 ≤ n) (h : 0 ≤ lev ∧ lev ≤ n) : 0 ≤ newLev T a n lev ∧ newLev T a n lev ≤ n := by
  unfold newLev; split <;> omega

def InT (t : Int) : Prop := -134217728 ≤ t ∧ t ≤ 134217728
instance (t : Int) : Decidable (InT t) := by unfold InT; infer_instance

theorem UpdP.out {tm : TypeId} {b ba : Nat} {T : List Trp} {act : Nat → Bool} {n lev t : Int} {H : Heap} {v : Value} {H' : Heap} (hu : UpdP tm Q b ba T act n lev t H v H') (hz : ZM tm Q H b ba T act n lev) :
    v = .tuple #[.int .i64 (if InT t then newLev T (newAct T t act) n lev else 0), .bool (if InT t then anyK T (newAct T t act) 3 T.length else false), .int .i64 (errI (InT t))] ∧
      ZM tm Q H' b ba T (if InT t then newAct T t act else act) n (if InT t then newLev T (newAct T t act) n lev else lev) ∧ Mods [b, ba] H H' := by
  rcases hu with ⟨h1, rfl, h2, h3⟩ | ⟨h1, rfl, rfl⟩
  · have h1 : InT t := h1
    rw [errI_t h1]
    simp only [h1, if_true]
    exact ⟨trivial, h2, h3⟩
  · have h1 : ¬ InT t := h1
    rw [errI_f h1]
    simp only [h1, if_false]
    exact ⟨trivial, hz, .refl _ _⟩

theorem awake39_true (H H0 : Heap) (x : Ext H0 H) : CallsH Try.prog n_law39_awake #[] H (fun v4 H5 => ∃ x5 : Bool, v4 = .bool x5 ∧ (.bool x5 = Value.bool true ∧ Ext H0 H5)) := by
  refine (awake39_spec H).mono ?_
  rintro v H5 ⟨rfl, e5⟩
  exact ⟨_, rfl, rfl, x.trans e5⟩

theorem law_zoneAgrees (H : Heap) (s st : Sl) (A : List Trp) (levels : Int) (ts : List Int) (h : Trps H s A) (ht : Ints .i64 H st ts) :
    CallsH Try.prog n_law39_ThermalZoneAgrees #[.slice s.p s.n s.c, .int .i64 levels, .slice st.p st.n st.c] H (fun v H' => v = .bool true ∧ Ext H H') := by
  refine F_law39_ThermalZoneAgrees_ok _ _ _ ?_
  unfold F_law39_ThermalZoneAgrees
  refine ⟨fun x H' => x = decide (s.n > 20 ∨ st.n > 60) ∧ H' = H, ?_, ?_⟩
  · refine iteB_dec (fun c => ?_) (fun c => ?_)
    · exact ⟨by rw [decide_eq_true]; omega, rfl⟩
    · exact ⟨decide_eq_decide.2 (by omega), rfl⟩
  rintro x H1 ⟨rfl, rfl⟩
  unfold F_law39_ThermalZoneAgrees_k2
  refine iteB_dec (fun c => awake39_true H1 H1 (.refl _)) (fun c => ?_)
  refine (Trips_spec H1 s A h).mono ?_
  rintro v H3 ⟨l, rfl, ho, e3⟩
  refine ⟨l, rfl, (Mod_spec _ _ H3 (by omega) (by omega)).mono ?_⟩
  rintro v H4 ⟨rfl, rfl⟩
  have hm := modI_range levels (n := 8) (by omega)
  have hl : Trps H4 l (tripsF A) := ho.isS encT_len (by omega)
  have hV := tripsF_VT A
  have hok : ZoneOk (tripsF A) (modI levels 8) := ⟨hV, by omega, by omega⟩
  have hTl := hV.1
  refine ⟨_, rfl, (NewZone_spec H4 l (tripsF A) _ hl).mono ?_⟩
  rintro v H5 (⟨_, b1, ba1, rfl, hb1, hba1, hz1, e5⟩ | ⟨hb, _⟩)
  rotate_left
  · exact absurd hok hb
  have z1 := (hz1 (fun _ h => h.elim)).tight
  have lt1 := z1.lt
  refine ⟨_, _, rfl, (rNewZone_spec (Q := fun k => k < H4.size) H5 l (tripsF A) _ (hl.ext e5)).mono ?_⟩
  rintro v H6 (⟨_, b2, ba2, rfl, hb2, hba2, hz2, e6⟩ | ⟨hb, _⟩)
  rotate_left
  · exact absurd hok hb
  have s4 := e5.size
  have z2 := hz2 (fun k hk => by
    cases hp : l.p with
    | none => rw [hp] at hk; cases hk
    | some a =>
      rw [hp] at hk
      have := ho.lt a hp
      simp [blkOf] at hk
      omega)
  refine ⟨_, _, rfl, iteB_neg rfl (iteB_neg rfl (iteB_neg rfl ?_))⟩
  have s3 := e3.size
  refine loop1 ts.length (fun k H' => Ext H1 H' ∧ ∃ act lev, (0 ≤ lev ∧ lev ≤ modI levels 8) ∧ ZM t_thermal_Zone (fun k => H4.size ≤ k ∧ k < H5.size) H' b1 ba1 (tripsF A) act (modI levels 8) lev ∧ ZM t_ref39_Zone (fun k => k < H4.size) H' b2 ba2 (tripsF A) act (modI levels 8) lev)
    ⟨(e3.trans e5).trans e6, _, _, by omega, z1.ext e6, z2⟩ ?_
  rintro k H7 hk ⟨e7, act, lev, hlev, y1, y2⟩
  unfold F_law39_ThermalZoneAgrees_r1
  rw [ht.len]
  refine iteB_dec (fun c1 => ?_) (fun c1 => awake39_true _ _ e7)
  have hkn : k < ts.length := by omega
  obtain ⟨a, hp, hr⟩ := Ints.atN (ht.ext e7) hkn
  refine ⟨by omega, by omega, unSome_mk hp ⟨_, hr, (degree_spec _ _ H7).mono ?_⟩⟩
  rintro v H8 ⟨rfl, rfl⟩
  generalize degF (ts.getD k 0) k = t
  refine ⟨_, rfl, (Update_spec b1 ba1 _ act _ lev t H8 y1 hV (by omega) hlev).mono ?_⟩
  intro v H9 hu
  obtain ⟨rfl, w1, m1⟩ := hu.out y1
  have y2' := y2.mods m1 (by simp; omega) (by simp; omega) (fun k _ hk => by simp; omega)
  refine ⟨_, _, _, rfl, (rUpdate_spec b2 ba2 _ act _ lev t H9 y2' hV (by omega) hlev).mono ?_⟩
  intro v H10 hu
  obtain ⟨rfl, w2, m2⟩ := hu.out y2'
  have x10 : Ext H1 H10 := Mods.ext (Mods.ext e7 m1 (by simp; omega)) m2 (by simp; omega)
  have w1' := w1.mods m2 (by simp; omega) (by simp; omega) (fun k _ hk => by simp; omega)
  refine ⟨_, _, _, rfl, iteB_neg (by simp) (iteB_neg (by simp) (iteB_neg (by simp) ((Level_spec b1 ba1 _ _ _ _ H10 w1').mono ?_)))⟩
  rintro v H11 ⟨rfl, rfl⟩
  refine ⟨_, rfl, (rLevel_spec b2 ba2 _ _ _ _ H11 w2).mono ?_⟩
  rintro v H12 ⟨rfl, rfl⟩
  refine ⟨_, rfl, iteB_neg (by simp) ((Active_spec b1 ba1 _ _ _ _ H12 w1' hTl).mono ?_)⟩
  rintro v H13 ⟨sa, rfl, ia, _, _, e13⟩
  refine ⟨sa, rfl, (rActive_spec b2 ba2 _ _ _ _ H13 (w2.ext e13) hTl).mono ?_⟩
  rintro v H14 ⟨sb, rfl, ib, _, _, e14⟩
  refine ⟨sb, rfl, (Equal_bool_spec H14 sa sb _ _ (ia.ext e14) ib (by rw [tab_length]; omega)).mono ?_⟩
  rintro v H15 ⟨rfl, rfl⟩
  refine ⟨_, rfl, iteB_neg (by simp) (next1 hkn (by have := ht.len; omega) ⟨(x10.trans e13).trans e14, _, _, ?_, (w1'.ext e13).ext e14, (w2.ext e13).ext e14⟩)⟩
  split
  · exact newLev_range (by omega) hlev
  · exact hlev

end Go.Proofs.Ytiikkapdchodkaa
