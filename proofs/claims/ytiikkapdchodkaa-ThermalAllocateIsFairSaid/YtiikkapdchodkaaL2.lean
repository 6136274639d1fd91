/-
  The contracts of the laws ThermalAllocateAgrees and ThermalMoreBudgetHelps.
-/
import Derived.Test.YtiikkapdchodkaaT3
import Derived.Test.YtiikkapdchodkaaT6
namespace Go.Proofs.Ytiikkapdchodkaa
open Go.Eng

/-- The level is one. -/
theorem IsLev.mono {b b' : Int} {A : List Act} {l l' : Int} (h : IsLev b A l) (h' : IsLev b' A l') (hb : b ≤ b') : l ≤ l' := by
  rcases h' with ⟨rfl, _⟩ | ⟨h1, h2, h3, h4, h5⟩
  · exact h.range.2
  · rcases h with ⟨rfl, h⟩ | ⟨g1, g2, g3, g4, g5⟩
    · omega
    · by_cases e : l ≤ l'
      · exact e
      · have := tot_mono A (l := l' + 1) (l' := l) (by omega) A.length
        omega

theorem IsLev.uniq {b : Int} {A : List Act} {l l' : Int} (h : IsLev b A l) (h' : IsLev b A l') : l = l' := by
  have := h.mono h' (Int.le_refl _)
  have := h'.mono h (Int.le_refl _)
  omega

/-- What Allocate answers. -/
structure AllocO (b : Int) (A : List Act) (e : Int) (l : List Int) : Prop where
  bad : ¬ VA A → e = 1 ∧ l = []
  no : VA A → b < totA A 0 A.length → e = 19 ∧ l = []
  ok : VA A → totA A 0 A.length ≤ b → e = 0 ∧ ∃ lev, IsLev b A lev ∧ l = tab A.length (grA A lev (b - totA A lev A.length))

theorem AllocO.uniq {b : Int} {A : List Act} {e e' : Int} {l l' : List Int} (h : AllocO b A e l) (h' : AllocO b A e' l') : e = e' ∧ l = l' := by
  by_cases hv : VA A
  · by_cases ht : b < totA A 0 A.length
    · obtain ⟨rfl, rfl⟩ := h.no hv ht
      obtain ⟨rfl, rfl⟩ := h'.no hv ht
      exact ⟨rfl, rfl⟩
    · obtain ⟨rfl, lev, h1, rfl⟩ := h.ok hv (by omega)
      obtain ⟨rfl, lev', h2, rfl⟩ := h'.ok hv (by omega)
      obtain rfl := h1.uniq h2
      exact ⟨rfl, rfl⟩
  · obtain ⟨rfl, rfl⟩ := h.bad hv
    obtain ⟨rfl, rfl⟩ := h'.bad hv
    exact ⟨rfl, rfl⟩

theorem AllocO.len {b : Int} {A : List Act} {e : Int} {l : List Int} (h : AllocO b A e l) : l.length ≤ 32 := by
  by_cases hv : VA A
  · by_cases ht : b < totA A 0 A.length
    · obtain ⟨rfl, rfl⟩ := h.no hv ht; simp
    · obtain ⟨rfl, lev, h1, rfl⟩ := h.ok hv (by omega)
      rw [tab_length]; exact hv.1
  · obtain ⟨rfl, rfl⟩ := h.bad hv; simp

theorem AllocP.out {b : Int} {A : List Act} {H : Heap} {v : Value} {H' : Heap} (h : AllocP b A H v H') :
    ∃ (s : Sl) (e : Int) (l : List Int), v = .tuple #[.slice s.p s.n s.c, .int .i64 e] ∧ Ints .u64 H' s l ∧ AllocO b A e l ∧ Ext H H' := by
  obtain ⟨he, ⟨h1, rfl⟩ | ⟨h1, h2, rfl⟩ | ⟨h1, h2, lev, h3, s, rfl, h4⟩⟩ := h
  · exact ⟨⟨none, 0, 0⟩, 1, [], rfl, IsS.nil _ _ _, ⟨fun _ => ⟨rfl, rfl⟩, fun h => absurd h h1, fun h => absurd h h1⟩, he⟩
  · exact ⟨⟨none, 0, 0⟩, 19, [], rfl, IsS.nil _ _ _, ⟨fun h => absurd h1 h, fun _ _ => ⟨rfl, rfl⟩, fun _ h => by omega⟩, he⟩
  · exact ⟨s, 0, _, rfl, h4.ints, ⟨fun h => absurd h1 h, fun _ h => by omega, fun _ _ => ⟨rfl, lev, h3, rfl⟩⟩, he⟩

theorem okA_actorsF {A : List Act} (h : okA A) : okA (actorsF A) := by
  intro i
  unfold rq mn mx actorsF
  by_cases hi : i < min A.length 8
  · rw [tab_getD _ hi]
    have := h i
    unfold actorF
    dsimp only
    omega
  · rw [List.getD_eq_getElem?_getD, List.getElem?_eq_none (by rw [tab_length]; omega)]
    simp

theorem actorsF_len (A : List Act) : (actorsF A).length = min A.length 8 := tab_length _ _

theorem VA_actorsF {A : List Act} (h : okA A) : VA (actorsF A) := by
  refine ⟨by rw [actorsF_len]; omega, fun i hi => ?_⟩
  rw [actorsF_len] at hi
  unfold mn mx actorsF
  rw [tab_getD _ hi]
  have := h i
  unfold actorF
  dsimp only
  omega

theorem law_allocateAgrees (H : Heap) (s : Sl) (A : List Act) (b : Int) (h : Acts H s A) (ho : okA A) (hb : 0 ≤ b ∧ b ≤ 18446744073709551615) :
    CallsH Try.prog n_law39_ThermalAllocateAgrees #[.int .u64 b, .slice s.p s.n s.c] H (fun v H' => v = .bool true ∧ Ext H H') := by
  refine F_law39_ThermalAllocateAgrees_ok _ _ ?_
  unfold F_law39_ThermalAllocateAgrees
  refine iteB_dec (fun c => ?_) (fun c => ?_)
  · refine (awake39_spec H).mono ?_
    rintro v H2 ⟨rfl, e2⟩
    exact ⟨_, rfl, rfl, e2⟩
  refine (Actors_spec H s A h ho).mono ?_
  rintro v H2 ⟨l, rfl, hl, e2⟩
  have hl2 : Acts H2 l (actorsF A) := hl.isS encA_len (by omega)
  have hol := okA_actorsF ho
  rw [Int.tmod_eq_emod_of_nonneg hb.1]
  refine ⟨l, rfl, (Allocate_spec H2 s A b (h.ext e2) ho hb).mono ?_⟩
  intro v H3 hA
  obtain ⟨s1, r1, l1, rfl, i1, o1, e3⟩ := hA.out
  refine ⟨_, _, rfl, (rAllocate_spec H3 s A b (h.ext (e2.trans e3)) ho hb).mono ?_⟩
  intro v H4 hA
  obtain ⟨s2, r2, l2, rfl, i2, o2, e4⟩ := hA.out
  have x4 := e3.trans e4
  refine ⟨_, _, rfl, (Allocate_spec H4 l (actorsF A) (b % 200) (hl2.ext x4) hol (by omega)).mono ?_⟩
  intro v H5 hA
  obtain ⟨s3, r3, l3, rfl, i3, o3, e5⟩ := hA.out
  have x5 := x4.trans e5
  refine ⟨_, _, rfl, (rAllocate_spec H5 l (actorsF A) (b % 200) (hl2.ext x5) hol (by omega)).mono ?_⟩
  intro v H6 hA
  obtain ⟨s4, r4, l4, rfl, i4, o4, e6⟩ := hA.out
  have x6 := x5.trans e6
  refine ⟨_, _, rfl, (Allocate_spec H6 l (actorsF A) b (hl2.ext x6) hol hb).mono ?_⟩
  intro v H7 hA
  obtain ⟨s5, r5, l5, rfl, i5, o5, e7⟩ := hA.out
  have x7 := x6.trans e7
  refine ⟨_, _, rfl, (rAllocate_spec H7 l (actorsF A) b (hl2.ext x7) hol hb).mono ?_⟩
  intro v H8 hA
  obtain ⟨s6, r6, l6, rfl, i6, o6, e8⟩ := hA.out
  have x8 := x7.trans e8
  obtain ⟨rfl, rfl⟩ := o1.uniq o2
  obtain ⟨rfl, rfl⟩ := o3.uniq o4
  obtain ⟨rfl, rfl⟩ := o5.uniq o6
  have n1 := o1.len
  have n3 := o3.len
  have n5 := o5.len
  have y8 := (((e4.trans e5).trans e6).trans e7).trans e8
  refine ⟨_, _, rfl, iteB_pos (by simp) (iteB_pos (by simp) (iteB_pos (by simp) ((Equal_uint64_spec H8 s1 s2 l1 l1 (i1.ext y8) (i2.ext (((e5.trans e6).trans e7).trans e8)) (by omega)).mono ?_)))⟩
  rintro v H9 ⟨rfl, rfl⟩
  refine ⟨_, rfl, iteB_pos (by simp) ((Equal_uint64_spec H9 s3 s4 l3 l3 (i3.ext ((e6.trans e7).trans e8)) (i4.ext (e7.trans e8)) (by omega)).mono ?_)⟩
  rintro v H10 ⟨rfl, rfl⟩
  refine ⟨_, rfl, iteB_pos (by simp) ((Equal_uint64_spec H10 s5 s6 l5 l5 (i5.ext e8) i6 (by omega)).mono ?_)⟩
  rintro v H11 ⟨rfl, rfl⟩
  refine ⟨_, rfl, iteB_pos (by simp) ((awake39_spec H11).mono ?_)⟩
  rintro v H12 ⟨rfl, e12⟩
  exact ⟨_, rfl, rfl, (e2.trans x8).trans e12⟩

/-! ### more budget -/

/-- How many of the first actors have their next unit at this level. -/
def cntA (A : List Act) (lev : Int) : Nat → Int
  | 0 => 0
  | k + 1 => cntA A lev k + (if Cnd A lev k then 1 else 0)

theorem cntA_nonneg (A : List Act) (lev : Int) : ∀ k, 0 ≤ cntA A lev k := by
  intro k
  induction k with
  | zero => exact Int.le_refl _
  | succ k ih => simp only [cntA]; split <;> omega

theorem rsA_eq (A : List Act) (lev r0 : Int) (h : 0 ≤ r0) : ∀ k, rsA A lev r0 k = max 0 (r0 - cntA A lev k) := by
  intro k
  induction k with
  | zero => simp only [rsA, cntA]; omega
  | succ k ih =>
    have := cntA_nonneg A lev k
    simp only [rsA, cntA]
    by_cases hc : Cnd A lev k
    · simp only [hc, and_true, if_true]
      split <;> omega
    · simp only [hc, and_false, if_false]
      omega

theorem at_next {A : List Act} (hv : VA A) {i : Nat} (hi : i < A.length) (lev : Int) : atI A (lev + 1) i = atI A lev i + (if Cnd A lev i then 1 else 0) := by
  have := hv.2 i hi
  by_cases hc : Cnd A lev i
  · rw [if_pos hc]
    unfold Cnd wantI wantF at hc
    unfold atI atF wantF
    omega
  · rw [if_neg hc]
    unfold Cnd wantI wantF at hc
    unfold atI atF wantF
    omega

theorem tot_next {A : List Act} (hv : VA A) (lev : Int) : ∀ k, k ≤ A.length → totA A (lev + 1) k = totA A lev k + cntA A lev k := by
  intro k
  induction k with
  | zero => intro _; simp [totA, cntA]
  | succ k ih =>
    intro hk
    have := ih (by omega)
    have := at_next hv (i := k) (by omega) lev
    simp only [totA, cntA]
    omega

theorem gr_mono {A : List Act} (hv : VA A) {b b' l l' : Int} (h : IsLev b A l) (h' : IsLev b' A l') (hb : b ≤ b') {i : Nat} (hi : i < A.length) :
    grA A l (b - totA A l A.length) i ≤ grA A l' (b' - totA A l' A.length) i := by
  have hm := h.mono h' hb
  have hle := h.le
  have hle' := h'.le
  by_cases e : l = l'
  · subst e
    have h1 := rsA_eq A l (b - totA A l A.length) (by omega) i
    have h2 := rsA_eq A l (b' - totA A l A.length) (by omega) i
    unfold grA
    by_cases hc : Cnd A l i
    · simp only [hc, and_true]
      split <;> split <;> omega
    · simp only [hc, and_false, if_false]
      omega
  · have h1 := at_mono A (l := l + 1) (l' := l') (by omega) i
    have h2 := at_next hv hi l
    unfold grA
    by_cases hc : Cnd A l i
    · rw [if_pos hc] at h2
      split <;> split <;> omega
    · simp only [hc, and_false, if_false]
      rw [if_neg hc] at h2
      split <;> omega

theorem law_moreBudgetHelps (H : Heap) (s : Sl) (A : List Act) (b m : Int) (h : Acts H s A) (ho : okA A) (hb : 0 ≤ b ∧ b ≤ 18446744073709551615) (hm : 0 ≤ m) :
    CallsH Try.prog n_law39_ThermalMoreBudgetHelps #[.int .u64 b, .int .u64 m, .slice s.p s.n s.c] H (fun v H' => v = .bool true ∧ Ext H H') := by
  refine F_law39_ThermalMoreBudgetHelps_ok _ _ _ ?_
  unfold F_law39_ThermalMoreBudgetHelps
  refine iteB_dec (fun c => ?_) (fun c => ?_)
  · refine (awake39_spec H).mono ?_
    rintro v H2 ⟨rfl, e2⟩
    exact ⟨_, rfl, rfl, e2⟩
  refine (Actors_spec H s A h ho).mono ?_
  rintro v H2 ⟨l, rfl, hl, e2⟩
  have hl2 : Acts H2 l (actorsF A) := hl.isS encA_len (by omega)
  have hol := okA_actorsF ho
  have hv := VA_actorsF ho
  have hln := hl2.len
  refine ⟨l, rfl, letV_mk (b % 200) (Int.tmod_eq_emod_of_nonneg hb.1) ?_⟩
  rw [Int.tmod_eq_emod_of_nonneg hm, u64_in (n := b % 200 + m % 20) (by omega)]
  refine (Allocate_spec H2 l (actorsF A) (b % 200) hl2 hol (by omega)).mono ?_
  intro v H3 hA
  obtain ⟨s1, r1, l1, rfl, i1, o1, e3⟩ := hA.out
  refine ⟨_, _, rfl, (Allocate_spec H3 l (actorsF A) (b % 200 + m % 20) (hl2.ext e3) hol (by omega)).mono ?_⟩
  intro v H4 hA
  obtain ⟨s2, r2, l2, rfl, i2, o2, e4⟩ := hA.out
  have x4 := e3.trans e4
  have aw : ∀ H4, Ext H H4 → CallsH Try.prog n_law39_awake #[] H4 (fun v4 H5 => ∃ x5 : Bool, v4 = .bool x5 ∧ (.bool x5 = Value.bool true ∧ Ext H H5)) := by
    intro H4 x
    refine (awake39_spec H4).mono ?_
    rintro v H5 ⟨rfl, e5⟩
    exact ⟨_, rfl, rfl, x.trans e5⟩
  by_cases ht : b % 200 < totA (actorsF A) 0 (actorsF A).length
  · obtain ⟨rfl, rfl⟩ := o1.no hv ht
    exact ⟨_, _, rfl, iteB_pos rfl (iteB_pos rfl (aw H4 (e2.trans x4)))⟩
  obtain ⟨rfl, lev, hl1, rfl⟩ := o1.ok hv (by omega)
  obtain ⟨rfl, lev', hl2', rfl⟩ := o2.ok hv (by omega)
  have n1 := i1.len
  have n2 := i2.len
  rw [tab_length] at n1 n2
  refine ⟨_, _, rfl, iteB_neg rfl (iteB_neg rfl (iteB_neg (by rw [n1, hln]; simp) (iteB_neg (by rw [n2, hln]; simp) ?_)))⟩
  refine loop1 (actorsF A).length (fun k H' => H' = H4) rfl ?_
  rintro k H6 hk rfl
  unfold F_law39_ThermalMoreBudgetHelps_r1
  rw [hln, n1, n2]
  refine iteB_dec (fun c1 => ?_) (fun c1 => aw H6 (e2.trans x4))
  have hkn : k < (actorsF A).length := by omega
  obtain ⟨a1, hp1, hr1⟩ := Ints.atN (i1.ext e4) (i := k) (by rw [tab_length]; exact hkn)
  obtain ⟨a2, hp2, hr2⟩ := Ints.atN i2 (i := k) (by rw [tab_length]; exact hkn)
  rw [tab_getD _ hkn] at hr1 hr2
  have hg := gr_mono hv hl1 hl2' (by omega) hkn
  refine ⟨by omega, by omega, unSome_mk hp2 ⟨_, hr2, by omega, by omega, unSome_mk hp1 ⟨_, hr1, iteB_dec (fun c2 => by omega) (fun c2 => ?_)⟩⟩⟩
  have := actorsF_len A
  exact next1 hkn (by omega) rfl

end Go.Proofs.Ytiikkapdchodkaa
