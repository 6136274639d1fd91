/-
  Contracts of Fair, the program's and the reference's.
-/
import Derived.Test.YtiikkapdchodkaaL2
import Derived.Test.YtiikkapdchodkaaT5
namespace Go.Proofs.Ytiikkapdchodkaa
open Go.Eng

def gI (G : List Int) (i : Nat) : Int := G.getD i 0
def sumG (G : List Int) : Nat → Int
  | 0 => 0
  | k + 1 => sumG G k + gI G k
def Fr1 (A : List Act) (G : List Int) (i : Nat) : Prop := mn A i ≤ gI G i ∧ gI G i ≤ wantI A i
def Fr2 (A : List Act) (G : List Int) (i k : Nat) : Prop := gI G i < wantI A i → gI G k > mn A k → gI G k ≤ gI G i + 1
instance (A : List Act) (G : List Int) (i : Nat) : Decidable (Fr1 A G i) := by unfold Fr1; infer_instance
instance (A : List Act) (G : List Int) (i k : Nat) : Decidable (Fr2 A G i k) := by unfold Fr2; infer_instance
def FairP (b : Int) (A : List Act) (G : List Int) : Prop :=
  VA A ∧ G.length = A.length ∧ (∀ i, i < A.length → Fr1 A G i) ∧ sumG G A.length = min b (totA A 4294967296 A.length) ∧ ∀ i, i < A.length → ∀ k, k < A.length → Fr2 A G i k
instance (b : Int) (A : List Act) (G : List Int) : Decidable (FairP b A G) := by unfold FairP; infer_instance

theorem sumG_bound {A : List Act} {G : List Int} (hv : VA A) (ho : okA A) : ∀ k, k ≤ A.length → (∀ i, i < k → Fr1 A G i) → 0 ≤ sumG G k ∧ sumG G k ≤ 4294967296 * k := by
  intro k
  induction k with
  | zero => intro _ _; simp [sumG]
  | succ k ih =>
    intro hk hf
    have h1 := ih (by omega) (fun i hi => hf i (by omega))
    have h2 := hf k (by omega)
    have h3 := want_top hv (i := k) (by omega)
    have h4 := ho k
    unfold Fr1 at h2
    simp only [sumG]
    omega

theorem Fair_spec (H : Heap) (s sg : Sl) (A : List Act) (G : List Int) (b : Int) (h : Acts H s A) (ho : okA A) (hg : Ints .u64 H sg G) :
    CallsH Try.prog n_thermal_Fair #[.int .u64 b, .slice s.p s.n s.c, .slice sg.p sg.n sg.c] H (fun v H' => v = .bool (decide (FairP b A G)) ∧ Ext H H') := by
  refine F_thermal_Fair_ok _ _ _ ?_
  unfold F_thermal_Fair
  have bad : ∀ H', ¬ FairP b A G → Ext H H' → Value.bool false = Value.bool (decide (FairP b A G)) ∧ Ext H H' := fun H' hn he => ⟨by rw [decide_eq_false hn], he⟩
  refine (valid_actors_spec H s A h).mono ?_
  rintro v H1 ⟨rfl, e1⟩
  refine ⟨_, rfl, iteB_not (fun c => ?_) (fun c => ?_)⟩
  · exact bad _ (fun hf => by simp at c; exact c hf.1) e1
  have hv : VA A := by simpa using c
  have hl := hv.1
  have hsn := h.len
  have hgn := hg.len
  refine iteB_bne (fun c => bad _ (fun hf => c (by have := hf.2.1; omega)) e1) (fun c => ?_)
  have hgl : G.length = A.length := by omega
  refine loop2 A.length (fun k (t : Int) H' => Ext H H' ∧ t = sumG G k ∧ ∀ i, i < k → Fr1 A G i) ⟨e1, rfl, fun i hi => by omega⟩ ?_
  rintro k t H2 hk ⟨e2, rfl, hall⟩
  unfold F_thermal_Fair_r3
  refine iteB_dec (fun c1 => ?_) (fun c1 => ?_)
  · have hkn : k < A.length := by have := h.len; omega
    obtain ⟨a, hp, r0, r1, r2⟩ := Acts.atN (h.ext e2) hkn
    have hsn := h.len
    have hgn := hg.len
    refine ⟨by omega, by omega, unSome_mk hp ⟨_, r0, _, r1, _, r2, local_mk rfl rfl fun H3 e3 _ b3 => ?_⟩⟩
    have x3 := e2.trans e3
    obtain ⟨ag, hpg, rg⟩ := Ints.atN (hg.ext x3) (i := k) (by omega)
    refine ⟨by omega, by omega, unSome_mk hpg ⟨_, rg, _, b3.rd (i := 1) rfl, iteB_dec (fun c2 => ?_) (fun c2 => ?_)⟩⟩
    · exact bad _ (fun hf => by have := (hf.2.2.1 k hkn).1; unfold gI at this; omega) x3
    refine ⟨by omega, by omega, unSome_mk hpg ⟨_, rg, _, b3.rd0 rfl, _, b3.rd (i := 1) rfl, _, b3.rd (i := 2) rfl, (want_spec _ _ _ H3).mono ?_⟩⟩
    rintro v H4 ⟨rfl, e4⟩
    refine ⟨_, rfl, e4, iteB_dec (fun c3 => ?_) (fun c3 => ?_)⟩
    · exact bad _ (fun hf => by have := (hf.2.2.1 k hkn).2; unfold gI wantI at this; omega) (x3.trans e4)
    obtain ⟨ag', hpg', rg'⟩ := Ints.atN (hg.ext (x3.trans e4)) (i := k) (by omega)
    have hf1 : Fr1 A G k := by unfold Fr1 gI wantI; omega
    have hall' : ∀ i, i < k + 1 → Fr1 A G i := fun i hi => by
      by_cases e : i = k
      · subst e; exact hf1
      · exact hall i (by omega)
    have hs := sumG_bound hv ho (k + 1) (by omega) hall'
    refine ⟨by omega, by omega, unSome_mk hpg' ⟨_, rg', letV_mk (sumG G (k + 1)) (u64_in (by simp only [sumG] at hs; unfold gI at hs; omega)) (next2 hkn (by omega) ⟨x3.trans e4, rfl, hall'⟩)⟩⟩
  · obtain rfl : k = A.length := by have := h.len; omega
    refine (total_spec H2 s A 4294967296 (h.ext e2) hv ho).mono ?_
    rintro v H6 ⟨rfl, e6⟩
    have x6 := e2.trans e6
    refine ⟨_, rfl, ?_⟩
    rw [min_code]
    refine iteB_bne (fun c2 => bad _ (fun hf => c2 hf.2.2.2.1) x6) (fun c2 => ?_)
    refine loop1 A.length (fun i H' => Ext H H' ∧ ∀ i', i' < i → ∀ k, k < A.length → Fr2 A G i' k) ⟨x6, fun i hi => by omega⟩ ?_
    rintro i H7 hi ⟨e7, hfr⟩
    unfold F_thermal_Fair_r2
    have hsn := h.len
    have hgn := hg.len
    refine iteB_dec (fun c3 => ?_) (fun c3 => ?_)
    · have hin : i < A.length := by omega
      obtain ⟨a, hp, r0, r1, r2⟩ := Acts.atN (h.ext e7) hin
      refine ⟨by omega, by omega, unSome_mk hp ⟨_, r0, _, r1, _, r2, local_mk rfl rfl fun H9 e9 _ b9 => ?_⟩⟩
      have x9 := e7.trans e9
      obtain ⟨ag, hpg, rg⟩ := Ints.atN (hg.ext x9) (i := i) (by omega)
      refine ⟨by omega, by omega, unSome_mk hpg ⟨_, rg, _, b9.rd0 rfl, _, b9.rd (i := 1) rfl, _, b9.rd (i := 2) rfl, (want_spec _ _ _ H9).mono ?_⟩⟩
      rintro v H10 ⟨rfl, e10⟩
      have x10 := x9.trans e10
      refine ⟨_, rfl, e10, iteB_dec (fun c4 => ?_) (fun c4 => ?_)⟩
      · refine next1 hin (by omega) ⟨x10, fun i' hi' k hk => ?_⟩
        by_cases e : i' = i
        · subst e; intro hlt; unfold gI wantI at hlt; omega
        · exact hfr i' (by omega) k hk
      · refine loop1 A.length (fun k H' => Ext H H' ∧ ∀ k', k' < k → Fr2 A G i k') ⟨x10, fun k hk => by omega⟩ ?_
        rintro k H11 hk ⟨e11, hfk⟩
        unfold F_thermal_Fair_r1
        have hf1 := hall i hin
        have hwt := want_top hv hin
        refine iteB_dec (fun c5 => ?_) (fun c5 => ?_)
        · have hkn : k < A.length := by omega
          obtain ⟨a, hp, r0, r1, r2⟩ := Acts.atN (h.ext e11) hkn
          refine ⟨by omega, by omega, unSome_mk hp ⟨_, r0, _, r1, _, r2, local_mk rfl rfl fun H13 e13 _ b13 => ?_⟩⟩
          have x13 := e11.trans e13
          obtain ⟨agk, hpgk, rgk⟩ := Ints.atN (hg.ext x13) (i := k) (by omega)
          obtain ⟨agi, hpgi, rgi⟩ := Ints.atN (hg.ext x13) (i := i) (by omega)
          have nx : Fr2 A G i k → CI A.length (fun k H' => Ext H H' ∧ ∀ k', k' < k → Fr2 A G i k') (IntKind.i64.wrap ((k : Int) + 1)) H13 ∧ CM A.length (IntKind.i64.wrap ((k : Int) + 1)) H13 < CM A.length (k : Int) H11 := fun hf => next1 hkn (by omega) ⟨x13, fun k' hk' => by
            by_cases e : k' = k
            · subst e; exact hf
            · exact hfk k' (by omega)⟩
          unfold Fr1 gI at hf1
          have hok := ho i
          refine ⟨by omega, by omega, unSome_mk hpgk ⟨_, rgk, _, b13.rd (i := 1) rfl, iteB_dec (fun c6 => ⟨by omega, by omega, unSome_mk hpgk ⟨_, rgk, by omega, by omega, unSome_mk hpgi ⟨_, rgi, ?_⟩⟩⟩) (fun c6 => nx (fun _ h2 => by unfold gI at h2; omega))⟩⟩
          rw [u64_in (n := G.getD i 0 + 1) (by omega)]
          refine iteB_dec (fun c7 => bad _ (fun hf => ?_) x13) (fun c7 => nx (fun _ _ => by unfold gI; omega))
          have := hf.2.2.2.2 i hin k hkn (by unfold gI wantI; omega) c6
          unfold gI at this
          omega
        · refine next1 hin (by omega) ⟨e11, fun i' hi' k' hk' => ?_⟩
          by_cases e : i' = i
          · subst e; exact hfk k' (by omega)
          · exact hfr i' (by omega) k' hk'
    · exact ⟨by rw [decide_eq_true ⟨hv, hgl, hall, c2, fun i' hi' k hk => hfr i' (by omega) k hk⟩], e7⟩

theorem rFair_spec (H : Heap) (s sg : Sl) (A : List Act) (G : List Int) (b : Int) (h : Acts H s A) (ho : okA A) (hg : Ints .u64 H sg G) :
    CallsH Try.prog n_ref39_Fair #[.int .u64 b, .slice s.p s.n s.c, .slice sg.p sg.n sg.c] H (fun v H' => v = .bool (decide (FairP b A G)) ∧ Ext H H') := by
  refine F_ref39_Fair_ok _ _ _ ?_
  unfold F_ref39_Fair
  have bad : ∀ H', ¬ FairP b A G → Ext H H' → Value.bool false = Value.bool (decide (FairP b A G)) ∧ Ext H H' := fun H' hn he => ⟨by rw [decide_eq_false hn], he⟩
  refine (rvalid_actors_spec H s A h).mono ?_
  rintro v H1 ⟨rfl, rfl⟩
  refine ⟨_, rfl, iteB_not (fun c => ?_) (fun c => ?_)⟩
  · exact bad _ (fun hf => by simp at c; exact c hf.1) (.refl _)
  have hv : VA A := by simpa using c
  have hl := hv.1
  have hsn := h.len
  have hgn := hg.len
  refine iteB_bne (fun c => bad _ (fun hf => c (by have := hf.2.1; omega)) (.refl _)) (fun c => ?_)
  have hgl : G.length = A.length := by omega
  refine loop2 A.length (fun k (t : Int) H' => Ext H1 H' ∧ t = sumG G k ∧ ∀ i, i < k → Fr1 A G i) ⟨.refl _, rfl, fun i hi => by omega⟩ ?_
  rintro k t H2 hk ⟨e2, rfl, hall⟩
  unfold F_ref39_Fair_r3
  refine iteB_dec (fun c1 => ?_) (fun c1 => ?_)
  · have hkn : k < A.length := by omega
    obtain ⟨a, hp, r0, r1, r2⟩ := Acts.atN (h.ext e2) hkn
    obtain ⟨ag, hpg, rg⟩ := Ints.atN (hg.ext e2) (i := k) (by omega)
    refine ⟨by omega, by omega, unSome_mk hpg ⟨_, rg, by omega, by omega, unSome_mk hp ⟨_, r1, iteB_dec (fun c2 => ?_) (fun c2 => ?_)⟩⟩⟩
    · exact bad _ (fun hf => by have := (hf.2.2.1 k hkn).1; unfold gI at this; omega) e2
    refine ⟨by omega, by omega, unSome_mk hpg ⟨_, rg, by omega, by omega, unSome_mk hp ⟨_, r0, _, r1, _, r2, (rwant_spec _ _ _ H2).mono ?_⟩⟩⟩
    rintro v H4 ⟨rfl, e4⟩
    have x4 := e2.trans e4
    refine ⟨_, rfl, e4, iteB_dec (fun c3 => ?_) (fun c3 => ?_)⟩
    · exact bad _ (fun hf => by have := (hf.2.2.1 k hkn).2; unfold gI wantI at this; omega) x4
    obtain ⟨ag', hpg', rg'⟩ := Ints.atN (hg.ext x4) (i := k) (by omega)
    have hf1 : Fr1 A G k := by unfold Fr1 gI wantI; omega
    have hall' : ∀ i, i < k + 1 → Fr1 A G i := fun i hi => by
      by_cases e : i = k
      · subst e; exact hf1
      · exact hall i (by omega)
    have hs := sumG_bound hv ho (k + 1) (by omega) hall'
    refine ⟨by omega, by omega, unSome_mk hpg' ⟨_, rg', letV_mk (sumG G (k + 1)) (u64_in (by simp only [sumG] at hs; unfold gI at hs; omega)) (next2 hkn (by omega) ⟨x4, rfl, hall'⟩)⟩⟩
  · obtain rfl : k = A.length := by omega
    refine (rat_spec H2 s A 4294967296 (h.ext e2) hv ho).mono ?_
    rintro v H6 ⟨s6, rfl, _, _, e6⟩
    have x6 := e2.trans e6
    refine ⟨_, _, rfl, ?_⟩
    rw [min_code]
    refine iteB_bne (fun c2 => bad _ (fun hf => c2 hf.2.2.2.1) x6) (fun c2 => ?_)
    refine loop1 A.length (fun i H' => Ext H1 H' ∧ ∀ i', i' < i → ∀ k, k < A.length → Fr2 A G i' k) ⟨x6, fun i hi => by omega⟩ ?_
    rintro i H7 hi ⟨e7, hfr⟩
    unfold F_ref39_Fair_r2
    refine iteB_dec (fun c3 => ?_) (fun c3 => ?_)
    · have hin : i < A.length := by omega
      refine loop1 A.length (fun k H' => Ext H1 H' ∧ ∀ k', k' < k → Fr2 A G i k') ⟨e7, fun k hk => by omega⟩ ?_
      rintro k H11 hk ⟨e11, hfk⟩
      unfold F_ref39_Fair_r1
      have hf1 := hall i hin
      have hwt := want_top hv hin
      refine iteB_dec (fun c5 => ?_) (fun c5 => ?_)
      · have hkn : k < A.length := by omega
        obtain ⟨ai, hpi, i0, i1, i2⟩ := Acts.atN (h.ext e11) hin
        obtain ⟨agi, hpgi, rgi⟩ := Ints.atN (hg.ext e11) (i := i) (by omega)
        refine ⟨by omega, by omega, unSome_mk hpgi ⟨_, rgi, by omega, by omega, unSome_mk hpi ⟨_, i0, _, i1, _, i2, (rwant_spec _ _ _ H11).mono ?_⟩⟩⟩
        rintro v H13 ⟨rfl, e13⟩
        have x13 := e11.trans e13
        obtain ⟨a, hp, r0, r1, r2⟩ := Acts.atN (h.ext x13) hkn
        obtain ⟨agk, hpgk, rgk⟩ := Ints.atN (hg.ext x13) (i := k) (by omega)
        obtain ⟨agi', hpgi', rgi'⟩ := Ints.atN (hg.ext x13) (i := i) (by omega)
        have nx : Fr2 A G i k → CI A.length (fun k H' => Ext H1 H' ∧ ∀ k', k' < k → Fr2 A G i k') (IntKind.i64.wrap ((k : Int) + 1)) H13 ∧ CM A.length (IntKind.i64.wrap ((k : Int) + 1)) H13 < CM A.length (k : Int) H11 := fun hf => next1 hkn (by omega) ⟨x13, fun k' hk' => by
          by_cases e : k' = k
          · subst e; exact hf
          · exact hfk k' (by omega)⟩
        unfold Fr1 gI at hf1
        have hok := ho i
        refine ⟨_, rfl, e13, iteB_dec (fun c4 => ?_) (fun c4 => nx (fun h1 _ => by unfold gI wantI at h1; omega))⟩
        refine ⟨by omega, by omega, unSome_mk hpgk ⟨_, rgk, by omega, by omega, unSome_mk hp ⟨_, r1, iteB_dec (fun c6 => ⟨by omega, by omega, unSome_mk hpgk ⟨_, rgk, by omega, by omega, unSome_mk hpgi' ⟨_, rgi', ?_⟩⟩⟩) (fun c6 => nx (fun _ h2 => by unfold gI at h2; omega))⟩⟩⟩
        rw [u64_in (n := G.getD i 0 + 1) (by omega)]
        refine iteB_dec (fun c7 => bad _ (fun hf => ?_) x13) (fun c7 => nx (fun _ _ => by unfold gI; omega))
        have := hf.2.2.2.2 i hin k hkn (by unfold gI wantI; omega) c6
        unfold gI at this
        omega
      · refine next1 hin (by omega) ⟨e11, fun i' hi' k' hk' => ?_⟩
        by_cases e : i' = i
        · subst e; exact hfk k' (by omega)
        · exact hfr i' (by omega) k' hk'
    · exact ⟨by rw [decide_eq_true ⟨hv, hgl, hall, c2, fun i' hi' k hk => hfr i' (by omega) k hk⟩], e7⟩

end Go.Proofs.Ytiikkapdchodkaa
