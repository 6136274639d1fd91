/-
  The program's Blocks and Refutes; the reference's Refutes.
-/
import Derived.Test.YtigcheamheiopaaP5
import Derived.Test.YtigcheamheiopaaN3
namespace Go.Proofs.Ytigcheamheiopaa
open Go.Eng
set_option linter.unusedVariables false

theorem Blocks_spec (H : Heap) (s : Sl) (l : List Rg) (k : Int) (h : Rgs H s l) (hu : U64L l) :
    CallsH Try.prog n_allocate_Blocks #[.slice s.p s.n s.c, .int .i64 k] H (fun v H' => v = .int .u64 (blkV l k) ∧ Ext H H') := by
  refine F_allocate_Blocks_ok _ _ ?_
  unfold F_allocate_Blocks
  have no : ¬ ((0 ≤ k ∧ k ≤ 52) ∧ ValidR l) → ∀ H', Ext H H' → (.int .u64 0 : Value) = .int .u64 (blkV l k) ∧ Ext H H' := fun hh H' e => ⟨by unfold blkV; rw [if_neg hh], e⟩
  refine (validRanges_spec H s l h hu).mono ?_
  rintro v H1 ⟨rfl, e1⟩
  refine ⟨_, rfl, iteB_not (fun d => no (fun hh => by simp at d; exact d hh.2) H1 e1) (fun d => iteB_dec (fun c => no (fun hh => by omega) H1 e1) (fun c => iteB_dec (fun c1 => no (fun hh => by omega) H1 e1) (fun c1 => ?_)))⟩
  have hv : ValidR l := by simpa using d
  refine (merged_spec H1 s l (h.ext e1) hv).mono ?_
  rintro v H2 ⟨m, rfl, o2, e2⟩
  obtain ⟨vm, am⟩ := hv.merge
  refine ⟨m, rfl, (countBlocks_spec H2 m (mergeF l) k (Own.is rkRange o2) (by omega) vm am).mono ?_⟩
  rintro v H3 ⟨rfl, e3⟩
  refine ⟨_, rfl, ?_, (e1.trans e2).trans e3⟩
  unfold blkV
  rw [if_pos ⟨by omega, hv⟩]

/-- When a certificate refutes. -/
def RefC (free : List Rg) (S : List Int) (c : Cert) : Prop :=
  (ValidR free ∧ ItemsOk S) ∧ (0 ≤ c.2.1 ∧ c.2.1 ≤ 52) ∧ c.2.2.1 = demI c.2.1 S ∧ c.2.2.2 = blkN (2 ^ c.2.1.toNat) (mergeF free) ∧ c.2.2.1 > c.2.2.2 * 2 ^ c.2.1.toNat
instance (free : List Rg) (S : List Int) (c : Cert) : Decidable (RefC free S c) := by unfold RefC; infer_instance

theorem blk_shl {M : List Rg} (vm : ValidR M) (am : Asc M) {k : Int} (hk : 0 ≤ k ∧ k ≤ 52) : IntKind.u64.wrap (blkN (2 ^ k.toNat) M * 2 ^ (min k.toNat IntKind.u64.bits)) = blkN (2 ^ k.toNat) M * 2 ^ k.toNat := by
  have e : min k.toNat IntKind.u64.bits = k.toNat := by have : IntKind.u64.bits = 64 := rfl; omega
  rw [e]
  have h1 := valid_blk vm am k.toNat
  have h2 := Int.mul_nonneg (blkN_nn (2 ^ k.toNat) M) (Int.le_of_lt (pow_pos2 k.toNat))
  exact u64_in (by omega)

theorem Refutes_spec (H : Heap) (s t : Sl) (l : List Rg) (S : List Int) (c : Cert) (h : Rgs H s l) (hu : U64L l) (hS : Ints .i64 H t S) :
    CallsH Try.prog n_allocate_Refutes #[.slice s.p s.n s.c, .slice t.p t.n t.c, certV c] H (BoolP (decide (RefC l S c)) H) := by
  refine F_allocate_Refutes_ok _ _ _ _ _ _ ?_
  unfold F_allocate_Refutes
  have no : ¬ RefC l S c → ∀ H', Ext H H' → BoolP (decide (RefC l S c)) H (.bool false) H' := fun hh H' e => ⟨by rw [decide_eq_false hh], e⟩
  refine push_mk (vs := encC c) fun H1 e1 z1 b1 => (placeable_spec H1 s t l S (h.ext e1) hu (hS.ext e1)).mono ?_
  rintro v H2 ⟨rfl, e2⟩
  have x2 := e1.trans e2
  have b2 := b1.ext e2
  refine ⟨_, rfl, iteB_not (fun d => no (fun hh => by simp at d; exact d hh.1.1 hh.1.2) H2 x2) (fun d => ⟨_, b2.rd (i := 1) rfl, iteB_dec (fun c1 => no (fun hh => by have := hh.2.1; omega) H2 x2) (fun c1 => ⟨_, b2.rd (i := 1) rfl, iteB_dec (fun c2 => no (fun hh => by have := hh.2.1; omega) H2 x2) (fun c2 => ⟨_, b2.rd (i := 2) rfl, _, b2.rd (i := 1) rfl, ?_⟩)⟩)⟩)⟩
  have hvi : ValidR l ∧ ItemsOk S := by simpa using d
  refine (demand_spec H2 t S c.2.1 (hS.ext x2) hvi.2).mono ?_
  rintro v H3 ⟨rfl, rfl⟩
  refine ⟨_, rfl, (Ext.refl _).keeps, iteB_bne (fun c3 => no (fun hh => c3 hh.2.2.1) H3 x2) (fun c3 => ⟨_, b2.rd (i := 3) rfl, _, b2.rd (i := 1) rfl, (Blocks_spec H3 s l c.2.1 (h.ext x2) hu).mono ?_⟩)⟩
  rintro v H4 ⟨rfl, e4⟩
  have b4 := b2.ext e4
  have hb : blkV l c.2.1 = blkN (2 ^ c.2.1.toNat) (mergeF l) := by unfold blkV; rw [if_pos ⟨by omega, hvi.1⟩]
  rw [hb]
  refine ⟨_, rfl, e4.keeps, iteB_bne (fun c4 => no (fun hh => c4 hh.2.2.2.1) H4 (x2.trans e4)) (fun c4 => ⟨_, b4.rd (i := 2) rfl, _, b4.rd (i := 3) rfl, _, b4.rd (i := 1) rfl, by omega, ?_, x2.trans e4⟩)⟩
  obtain ⟨vm, am⟩ := hvi.1.merge
  rw [c4, blk_shl vm am (by omega)]
  congr 1
  apply decide_eq_decide.2
  constructor
  · intro g; exact ⟨hvi, by omega, c3, c4, by rw [c4]; exact g⟩
  · intro g; have := g.2.2.2.2; rw [c4] at this; exact this

theorem rRefutes_spec (H : Heap) (s t : Sl) (l : List Rg) (S : List Int) (c : Cert) (h : Rgs H s l) (hu : U64L l) (hS : Ints .i64 H t S) :
    CallsH Try.prog n_ref21_Refutes #[.slice s.p s.n s.c, .slice t.p t.n t.c, certV c] H (BoolP (decide (RefC l S c)) H) := by
  refine F_ref21_Refutes_ok _ _ _ _ _ _ ?_
  unfold F_ref21_Refutes
  have no : ¬ RefC l S c → ∀ H', Ext H H' → BoolP (decide (RefC l S c)) H (.bool false) H' := fun hh H' e => ⟨by rw [decide_eq_false hh], e⟩
  refine push_mk (vs := encC c) fun H1 e1 z1 b1 => (rValidRanges_spec H1 s l (h.ext e1) hu).mono ?_
  rintro v H2 ⟨rfl, rfl⟩
  refine ⟨_, rfl, iteB_intro (fun d => (ritems_spec H2 t S (hS.ext e1)).mono ?_) (fun d => no (fun hh => by simp at d; exact d hh.1.1) H2 e1)⟩
  rintro v H3 ⟨rfl, rfl⟩
  refine ⟨_, rfl, iteB_intro (fun d1 => ⟨_, b1.rd (i := 1) rfl, iteB_dec (fun c1 => ⟨_, b1.rd (i := 1) rfl, iteB_dec (fun c2 => ⟨_, b1.rd (i := 2) rfl, _, b1.rd (i := 1) rfl, ?_⟩) (fun c2 => no (fun hh => by have := hh.2.1; omega) H3 e1)⟩) (fun c1 => no (fun hh => by have := hh.2.1; omega) H3 e1)⟩) (fun d1 => no (fun hh => by simp at d1; exact d1 hh.1.2) H3 e1)⟩
  have hvi : ValidR l ∧ ItemsOk S := ⟨by simpa using d, by simpa using d1⟩
  refine (rdemand_spec H3 t S c.2.1 (hS.ext e1) hvi.2).mono ?_
  rintro v H4 ⟨rfl, rfl⟩
  refine ⟨_, rfl, (Ext.refl _).keeps, iteB_beq (fun c3 => ⟨_, b1.rd (i := 3) rfl, _, b1.rd (i := 1) rfl, (rBlocks_spec H4 s l c.2.1 (h.ext e1) hu).mono ?_⟩) (fun c3 => no (fun hh => c3 hh.2.2.1) H4 e1)⟩
  rintro v H5 ⟨rfl, e5⟩
  have b4 := b1.ext e5
  have hb : blkV l c.2.1 = blkN (2 ^ c.2.1.toNat) (mergeF l) := by unfold blkV; rw [if_pos ⟨by omega, hvi.1⟩]
  rw [hb]
  refine ⟨_, rfl, e5.keeps, iteB_beq (fun c4 => ⟨_, b4.rd (i := 2) rfl, _, b4.rd (i := 3) rfl, _, b4.rd (i := 1) rfl, u64_nonneg _, ?_, e1.trans e5⟩) (fun c4 => no (fun hh => c4 hh.2.2.2.1) H5 (e1.trans e5))⟩
  obtain ⟨vm, am⟩ := hvi.1.merge
  rw [c4, u64_in (n := c.2.1) (by omega), blk_shl vm am (by omega)]
  congr 1
  apply decide_eq_decide.2
  constructor
  · intro g; exact ⟨hvi, by omega, c3, c4, by rw [c4]; exact g⟩
  · intro g; have := g.2.2.2.2; rw [c4] at this; exact this

/-- What Place gives as a certificate refutes. -/
theorem place_ref {free : List Rg} {S : List Int} (hv : ValidR free) (hI : ItemsOk S) (h : (placeV free S).1 ≠ 0) : RefC free S (placeV free S).2.2 := by
  obtain ⟨e, hk⟩ := placeV_refused hv hI h
  obtain ⟨k, h1, h2, h3⟩ := certF_bad 44 hk
  rw [e]
  dsimp only
  rw [h3]
  refine ⟨⟨hv, hI⟩, by dsimp only; omega, rfl, by dsimp only; rw [Int.toNat_natCast], ?_⟩
  dsimp only
  rw [Int.toNat_natCast]
  exact h2
theorem ref_no {free : List Rg} {S : List Int} {c : Cert} (h : (placeV free S).1 = 0) : ¬ RefC free S c := fun ⟨⟨hv, hI⟩, hk, h1, h2, h3⟩ => by
  have := room_bad hv hI h c.2.1.toNat
  unfold Bad at this
  rw [h1, h2] at h3
  rw [Int.toNat_of_nonneg hk.1] at this
  omega

end Go.Proofs.Ytigcheamheiopaa
