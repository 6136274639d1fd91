/-
  AllocateRefutationIsSound and AllocatePlacementIsCorrect.
-/
import Derived.Test.YtigcheamheiopaaQ2
import Derived.Test.YtigcheamheiopaaEngB
namespace Go.Proofs.Ytigcheamheiopaa
open Go.Eng
set_option linter.unusedVariables false

theorem small_pow {k : Int} (h : 0 ≤ k ∧ k ≤ 44) : IntKind.u64.wrap (1 * 2 ^ (min (IntKind.u64.wrap k).toNat IntKind.u64.bits)) = 2 ^ k.toNat := by
  rw [u64_in (n := k) (by omega)]
  have e : min k.toNat IntKind.u64.bits = k.toNat := by have : IntKind.u64.bits = 64 := rfl; omega
  rw [e, Int.one_mul]
  have := pow44 h
  exact u64_in (by omega)

theorem law_sound (H : Heap) (l s : Sl) (L : List Rg) (S0 : List Int) (level : Int) (hl : Rgs H l L) (hu : U64L L) (hS : Ints .i64 H s S0) :
    CallsH Try.prog n_law21_AllocateRefutationIsSound #[.slice l.p l.n l.c, .slice s.p s.n s.c, .int .i64 level] H (BoolP true H) := by
  refine F_law21_AllocateRefutationIsSound_ok _ _ _ ?_
  unfold F_law21_AllocateRefutationIsSound
  refine (space_spec H l L hl hu).mono ?_
  rintro v H1 ⟨free, rfl, hf, _, e1⟩
  refine ⟨free, rfl, (sizes_spec H1 s S0 (hS.ext e1)).mono ?_⟩
  rintro v H2 ⟨items, rfl, hi, _, e2⟩
  have sm := space_small hu
  have hI := szL_items S0
  generalize szL S0 = S at *
  generalize spaceL L = F at *
  refine ⟨items, rfl, (Place_spec H2 free items F S (hf.ext e2) sm.u64 hi).mono ?_⟩
  rintro v H3 ⟨o, rfl, _, _, e3⟩
  refine ⟨o, _, _, _, _, _, rfl, local_mk (vs := encC (placeV F S).2.2) rfl rfl fun H5 e5 z5 b5 => ⟨fun b H' => b = ((placeV F S).1 != 0) ∧ Ext H5 H', (awake_spec H5).mono ?_, ?_⟩⟩
  · rintro v H6 ⟨rfl, e6⟩
    exact ⟨_, rfl, iteB_neg (by simp) ⟨rfl, e6⟩⟩
  rintro b H7 ⟨rfl, e7⟩
  unfold F_law21_AllocateRefutationIsSound_k2
  have x7 := ((e2.trans e3).trans e5).trans e7
  refine iteB_bne (fun c => (awake_spec H7).mono ?_) (fun c => (Mod_spec level 10 H7 (by omega) (by omega)).mono ?_)
  · rintro v H8 ⟨rfl, e8⟩
    exact ⟨_, rfl, rfl, (e1.trans x7).trans e8⟩
  rintro v H9 ⟨rfl, rfl⟩
  have hin := hi.len
  have hI1 := hI.1
  refine ⟨_, rfl, ?_⟩
  refine loop2 S.length (fun k d H' => H' = H9 ∧ d = demI (modI level 10) (S.take k)) ⟨rfl, rfl⟩ ?_
  rintro k d H10 hk ⟨rfl, rfl⟩
  unfold F_law21_AllocateRefutationIsSound_r1
  have hi7 := hi.ext ((e3.trans e5).trans e7)
  refine iteB_dec (fun c1 => ?_) (fun c1 => (Blocks_spec H10 free F _ (hf.ext x7) sm.u64).mono ?_)
  · have hkn : k < S.length := by omega
    obtain ⟨a, hp, hr⟩ := Ints.atN hi7 hkn
    have hx := hI.2 _ (getD_mem' (l := S) (k := k) 0 hkn)
    have htk := take_succ_d (0 : Int) hkn
    have hp44 := pow44 hx
    have hd := demI_range (modI level 10) (hI.2.takeN k)
    have hlen : ((S.take k).length : Int) ≤ 1024 := by simp; omega
    generalize S.getD k 0 = x at *
    have hstep : demI (modI level 10) (S.take (k + 1)) = demI (modI level 10) (S.take k) + (if x ≥ modI level 10 then 2 ^ x.toNat else 0) := by rw [htk, demI_append]; simp [demI]
    refine ⟨by omega, by omega, unSome_mk hp ⟨_, hr, iteB_dec (fun d => ⟨by omega, by omega, unSome_mk hp ⟨_, hr, u64_nonneg _, letV_mk (demI (modI level 10) (S.take (k + 1))) ?_ (letV_mk _ rfl (next2 hkn (by omega) ⟨rfl, rfl⟩))⟩⟩) (fun d => letV_mk _ rfl (next2 hkn (by omega) ⟨rfl, ?_⟩))⟩⟩
    · rw [small_pow hx, hstep, if_pos d]
      exact u64_in (by omega)
    · rw [hstep, if_neg d, Int.add_zero]
  · rintro v H11 ⟨rfl, e11⟩
    refine ⟨_, rfl, (Refutes_spec H11 free items F S (0, modI level 10, demI (modI level 10) (S.take k), blkV F (modI level 10)) (hf.ext (x7.trans e11)) sm.u64 (hi7.ext e11)).mono ?_⟩
    rintro v H12 ⟨rfl, e12⟩
    refine ⟨_, rfl, ?_, (e1.trans x7).trans (e11.trans e12)⟩
    rw [decide_eq_false (ref_no c)]
    rfl

/-- The bytes of ranges are marked. -/
def MarkR (L : List Rg) (f : Nat → Bool) : Prop := ∀ z : Nat, f z = true ↔ Cov L z

theorem cov_take_succ {L : List Rg} {k : Nat} (hk : k < L.length) {x : Int} : Cov (L.take (k + 1)) x ↔ Cov (L.take k) x ∨ ((L.getD k (0, 0)).1 ≤ x ∧ x < (L.getD k (0, 0)).1 + (L.getD k (0, 0)).2) := by
  rw [take_succ_d ((0, 0) : Rg) hk, Cov_append]
  constructor
  · rintro (h | ⟨r, hr, h⟩)
    · exact .inl h
    · simp at hr; subst hr; exact .inr h
  · rintro (h | h)
    · exact .inl h
    · exact .inr ⟨_, by simp, h⟩

set_option maxRecDepth 100000 in
theorem law_correct (H : Heap) (l s : Sl) (L : List Rg) (S0 : List Int) (hl : Rgs H l L) (hu : U64L L) (hS : Ints .i64 H s S0) :
    CallsH Try.prog n_law21_AllocatePlacementIsCorrect #[.slice l.p l.n l.c, .slice s.p s.n s.c] H (BoolP true H) := by
  refine F_law21_AllocatePlacementIsCorrect_ok _ _ ?_
  unfold F_law21_AllocatePlacementIsCorrect
  refine (space_spec H l L hl hu).mono ?_
  rintro v H1 ⟨free, rfl, hf, _, e1⟩
  refine ⟨free, rfl, (sizes_spec H1 s S0 (hS.ext e1)).mono ?_⟩
  rintro v H2 ⟨items, rfl, hi, _, e2⟩
  have sm := space_small hu
  have hI := szL_items S0
  have hS6 := szL_ok S0
  generalize szL S0 = S at *
  generalize spaceL L = F at *
  refine ⟨items, rfl, (Place_spec H2 free items F S (hf.ext e2) sm.u64 hi).mono ?_⟩
  rintro v H3 ⟨o, rfl, ho, _, e3⟩
  refine ⟨o, _, _, _, _, _, rfl, local_mk (vs := encC (placeV F S).2.2) rfl rfl fun H5 e5 z5 b5 => ⟨fun b H' => b = ((placeV F S).1 != 0) ∧ Ext H5 H', (awake_spec H5).mono ?_, ?_⟩⟩
  · rintro v H6 ⟨rfl, e6⟩
    exact ⟨_, rfl, iteB_neg (by simp) ⟨rfl, e6⟩⟩
  rintro b H7 ⟨rfl, e7⟩
  unfold F_law21_AllocatePlacementIsCorrect_k5
  have x7 := ((e2.trans e3).trans e5).trans e7
  have o7 := ho.ext (e5.trans e7)
  have f7 := hf.ext x7
  have i7 := hi.ext ((e3.trans e5).trans e7)
  refine iteB_bne (fun c => (awake_spec H7).mono ?_) (fun c => ?_)
  · rintro v H8 ⟨rfl, e8⟩
    obtain ⟨he, _⟩ := placeV_refused sm.valid hI c
    rw [he] at o7 ⊢
    have := o7.len
    exact ⟨_, rfl, iteB_pos rfl (iteB_pos (by simp) ⟨by simp at this; simp [this], (e1.trans x7).trans e8⟩)⟩
  obtain ⟨_, _, hbl, _, hat, hne⟩ := placeV_ok (free := F) (S := S) (bs := (placeV F S).2.1) (c := (placeV F S).2.2) (by rw [← c])
  generalize (placeV F S).2.1 = B at *
  have on := o7.len
  have inn := i7.len
  have fn := f7.len
  have hfl := sm.len
  have y7 := e1.trans x7
  refine iteB_neg (by simp; omega) (push_mk (vs := List.replicate 512 (.bool false)) fun H9 e9 z9 b9 => push_mk (vs := List.replicate 512 (.bool false)) fun H10 e10 z10 b10 => ?_)
  refine loop1 F.length (fun k H' => Ext H7 H' ∧ BBlk H' H7.size t_512_bool 512 (fun _ => false) ∧ ∃ f, BBlk H' H9.size t_512_bool 512 f ∧ MarkR (F.take k) f) ⟨e9.trans e10, (BBlk.of b9).ext e10, _, BBlk.of b10, fun z => by simp [Cov_nil]⟩ ?_
  rintro k H11 hk ⟨e11, u11, f, g11, mf⟩
  unfold F_law21_AllocatePlacementIsCorrect_r4
  refine iteB_dec (fun d => ?_) (fun d => ?_)
  · have hkF : k < F.length := by omega
    obtain ⟨a, hp, r0, r1⟩ := Rgs.atN (f7.ext e11) hkF
    have hr := sm.ok _ (getD_mem' (l := F) (k := k) (0, 0) hkF)
    have hcv := fun z : Int => cov_take_succ hkF (x := z)
    generalize hrr : F.getD k (0, 0) = r at *
    refine ⟨by omega, by omega, unSome_mk hp ⟨_, r0, fun x H' => ∃ m : Nat, x = r.1 + m ∧ (m : Int) ≤ r.2 ∧ Ext H7 H' ∧ BBlk H' H7.size t_512_bool 512 (fun _ => false) ∧ ∃ f, BBlk H' H9.size t_512_bool 512 f ∧ ∀ z : Nat, f z = true ↔ Cov (F.take k) z ∨ (r.1 ≤ z ∧ (z : Int) < x), fun x _ => (600 - x).toNat, ⟨0, by omega, by omega, e11, u11, f, g11, fun z => ?_⟩, ?_⟩⟩
    · rw [mf z]
      constructor
      · exact .inl
      · rintro (h | h)
        · exact h
        · omega
    rintro x H12 ⟨m, rfl, hm, e12, u12, f, g12, mf⟩
    unfold F_law21_AllocatePlacementIsCorrect_r1
    obtain ⟨a, hp, r0, r1⟩ := Rgs.atN (f7.ext e12) hkF
    rw [hrr] at r0 r1
    refine ⟨by omega, by omega, unSome_mk hp ⟨_, r0, by omega, by omega, unSome_mk hp ⟨_, r1, ?_⟩⟩⟩
    rw [u64_in (n := r.1 + r.2) (by omega)]
    refine iteB_dec (fun c1 => ⟨by omega, by omega, g12.ok (by omega), letH_mk ?_⟩) (fun c1 => ?_)
    · intro H13 h13
      have g13 := g12.wr (i := (r.1 + (m : Int)).toNat) (by omega) true
      rw [← h13] at g13
      have m13 : Mods [H9.size] H12 H13 := by rw [h13]; exact mods_wr_add (by simp)
      refine letV_mk (r.1 + ((m + 1 : Nat) : Int)) (by rw [u64_in (by omega)]; omega) ⟨⟨m + 1, rfl, by omega, Mods.ext e12 m13 (by simp; omega), u12.mods m13 (by simp; omega), _, g13, fun z => ?_⟩, by dsimp only; omega⟩
      unfold upd
      split
      · rename_i hz
        simp only [true_iff]
        right; omega
      · rw [mf z]
        constructor
        · rintro (h | h)
          · exact .inl h
          · right; omega
        · rintro (h | h)
          · exact .inl h
          · right; omega
    · refine letV_mk _ rfl (next1 hkF (by omega) ⟨e12, u12, f, g12, fun z => ?_⟩)
      rw [mf z, hcv z]
      have : (m : Int) = r.2 := by omega
      rw [this]
  · obtain rfl : k = F.length := by omega
    rw [List.take_length] at mf
    have zz := e11.size
    refine loop1 S.length (fun k H' => Ext H7 H' ∧ BBlk H' H9.size t_512_bool 512 f ∧ ∃ u, BBlk H' H7.size t_512_bool 512 u ∧ ∀ z : Nat, u z = true → ∃ j, j < k ∧ B.getD j 0 ≤ z ∧ z < B.getD j 0 + 2 ^ szOf S j) ⟨e11, g11, _, u11, fun z hz => by cases hz⟩ ?_
    rintro k H14 hk ⟨e14, g14, u, u14, hu14⟩
    unfold F_law21_AllocatePlacementIsCorrect_r3
    refine iteB_dec (fun d1 => ?_) (fun d1 => ⟨rfl, y7.trans e14⟩)
    have hkS : k < S.length := by omega
    obtain ⟨a3, hp3, r3⟩ := Ints.atN (i7.ext e14) hkS
    obtain ⟨a4, hp4, r4⟩ := Ints.atN (o7.ext e14) (i := k) (by omega)
    have hx := hS6.2 _ (getD_mem' (l := S) (k := k) 0 hkS)
    obtain ⟨⟨y, hy⟩, hcov⟩ := hat k hkS
    have hnk := fun j hj => hne k hkS j hj
    have hpe : (2 : Int) ^ (S.getD k 0).toNat = 2 ^ szOf S k := rfl
    have hp64 : (2 : Int) ^ szOf S k ≤ 64 := by
      have : szOf S k ≤ 6 := by unfold szOf; omega
      exact Int.le_trans (pow_mono this) (by decide)
    have hpp := pow_pos2 (szOf S k)
    refine ⟨by omega, by omega, unSome_mk hp3 ⟨_, r3, u64_nonneg _, letV_mk (2 ^ szOf S k) (by rw [small_pow (by omega)]; rfl) ?_⟩⟩
    have c1 := hcov (B.getD k 0) (by omega) (by omega)
    have c2 := hcov (B.getD k 0 + 2 ^ szOf S k - 1) (by omega) (by omega)
    have small : ∀ x, Cov F x → 0 ≤ x ∧ x < 420 := fun x ⟨r, hr, h1, h2⟩ => by have := sm.ok r hr; omega
    have s1 := small _ c1
    have s2 := small _ c2
    generalize hbk : B.getD k 0 = b at *
    generalize hPk : (2 : Int) ^ szOf S k = P at *
    refine ⟨by omega, by omega, unSome_mk hp4 ⟨_, r4, by omega, iteB_bne (fun c3 => ?_) (fun c3 => ⟨by omega, by omega, unSome_mk hp4 ⟨_, r4, iteB_dec (fun c4 => ?_) (fun c4 => ⟨by omega, by omega, unSome_mk hp4 ⟨_, r4, ?_⟩⟩)⟩⟩)⟩⟩
    · exact absurd (by rw [hy]; exact Int.mul_tmod_left y P) c3
    · rw [u64_in (by omega)] at c4; omega
    refine ⟨fun x H' => ∃ m : Nat, x = b + m ∧ (m : Int) ≤ P ∧ Ext H7 H' ∧ BBlk H' H9.size t_512_bool 512 f ∧ ∃ u, BBlk H' H7.size t_512_bool 512 u ∧ ∀ z : Nat, u z = true → (∃ j, j < k ∧ B.getD j 0 ≤ z ∧ z < B.getD j 0 + 2 ^ szOf S j) ∨ (b ≤ z ∧ (z : Int) < x), fun x _ => (600 - x).toNat, ⟨0, by omega, by omega, e14, g14, u, u14, fun z hz => .inl (hu14 z hz)⟩, ?_⟩
    rintro x H15 ⟨m, rfl, hm, e15, g15, u, u15, hu15⟩
    unfold F_law21_AllocatePlacementIsCorrect_r2
    obtain ⟨a5, hp5, r5⟩ := Ints.atN (o7.ext e15) (i := k) (by omega)
    rw [hbk] at r5
    refine ⟨by omega, by omega, unSome_mk hp5 ⟨_, r5, ?_⟩⟩
    rw [u64_in (n := b + P) (by omega)]
    refine iteB_dec (fun c5 => ?_) (fun c5 => ?_)
    · refine ⟨by omega, by omega, _, u15.rd (i := (b + (m : Int)).toNat) (by omega), iteB_intro (fun c6 => ?_) (fun c6 => ⟨by omega, by omega, _, g15.rd (i := (b + (m : Int)).toNat) (by omega), iteB_not (fun c7 => ?_) (fun c7 => ⟨by omega, by omega, u15.ok (by omega), letH_mk ?_⟩)⟩)⟩
      · exfalso
        rcases hu15 _ c6 with ⟨j, hj, j1, j2⟩ | q
        · have := hnk j (by omega) (by omega)
          unfold PlNe at this
          rw [hbk, hPk] at this
          omega
        · omega
      · exfalso
        have := (mf (b + (m : Int)).toNat).2 (hcov _ (by omega) (by omega))
        rw [c7] at this
        cases this
      · intro H16 h16
        have u16 := u15.wr (i := (b + (m : Int)).toNat) (by omega) true
        rw [← h16] at u16
        have m16 : Mods [H7.size] H15 H16 := by rw [h16]; exact mods_wr_add (by simp)
        refine letV_mk (b + ((m + 1 : Nat) : Int)) (by rw [u64_in (by omega)]; omega) ⟨⟨m + 1, rfl, by omega, Mods.ext e15 m16 (by simp), g15.mods m16 (by simp; omega), _, u16, fun z hz => ?_⟩, by dsimp only; omega⟩
        unfold upd at hz
        split at hz
        · right; omega
        · rcases hu15 z hz with q | q
          · exact .inl q
          · right; omega
    · refine letV_mk _ rfl (next1 hkS (by omega) ⟨e15, g15, u, u15, fun z hz => ?_⟩)
      rcases hu15 z hz with ⟨j, hj, j1, j2⟩ | q
      · exact ⟨j, by omega, j1, j2⟩
      · exact ⟨k, by omega, by rw [hbk]; exact q.1, by rw [hbk, hPk]; omega⟩

end Go.Proofs.Ytigcheamheiopaa
