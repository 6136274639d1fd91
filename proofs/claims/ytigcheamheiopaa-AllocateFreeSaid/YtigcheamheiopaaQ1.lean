/-
  The laws' helpers: Equal on numbers, space, sizes, awake.
-/
import Derived.Test.YtigcheamheiopaaP6
namespace Go.Proofs.Ytigcheamheiopaa
open Go.Eng
set_option linter.unusedVariables false

theorem Equal_uint64_spec (H : Heap) (a b : Sl) (A B : List Int) (ha : IsS 1 (Go.Eng.encI .u64) H a A) (hb : IsS 1 (Go.Eng.encI .u64) H b B) (hl : A.length ≤ 9223372036854775807) :
    CallsH Try.prog n_help_Equal_uint64 #[.slice a.p a.n a.c, .slice b.p b.n b.c] H (fun v H' => v = .bool (decide (A = B)) ∧ H' = H) := by
  refine F_help_Equal_uint64_ok _ _ ?_
  unfold F_help_Equal_uint64
  have na := ha.len
  have nb := hb.len
  refine iteB_bne (fun c => ⟨by rw [decide_eq_false (fun e => c (by rw [na, nb, e]))], rfl⟩) (fun c => ?_)
  have hlen : A.length = B.length := by omega
  refine loop1 A.length (fun k H' => H' = H ∧ ∀ i, i < k → A[i]? = B[i]?) ⟨rfl, fun i hi => by omega⟩ ?_
  rintro k H1 hk ⟨rfl, heq⟩
  unfold F_help_Equal_uint64_r1
  refine iteB_dec (fun c1 => ?_) (fun c1 => ⟨?_, rfl⟩)
  · have hkA : k < A.length := by omega
    have hkB : k < B.length := by omega
    obtain ⟨p, hp, hr⟩ := IsS.atN ha 0 hkA
    obtain ⟨q, hq, hs⟩ := IsS.atN hb 0 hkB
    have eA : A[k]? = some (A.getD k 0) := by simp [List.getD, hkA]
    have eB : B[k]? = some (B.getD k 0) := by simp [List.getD, hkB]
    generalize A.getD k 0 = x at *
    generalize B.getD k 0 = y at *
    refine ⟨by omega, by omega, unSome_mk hp ⟨_, hr 0 _ rfl, by omega, by omega, unSome_mk hq ⟨_, hs 0 _ rfl, iteB_bne (fun c2 => ⟨?_, rfl⟩) (fun c2 => letV_mk _ rfl (next1 hkA (by omega) ⟨rfl, fun i hi => ?_⟩))⟩⟩⟩
    · rw [decide_eq_false]
      intro e
      rw [e, eB] at eA
      simp at eA
      exact c2 eA.symm
    · by_cases e : i = k
      · subst e
        rw [eA, eB, c2]
      · exact heq i (by omega)
  · rw [decide_eq_true]
    apply List.ext_getElem?
    intro i
    by_cases hi : i < A.length
    · exact heq i (by omega)
    · rw [List.getElem?_eq_none (by omega), List.getElem?_eq_none (by omega)]

/-- Small ranges. -/
def spR (r : Rg) : Rg := (r.1.tmod 300, 1 + r.2.tmod 120)
def spaceL (l : List Rg) : List Rg := (l.take 8).map spR
theorem spR_ok {r : Rg} (h : (0 ≤ r.1 ∧ r.1 ≤ 18446744073709551615) ∧ (0 ≤ r.2 ∧ r.2 ≤ 18446744073709551615)) : 0 ≤ (spR r).1 ∧ (spR r).1 < 300 ∧ 1 ≤ (spR r).2 ∧ (spR r).2 ≤ 120 := by
  unfold spR
  dsimp only
  rw [Int.tmod_eq_emod_of_nonneg h.1.1, Int.tmod_eq_emod_of_nonneg h.2.1]
  omega
structure SmallR (l : List Rg) : Prop where
  len : l.length ≤ 8
  ok : ∀ r ∈ l, 0 ≤ r.1 ∧ r.1 < 300 ∧ 1 ≤ r.2 ∧ r.2 ≤ 120
theorem space_small {l : List Rg} (hu : U64L l) : SmallR (spaceL l) :=
  ⟨by simp [spaceL]; omega, fun r hr => by
    obtain ⟨x, hx, rfl⟩ := List.mem_map.1 hr
    exact spR_ok (hu x (List.mem_of_mem_take hx))⟩
theorem SmallR.valid {l : List Rg} (h : SmallR l) : ValidR l := ⟨by have := h.len; omega, fun r hr => by have := h.ok r hr; unfold RgOk; omega⟩
theorem SmallR.u64 {l : List Rg} (h : SmallR l) : U64L l := fun r hr => by have := h.ok r hr; omega

def szL (l : List Int) : List Int := (l.take 14).map (fun x => modI x 7)
theorem szL_ok (l : List Int) : (szL l).length ≤ 14 ∧ ∀ x ∈ szL l, 0 ≤ x ∧ x ≤ 6 := by
  refine ⟨by simp [szL]; omega, fun x hx => ?_⟩
  obtain ⟨y, _, rfl⟩ := List.mem_map.1 hx
  have := modI_range y (n := 7) (by omega)
  omega
theorem szL_items (l : List Int) : ItemsOk (szL l) := ⟨by have := (szL_ok l).1; omega, fun x hx => by have := (szL_ok l).2 x hx; omega⟩

theorem space_spec (H : Heap) (s : Sl) (l : List Rg) (h : Rgs H s l) (hu : U64L l) : CallsH Try.prog n_law21_space #[.slice s.p s.n s.c] H (fun v H' => ∃ o : Sl, v = .slice o.p o.n o.c ∧ Rgs H' o (spaceL l) ∧ TyB H' o.p t_api_Range ∧ Ext H H') := by
  refine F_law21_space_ok _ ?_
  unfold F_law21_space
  have hn := h.len
  refine loop2 8 (fun k o H' => k ≤ l.length ∧ Own H.size t_api_Range 2 H' o (((l.take k).map spR).flatMap encR) ∧ Ext H H') ⟨by omega, by simpa using Own.nil _ _ _ _, .refl _⟩ ?_
  rintro k o H1 hk ⟨hkl, ow, e1⟩
  unfold F_law21_space_r1
  have done : (l.length ≤ k ∨ k = 8) → ∃ o' : Sl, (.slice o.p o.n o.c : Value) = .slice o'.p o'.n o'.c ∧ Rgs H1 o' (spaceL l) ∧ TyB H1 o'.p t_api_Range ∧ Ext H H1 := fun hh => by
    have e : spaceL l = (l.take k).map spR := by
      unfold spaceL
      rcases hh with hh | hh
      · rw [List.take_of_length_le hh, List.take_of_length_le (by omega)]
      · rw [hh]
    refine ⟨o, rfl, ?_, own_ty ow, e1⟩
    rw [e]
    exact Own.is rkRange ow
  refine iteB_dec (fun c => iteB_dec (fun c1 => ?_) (fun c1 => done (by omega))) (fun c => done (by omega))
  have hkn : k < l.length := by omega
  obtain ⟨a, hp, r0, r1⟩ := Rgs.atN (h.ext e1) hkn
  have hx := spR_ok (hu _ (getD_mem' (l := l) (k := k) (0, 0) hkn))
  have htk := take_succ_d (l := l) ((0, 0) : Rg) hkn
  have on := Own.len rkRange ow
  generalize l.getD k (0, 0) = r at *
  have hw : IntKind.u64.wrap (1 + r.2.tmod 120) = 1 + r.2.tmod 120 := by unfold spR at hx; dsimp only at hx; exact u64_in (by omega)
  refine ⟨by omega, by omega, unSome_mk hp ⟨_, r0, by omega, by omega, unSome_mk hp ⟨_, r1, ?_⟩⟩⟩
  rw [hw]
  refine apR rkRange (spR r) (lo := H.size) ow (by simp at on; omega) e1.size ?_
  intro o' H' ow' n' m'
  refine letV_mk _ rfl (next2 (by omega) (by omega) ⟨by omega, ?_, Mods.ext e1 m' (blkOf_new ow.new)⟩)
  rw [htk, List.map_append]
  exact ow'

theorem sizes_spec (H : Heap) (s : Sl) (l : List Int) (h : Ints .i64 H s l) : CallsH Try.prog n_law21_sizes #[.slice s.p s.n s.c] H (fun v H' => ∃ o : Sl, v = .slice o.p o.n o.c ∧ Ints .i64 H' o (szL l) ∧ TyB H' o.p t_int ∧ Ext H H') := by
  refine F_law21_sizes_ok _ ?_
  unfold F_law21_sizes
  have hn := h.len
  refine loop2 14 (fun k o H' => k ≤ l.length ∧ Own H.size t_int 1 H' o (((l.take k).map (fun x => modI x 7)).flatMap (Go.Eng.encI .i64)) ∧ Ext H H') ⟨by omega, by simpa using Own.nil _ _ _ _, .refl _⟩ ?_
  rintro k o H1 hk ⟨hkl, ow, e1⟩
  unfold F_law21_sizes_r1
  have done : (l.length ≤ k ∨ k = 14) → ∃ o' : Sl, (.slice o.p o.n o.c : Value) = .slice o'.p o'.n o'.c ∧ Ints .i64 H1 o' (szL l) ∧ TyB H1 o'.p t_int ∧ Ext H H1 := fun hh => by
    have e : szL l = (l.take k).map (fun x => modI x 7) := by
      unfold szL
      rcases hh with hh | hh
      · rw [List.take_of_length_le hh, List.take_of_length_le (by omega)]
      · rw [hh]
    refine ⟨o, rfl, ?_, own_ty ow, e1⟩
    rw [e]
    exact Own.is rkInt ow
  refine iteB_dec (fun c => iteB_dec (fun c1 => ?_) (fun c1 => done (by omega))) (fun c => done (by omega))
  have hkn : k < l.length := by omega
  obtain ⟨a, hp, r0⟩ := Ints.atN (h.ext e1) hkn
  have htk := take_succ_d (l := l) (0 : Int) hkn
  have on := Own.len rkInt ow
  generalize l.getD k 0 = x at *
  refine ⟨by omega, by omega, unSome_mk hp ⟨_, r0, (Mod_spec x 7 H1 (by omega) (by omega)).mono ?_⟩⟩
  rintro v H2 ⟨rfl, rfl⟩
  refine ⟨_, rfl, apR rkInt (modI x 7) (lo := H.size) ow (by simp at on; omega) e1.size ?_⟩
  intro o' H' ow' n' m'
  refine letV_mk _ rfl (next2 (by omega) (by omega) ⟨by omega, ?_, Mods.ext e1 m' (blkOf_new ow.new)⟩)
  rw [htk, List.map_append]
  exact ow'

theorem aw1 : placeV [(4096, 16384)] [12, 13] = (0, [4096, 8192], noCert) := by decide +kernel
theorem aw2 : placeV [(4096, 16384)] [13, 13] = (19, [], (0, 13, 16384, 1)) := by decide +kernel
theorem aw3 : RefC [(4096, 16384)] [13, 13] (0, 13, 16384, 1) := by decide +kernel

theorem awake_spec (H : Heap) : CallsH Try.prog n_law21_awake #[] H (BoolP true H) := by
  refine F_law21_awake_ok ?_
  unfold F_law21_awake
  have hu : U64L [(4096, 16384)] := fun r hr => by simp at hr; subst hr; dsimp only; omega
  refine push_mk (vs := encR (4096, 16384)) fun H1 e1 z1 b1 => push_mk (vs := [.int .i64 12, .int .i64 13]) fun H2 e2 z2 b2 => ?_
  have hr1 : Rgs H1 ⟨some ⟨H.size, 0, none⟩, 1, 1⟩ [(4096, 16384)] := IsS.of_blk encR_len b1 rfl (fun i v hv => by simpa using hv)
  have hi2 : Ints .i64 H2 ⟨some ⟨H1.size, 0, none⟩, 2, 2⟩ [12, 13] := Ints.of_blk (k := .i64) (l := [12, 13]) b2 rfl
  refine (Place_spec H2 ⟨some ⟨H.size, 0, none⟩, 1, 1⟩ ⟨some ⟨H1.size, 0, none⟩, 2, 2⟩ [(4096, 16384)] [12, 13] (hr1.ext e2) hu hi2).mono ?_
  rw [aw1]
  rintro v H3 ⟨o1, rfl, is1, _, e3⟩
  refine ⟨o1, _, _, _, _, _, rfl, local_mk (vs := encC noCert) rfl rfl fun H5 e5 z5 b5 => push_mk (vs := [.int .i64 13, .int .i64 13]) fun H6 e6 z6 b6 => ?_⟩
  have x6 := ((e2.trans e3).trans e5).trans e6
  have hi6 : Ints .i64 H6 ⟨some ⟨H5.size, 0, none⟩, 2, 2⟩ [13, 13] := Ints.of_blk (k := .i64) (l := [13, 13]) b6 rfl
  refine (Place_spec H6 ⟨some ⟨H.size, 0, none⟩, 1, 1⟩ ⟨some ⟨H5.size, 0, none⟩, 2, 2⟩ [(4096, 16384)] [13, 13] (hr1.ext x6) hu hi6).mono ?_
  rw [aw2]
  rintro v H7 ⟨o2, rfl, is2, _, e7⟩
  refine ⟨o2, _, _, _, _, _, rfl, local_mk (vs := encC (0, 13, 16384, 1)) rfl rfl fun H9 e9 z9 b9 => iteB_pos (by decide) (push_mk (vs := [.int .u64 4096, .int .u64 8192]) fun H10 e10 z10 b10 => ?_)⟩
  have hi10 : Ints .u64 H10 ⟨some ⟨H9.size, 0, none⟩, 2, 2⟩ [4096, 8192] := Ints.of_blk (k := .u64) (l := [4096, 8192]) b10 rfl
  have x10 := (((e5.trans e6).trans e7).trans e9).trans e10
  refine (Equal_uint64_spec H10 o1 ⟨some ⟨H9.size, 0, none⟩, 2, 2⟩ [4096, 8192] [4096, 8192] (is1.ext x10) hi10 (by simp)).mono ?_
  rintro v H11 ⟨rfl, rfl⟩
  have b11 := b9.ext e10
  refine ⟨_, rfl, iteB_pos (by simp) (iteB_pos (by decide) ⟨_, b11.rd0 rfl, _, b11.rd (i := 1) rfl, _, b11.rd (i := 2) rfl, _, b11.rd (i := 3) rfl, iteB_pos (by decide) (push_mk (vs := [.int .i64 13, .int .i64 13]) fun H12 e12 z12 b12 => ?_)⟩)⟩
  have b12' := b11.ext e12
  have hi12 : Ints .i64 H12 ⟨some ⟨H11.size, 0, none⟩, 2, 2⟩ [13, 13] := Ints.of_blk (k := .i64) (l := [13, 13]) b12 rfl
  have x12 := ((e2.trans e3).trans x10).trans e12
  refine ⟨_, b12'.rd0 rfl, _, b12'.rd (i := 1) rfl, _, b12'.rd (i := 2) rfl, _, b12'.rd (i := 3) rfl, ?_⟩
  refine (Refutes_spec H12 ⟨some ⟨H.size, 0, none⟩, 1, 1⟩ ⟨some ⟨H11.size, 0, none⟩, 2, 2⟩ [(4096, 16384)] [13, 13] (0, 13, 16384, 1) (hr1.ext x12) hu hi12).mono ?_
  rintro v H13 ⟨rfl, e13⟩
  exact ⟨_, rfl, by rw [decide_eq_true aw3], (e1.trans x12).trans e13⟩

end Go.Proofs.Ytigcheamheiopaa
