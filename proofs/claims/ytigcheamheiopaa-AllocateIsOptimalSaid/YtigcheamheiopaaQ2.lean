/-
  AllocatePlaces.
-/
import Derived.Test.YtigcheamheiopaaQ1
namespace Go.Proofs.Ytigcheamheiopaa
open Go.Eng
set_option linter.unusedVariables false

structure PLI (H : Heap) (l s : Sl) (H' : Heap) : Prop where
  c : ∃ c : Cert, Blk H' H.size t_api_Certificate (encC c)
  l : ∃ L : List Rg, Rgs H' l L ∧ U64L L
  s : ∃ S : List Int, Ints .i64 H' s S
  ext : Ext H H'

theorem placeV_len' {free : List Rg} {S : List Int} : (placeV free S).2.1.length ≤ 1024 := by
  by_cases h : (placeV free S).1 = 0
  · obtain ⟨_, hI, hl, _⟩ := placeV_ok (c := (placeV free S).2.2) (bs := (placeV free S).2.1) (free := free) (S := S) (by rw [← h])
    have := hI.1
    omega
  · unfold placeV at h ⊢
    split
    · cases hp : plI S (ordF S) (mergeF free) (List.replicate S.length 0) with
      | none => simp
      | some x => rename_i hv; rw [if_pos hv, hp] at h; exact absurd rfl h
    · simp

theorem ty_blk {H : Heap} {p : Option Addr} {e e' : TypeId} {b : Nat} {vs : List Value} (h : TyB H p e) (hb : Blk H b e' vs) (hne : e ≠ e') : ∀ a, p = some a → a.block ≠ b := fun a ha => by
  have t1 : TyB H (some ⟨b, 0, none⟩) e' := fun a ha => by cases ha; exact ⟨_, _, hb⟩
  have := ty_ne h t1 hne a ha
  simpa [blkOf] using this

theorem law_places (H : Heap) (l s : Sl) (L : List Rg) (S : List Int) (c : Cert) (hl : Rgs H l L) (hu : U64L L) (hS : Ints .i64 H s S) :
    CallsH Try.prog n_law21_AllocatePlaces #[.slice l.p l.n l.c, .slice s.p s.n s.c, certV c] H (BoolP true H) := by
  refine F_law21_AllocatePlaces_ok _ _ _ _ _ _ ?_
  unfold F_law21_AllocatePlaces
  refine push_mk (vs := encC c) fun H1 e1 z1 b1 => ?_
  refine loop3 2 (fun k l s H' => PLI H l s H') ⟨⟨c, b1⟩, ⟨L, hl.ext e1, hu⟩, ⟨S, hS.ext e1⟩, e1⟩ ?_
  rintro k l s H2 hk ⟨⟨c, b2⟩, ⟨L, hl, hu⟩, ⟨S, hS⟩, e2⟩
  unfold F_law21_AllocatePlaces_r1
  refine iteB_dec (fun d => (Place_spec H2 l s L S hl hu hS).mono ?_) (fun d => (awake_spec H2).mono ?_)
  · rintro v H3 ⟨o1, rfl, is1, _, e3⟩
    refine ⟨o1, _, _, _, _, _, rfl, local_mk (vs := encC (placeV L S).2.2) rfl rfl fun H5 e5 z5 b5 => ?_⟩
    have x5 := e3.trans e5
    refine (rPlace_spec H5 l s L S (hl.ext x5) hu (hS.ext x5)).mono ?_
    rintro v H6 ⟨o2, rfl, is2, _, e6⟩
    refine ⟨o2, _, _, _, _, _, rfl, local_mk (vs := encC (placeV L S).2.2) rfl rfl fun H8 e8 z8 b8 => ?_⟩
    have x8 := (x5.trans e6).trans e8
    have hpl := placeV_len' (free := L) (S := S)
    refine (Equal_uint64_spec H8 o1 o2 _ _ (is1.ext ((e5.trans e6).trans e8)) (is2.ext e8) (by omega)).mono ?_
    rintro v H9 ⟨rfl, rfl⟩
    have b9 := b5.ext (e6.trans e8)
    have c9 := b2.ext x8
    refine ⟨_, rfl, iteB_neg (by simp) ⟨_, b9.rd0 rfl, _, b9.rd (i := 1) rfl, _, b9.rd (i := 2) rfl, _, b9.rd (i := 3) rfl, _, b8.rd0 rfl, _, b8.rd (i := 1) rfl, _, b8.rd (i := 2) rfl, _, b8.rd (i := 3) rfl, iteB_neg (by simp) (iteB_neg (by simp) ?_)⟩⟩
    refine ⟨_, c9.rd0 rfl, _, c9.rd (i := 1) rfl, _, c9.rd (i := 2) rfl, _, c9.rd (i := 3) rfl, _, c9.rd0 rfl, _, c9.rd (i := 1) rfl, _, c9.rd (i := 2) rfl, _, c9.rd (i := 3) rfl, (Refutes_spec H9 l s L S c (hl.ext x8) hu (hS.ext x8)).mono ?_⟩
    rintro v H10 ⟨rfl, e10⟩
    have x10 := x8.trans e10
    refine ⟨_, rfl, e10.keeps, (rRefutes_spec H10 l s L S c (hl.ext x10) hu (hS.ext x10)).mono ?_⟩
    rintro v H11 ⟨rfl, e11⟩
    have x11 := x10.trans e11
    refine ⟨_, rfl, iteB_neg (by simp) ((space_spec H11 l L (hl.ext x11) hu).mono ?_)⟩
    rintro v H12 ⟨l2, rfl, hl2, ty2, e12⟩
    have x12 := x11.trans e12
    refine ⟨l2, rfl, (sizes_spec H12 s S (hS.ext x12)).mono ?_⟩
    rintro v H13 ⟨s2, rfl, hs2, tys, e13⟩
    have c13 := b2.ext (x12.trans e13)
    refine ⟨s2, rfl, _, c13.rd (i := 1) rfl, (Mod_spec _ 9 H13 (by omega) (by omega)).mono ?_⟩
    rintro v H14 ⟨rfl, rfl⟩
    refine ⟨_, rfl, c13.ok (i := 1) (by simp), letH_mk ?_⟩
    intro H15 h15
    have b15 : Blk H15 H.size t_api_Certificate (encC (c.1, modI c.2.1 9, c.2.2.1, c.2.2.2)) := by rw [h15]; exact c13.wr1
    have m15 : Mods [H.size] H14 H15 := by rw [h15]; exact mods_wr_add (by simp)
    clear h15
    have ne2 := ty_blk (ty2.mods (S := []) e13.mods (fun _ _ => by simp)) c13 (by decide)
    have nes := ty_blk tys c13 (by decide)
    exact letV_mk _ rfl (next3 (by omega) (by omega) ⟨⟨_, b15⟩, ⟨_, (hl2.ext e13).mods m15 (fun a ha => by simpa using ne2 a ha), (space_small hu).u64⟩, ⟨_, hs2.mods m15 (fun a ha => by simpa using nes a ha)⟩, Mods.ext (e2.trans (x12.trans e13)) m15 (by simp)⟩)
  · rintro v H3 ⟨rfl, e3⟩
    exact ⟨_, rfl, rfl, e2.trans e3⟩

end Go.Proofs.Ytigcheamheiopaa
