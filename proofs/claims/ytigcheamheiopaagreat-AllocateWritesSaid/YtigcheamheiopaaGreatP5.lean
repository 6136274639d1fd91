/-
 The program's Place.
-/
import Derived.Test.YtigcheamheiopaaGreatP4
import Derived.Test.YtigcheamheiopaaGreatJS
namespace Go.Proofs.YtigcheamheiopaaGreat
open Go.Eng
set_option linter.unusedVariables false

def initD (n k : Nat) : List Int := (List.range n).map (fun i : Nat => if i < k then (i : Int) else 0)
theorem initD_len (n k : Nat) : (initD n k).length = n := by simp [initD]
theorem initD_zero (n : Nat) : initD n 0 = List.replicate n 0 := by
 apply List.ext_getElem
 ·simp [initD]
 ·intro i h1 h2; simp [initD]
theorem initD_set (n k : Nat) (hk : k < n) : (initD n k).set k (k : Int) = initD n (k + 1) := by
 apply List.ext_getElem
 ·simp [initD]
 ·intro i h1 h2
  simp only [initD, List.length_map, List.length_range] at h2
  simp only [List.getElem_set, initD, List.getElem_map, List.getElem_range]
  by_cases e : k = i
  ·subst e; simp
  ·rw [if_neg e]
   by_cases e2 : i < k
   ·rw [if_pos e2, if_pos (by omega)]
   ·rw [if_neg e2, if_neg (by omega)]
theorem initD_full (n : Nat) : initD n n = (List.range n).map (fun i : Nat => (i : Int)) := by
 unfold initD
 apply List.map_congr_left
 intro i hi
 rw [if_pos (by simpa using hi)]
theorem initD_get {n i : Nat} (hi : i < n) : (initD n n).getD i 0 = (i : Int) := by
 rw [initD_full]
 simp [List.getD, hi]
theorem init_st (S : List Int) (n : Nat) : St S (initD n n) := fun p q h1 h2 _ => by
 rw [initD_len] at h2
 rw [initD_get (by omega), initD_get h2]
 omega

theorem ints_lt {H : Heap} {s : Sl} {l : List Int} {k : IntKind} (h : Ints k H s l) (hl : l ≠ []) : ∀ a, s.p = some a → a.block < H.size := fun a ha => by
 obtain ⟨b, hb, hr⟩ := Ints.atN h (i := 0) (List.length_pos_iff.2 hl)
 rw [ha] at hb
 cases hb
 have e : (a.add (((0 : Nat) : Int).toNat * 1)) = a := by simp [Addr.add]
 rw [e] at hr
 unfold rd at hr
 cases hc : H[a.block]? with
 | none => rw [hc] at hr; cases hr
 | some o => exact get_lt hc

structure PL (S : List Int) (M : List Rg) (H8 : Heap) (bb : Nat) (k : Nat) (left : Sl) (H' : Heap) : Prop where
 ex : ∃ (l : List Rg) (bs : List Int), plI S ((ordF S).take k) M (List.replicate S.length 0) = some (l, bs) ∧ Own H8.size t_api_Range 2 H' left (l.flatMap encR) ∧ BsB H' bb bs
 ext : Ext H8 H'

def PlaceN (x : Int × List Int × Cert) (H : Heap) (v : Value) (H' : Heap) : Prop :=
 ∃ out : Sl, v = .tuple #[.slice out.p out.n out.c, certV x.2.2, .int .i64 x.1] ∧ IsS 1 (Go.Eng.encI .u64) H' out x.2.1 ∧ TyB H' out.p t_uint64 ∧ Ext H H' ∧ NewP H.size out.p
theorem PlaceN_spec (H : Heap) (s t : Sl) (free : List Rg) (S : List Int) (h : Rgs H s free) (hu : U64L free) (hS : Ints .i64 H t S) :
  CallsH Tryz.prog n_allocate_Place #[.slice s.p s.n s.c, .slice t.p t.n t.c] H (PlaceN (placeV free S) H) := by
 refine F_allocate_Place_ok _ _ ?_
 unfold F_allocate_Place
 have hsn := hS.len
 refine push_mk (vs := [.slice t.p t.n t.c]) fun H1 e1 z1 b1 => push_mk (vs := encC noCert) fun H2 e2 z2 b2 => ?_
 have x2 := e1.trans e2
 refine ⟨t, (b1.ext e2).rd0 rfl, (placeable_spec H2 s t free S (h.ext x2) hu (hS.ext x2)).mono ?_⟩
 rintro v H3 ⟨rfl, e3⟩
 have x3 := x2.trans e3
 refine ⟨_, rfl, iteB_not (fun c => ?_) (fun c => ?_)⟩
 ·have hn : ¬ (ValidR free ∧ ItemsOk S) := by simpa using c
  have hpv : placeV free S = (1, [], noCert) := by unfold placeV; rw [if_neg hn]
  refine cert_wr (c0 := noCert) (c := noCert) (K := fun v H' => PlaceN (placeV free S) H (.tuple #[.slice none 0 0, v, .int .i64 1]) H') (b2.ext e3) (fun H' m' _ => ?_)
  rw [hpv]
  exact ⟨⟨none, 0, 0⟩, rfl, IsS.nil _ _ _, (fun a ha => by cases ha), Mods.ext x3 m' (by simp; omega), NewP.none _⟩
 obtain ⟨hv, hI⟩ : ValidR free ∧ ItemsOk S := by simpa using c
 obtain ⟨vm, am⟩ := hv.merge
 have hlS := hI.1
 have hpv : placeV free S = (match plI S (ordF S) (mergeF free) (List.replicate S.length 0) with | some (_, bs) => (0, bs, noCert) | none => (19, [], certF (mergeF free) S 44)) := by unfold placeV; rw [if_pos ⟨hv, hI⟩]; rfl
 refine ⟨t, (b1.ext (e2.trans e3)).rd0 rfl, by omega, by omega, by omega, letH_mk ?_⟩
 simp only [Int.toNat_natCast]
 intro H5 h5
 have e5 : Ext H3 H5 := by rw [h5]; exact Ext.push _ _
 have z5 : H5.size = H3.size + 1 := by rw [h5]; simp
 have o5 : OB H5 H3.size (initD S.length 0) := by
  rw [h5, ← hsn, initD_zero]
  exact RB.zero H3 t_int (ints_row _) t.n (.int .i64 0) (0 : Int) rfl
 clear h5
 have hz3 := e3.size
 refine loop1 S.length (fun k H' => OB H' H3.size (initD S.length k) ∧ Mods [H3.size] H5 H') ⟨o5, .refl _ _⟩ ?_
 rintro k H6 hk ⟨o6, m6⟩
 unfold F_allocate_Place_r2
 simp only [Int.toNat_natCast]
 have e36 : Ext H3 H6 := Mods.ext e5 m6 (by simp)
 refine iteB_dec (fun d => ?_) (fun d => ?_)
 ·have hkn : k < S.length := by omega
  refine ⟨by omega, by omega, by rw [← Int.toNat_natCast k]; exact o6.ok (by rw [initD_len]; exact hkn), letH_mk ?_⟩
  intro H7 h7
  have o7 : OB H7 H3.size (initD S.length (k + 1)) := by
   rw [h7, ← initD_set _ _ hkn]
   have := o6.set (p := k) (by rw [initD_len]; exact hkn) (k : Int)
   rw [Int.toNat_natCast] at this
   exact this
  have m7 : Mods [H3.size] H6 H7 := by rw [h7]; exact mods_wr_add (by simp)
  exact next1 hkn (by omega) ⟨o7, m6.trans m7⟩
 have hkS : k = S.length := by omega
 rw [hkS] at o6
 have x6 := x3.trans e36
 have sc : SC H6 H3.size H.size t S := ⟨hS.ext x6, b1.ext ((e2.trans e3).trans e36), by omega, fun hne a ha => by have := ints_lt hS hne a ha; have := x3.size; omega⟩
 have hsort := SortStableN_spec H6 sc o6 (fun x hx => by
  rw [initD_full] at hx
  obtain ⟨i, hi, rfl⟩ := List.mem_map.1 hx
  have : i < S.length := by simpa using hi
  omega) (by rw [initD_len]; omega)
 rw [initD_len, ← hsn] at hsort
 refine hsort.mono ?_
 rintro v H8 ⟨rfl, D, o8, m8, r8, s8, k8⟩
 have hDl : D.length = S.length := by rw [r8.len, initD_len, hsn]
 have hD : D = (ordF S).map (fun n : Nat => (n : Int)) := by
  refine ord_unique hI ?_ (s8 (init_st S _)) ?_
  ·rw [← initD_full, ← hsn]; exact r8.perm
  ·rw [hDl, ← hsn]; exact k8
 have hordl : (ordF S).length = S.length := by rw [← hDl, hD, List.length_map]
 have hordm : ∀ i ∈ ordF S, i < S.length := ordN_len S 45
 have e38 : Ext H3 H8 := Mods.ext e36 m8 (by simp)
 have x8 := x3.trans e38
 refine ⟨rfl, (merged_spec H8 s free (h.ext x8) hv).mono ?_⟩
 rintro v H9 ⟨left0, rfl, o9, e9⟩
 have b9 := b1.ext (((e2.trans e3).trans e38).trans e9)
 refine ⟨left0, rfl, t, b9.rd0 rfl, by omega, by omega, by omega, letH_mk ?_⟩
 try simp only [Int.toNat_natCast]
 intro H10 h10
 have e10 : Ext H9 H10 := by rw [h10]; exact Ext.push _ _
 have z10 : H10.size = H9.size + 1 := by rw [h10]; simp
 have bb10 : BsB H10 H9.size (List.replicate S.length 0) := by
  rw [h10, ← hsn]
  exact RB.zero H9 t_uint64 (ints_row _) t.n (.int .u64 0) (0 : Int) rfl
 clear h10
 have hz9 := e9.size
 refine loop2 S.length (fun k left H' => PL S (mergeF free) H8 H9.size k left H') ⟨⟨mergeF free, _, rfl, o9.ext e10, bb10⟩, e9.trans e10⟩ ?_
 rintro k left H11 hk ⟨⟨l, bs, hpl, o11, bb11⟩, e11⟩
 unfold F_allocate_Place_r1
 simp only [Int.toNat_natCast]
 have x11 := x8.trans e11
 have hbl := plI_len S _ _ _ _ hpl
 dsimp only at hbl
 rw [List.length_replicate] at hbl
 have c11 : Blk H11 H1.size t_api_Certificate (encC noCert) := b2.ext ((e3.trans e38).trans e11)
 have hz1 := x8.size
 refine iteB_dec (fun d => ?_) (fun d => ?_)
 rotate_left
 ·have hkS : k = S.length := by omega
  rw [hkS, List.take_of_length_le (by omega)] at hpl
  have hpv2 : placeV free S = (0, bs, noCert) := by rw [hpv, hpl]
  refine cert_wr (c := noCert) (K := fun v H' => PlaceN (placeV free S) H (.tuple #[.slice (some ⟨H9.size, 0, none⟩) t.n t.n, v, .int .i64 0]) H') c11 (fun H' m' _ => ?_)
  have bb' := RB.mods bb11 m' (by simp; have := e2.size; have := e38.size; omega)
  rw [hpv2]
  exact ⟨⟨some ⟨H9.size, 0, none⟩, t.n, t.n⟩, rfl, RB.isS bb' t.n t.n (by omega), (fun a ha => by cases ha; obtain ⟨_, ex, hbk⟩ := bb'; exact ⟨_, _, hbk⟩), Mods.ext x11 m' (by simp; omega), NewP.some (by have := x3.size; have := e38.size; dsimp only; omega)⟩
 have hkn : k < (ordF S).length := by omega
 have hDk : D.getD k 0 = (((ordF S).getD k 0 : Nat) : Int) := by rw [hD]; simp [List.getD, hkn]
 have hitem := hordm _ (getD_mem' (l := ordF S) (k := k) 0 hkn)
 have htk := take_succ_d (l := ordF S) (0 : Nat) hkn
 have hrest : ordF S = (ordF S).take k ++ ((ordF S).getD k 0 :: (ordF S).drop (k + 1)) := by
  rw [show (ordF S).take k ++ ((ordF S).getD k 0 :: (ordF S).drop (k + 1)) = (ordF S).take k ++ [(ordF S).getD k 0] ++ (ordF S).drop (k + 1) by simp, ← htk, List.take_append_drop]
 have hrd := OB.at (RB.ext o8 e11) (p := k) (by omega)
 rw [hDk, Int.toNat_natCast] at hrd
 generalize (ordF S).getD k 0 = item at *
 have b11 := b9.ext e10
 have b11 : Blk H11 H.size t_sl_int [.slice t.p t.n t.c] := b1.ext (((e2.trans e3).trans e38).trans e11)
 obtain ⟨a, hpa, hra⟩ := Ints.atN (hS.ext x11) hitem
 have hsz := hI.2 _ (getD_mem' (l := S) (k := item) 0 hitem)
 obtain ⟨al, lowl, hll⟩ := plI_asc S _ _ _ _ hpl am vm.low
 dsimp only at al lowl hll
 have hml := vm.1
 refine ⟨by omega, by omega, _, hrd, t, b11.rd0 rfl, by omega, by omega, unSome_mk hpa ⟨_, hra, (take_spec H11 left l _ H8.size o11 e11.size hsz al lowl (by simp at hll; omega)).mono ?_⟩⟩
 rintro v H12 ⟨b, x, ok, rfl, hok⟩
 have hPe : (2 : Int) ^ (S.getD item 0).toNat = 2 ^ szOf S item := rfl
 rw [hPe] at hok
 refine ⟨b, x, ok, rfl, iteB_not (fun d1 => ?_) (fun d1 => ?_)⟩
 · -- no room
  rcases hok with ⟨_, ht, e12⟩ | ⟨h1, _⟩
  rotate_left
  ·rw [h1] at d1; cases d1
  have x12 := x11.trans e12
  have b12 := b11.ext e12
  have hpv2 : placeV free S = (19, [], certF (mergeF free) S 44) := by
   rw [hpv, hrest, plI_append, hpl]
   simp only [Option.bind_some, plI, ht]
  refine ⟨t, b12.rd0 rfl, (merged_spec H12 s free (h.ext x12) hv).mono ?_⟩
  rintro v H13 ⟨m, rfl, o13, e13⟩
  have x13 := x12.trans e13
  refine ⟨m, rfl, e13.keeps, (certificate_spec H13 m t (mergeF free) S (Own.is rkRange o13) (hS.ext x13) hI vm am).mono ?_⟩
  rintro v H14 ⟨rfl, e14⟩
  refine ⟨_, _, _, _, rfl, ?_⟩
  refine cert_wr (c0 := noCert) (c := certF (mergeF free) S 44) (K := fun v H' => PlaceN (placeV free S) H (.tuple #[.slice none 0 0, v, .int .i64 19]) H') (c11.ext ((e12.trans e13).trans e14)) (fun H' m' _ => ?_)
  rw [hpv2]
  exact ⟨⟨none, 0, 0⟩, rfl, IsS.nil _ _ _, (fun a ha => by cases ha), Mods.ext (x13.trans e14) m' (by simp; omega), NewP.none _⟩
 ·rcases hok with ⟨h1, _⟩ | ⟨_, l', ht, o12, m12⟩
  ·rw [h1] at d1; cases d1
  have hobn : H9.size ∉ blkOf left.p := by
   obtain ⟨_, ex, hbk⟩ := bb11
   have t1 : TyB H11 (some ⟨H9.size, 0, none⟩) t_uint64 := fun a ha => by cases ha; exact ⟨_, _, hbk⟩
   exact ty_ne t1 (own_ty o11) (by decide) ⟨H9.size, 0, none⟩ rfl
  have bb12 := RB.mods bb11 m12 hobn
  have e12 : Ext H8 H12 := Mods.ext e11 m12 (blkOf_new o11.new)
  refine ⟨by omega, by omega, RB.ok0 bb12 (by omega) (by omega), letH_mk ?_⟩
  intro H16 h16
  have bb16 : BsB H16 H9.size (bs.set item b) := by rw [h16]; exact BsB.set bb12 (by omega) b
  have m16 : Mods [H9.size] H12 H16 := by rw [h16]; exact mods_wr_add (by simp)
  clear h16
  have hnx : ∀ a, x.p = some a → a.block ∉ [H9.size] := fun a ha => by
   obtain ⟨_, ex, hbk⟩ := bb12
   have t1 : TyB H12 (some ⟨H9.size, 0, none⟩) t_uint64 := fun a ha => by cases ha; exact ⟨_, _, hbk⟩
   have := ty_ne (own_ty o12) t1 (by decide) a ha
   simpa [blkOf] using this
  refine next2 (by omega) (by omega) ⟨⟨l', bs.set item b, ?_, o12.mods m16 hnx, bb16⟩, Mods.ext e12 m16 (by simp; omega)⟩
  rw [htk, plI_append, hpl]
  simp only [Option.bind_some, plI, ht]

theorem Place_spec (H : Heap) (s t : Sl) (free : List Rg) (S : List Int) (h : Rgs H s free) (hu : U64L free) (hS : Ints .i64 H t S) :
  CallsH Tryz.prog n_allocate_Place #[.slice s.p s.n s.c, .slice t.p t.n t.c] H (PlaceP (placeV free S) H) := (PlaceN_spec H s t free S h hu hS).mono (fun _ _ ⟨o, h1, h2, h3, h4, _⟩ => ⟨o, h1, h2, h3, h4⟩)

end Go.Proofs.YtigcheamheiopaaGreat
