/-
 Assignments in memory: the contracts of the reference's at, place.
-/
import Derived.Test.YtnhhncjflnlfaaaGreatM5
import Derived.Test.YtnhhncjflnlfaaaGreatJR
namespace Go.Proofs.YtnhhncjflnlfaaaGreat
open Go.Eng
set_option linter.unusedVariables false

abbrev Asg := Need × Int
def encA (x : Asg) : List Value := [.int .i64 x.1.1, .int .i64 x.1.2.1, .int .i64 x.1.2.2.1, .int .i64 x.1.2.2.2, .int .u64 x.2]
theorem encA_len (x : Asg) : (encA x).length = 5 := rfl
theorem encA_one (x : Asg) : ∀ u ∈ encA x, oneC u = true := fun u hu => by simp [encA] at hu; rcases hu with rfl | rfl | rfl | rfl | rfl <;> rfl
theorem rkAsg : RK Tryz.prog t_33 t_32 (.agg #[.int .i64 0, .int .i64 0, .int .i64 0, .int .i64 0, .int .u64 0]) 5 40 encA := ⟨by kernel_rfl, by kernel_rfl, rfl, by omega, by omega, encA_len, encA_one⟩

def nq (f ix : Int) (x : Need) : Bool := decide (x.1 = f /\ x.2.1 = ix)
def atN (N : List Need) (f ix : Int) : Option Nat := N.findIdx? (nq f ix)
def atI (N : List Need) (f ix : Int) : Int := match atN N f ix with | some i => (i : Int) | none => -1
theorem atN_some {N : List Need} {f ix : Int} {k : Nat} (hk : k < N.length) (hq : nq f ix (N.getD k (0, 0, 0, 0)) = true) (hlt : ∀ j, j < k -> nq f ix (N.getD j (0, 0, 0, 0)) = false) : atN N f ix = some k := by
 unfold atN
 rw [List.findIdx?_eq_some_iff_getElem]
 refine ⟨hk, by simpa [List.getD, hk] using hq, fun j hj => ?_⟩
 have := hlt j hj
 have hjl : j < N.length := by omega
 simp only [List.getD, List.getElem?_eq_getElem hjl, Option.getD_some] at this
 rw [this]; simp
theorem atN_none {N : List Need} {f ix : Int} (h : ∀ j, j < N.length -> nq f ix (N.getD j (0, 0, 0, 0)) = false) : atN N f ix = none := by
 unfold atN
 rw [List.findIdx?_eq_none_iff]
 intro x hx
 have := all_of_getD (Q := fun x => nq f ix x = false) (0, 0, 0, 0) h x hx
 exact this
theorem atN_spec {N : List Need} {f ix : Int} {k : Nat} (h : atN N f ix = some k) : k < N.length /\ (N.getD k (0, 0, 0, 0)).1 = f /\ (N.getD k (0, 0, 0, 0)).2.1 = ix := by
 unfold atN at h
 rw [List.findIdx?_eq_some_iff_getElem] at h
 obtain ⟨hk, hq, _⟩ := h
 have : N.getD k (0, 0, 0, 0) = N[k] := by simp [List.getD, hk]
 rw [this]
 unfold nq at hq
 rw [decide_eq_true_eq] at hq
 exact ⟨hk, hq⟩

theorem rat_spec (H : Heap) (s : Sl) (A : List Asg) (f ix : Int) (h : IsS 5 encA H s A) (hl : A.length <= 100000) :
  CallsH Tryz.prog n_63 #[.slice s.p s.n s.c, .int .i64 f, .int .i64 ix] H (fun v H' => v = .int .i64 (atI (A.map Prod.fst) f ix) /\ H' = H) := by
 refine F_63_ok _ _ _ ?_
 unfold F_63
 have hn := h.len
 have hgm : ∀ j, j < A.length -> (A.map Prod.fst).getD j (0, 0, 0, 0) = (A.getD j ((0, 0, 0, 0), 0)).1 := fun j hj => by simp [List.getD, hj]
 refine loop1 A.length (fun k H' => H' = H /\ ∀ j, j < k -> nq f ix ((A.map Prod.fst).getD j (0, 0, 0, 0)) = false) ⟨rfl, fun j hj => by omega⟩ ?_
 rintro k H1 hk ⟨rfl, hno⟩
 unfold F_63_r1
 refine iteB_dec (fun c => ?_) (fun c => ⟨?_, rfl⟩)
 ·have hkn : k < A.length := by omega
  obtain ⟨a, hp, hr⟩ := IsS.atN h ((0, 0, 0, 0), 0) hkn
  have hg := hgm k hkn
  generalize A.getD k ((0, 0, 0, 0), 0) = x at *
  obtain ⟨⟨x0, x1, x2, x3⟩, x4⟩ := x
  have skip : nq f ix (x0, x1, x2, x3) = false -> CI A.length (fun k H' => H' = H1 /\ ∀ j, j < k -> nq f ix ((A.map Prod.fst).getD j (0, 0, 0, 0)) = false) (IntKind.i64.wrap ((k : Int) + 1)) H1 /\ CM A.length (IntKind.i64.wrap ((k : Int) + 1)) H1 < CM A.length (k : Int) H1 := fun hq => next1 hkn (by omega) ⟨rfl, fun j hj => by
   by_cases e : j = k
   ·subst e; rw [hg]; exact hq
   ·exact hno j (by omega)⟩
  refine ⟨by omega, by omega, unSome_mk hp ⟨x0, hr 0 _ rfl, iteB_beq (fun d => ⟨by omega, by omega, unSome_mk hp ⟨x1, hr 1 _ rfl, iteB_beq (fun d1 => ⟨?_, rfl⟩) (fun d1 => letV_mk _ rfl (skip ?_))⟩⟩) (fun d => letV_mk _ rfl (skip ?_))⟩⟩
  ·unfold atI
   rw [atN_some (k := k) (by simpa using hkn) (by rw [hg]; unfold nq; exact decide_eq_true ⟨d, d1⟩) hno]
  ·unfold nq; exact decide_eq_false (fun hh => d1 hh.2)
  ·unfold nq; exact decide_eq_false (fun hh => d hh.1)
 ·unfold atI
  rw [atN_none (fun j hj => hno j (by simp at hj; omega))]

def setB (N : List Need) (B : List Int) (l : List (Need × Int)) : List Int := l.foldl (fun B x => B.set ((atN N x.1.1 x.1.2.1).getD 0) x.2) B
theorem setB_len (N : List Need) : ∀ (l : List (Need × Int)) (B : List Int), (setB N B l).length = B.length
 | [], B => rfl
 | x :: l, B => by
  have := setB_len N l (B.set ((atN N x.1.1 x.1.2.1).getD 0) x.2)
  rw [List.length_set] at this
  exact this
theorem setB_snoc (N : List Need) (B : List Int) (l : List (Need × Int)) (x : Need × Int) : setB N B (l ++ [x]) = (setB N B l).set ((atN N x.1.1 x.1.2.1).getD 0) x.2 := by
 unfold setB; rw [List.foldl_append]; rfl

def sizesOf (L : List Need) : List Int := L.map (fun x => x.2.2.2)
def plS (T : List FS) (N : List Need) (B : List Int) (p c : Int) (free : List Rg) : Int × Cert × List Int :=
 ((placeV free (sizesOf (belF T N p c))).1, (if (placeV free (sizesOf (belF T N p c))).1 = 0 then noCert else (c, (placeV free (sizesOf (belF T N p c))).2.2.2)), setB N B ((belF T N p c).zip (placeV free (sizesOf (belF T N p c))).2.1))

structure AsB (H : Heap) (g : Nat) (N : List Need) (B : List Int) : Prop where
 rb : RB H g t_32 5 encA (N.zip B)
 cs : CS H g (N.length * 5)
theorem AsB.ext {H H' : Heap} {g : Nat} {N : List Need} {B : List Int} (h : AsB H g N B) (e : Ext H H') : AsB H' g N B := ⟨RB.ext h.rb e, h.cs.ext e⟩
theorem AsB.mods {H H' : Heap} {g : Nat} {N : List Need} {B : List Int} {S : List Nat} (h : AsB H g N B) (m : Mods S H H') (hn : g ∉ S) : AsB H' g N B := ⟨RB.mods h.rb m hn, h.cs.mods m hn⟩

theorem zip_fst {N : List Need} {B : List Int} (h : B.length = N.length) : (N.zip B).map Prod.fst = N := by
 apply List.map_fst_zip
 omega
theorem zip_len {N : List Need} {B : List Int} (h : B.length = N.length) : (N.zip B).length = N.length := by simp; omega
theorem zip_set {N : List Need} {B : List Int} (j : Nat) (v : Int) (h : B.length = N.length) (hj : j < N.length) : (N.zip B).set j (N.getD j (0, 0, 0, 0), v) = N.zip (B.set j v) := by
 apply List.ext_getElem?
 intro i
 rw [List.getElem?_set]
 by_cases e : j = i
 ·subst e
  rw [if_pos rfl, if_pos (by rw [zip_len h]; exact hj)]
  exact ((List.getElem?_zip_eq_some (z := (N.getD j (0, 0, 0, 0), v))).2 ⟨getD_get (0, 0, 0, 0) hj, by rw [List.getElem?_set_self (by omega)]⟩).symm
 ·rw [if_neg e]
  simp only [List.zip, List.getElem?_zipWith, List.getElem?_set_ne e]
theorem zip_getD {N : List Need} {B : List Int} {j : Nat} (h : B.length = N.length) (hj : j < N.length) : (N.zip B)[j]? = some (N.getD j (0, 0, 0, 0), B.getD j 0) :=
 (List.getElem?_zip_eq_some (z := (N.getD j (0, 0, 0, 0), B.getD j 0))).2 ⟨getD_get (0, 0, 0, 0) hj, getD_get 0 (by omega)⟩

theorem AsB.set {H : Heap} {g : Nat} {N : List Need} {B : List Int} (h : AsB H g N B) (hl : B.length = N.length) {j : Nat} (hj : j < N.length) (v : Int) :
  okRow H (((⟨g, 0, none⟩ : Addr).add (j * 5)).add 4) 1 /\ AsB (wrs H (((⟨g, 0, none⟩ : Addr).add (j * 5)).add 4) [.int .u64 v]) g N (B.set j v) := by
 refine ⟨RB.ok h.rb (by rw [zip_len hl]; exact hj) (by omega), ?_⟩
 have := RB.wr h.rb (i := j) (j := 4) (x := (N.getD j (0, 0, 0, 0), B.getD j 0)) (y := (N.getD j (0, 0, 0, 0), v)) (v := .int .u64 v) (zip_getD hl hj) (by omega) rfl
 rw [zip_set j v hl hj] at this
 exact ⟨this, h.cs.wrs _ _⟩

theorem mods_wr2 {b : Nat} {H : Heap} {i j : Nat} {vs : List Value} : Mods [b] H (wrs H (((⟨b, 0, none⟩ : Addr).add i).add j) vs) := by
 rw [add_add']; exact mods_wr_add (by simp)

theorem belF_sub {T : List FS} {N : List Need} {p c : Int} : ∀ x ∈ belF T N p c, x ∈ N := fun x hx => by
 unfold belF at hx
 split at hx
 ·exact (List.mem_filter.1 hx).1
 ·cases hx
theorem belF_len (T : List FS) (N : List Need) (p c : Int) : (belF T N p c).length <= N.length := by
 unfold belF
 split
 ·exact List.length_filter_le _ _
 ·simp
theorem atN_of_mem {N : List Need} {x : Need} (h : x ∈ N) : ∃ j, atN N x.1 x.2.1 = some j := by
 cases hq : atN N x.1 x.2.1 with
 | some j => exact ⟨j, rfl⟩
 | none =>
  unfold atN at hq
  rw [List.findIdx?_eq_none_iff] at hq
  have := hq x h
  unfold nq at this
  simp at this

theorem placeV_len (free : List Rg) (S : List Int) : (placeV free S).2.1.length <= S.length /\ ((placeV free S).1 = 0 -> (placeV free S).2.1.length = S.length) := by
 unfold placeV
 split
 ·cases hp : plI S (ordF S) (mergeF free) (List.replicate S.length 0) with
  | none => simp
  | some x =>
   obtain ⟨l, bs⟩ := x
   have := plI_len S _ _ _ _ hp
   simp at this
   simp [this]
 ·simp

theorem rplace_spec (T : List FS) (s ns fs : Sl) (N : List Need) (B : List Int) (p c : Int) (free : List Rg) (g na : Nat) (H : Heap) (hna : na = N.length) (hT : Topo H s T) (hN : IsS 4 encN H ns N) (hA : AsB H g N B) (hBl : B.length = N.length) (hNl : N.length <= 1000) (hf : Rgs H fs free) (hu : U64L free) :
  CallsH Tryz.prog n_62 #[.slice s.p s.n s.c, .slice (some ⟨g, 0, none⟩) na na, .slice ns.p ns.n ns.c, .int .i64 p, .int .i64 c, .slice fs.p fs.n fs.c] H
   (fun v H' => v = .tuple #[certV (plS T N B p c free).2.1, .int .i64 (plS T N B p c free).1] /\ AsB H' g N (plS T N B p c free).2.2 /\ Mods [g] H H') := by
 subst hna
 refine F_62_ok s ⟨some ⟨g, 0, none⟩, N.length, N.length⟩ ns p c fs ?_
 unfold F_62
 have hgl : g < H.size := RB.lt hA.rb
 refine push_mk (vs := encC noCert) fun H1 e1 z1 b1 => (rBelow_spec T s ns N p c H1 (hT.ext e1) (hN.ext e1) (by omega)).mono ?_
 rintro v H2 ⟨bl, rfl, o2, n2, e2⟩
 have hbl := belF_len T N p c
 have hsub := belF_sub (T := T) (N := N) (p := p) (c := c)
 have x2 := e1.trans e2
 have is2 := Own.is rkNeed o2
 unfold plS
 generalize belF T N p c = bel at *
 refine ⟨bl, rfl, ?_⟩
 refine loop2 bel.length (fun k out H' => Own H2.size t_3 1 H' out ((sizesOf (bel.take k)).flatMap (encI .i64)) /\ Ext H2 H') ⟨Own.nil _ _ _ _, .refl _⟩ ?_
 rintro k ss H3 hk ⟨o3, e3⟩
 unfold F_62_r2
 have n3 := Own.len rkInt o3
 have hsl : (sizesOf (bel.take k)).length <= k := by unfold sizesOf; simp; omega
 refine iteB_dec (fun d => ?_) (fun d => ?_)
 ·have hkn : k < bel.length := by omega
  obtain ⟨a, hp, hr⟩ := IsS.atN (is2.ext e3) (0, 0, 0, 0) hkn
  have htk := take_succ_d (0, 0, 0, 0) hkn
  refine ⟨by omega, by omega, unSome_mk hp ⟨_, hr 3 _ rfl, ?_⟩⟩
  refine apR rkInt ((bel.getD k (0, 0, 0, 0)).2.2.2) (lo := H2.size) o3 (by omega) e3.size ?_
  intro s' H5 ho hn5 m5
  refine letV_mk _ rfl (next2 hkn (by omega) ⟨?_, Mods.ext e3 m5 (blkOf_new o3.new)⟩)
  rw [htk]
  unfold sizesOf at ho ⊢
  rw [List.map_append]
  exact ho
 obtain rfl : k = bel.length := by omega
 rw [List.take_length] at o3
 have x3 := x2.trans e3
 refine (rPlace_spec H3 fs ss free (sizesOf bel) (hf.ext x3) hu (Own.is rkInt o3)).mono ?_
 rintro v H6 ⟨xs, rfl, hxs, txs, e6⟩
 have hpl := placeV_len free (sizesOf bel)
 have hslen : (sizesOf bel).length = bel.length := by unfold sizesOf; simp
 generalize placeV free (sizesOf bel) = pv at *
 obtain ⟨e, bs, ce⟩ := pv
 dsimp only at hxs hpl ⊢
 have x6 := x3.trans e6
 refine ⟨xs, _, _, _, _, _, rfl, local_mk (vs := encC ce) rfl rfl fun H8 e8 z8 b8 => ⟨b8.ok0 (by simp), letH_mk ?_⟩⟩
 intro H9 h9
 have b9 : Blk H9 H6.size t_39 (encC (c, ce.2)) := by rw [h9]; exact b8.wr
 have m9 : Mods [H6.size] H8 H9 := by rw [h9]; exact Mods.wrs (by simp)
 clear h9
 have e89 : Ext H6 H9 := Mods.ext e8 m9 (by simp)
 have hz6 : H.size <= H6.size := x6.size
 have hz1 : H.size < H6.size := by have := (e2.trans e3).size; have := e6.size; omega
 have x9 := x6.trans e89
 have hbsn := hxs.len
 refine loop1 bs.length (fun k H' => AsB H' g N (setB N B ((bel.zip bs).take k)) /\ Mods [g] H9 H') ⟨hA.ext x9, Mods.refl _ _⟩ ?_
 rintro k H10 hk ⟨a10, m10⟩
 unfold F_62_r1
 have gH9 : g < H9.size := Nat.lt_of_lt_of_le hgl x9.size
 have ty9 : TyB H9 (some ⟨g, 0, none⟩) t_32 := by
  obtain ⟨_, ex, hbk⟩ := (hA.ext x9).rb
  intro a ha; cases ha; exact ⟨_, _, hbk⟩
 have offg : ∀ {q : Option Addr} {ty : TypeId}, ty ≠ t_32 -> TyB H9 q ty -> ∀ a, q = some a -> a.block ∉ [g] := fun {q ty} hne hq a ha => by
  have := ty_ne hq ty9 hne a ha
  simpa [blkOf] using this
 have b10 : Blk H10 H6.size t_39 (encC (c, ce.2)) := b9.mods m10 (by simp; omega)
 have c1 : Blk H10 H.size t_39 (encC noCert) := ((((b1.ext e2).ext e3).ext e6).ext e89).mods m10 (by simp; omega)
 refine iteB_dec (fun d1 => ?_) (fun d1 => ?_)
 ·have hkn : k < bs.length := by omega
  have hkb : k < bel.length := by omega
  have isb9 := ((is2.ext e3).ext e6).ext e89
  have isb10 : IsS 4 encN H10 bl bel := isb9.mods m10 (offg (by decide) (own_ty ((((o2.ext e3)).ext e6).ext e89)))
  have isx10 : IsS 1 (encI .u64) H10 xs bs := (hxs.ext e89).mods m10 (offg (by decide) (txs.mods (S := []) e89.mods (by simp)))
  obtain ⟨a, hp, hr⟩ := IsS.atN isb10 (0, 0, 0, 0) hkb
  obtain ⟨q, hq, hrq⟩ := Ints.atN isx10 hkn
  obtain ⟨j, hj⟩ := atN_of_mem (hsub _ (getD_mem' (0, 0, 0, 0) hkb))
  obtain ⟨hjN, _, _⟩ := atN_spec hj
  have hBl10 : (setB N B ((bel.zip bs).take k)).length = N.length := by rw [setB_len]; exact hBl
  have isA : IsS 5 encA H10 ⟨some ⟨g, 0, none⟩, N.length, N.length⟩ (N.zip (setB N B ((bel.zip bs).take k))) := RB.isS a10.rb _ _ (zip_len hBl10).symm
  have hzk : k < (bel.zip bs).length := by simp; omega
  have htk := take_succ_d ((0, 0, 0, 0), 0) hzk
  have hzg : (bel.zip bs).getD k ((0, 0, 0, 0), 0) = (bel.getD k (0, 0, 0, 0), bs.getD k 0) := by
   have := (List.getElem?_zip_eq_some (z := (bel.getD k (0, 0, 0, 0), bs.getD k 0))).2 ⟨getD_get (0, 0, 0, 0) hkb, getD_get 0 hkn⟩
   simp only [List.getD, this, Option.getD_some]
  rw [hzg] at htk
  generalize bel.getD k (0, 0, 0, 0) = x at *
  obtain ⟨x0, x1, x2, x3⟩ := x
  refine ⟨by omega, by omega, unSome_mk hp ⟨x0, hr 0 _ rfl, by omega, by omega, unSome_mk hp ⟨x1, hr 1 _ rfl, by omega, by omega, unSome_mk hq ⟨_, hrq, ?_⟩⟩⟩⟩
  refine (rat_spec H10 ⟨some ⟨g, 0, none⟩, N.length, N.length⟩ _ x0 x1 isA (by rw [zip_len hBl10]; omega)).mono ?_
  rintro v H11 ⟨rfl, rfl⟩
  have hat : atI ((N.zip (setB N B ((bel.zip bs).take k))).map Prod.fst) x0 x1 = (j : Int) := by
   rw [zip_fst hBl10]
   unfold atI
   rw [show atN N x0 x1 = some j from hj]
  rw [hat]
  obtain ⟨hok, hset⟩ := AsB.set a10 hBl10 hjN (bs.getD k 0)
  refine ⟨_, rfl, .refl _ _, by omega, by show (j : Int) < (N.length : Int); omega, unSome_mk rfl ⟨?_, letH_mk ?_⟩⟩
  ·rw [Int.toNat_natCast]; exact hok
  ·rw [Int.toNat_natCast]
   rintro H12 rfl
   refine letV_mk _ rfl (next1 hkn (by omega) ⟨?_, m10.trans mods_wr2⟩)
   rw [htk, setB_snoc]
   show AsB _ g N ((setB N B ((bel.zip bs).take k)).set ((atN N x0 x1).getD 0) (bs.getD k 0))
   rw [show atN N x0 x1 = some j from hj]
   exact hset
 ·obtain rfl : k = bs.length := by omega
  have htk : (bel.zip bs).take bs.length = bel.zip bs := List.take_of_length_le (by simp; omega)
  rw [htk] at a10
  have fin : ∀ H13, Mods [H6.size, H.size] H10 H13 -> AsB H13 g N (setB N B (bel.zip bs)) /\ Mods [g] H H13 := fun H13 m13 => by
   refine ⟨a10.mods m13 (by simp; omega), ?_⟩
   have h1 : Mods [g] H H10 := (x9.mods).trans m10
   exact h1.newer m13 (fun t ht => by simp at ht; left; omega)
  refine iteB_beq (fun d2 => ⟨b10.ok0 (by simp), letH_mk ?_⟩) (fun d2 => ?_)
  ·intro H13 h13
   have b13 : Blk H13 H6.size t_39 (encC noCert) := by rw [h13]; exact b10.wr
   have m13 : Mods [H6.size, H.size] H10 H13 := by rw [h13]; exact Mods.wrs (by simp)
   have c13 : Blk H13 H.size t_39 (encC noCert) := by rw [h13]; exact c1.wr_ne (by show H.size ≠ H6.size; omega)
   clear h13
   refine ⟨_, b13.rd0 rfl, _, b13.rd (i := 1) rfl, _, b13.rd (i := 2) rfl, _, b13.rd (i := 3) rfl, ?_⟩
   refine cert_wr (c := noCert) (K := fun v H' => (.tuple #[v, .int .i64 e] : Value) = .tuple #[certV (if e = 0 then noCert else (c, ce.2)), .int .i64 e] /\ AsB H' g N (setB N B (bel.zip bs)) /\ Mods [g] H H') c13 (fun H' m' _ => ?_)
   rw [if_pos d2]
   exact ⟨rfl, fin H' (m13.trans (m'.mono (by simp)))⟩
  ·refine ⟨_, b10.rd0 rfl, _, b10.rd (i := 1) rfl, _, b10.rd (i := 2) rfl, _, b10.rd (i := 3) rfl, ?_⟩
   refine cert_wr (c := (c, ce.2)) (K := fun v H' => (.tuple #[v, .int .i64 e] : Value) = .tuple #[certV (if e = 0 then noCert else (c, ce.2)), .int .i64 e] /\ AsB H' g N (setB N B (bel.zip bs)) /\ Mods [g] H H') c1 (fun H' m' _ => ?_)
   rw [if_neg d2]
   exact ⟨rfl, fin H' (m'.mono (by simp))⟩

end Go.Proofs.YtnhhncjflnlfaaaGreat
