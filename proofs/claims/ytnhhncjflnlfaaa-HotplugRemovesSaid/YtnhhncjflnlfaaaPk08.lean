import Derived.Test.YtnhhncjflnlfaaaPk07

section
/-
  Assignments in memory: the contracts of the reference's at, place.
-/
namespace Go.Proofs.Ytnhhncjflnlfaaa
open Go.Eng
set_option linter.unusedVariables false

abbrev Asg := Need × Int
def encA (x : Asg) : List Value := [.int .i64 x.1.1, .int .i64 x.1.2.1, .int .i64 x.1.2.2.1, .int .i64 x.1.2.2.2, .int .u64 x.2]
theorem encA_len (x : Asg) : (encA x).length = 5 := rfl
theorem encA_one (x : Asg) : ∀ u ∈ encA x, oneC u = true := fun u hu => by simp [encA] at hu; rcases hu with rfl | rfl | rfl | rfl | rfl <;> rfl
theorem rkAsg : RK Try.prog t_sl_api_Assignment t_api_Assignment (.agg #[.int .i64 0, .int .i64 0, .int .i64 0, .int .i64 0, .int .u64 0]) 5 40 encA := ⟨by kernel_rfl, by kernel_rfl, rfl, by omega, by omega, encA_len, encA_one⟩

def nq (f ix : Int) (x : Need) : Bool := decide (x.1 = f ∧ x.2.1 = ix)
/-- Where the need with this function and index stands. -/
def atN (N : List Need) (f ix : Int) : Option Nat := N.findIdx? (nq f ix)
def atI (N : List Need) (f ix : Int) : Int := match atN N f ix with | some i => (i : Int) | none => -1
theorem atN_some {N : List Need} {f ix : Int} {k : Nat} (hk : k < N.length) (hq : nq f ix (N.getD k (0, 0, 0, 0)) = true) (hlt : ∀ j, j < k → nq f ix (N.getD j (0, 0, 0, 0)) = false) : atN N f ix = some k := by
  unfold atN
  rw [List.findIdx?_eq_some_iff_getElem]
  refine ⟨hk, by simpa [List.getD, hk] using hq, fun j hj => ?_⟩
  have := hlt j hj
  have hjl : j < N.length := by omega
  simp only [List.getD, List.getElem?_eq_getElem hjl, Option.getD_some] at this
  rw [this]; simp
theorem atN_none {N : List Need} {f ix : Int} (h : ∀ j, j < N.length → nq f ix (N.getD j (0, 0, 0, 0)) = false) : atN N f ix = none := by
  unfold atN
  rw [List.findIdx?_eq_none_iff]
  intro x hx
  have := all_of_getD (Q := fun x => nq f ix x = false) (0, 0, 0, 0) h x hx
  exact this
theorem atN_spec {N : List Need} {f ix : Int} {k : Nat} (h : atN N f ix = some k) : k < N.length ∧ (N.getD k (0, 0, 0, 0)).1 = f ∧ (N.getD k (0, 0, 0, 0)).2.1 = ix := by
  unfold atN at h
  rw [List.findIdx?_eq_some_iff_getElem] at h
  obtain ⟨hk, hq, _⟩ := h
  have : N.getD k (0, 0, 0, 0) = N[k] := by simp [List.getD, hk]
  rw [this]
  unfold nq at hq
  rw [decide_eq_true_eq] at hq
  exact ⟨hk, hq⟩

theorem rat_spec (H : Heap) (s : Sl) (A : List Asg) (f ix : Int) (h : IsS 5 encA H s A) (hl : A.length ≤ 100000) :
    CallsH Try.prog n_ref21_at #[.slice s.p s.n s.c, .int .i64 f, .int .i64 ix] H (fun v H' => v = .int .i64 (atI (A.map Prod.fst) f ix) ∧ H' = H) := by
  refine F_ref21_at_ok _ _ _ ?_
  unfold F_ref21_at
  have hn := h.len
  have hgm : ∀ j, j < A.length → (A.map Prod.fst).getD j (0, 0, 0, 0) = (A.getD j ((0, 0, 0, 0), 0)).1 := fun j hj => by simp [List.getD, hj]
  refine loop1 A.length (fun k H' => H' = H ∧ ∀ j, j < k → nq f ix ((A.map Prod.fst).getD j (0, 0, 0, 0)) = false) ⟨rfl, fun j hj => by omega⟩ ?_
  rintro k H1 hk ⟨rfl, hno⟩
  unfold F_ref21_at_r1
  refine iteB_dec (fun c => ?_) (fun c => ⟨?_, rfl⟩)
  · have hkn : k < A.length := by omega
    obtain ⟨a, hp, hr⟩ := IsS.atN h ((0, 0, 0, 0), 0) hkn
    have hg := hgm k hkn
    generalize A.getD k ((0, 0, 0, 0), 0) = x at *
    obtain ⟨⟨x0, x1, x2, x3⟩, x4⟩ := x
    have skip : nq f ix (x0, x1, x2, x3) = false → CI A.length (fun k H' => H' = H1 ∧ ∀ j, j < k → nq f ix ((A.map Prod.fst).getD j (0, 0, 0, 0)) = false) (IntKind.i64.wrap ((k : Int) + 1)) H1 ∧ CM A.length (IntKind.i64.wrap ((k : Int) + 1)) H1 < CM A.length (k : Int) H1 := fun hq => next1 hkn (by omega) ⟨rfl, fun j hj => by
      by_cases e : j = k
      · subst e; rw [hg]; exact hq
      · exact hno j (by omega)⟩
    refine ⟨by omega, by omega, unSome_mk hp ⟨x0, hr 0 _ rfl, iteB_beq (fun d => ⟨by omega, by omega, unSome_mk hp ⟨x1, hr 1 _ rfl, iteB_beq (fun d1 => ⟨?_, rfl⟩) (fun d1 => letV_mk _ rfl (skip ?_))⟩⟩) (fun d => letV_mk _ rfl (skip ?_))⟩⟩
    · unfold atI
      rw [atN_some (k := k) (by simpa using hkn) (by rw [hg]; unfold nq; exact decide_eq_true ⟨d, d1⟩) hno]
    · unfold nq; exact decide_eq_false (fun hh => d1 hh.2)
    · unfold nq; exact decide_eq_false (fun hh => d hh.1)
  · unfold atI
    rw [atN_none (fun j hj => hno j (by simp at hj; omega))]

/-- Bases written at the places of these needs. -/
def setB (N : List Need) (B : List Int) (l : List (Need × Int)) : List Int := l.foldl (fun B x => B.set ((atN N x.1.1 x.1.2.1).getD 0) x.2) B
theorem setB_len (N : List Need) : ∀ (l : List (Need × Int)) (B : List Int), (setB N B l).length = B.length
  | [], B => rfl
  | x :: l, B => by
    have := setB_len N l (B.set ((atN N x.1.1 x.1.2.1).getD 0) x.2)
    rw [List.length_set] at this
    exact this
theorem setB_snoc (N : List Need) (B : List Int) (l : List (Need × Int)) (x : Need × Int) : setB N B (l ++ [x]) = (setB N B l).set ((atN N x.1.1 x.1.2.1).getD 0) x.2 := by
  unfold setB; rw [List.foldl_append]; rfl

def sizesOf (L : List Need) : List Int := L.map (fun x => x.2.2.2)
/-- Placing the needs of a class below a bridge. -/
def plS (T : List FS) (N : List Need) (B : List Int) (p c : Int) (free : List Rg) : Int × Cert × List Int :=
  ((placeV free (sizesOf (belF T N p c))).1, (if (placeV free (sizesOf (belF T N p c))).1 = 0 then noCert else (c, (placeV free (sizesOf (belF T N p c))).2.2.2)), setB N B ((belF T N p c).zip (placeV free (sizesOf (belF T N p c))).2.1))

structure AsB (H : Heap) (g : Nat) (N : List Need) (B : List Int) : Prop where
  rb : RB H g t_api_Assignment 5 encA (N.zip B)
  cs : CS H g (N.length * 5)
theorem AsB.ext {H H' : Heap} {g : Nat} {N : List Need} {B : List Int} (h : AsB H g N B) (e : Ext H H') : AsB H' g N B := ⟨RB.ext h.rb e, h.cs.ext e⟩
theorem AsB.mods {H H' : Heap} {g : Nat} {N : List Need} {B : List Int} {S : List Nat} (h : AsB H g N B) (m : Mods S H H') (hn : g ∉ S) : AsB H' g N B := ⟨RB.mods h.rb m hn, h.cs.mods m hn⟩

theorem zip_fst {N : List Need} {B : List Int} (h : B.length = N.length) : (N.zip B).map Prod.fst = N := by
  apply List.map_fst_zip
  omega
theorem zip_len {N : List Need} {B : List Int} (h : B.length = N.length) : (N.zip B).length = N.length := by simp; omega
theorem zip_set {N : List Need} {B : List Int} (j : Nat) (v : Int) (h : B.length = N.length) (hj : j < N.length) : (N.zip B).set j (N.getD j (0, 0, 0, 0), v) = N.zip (B.set j v) := by
  apply List.ext_getElem?
  intro i
  rw [List.getElem?_set]
  by_cases e : j = i
  · subst e
    rw [if_pos rfl, if_pos (by rw [zip_len h]; exact hj)]
    exact ((List.getElem?_zip_eq_some (z := (N.getD j (0, 0, 0, 0), v))).2 ⟨getD_get (0, 0, 0, 0) hj, by rw [List.getElem?_set_self (by omega)]⟩).symm
  · rw [if_neg e]
    simp only [List.zip, List.getElem?_zipWith, List.getElem?_set_ne e]
theorem zip_getD {N : List Need} {B : List Int} {j : Nat} (h : B.length = N.length) (hj : j < N.length) : (N.zip B)[j]? = some (N.getD j (0, 0, 0, 0), B.getD j 0) :=
  (List.getElem?_zip_eq_some (z := (N.getD j (0, 0, 0, 0), B.getD j 0))).2 ⟨getD_get (0, 0, 0, 0) hj, getD_get 0 (by omega)⟩

/-- The base of a need is written. -/
theorem AsB.set {H : Heap} {g : Nat} {N : List Need} {B : List Int} (h : AsB H g N B) (hl : B.length = N.length) {j : Nat} (hj : j < N.length) (v : Int) :
    okRow H (((⟨g, 0, none⟩ : Addr).add (j * 5)).add 4) 1 ∧ AsB (wrs H (((⟨g, 0, none⟩ : Addr).add (j * 5)).add 4) [.int .u64 v]) g N (B.set j v) := by
  refine ⟨RB.ok h.rb (by rw [zip_len hl]; exact hj) (by omega), ?_⟩
  have := RB.wr h.rb (i := j) (j := 4) (x := (N.getD j (0, 0, 0, 0), B.getD j 0)) (y := (N.getD j (0, 0, 0, 0), v)) (v := .int .u64 v) (zip_getD hl hj) (by omega) rfl
  rw [zip_set j v hl hj] at this
  exact ⟨this, h.cs.wrs _ _⟩

theorem mods_wr2 {b : Nat} {H : Heap} {i j : Nat} {vs : List Value} : Mods [b] H (wrs H (((⟨b, 0, none⟩ : Addr).add i).add j) vs) := by
  rw [add_add']; exact mods_wr_add (by simp)

theorem belF_sub {T : List FS} {N : List Need} {p c : Int} : ∀ x ∈ belF T N p c, x ∈ N := fun x hx => by
  unfold belF at hx
  split at hx
  · exact (List.mem_filter.1 hx).1
  · cases hx
theorem belF_len (T : List FS) (N : List Need) (p c : Int) : (belF T N p c).length ≤ N.length := by
  unfold belF
  split
  · exact List.length_filter_le _ _
  · simp
theorem atN_of_mem {N : List Need} {x : Need} (h : x ∈ N) : ∃ j, atN N x.1 x.2.1 = some j := by
  cases hq : atN N x.1 x.2.1 with
  | some j => exact ⟨j, rfl⟩
  | none =>
    unfold atN at hq
    rw [List.findIdx?_eq_none_iff] at hq
    have := hq x h
    unfold nq at this
    simp at this

theorem placeV_len (free : List Rg) (S : List Int) : (placeV free S).2.1.length ≤ S.length ∧ ((placeV free S).1 = 0 → (placeV free S).2.1.length = S.length) := by
  unfold placeV
  split
  · cases hp : plI S (ordF S) (mergeF free) (List.replicate S.length 0) with
    | none => simp
    | some x =>
      obtain ⟨l, bs⟩ := x
      have := plI_len S _ _ _ _ hp
      simp at this
      simp [this]
  · simp

theorem rplace_spec (T : List FS) (s ns fs : Sl) (N : List Need) (B : List Int) (p c : Int) (free : List Rg) (g na : Nat) (H : Heap) (hna : na = N.length) (hT : Topo H s T) (hN : IsS 4 encN H ns N) (hA : AsB H g N B) (hBl : B.length = N.length) (hNl : N.length ≤ 1000) (hf : Rgs H fs free) (hu : U64L free) :
    CallsH Try.prog n_ref21_place #[.slice s.p s.n s.c, .slice (some ⟨g, 0, none⟩) na na, .slice ns.p ns.n ns.c, .int .i64 p, .int .i64 c, .slice fs.p fs.n fs.c] H
      (fun v H' => v = .tuple #[certV (plS T N B p c free).2.1, .int .i64 (plS T N B p c free).1] ∧ AsB H' g N (plS T N B p c free).2.2 ∧ Mods [g] H H') := by
  subst hna
  refine F_ref21_place_ok s ⟨some ⟨g, 0, none⟩, N.length, N.length⟩ ns p c fs ?_
  unfold F_ref21_place
  have hgl : g < H.size := RB.lt hA.rb
  refine push_mk (vs := encC noCert) fun H1 e1 z1 b1 => (rBelow_spec T s ns N p c H1 (hT.ext e1) (hN.ext e1) (by omega)).mono ?_
  rintro v H2 ⟨bl, rfl, o2, n2, e2⟩
  have hbl := belF_len T N p c
  have hsub := belF_sub (T := T) (N := N) (p := p) (c := c)
  have x2 := e1.trans e2
  have is2 := Own.is rkNeed o2
  unfold plS
  generalize belF T N p c = bel at *
  refine ⟨bl, rfl, ?_⟩
  refine loop2 bel.length (fun k out H' => Own H2.size t_int 1 H' out ((sizesOf (bel.take k)).flatMap (encI .i64)) ∧ Ext H2 H') ⟨Own.nil _ _ _ _, .refl _⟩ ?_
  rintro k ss H3 hk ⟨o3, e3⟩
  unfold F_ref21_place_r2
  have n3 := Own.len rkInt o3
  have hsl : (sizesOf (bel.take k)).length ≤ k := by unfold sizesOf; simp; omega
  refine iteB_dec (fun d => ?_) (fun d => ?_)
  · have hkn : k < bel.length := by omega
    obtain ⟨a, hp, hr⟩ := IsS.atN (is2.ext e3) (0, 0, 0, 0) hkn
    have htk := take_succ_d (0, 0, 0, 0) hkn
    refine ⟨by omega, by omega, unSome_mk hp ⟨_, hr 3 _ rfl, ?_⟩⟩
    refine apR rkInt ((bel.getD k (0, 0, 0, 0)).2.2.2) (lo := H2.size) o3 (by omega) e3.size ?_
    intro s' H5 ho hn5 m5
    refine letV_mk _ rfl (next2 hkn (by omega) ⟨?_, Mods.ext e3 m5 (blkOf_new o3.new)⟩)
    rw [htk]
    unfold sizesOf at ho ⊢
    rw [List.map_append]
    exact ho
  obtain rfl : k = bel.length := by omega
  rw [List.take_length] at o3
  have x3 := x2.trans e3
  refine (rPlace_spec H3 fs ss free (sizesOf bel) (hf.ext x3) hu (Own.is rkInt o3)).mono ?_
  rintro v H6 ⟨xs, rfl, hxs, txs, e6⟩
  have hpl := placeV_len free (sizesOf bel)
  have hslen : (sizesOf bel).length = bel.length := by unfold sizesOf; simp
  generalize placeV free (sizesOf bel) = pv at *
  obtain ⟨e, bs, ce⟩ := pv
  dsimp only at hxs hpl ⊢
  have x6 := x3.trans e6
  refine ⟨xs, _, _, _, _, _, rfl, local_mk (vs := encC ce) rfl rfl fun H8 e8 z8 b8 => ⟨b8.ok0 (by simp), letH_mk ?_⟩⟩
  intro H9 h9
  have b9 : Blk H9 H6.size t_api_Certificate (encC (c, ce.2)) := by rw [h9]; exact b8.wr
  have m9 : Mods [H6.size] H8 H9 := by rw [h9]; exact Mods.wrs (by simp)
  clear h9
  have e89 : Ext H6 H9 := Mods.ext e8 m9 (by simp)
  have hz6 : H.size ≤ H6.size := x6.size
  have hz1 : H.size < H6.size := by have := (e2.trans e3).size; have := e6.size; omega
  have x9 := x6.trans e89
  have hbsn := hxs.len
  refine loop1 bs.length (fun k H' => AsB H' g N (setB N B ((bel.zip bs).take k)) ∧ Mods [g] H9 H') ⟨hA.ext x9, Mods.refl _ _⟩ ?_
  rintro k H10 hk ⟨a10, m10⟩
  unfold F_ref21_place_r1
  have gH9 : g < H9.size := Nat.lt_of_lt_of_le hgl x9.size
  have ty9 : TyB H9 (some ⟨g, 0, none⟩) t_api_Assignment := by
    obtain ⟨_, ex, hbk⟩ := (hA.ext x9).rb
    intro a ha; cases ha; exact ⟨_, _, hbk⟩
  have offg : ∀ {q : Option Addr} {ty : TypeId}, ty ≠ t_api_Assignment → TyB H9 q ty → ∀ a, q = some a → a.block ∉ [g] := fun {q ty} hne hq a ha => by
    have := ty_ne hq ty9 hne a ha
    simpa [blkOf] using this
  have b10 : Blk H10 H6.size t_api_Certificate (encC (c, ce.2)) := b9.mods m10 (by simp; omega)
  have c1 : Blk H10 H.size t_api_Certificate (encC noCert) := ((((b1.ext e2).ext e3).ext e6).ext e89).mods m10 (by simp; omega)
  refine iteB_dec (fun d1 => ?_) (fun d1 => ?_)
  · have hkn : k < bs.length := by omega
    have hkb : k < bel.length := by omega
    have isb9 := ((is2.ext e3).ext e6).ext e89
    have isb10 : IsS 4 encN H10 bl bel := isb9.mods m10 (offg (by decide) (own_ty ((((o2.ext e3)).ext e6).ext e89)))
    have isx10 : IsS 1 (encI .u64) H10 xs bs := (hxs.ext e89).mods m10 (offg (by decide) (txs.mods (S := []) e89.mods (by simp)))
    obtain ⟨a, hp, hr⟩ := IsS.atN isb10 (0, 0, 0, 0) hkb
    obtain ⟨q, hq, hrq⟩ := Ints.atN isx10 hkn
    obtain ⟨j, hj⟩ := atN_of_mem (hsub _ (getD_mem' (0, 0, 0, 0) hkb))
    obtain ⟨hjN, _, _⟩ := atN_spec hj
    have hBl10 : (setB N B ((bel.zip bs).take k)).length = N.length := by rw [setB_len]; exact hBl
    have isA : IsS 5 encA H10 ⟨some ⟨g, 0, none⟩, N.length, N.length⟩ (N.zip (setB N B ((bel.zip bs).take k))) := RB.isS a10.rb _ _ (zip_len hBl10).symm
    have hzk : k < (bel.zip bs).length := by simp; omega
    have htk := take_succ_d ((0, 0, 0, 0), 0) hzk
    have hzg : (bel.zip bs).getD k ((0, 0, 0, 0), 0) = (bel.getD k (0, 0, 0, 0), bs.getD k 0) := by
      have := (List.getElem?_zip_eq_some (z := (bel.getD k (0, 0, 0, 0), bs.getD k 0))).2 ⟨getD_get (0, 0, 0, 0) hkb, getD_get 0 hkn⟩
      simp only [List.getD, this, Option.getD_some]
    rw [hzg] at htk
    generalize bel.getD k (0, 0, 0, 0) = x at *
    obtain ⟨x0, x1, x2, x3⟩ := x
    refine ⟨by omega, by omega, unSome_mk hp ⟨x0, hr 0 _ rfl, by omega, by omega, unSome_mk hp ⟨x1, hr 1 _ rfl, by omega, by omega, unSome_mk hq ⟨_, hrq, ?_⟩⟩⟩⟩
    refine (rat_spec H10 ⟨some ⟨g, 0, none⟩, N.length, N.length⟩ _ x0 x1 isA (by rw [zip_len hBl10]; omega)).mono ?_
    rintro v H11 ⟨rfl, rfl⟩
    have hat : atI ((N.zip (setB N B ((bel.zip bs).take k))).map Prod.fst) x0 x1 = (j : Int) := by
      rw [zip_fst hBl10]
      unfold atI
      rw [show atN N x0 x1 = some j from hj]
    rw [hat]
    obtain ⟨hok, hset⟩ := AsB.set a10 hBl10 hjN (bs.getD k 0)
    refine ⟨_, rfl, .refl _ _, by omega, by show (j : Int) < (N.length : Int); omega, unSome_mk rfl ⟨?_, letH_mk ?_⟩⟩
    · rw [Int.toNat_natCast]; exact hok
    · rw [Int.toNat_natCast]
      rintro H12 rfl
      refine letV_mk _ rfl (next1 hkn (by omega) ⟨?_, m10.trans mods_wr2⟩)
      rw [htk, setB_snoc]
      show AsB _ g N ((setB N B ((bel.zip bs).take k)).set ((atN N x0 x1).getD 0) (bs.getD k 0))
      rw [show atN N x0 x1 = some j from hj]
      exact hset
  · obtain rfl : k = bs.length := by omega
    have htk : (bel.zip bs).take bs.length = bel.zip bs := List.take_of_length_le (by simp; omega)
    rw [htk] at a10
    have fin : ∀ H13, Mods [H6.size, H.size] H10 H13 → AsB H13 g N (setB N B (bel.zip bs)) ∧ Mods [g] H H13 := fun H13 m13 => by
      refine ⟨a10.mods m13 (by simp; omega), ?_⟩
      have h1 : Mods [g] H H10 := (x9.mods).trans m10
      exact h1.newer m13 (fun t ht => by simp at ht; left; omega)
    refine iteB_beq (fun d2 => ⟨b10.ok0 (by simp), letH_mk ?_⟩) (fun d2 => ?_)
    · intro H13 h13
      have b13 : Blk H13 H6.size t_api_Certificate (encC noCert) := by rw [h13]; exact b10.wr
      have m13 : Mods [H6.size, H.size] H10 H13 := by rw [h13]; exact Mods.wrs (by simp)
      have c13 : Blk H13 H.size t_api_Certificate (encC noCert) := by rw [h13]; exact c1.wr_ne (by show H.size ≠ H6.size; omega)
      clear h13
      refine ⟨_, b13.rd0 rfl, _, b13.rd (i := 1) rfl, _, b13.rd (i := 2) rfl, _, b13.rd (i := 3) rfl, ?_⟩
      refine cert_wr (c := noCert) (K := fun v H' => (.tuple #[v, .int .i64 e] : Value) = .tuple #[certV (if e = 0 then noCert else (c, ce.2)), .int .i64 e] ∧ AsB H' g N (setB N B (bel.zip bs)) ∧ Mods [g] H H') c13 (fun H' m' _ => ?_)
      rw [if_pos d2]
      exact ⟨rfl, fin H' (m13.trans (m'.mono (by simp)))⟩
    · refine ⟨_, b10.rd0 rfl, _, b10.rd (i := 1) rfl, _, b10.rd (i := 2) rfl, _, b10.rd (i := 3) rfl, ?_⟩
      refine cert_wr (c := (c, ce.2)) (K := fun v H' => (.tuple #[v, .int .i64 e] : Value) = .tuple #[certV (if e = 0 then noCert else (c, ce.2)), .int .i64 e] ∧ AsB H' g N (setB N B (bel.zip bs)) ∧ Mods [g] H H') c1 (fun H' m' _ => ?_)
      rw [if_neg d2]
      exact ⟨rfl, fin H' (m'.mono (by simp))⟩

end Go.Proofs.Ytnhhncjflnlfaaa
end

section
/-
  Removing what lies below a port: what the answer is; the contract of the program's Remove.
-/
namespace Go.Proofs.Ytnhhncjflnlfaaa
open Go.Eng

def Gone (p : Int) (ix : List Int) (f : Fn) : Prop := f.parent = p ∨ (0 ≤ f.parent ∧ ix.getD f.parent.toNat 0 < 0)
instance (p : Int) (ix : List Int) (f : Fn) : Decidable (Gone p ix f) := by unfold Gone; infer_instance
def mvd (ix : List Int) (f : Fn) : Fn := { f with parent := if 0 ≤ f.parent then ix.getD f.parent.toNat 0 else f.parent }
def remS (p : Int) (st : List Int × List Fn) (f : Fn) : List Int × List Fn :=
  if Gone p st.1 f then (st.1 ++ [-1], st.2) else (st.1 ++ [(st.2.length : Int)], st.2 ++ [mvd st.1 f])
def remF (p : Int) (L : List Fn) : List Int × List Fn := L.foldl (remS p) ([], [])

theorem remF_snoc (p : Int) (L : List Fn) (f : Fn) : remF p (L ++ [f]) = remS p (remF p L) f := by
  unfold remF
  rw [List.foldl_append]
  rfl
theorem remF_len (p : Int) (L : List Fn) : (remF p L).1.length = L.length ∧ (remF p L).2.length ≤ L.length := by
  have key : ∀ (M : List Fn) (st : List Int × List Fn), (M.foldl (remS p) st).1.length = st.1.length + M.length ∧ (M.foldl (remS p) st).2.length ≤ st.2.length + M.length := by
    intro M
    induction M with
    | nil => intro st; simp
    | cons f M ih =>
      intro st
      rw [List.foldl_cons]
      obtain ⟨h1, h2⟩ := ih (remS p st f)
      unfold remS at h1 h2 ⊢
      split at h1 <;> rename_i hg <;> simp only [hg, if_true, if_false] at h1 h2 ⊢ <;> simp only [List.length_append, List.length_cons, List.length_nil] at h1 h2 ⊢ <;> constructor <;> omega
  have := key L ([], [])
  unfold remF
  simpa using this

def asgF (n : Nat) (ix : List Int) (x : Asg) : Option Asg := if (0 ≤ x.1.1 ∧ x.1.1 < n) ∧ 0 ≤ ix.getD x.1.1.toNat 0 then some ((ix.getD x.1.1.toNat 0, x.1.2), x.2) else none

def RemIs (T : List FS) (A : List Asg) (p e : Int) (L : List Fn) (B : List Asg) (ix : List Int) : Prop :=
  (¬ ValidT T ∧ e = 1 ∧ L = [] ∧ B = [] ∧ ix = []) ∨ (ValidT T ∧ ¬ IsPort T p ∧ e = 6 ∧ L = [] ∧ B = [] ∧ ix = []) ∨
  (ValidT T ∧ IsPort T p ∧ e = 0 ∧ L = (remF p (fns T)).2 ∧ B = A.filterMap (asgF T.length (remF p (fns T)).1) ∧ ix = (remF p (fns T)).1)
theorem RemIs.uni {T : List FS} {A : List Asg} {p e e' : Int} {L L' : List Fn} {B B' : List Asg} {ix ix' : List Int} (h : RemIs T A p e L B ix) (h' : RemIs T A p e' L' B' ix') : e = e' ∧ L = L' ∧ B = B' ∧ ix = ix' := by
  rcases h with ⟨a, rfl, rfl, rfl, rfl⟩ | ⟨a, b, rfl, rfl, rfl, rfl⟩ | ⟨a, b, rfl, rfl, rfl, rfl⟩ <;> rcases h' with ⟨a', rfl, rfl, rfl, rfl⟩ | ⟨a', b', rfl, rfl, rfl, rfl⟩ | ⟨a', b', rfl, rfl, rfl, rfl⟩ <;> first | exact ⟨rfl, rfl, rfl, rfl⟩ | contradiction

/-- An answer of Remove in memory. -/
def RemP (T : List FS) (A : List Asg) (p : Int) (H : Heap) (v : Value) (H' : Heap) : Prop :=
  ∃ (s1 s2 s3 : Sl) (e : Int) (L : List Fn) (T' : List FS) (B : List Asg) (ix : List Int), v = .tuple #[.slice s1.p s1.n s1.c, .slice s2.p s2.n s2.c, .slice s3.p s3.n s3.c, .int .i64 e] ∧ RemIs T A p e L B ix ∧
    fns T' = L ∧ Topo H' s1 T' ∧ IsS 5 encA H' s2 B ∧ Ints .i64 H' s3 ix ∧ Ext H H'

theorem RemP.no {T : List FS} {A : List Asg} {p e : Int} {H H' : Heap} (h : RemIs T A p e [] [] []) (he : Ext H H') : RemP T A p H (.tuple #[.slice none 0 0, .slice none 0 0, .slice none 0 0, .int .i64 e]) H' :=
  ⟨⟨none, 0, 0⟩, ⟨none, 0, 0⟩, ⟨none, 0, 0⟩, e, [], [], [], [], rfl, h, rfl, Topo.nil _, IsS.nil _ _ _, IsS.nil _ _ _, he⟩

/-- The table of indices, of which the first are filled. -/
abbrev IxB (H : Heap) (b : Nat) (ix : List Int) (m : Nat) : Prop := RB H b t_int 1 (encI .i64) (ix ++ List.replicate m 0)

theorem IxB.rd' {H : Heap} {b : Nat} {ix : List Int} {m i : Nat} (h : IxB H b ix m) (hi : i < ix.length) : rd H ((⟨b, 0, none⟩ : Addr).add (i * 1)) = some (.int .i64 (ix.getD i 0)) := by
  refine RB.rd0 h (i := i) (x := ix.getD i 0) ?_ rfl
  rw [List.getElem?_append_left hi]
  simp [List.getD, hi]
theorem IxB.set {H : Heap} {b : Nat} {ix : List Int} {m : Nat} (h : IxB H b ix (m + 1)) (y : Int) : IxB (wrs H ((⟨b, 0, none⟩ : Addr).add (ix.length * 1)) [.int .i64 y]) b (ix ++ [y]) m := by
  have := RB.wr0 h (i := ix.length) (x := 0) (y := y) (v := .int .i64 y) (by rw [List.getElem?_append_right (Nat.le_refl _)]; simp) (by omega) rfl
  rw [List.set_append_right _ _ (Nat.le_refl _), Nat.sub_self, List.replicate_succ, List.set_cons_zero] at this
  unfold IxB
  rw [List.append_assoc]
  exact this
theorem IxB.ok' {H : Heap} {b : Nat} {ix : List Int} {m : Nat} (h : IxB H b ix (m + 1)) : okRow H ((⟨b, 0, none⟩ : Addr).add (ix.length * 1)) 1 := RB.ok0 h (by simp) (by omega)

/-- The assignments of what is left. -/
theorem remove_asg {T : List FS} {A : List Asg} {s a : Sl} {p : Int} {H H2 H5 : Heap} {restv : Sl} {T1 : List FS} {ix : List Int} (hT : Topo H s T) (hA : IsS 5 encA H a A) (hAl : A.length ≤ 100000) (hv : ValidT T) (hport : IsPort T p)
    (hix : ix = (remF p (fns T)).1) (hf1 : fns T1 = (remF p (fns T)).2) (h1 : Topo H5 restv T1) (hI : IxB H5 H2.size ix 0) (e5 : Ext H H5) :
    ∃ I_1 : Sl → Int → Heap → Prop, ∃ M_1 : Sl → Int → Heap → Nat, I_1 (Sl.mk none 0 0) (0 : Int) H5 ∧ (∀ assigned : Sl, ∀ x55 : Int, ∀ H18 : Heap, I_1 assigned x55 H18 → F_hotplug_Remove_r3 (RemP T A p H) s a H2 restv I_1 M_1 assigned x55 H18) := by
  have hn := hT.len
  have han := hA.len
  have hixl : ix.length = T.length := by rw [hix, (remF_len p (fns T)).1]; simp
  have hT64 := hv.1
  refine loop2 A.length (fun k out H' => Own H5.size t_api_Assignment 5 H' out (((A.take k).filterMap (asgF T.length ix)).flatMap encA) ∧ Ext H5 H') ⟨Own.nil _ _ _ _, .refl _⟩ ?_
  rintro k out H18 hk ⟨o18, e18⟩
  unfold F_hotplug_Remove_r3
  rw [Int.toNat_natCast]
  have n18 := Own.len rkAsg o18
  have hfl : ((A.take k).filterMap (asgF T.length ix)).length ≤ k := by
    have h1 := List.length_filterMap_le (asgF T.length ix) (A.take k)
    have h2 : (A.take k).length ≤ k := by simp; omega
    omega
  refine iteB_dec (fun c => ?_) (fun c => ?_)
  · have hkn : k < A.length := by omega
    obtain ⟨q, hq, hr⟩ := IsS.atN (hA.ext (e5.trans e18)) ((0, 0, 0, 0), 0) hkn
    have htk := take_succ_d ((0, 0, 0, 0), 0) hkn
    generalize A.getD k ((0, 0, 0, 0), 0) = x at *
    obtain ⟨⟨x0, x1, x2, x3⟩, x4⟩ := x
    have hstep : (A.take (k + 1)).filterMap (asgF T.length ix) = (A.take k).filterMap (asgF T.length ix) ++ (asgF T.length ix ((x0, x1, x2, x3), x4)).toList := by
      rw [htk, List.filterMap_append]
      congr 1
    have skip : ∀ H', Ext H18 H' → asgF T.length ix ((x0, x1, x2, x3), x4) = none → CI2 A.length (fun k out H' => Own H5.size t_api_Assignment 5 H' out (((A.take k).filterMap (asgF T.length ix)).flatMap encA) ∧ Ext H5 H') out (IntKind.i64.wrap ((k : Int) + 1)) H' ∧ CM2 A.length out (IntKind.i64.wrap ((k : Int) + 1)) H' < CM2 A.length out (k : Int) H18 := by
      intro H' e' hq
      refine next2 hkn (by omega) ⟨?_, e18.trans e'⟩
      rw [hstep, hq]
      simpa using o18.ext e'
    refine ⟨by omega, by omega, unSome_mk hq ⟨_, hr 0 _ rfl, _, hr 1 _ rfl, _, hr 2 _ rfl, _, hr 3 _ rfl, _, hr 4 _ rfl, local_mk (vs := encA ((x0, x1, x2, x3), x4)) rfl rfl fun H20 e20 z20 b20 => ⟨_, b20.rd0 rfl, iteB_dec (fun d => skip _ e20 ?_) (fun d => ⟨_, b20.rd0 rfl, iteB_dec (fun d1 => skip _ e20 ?_) (fun d1 => ?_)⟩)⟩⟩⟩
    · unfold asgF; rw [if_neg]; intro hh; have := hh.1; dsimp only at this d; omega
    · unfold asgF; rw [if_neg]; intro hh; have := hh.1; dsimp only at this d1; omega
    dsimp only at d d1
    obtain ⟨j, rfl⟩ := Int.eq_ofNat_of_zero_le (by omega : 0 ≤ x0)
    have hj : j < ix.length := by omega
    have hrd : rd H20 ((⟨H2.size, 0, none⟩ : Addr).add ((j : Int).toNat * 1)) = some (.int .i64 (ix.getD j 0)) := by rw [Int.toNat_natCast]; exact IxB.rd' (RB.ext (RB.ext hI e18) e20) hj
    refine ⟨_, b20.rd0 rfl, by dsimp only; omega, by dsimp only; omega, _, hrd, iteB_dec (fun d2 => skip _ e20 ?_) (fun d2 => ⟨_, b20.rd0 rfl, by dsimp only; omega, by dsimp only; omega, _, hrd, b20.ok0 (by simp [encA]), letH_mk ?_⟩)⟩
    · unfold asgF; rw [if_neg]; intro hh; have := hh.2; rw [Int.toNat_natCast] at this; omega
    intro H21 h21
    have b21 : Blk H21 H18.size t_api_Assignment (encA ((ix.getD j 0, x1, x2, x3), x4)) := by rw [h21]; exact b20.wr
    have m21 : Mods [H18.size] H20 H21 := by rw [h21]; exact Mods.wrs (by simp)
    clear h21
    have e1821 : Ext H18 H21 := Mods.ext e20 m21 (by simp)
    refine ⟨_, b21.rd0 rfl, _, b21.rd (i := 1) rfl, _, b21.rd (i := 2) rfl, _, b21.rd (i := 3) rfl, _, b21.rd (i := 4) rfl, ?_⟩
    refine apR rkAsg ((ix.getD j 0, x1, x2, x3), x4) (lo := H5.size) (o18.ext e1821) (by omega) (e18.trans e1821).size ?_
    intro s' H23 ho hn23 m23
    refine next2 hkn (by omega) ⟨?_, Mods.ext (e18.trans e1821) m23 (blkOf_new o18.new)⟩
    have : asgF T.length ix (((j : Int), x1, x2, x3), x4) = some ((ix.getD j 0, x1, x2, x3), x4) := by
      unfold asgF
      rw [if_pos ⟨⟨by dsimp only; omega, by dsimp only; omega⟩, by rw [Int.toNat_natCast]; omega⟩, Int.toNat_natCast]
    rw [hstep, this]
    exact ho
  · obtain rfl : k = A.length := by omega
    rw [List.take_length] at o18
    refine ⟨restv, out, ⟨some ⟨H2.size, 0, none⟩, s.n, s.n⟩, 0, _, T1, _, ix, rfl, .inr (.inr ⟨hv, hport, rfl, rfl, rfl, hix⟩), hf1, h1.ext e18, ?_, ?_, e5.trans e18⟩
    · rw [← hix]; exact Own.is rkAsg o18
    · have := RB.isS (RB.ext hI e18) s.n s.n (by simp; omega)
      simpa using this

theorem Remove_spec (T : List FS) (A : List Asg) (s a : Sl) (p : Int) (H : Heap) (hT : Topo H s T) (hA : IsS 5 encA H a A) (hAl : A.length ≤ 100000) :
    CallsH Try.prog n_hotplug_Remove #[.slice s.p s.n s.c, .slice a.p a.n a.c, .int .i64 p] H (RemP T A p H) := by
  refine F_hotplug_Remove_ok _ _ _ ?_
  unfold F_hotplug_Remove
  have hn := hT.len
  refine (eValid_spec T s H hT).mono ?_
  rintro v H1 ⟨rfl, e1⟩
  refine ⟨_, rfl, iteB_not (fun d => RemP.no (.inl ⟨by simpa using d, rfl, rfl, rfl, rfl⟩) e1) (fun d => ?_)⟩
  have hv : ValidT T := by simpa using d
  have hl64 := hv.1
  refine (isPort_spec T s p H1 (hT.ext e1) hv).mono ?_
  rintro v H2 ⟨rfl, rfl⟩
  refine ⟨_, rfl, iteB_not (fun d => RemP.no (.inr (.inl ⟨hv, by simpa using d, rfl, rfl, rfl, rfl⟩)) e1) (fun d => ?_)⟩
  have hport : IsPort T p := by simpa using d
  refine ⟨by omega, by omega, by omega, letH_mk ?_⟩
  rw [Int.toNat_natCast]
  intro H3 h3
  have e3 : Ext H2 H3 := by rw [h3]; exact Ext.push _ _
  have z3 : H3.size = H2.size + 1 := by rw [h3]; simp
  have i3 : IxB H3 H2.size [] T.length := by
    rw [h3, ← hn]
    exact RB.zero H2 t_int (ints_row _) s.n (.int .i64 0) (0 : Int) rfl
  clear h3
  refine ⟨by omega, by omega, by omega, letH_mk ?_⟩
  intro H4 h4
  have e4 : Ext H3 H4 := by rw [h4]; exact Ext.push _ _
  have z4 : H4.size = H3.size + 1 := by rw [h4]; simp
  have o4 : Own H3.size t_api_Function 11 H4 ⟨some ⟨H3.size, 0, none⟩, 0, s.n⟩ (([] : List FS).flatMap encF) := by
    rw [h4]
    refine Own.make (Nat.le_refl _) ?_ rfl
    show _ ≤ 9223372036854775807
    omega
  clear h4
  have hle2 := e1.size
  refine loop2 T.length (fun k out H' => ∃ T1 : List FS, fns T1 = (remF p ((fns T).take k)).2 ∧ Own H3.size t_api_Function 11 H' out (T1.flatMap encF) ∧ GT H' T1 ∧ IxB H' H2.size (remF p ((fns T).take k)).1 (T.length - k) ∧ Ext H H') ⟨[], rfl, o4, (fun x hx => by cases hx), RB.ext i3 e4, (e1.trans e3).trans e4⟩ ?_
  rintro k out H5 hk ⟨T1, hf1, o5, g5, i5, e5⟩
  unfold F_hotplug_Remove_r4
  have hz5 : H2.size < H5.size := RB.lt i5
  obtain ⟨hl1, hl2⟩ := remF_len p ((fns T).take k)
  have hlk : ((fns T).take k).length = k := by simp; omega
  rw [hlk] at hl1 hl2
  have hT1l : T1.length ≤ k := by have := congrArg List.length hf1; simp at this; omega
  have hT1e : T1.length = (remF p ((fns T).take k)).2.length := by have := congrArg List.length hf1; simpa using this
  have n5 := Own.len rkFn o5
  refine iteB_dec (fun c => ?_) (fun c => ?_)
  · have hkn : k < T.length := by omega
    obtain ⟨q, hq, hr⟩ := (hT.ext e5).at hkn
    obtain ⟨p0, p1, p2, p3, p4, p5, p6, p7, p8, p9, p10⟩ := rdFn hr
    have hbars := hT.barsAt hkn
    have hbl := (hv.2 k hkn).va.bl
    have hpa := (hv.2 k hkn).pa
    have hrg : regs (fnAt T k).bridge ≤ 6 := by unfold regs; split <;> omega
    have htk := take_fns hkn
    generalize fnAt T k = f at *
    generalize slAt T k = fs at *
    have hsn : remF p ((fns T).take (k + 1)) = remS p (remF p ((fns T).take k)) f := by rw [htk, remF_snoc]
    generalize hst : remF p ((fns T).take k) = st at *
    refine ⟨by omega, by omega, unSome_mk hq ⟨_, p0, _, p1, _, p2, _, p3, _, p4, _, p5, _, p6, _, p7, _, p8, _, p9, fs, p10, local_mk (vs := fnL f fs) rfl rfl fun H7 e7 z7 b7 => ?_⟩⟩
    have i7 : IxB H7 H2.size st.1 (T.length - k) := RB.ext i5 e7
    refine ⟨fun b H' => (b = true ↔ Gone p st.1 f) ∧ H' = H7, ⟨_, b7.rd0 rfl, iteB_beq (fun d1 => ⟨by simp [Gone, d1], rfl⟩) (fun d1 => ⟨_, b7.rd0 rfl, iteB_dec (fun d2 => ⟨_, b7.rd0 rfl, by omega, by omega, ?_⟩) (fun d2 => ⟨?_, rfl⟩)⟩)⟩, ?_⟩
    · obtain ⟨j, hj⟩ := Int.eq_ofNat_of_zero_le d2
      refine ⟨st.1.getD f.parent.toNat 0, ?_, ?_, rfl⟩
      · rw [hj]; exact i7.rd' (i := j) (by omega)
      · simp only [decide_eq_true_eq, Gone]
        exact ⟨fun hh => .inr ⟨d2, hh⟩, fun hh => by rcases hh with hh | hh; exact absurd hh d1; exact hh.2⟩
    · simp only [Bool.false_eq_true, false_iff, Gone]
      rintro (hh | hh)
      · exact d1 hh
      · exact d2 hh.1
    · rintro b H8 ⟨hb, rfl⟩
      unfold F_hotplug_Remove_k2
      rw [Int.toNat_natCast, Int.toNat_natCast]
      obtain ⟨m, hm⟩ : ∃ m, T.length - k = m + 1 := ⟨T.length - k - 1, by omega⟩
      rw [hm] at i7
      have hkk : k = st.1.length := hl1.symm
      have hmk : T.length - (k + 1) = m := by omega
      have nty : ∀ {e : TypeId} {q : Option Addr}, e ≠ t_int → TyB H8 q e → ∀ a, q = some a → a.block ∉ [H2.size] := fun {e q} he hq a ha => by
        obtain ⟨_, ex, hbk⟩ := i7
        have : TyB H8 (some ⟨H2.size, 0, none⟩) t_int := fun a ha => by cases ha; exact ⟨_, _, hbk⟩
        have := ty_ne hq this he a ha
        simpa [blkOf] using this
      have wrI : ∀ y : Int, ∀ H9, H9 = wrs H8 ((⟨H2.size, 0, none⟩ : Addr).add (k * 1)) [.int .i64 y] → IxB H9 H2.size (st.1 ++ [y]) m ∧ Mods [H2.size] H8 H9 := fun y H9 h9 => by
        subst h9
        refine ⟨?_, mods_wr_add (by simp)⟩
        rw [hkk]
        exact i7.set y
      refine iteB_intro (fun d1 => ⟨by omega, by omega, by rw [hkk]; exact i7.ok', letH_mk ?_⟩) (fun d1 => ⟨by omega, by omega, by rw [hkk]; exact i7.ok', letH_mk ?_⟩)
      · intro H9 h9
        obtain ⟨i9, m9⟩ := wrI _ _ h9
        clear h9
        have hg := hb.1 d1
        refine next2 hkn (by omega) ⟨T1, ?_, (o5.ext e7).mods m9 (nty (by decide) (own_ty (o5.ext e7))), (g5.ext e7).mods m9 (fun q hq => nty (by decide) hq), ?_, Mods.ext (e5.trans e7) m9 (by simp; omega)⟩
        · rw [hsn, hf1]; unfold remS; rw [if_pos hg]
        · rw [hsn, hmk]; unfold remS; rw [if_pos hg]; exact i9
      · intro H10 h10
        obtain ⟨i10, m10⟩ := wrI _ _ h10
        clear h10
        have hg : ¬ Gone p st.1 f := fun hh => by have := hb.2 hh; rw [d1] at this; cases this
        have b10 : Blk H10 H5.size t_api_Function (fnL f fs) := b7.mods m10 (by simp; omega)
        obtain ⟨q0, q1, q2, q3, q4, q5, q6, q7, q8, q9, q10⟩ := Blk.fn b10
        have x10 : Ext H H10 := Mods.ext (e5.trans e7) m10 (by simp; omega)
        have o10 := (o5.ext e7).mods m10 (nty (by decide) (own_ty (o5.ext e7)))
        have g10 := (g5.ext e7).mods m10 (fun q hq => nty (by decide) hq)
        refine ⟨_, q0, _, q1, _, q2, _, q3, _, q4, _, q5, _, q6, _, q7, _, q8, _, q9, fs, q10, (copyFunction_spec f fs H10 (hbars.ext x10) (by omega)).mono ?_⟩
        rintro v H11 ⟨cs, rfl, bc, tc, e11⟩
        refine ⟨_, _, _, _, _, _, _, _, _, _, cs, rfl, local_mk (vs := fnL f cs) rfl rfl fun H13 e13 z13 b13 => ?_⟩
        have i13 : IxB H13 H2.size (st.1 ++ [(out.n : Int)]) m := RB.ext (RB.ext i10 e11) e13
        have b13f := (b10.ext e11).ext e13
        refine ⟨fun H' => Blk H' H11.size t_api_Function (fnL (mvd st.1 f) cs) ∧ Mods [H11.size] H13 H', ⟨_, b13f.rd0 rfl, iteB_dec (fun d2 => ⟨_, b13f.rd0 rfl, by omega, by omega, ?_⟩) (fun d2 => ⟨?_, Mods.refl _ _⟩)⟩, ?_⟩
        · obtain ⟨j, hj⟩ := Int.eq_ofNat_of_zero_le d2
          have hjk : j < st.1.length := by omega
          refine ⟨st.1.getD f.parent.toNat 0, ?_, b13.ok0 (by simp), letH_mk ?_⟩
          · rw [hj, Int.toNat_natCast]
            have := i13.rd' (i := j) (by simp; omega)
            rw [List.getD, List.getElem?_append_left hjk] at this
            exact this
          · rintro H14 rfl
            refine ⟨?_, Mods.wrs (by simp)⟩
            have := b13.wr (o := 0) (ws := [.int .i64 (st.1.getD f.parent.toNat 0)])
            have e : mvd st.1 f = { f with parent := st.1.getD f.parent.toNat 0 } := by unfold mvd; rw [if_pos d2]
            rw [e]
            exact this
        · have e : mvd st.1 f = f := by unfold mvd; rw [if_neg d2]
          rw [e]; exact b13
        · rintro H15 ⟨b15, m15⟩
          unfold F_hotplug_Remove_k1
          obtain ⟨u0, u1, u2, u3, u4, u5, u6, u7, u8, u9, u10⟩ := Blk.fn b15
          have e1013 : Ext H10 H13 := e11.trans e13
          have hz11 := e11.size
          have e1015 : Ext H10 H15 := Mods.ext e1013 m15 (by simp; omega)
          have bt13 : TyB H13 (some ⟨H11.size, 0, none⟩) t_api_Function := fun a ha => by cases ha; exact ⟨_, _, b13⟩
          have tc13 : TyB H13 cs.p t_api_Bar := tc.mods (S := []) e13.mods (by simp)
          have ncs : ∀ a, cs.p = some a → a.block ∉ [H11.size] := fun a ha => by have := ty_ne tc13 bt13 (by decide) a ha; simpa [blkOf] using this
          have bc15 := (bc.ext e13).mods m15 ncs
          have tc15 := tc13.mods m15 ncs
          refine ⟨_, u0, _, u1, _, u2, _, u3, _, u4, _, u5, _, u6, _, u7, _, u8, _, u9, cs, u10, ?_⟩
          have hm10 := m10.size
          have hz7 : H3.size ≤ H5.size := by
            have := o5.new
            omega
          refine apR rkFn (mvd st.1 f, cs) (lo := H3.size) (o10.ext e1015) (by omega) (by have := e1015.size; have := e7.size; omega) ?_
          intro s' H17 ho hn17 m17
          have nout : ∀ q, TyB H15 q t_api_Bar → ∀ a, q = some a → a.block ∉ blkOf out.p := fun q hq a ha => ty_ne hq (own_ty (o10.ext e1015)) (by decide) a ha
          have nix : H2.size ∉ blkOf out.p := fun hh => by
            obtain ⟨_, ex, hbk⟩ := i10
            have t1 : TyB H10 (some ⟨H2.size, 0, none⟩) t_int := fun a ha => by cases ha; exact ⟨_, _, hbk⟩
            exact ty_ne t1 (own_ty o10) (by decide) _ rfl hh
          refine next2 hkn (by omega) ⟨T1 ++ [(mvd st.1 f, cs)], ?_, ho, (GT.append (f := mvd st.1 f) (g10.ext e1015) bc15 tc15).mods m17 nout, ?_, Mods.ext (x10.trans e1015) m17 (fun x hx => by have := blkOf_new o5.new x hx; omega)⟩
          · rw [hsn]; unfold remS; rw [if_neg hg]; show List.map _ _ = _; rw [List.map_append]; show fns T1 ++ _ = _; rw [hf1]; rfl
          · rw [hsn, hmk]; unfold remS; rw [if_neg hg]
            have : (out.n : Int) = (st.2.length : Int) := by omega
            rw [← this]
            exact RB.mods (RB.ext i10 e1015) m17 nix
  · obtain rfl : k = T.length := by omega
    have htake : (fns T).take T.length = fns T := List.take_of_length_le (by simp)
    rw [htake] at hf1 i5
    rw [Nat.sub_self] at i5
    exact remove_asg hT hA hAl hv hport rfl hf1 ⟨Own.is rkFn o5, fun x hx => (g5 x hx).1⟩ i5 e5

end Go.Proofs.Ytnhhncjflnlfaaa
end

section
/-
  The contract of the reference's Remove.
-/
namespace Go.Proofs.Ytnhhncjflnlfaaa
open Go.Eng
set_option linter.unusedVariables false

def unF (T : List FS) (p : Int) : Nat → Int → Bool
  | 0, _ => false
  | n + 1, j => if j < 0 then false else if j = p then true else unF T p n (fnAt T j.toNat).parent
def Und (T : List FS) (p : Int) (i : Nat) : Bool := unF T p (T.length + 1) (fnAt T i).parent

theorem unF_neg {T : List FS} {p j : Int} (h : j < 0) : ∀ m, unF T p m j = false
  | 0 => rfl
  | m + 1 => by unfold unF; rw [if_pos h]
theorem unF_fuel {T : List FS} {p : Int} (hv : ValidT T) (n : Nat) : ∀ (i : Int), i < T.length → i.toNat + 1 ≤ n → unF T p n i = unF T p (i.toNat + 1) i := by
  induction n using Nat.strongRecOn with
  | _ n ih =>
    intro i hi h
    obtain ⟨m, rfl⟩ : ∃ m, n = m + 1 := ⟨n - 1, by omega⟩
    by_cases c0 : i < 0
    · rw [unF_neg c0, unF_neg c0]
    · unfold unF
      rw [if_neg c0, if_neg c0]
      split
      · rfl
      · have hp := (hv.2 i.toNat (by omega)).pa
        by_cases c : (fnAt T i.toNat).parent < 0
        · rw [unF_neg c, unF_neg c]
        · rw [ih m (by omega) _ (by omega) (by omega), ih i.toNat (by omega) _ (by omega) (by omega)]
theorem unF_step {T : List FS} {p : Int} (hv : ValidT T) {m : Nat} (hm : m < T.length) (hp : (m : Int) ≠ p) : unF T p ((m : Int).toNat + 1) m = unF T p ((fnAt T m).parent.toNat + 1) (fnAt T m).parent := by
  have hpa := (hv.2 m hm).pa
  conv => lhs; unfold unF
  rw [if_neg (by omega), if_neg hp, Int.toNat_natCast]
  by_cases c : (fnAt T m).parent < 0
  · rw [unF_neg c, unF_neg c]
  · exact unF_fuel hv m _ (by omega) (by omega)
/-- Below the port: the parent is the port, or lies below it. -/
theorem Und_iff {T : List FS} {p : Int} (hv : ValidT T) (hp : 0 ≤ p) {i : Nat} (hi : i < T.length) : Und T p i = true ↔ ((fnAt T i).parent = p ∨ (0 ≤ (fnAt T i).parent ∧ Und T p (fnAt T i).parent.toNat = true)) := by
  have hpa := (hv.2 i hi).pa
  unfold Und
  rw [unF_fuel hv _ _ (by omega) (by omega)]
  by_cases c0 : (fnAt T i).parent < 0
  · rw [unF_neg c0]
    simp only [Bool.false_eq_true, false_iff]
    omega
  · obtain ⟨m, hm⟩ := Int.eq_ofNat_of_zero_le (by omega : 0 ≤ (fnAt T i).parent)
    rw [hm, Int.toNat_natCast]
    have hmT : m < T.length := by omega
    have hpm := (hv.2 m hmT).pa
    by_cases hpe : (m : Int) = p
    · constructor
      · intro _; exact .inl hpe
      · intro _; unfold unF; rw [if_neg (by omega), if_pos hpe]
    · have h1 := unF_step (p := p) hv hmT hpe
      rw [Int.toNat_natCast] at h1
      rw [h1, unF_fuel hv (T.length + 1) (fnAt T m).parent (by omega) (by omega)]
      constructor
      · intro h; exact .inr ⟨by omega, h⟩
      · rintro (h | h)
        · exact absurd h hpe
        · exact h.2

theorem remS_last (p : Int) (st : List Int × List Fn) (f : Fn) : ((remS p st f).1.getD st.1.length 0 < 0 ↔ Gone p st.1 f) ∧ ∀ i, i < st.1.length → (remS p st f).1.getD i 0 = st.1.getD i 0 := by
  unfold remS
  split
  · rename_i h
    refine ⟨?_, fun i hi => by simp [List.getD, List.getElem?_append_left hi]⟩
    simp [List.getD, h]
  · rename_i h
    refine ⟨?_, fun i hi => by simp [List.getD, List.getElem?_append_left hi]⟩
    simp [List.getD, h]

theorem rem_und {T : List FS} {p : Int} (hv : ValidT T) (hp : 0 ≤ p) : ∀ k, k ≤ T.length → ∀ i, i < k → ((remF p ((fns T).take k)).1.getD i 0 < 0 ↔ Und T p i = true)
  | 0, _, i, hi => by omega
  | k + 1, hk, i, hi => by
    have ih := rem_und hv hp k (by omega)
    have hlen : (remF p ((fns T).take k)).1.length = k := by rw [(remF_len p _).1]; simp; omega
    have hs := remS_last p (remF p ((fns T).take k)) (fnAt T k)
    rw [hlen] at hs
    rw [take_fns (by omega), remF_snoc]
    by_cases e : i = k
    · subst e
      rw [hs.1, Und_iff hv hp (by omega)]
      have hpa := (hv.2 i (by omega)).pa
      unfold Gone
      constructor
      · rintro (h | ⟨h0, h1⟩)
        · exact .inl h
        · exact .inr ⟨h0, (ih _ (by omega)).1 h1⟩
      · rintro (h | ⟨h0, h1⟩)
        · exact .inl h
        · exact .inr ⟨h0, (ih _ (by omega)).2 h1⟩
    · rw [hs.2 i (by omega)]
      exact ih i (by omega)
theorem gone_und {T : List FS} {p : Int} (hv : ValidT T) (hp : 0 ≤ p) {k : Nat} (hk : k < T.length) : Gone p (remF p ((fns T).take k)).1 (fnAt T k) ↔ Und T p k = true := by
  have h := rem_und hv hp (k + 1) (by omega) k (by omega)
  have hlen : (remF p ((fns T).take k)).1.length = k := by rw [(remF_len p _).1]; simp; omega
  have hs := (remS_last p (remF p ((fns T).take k)) (fnAt T k)).1
  rw [hlen] at hs
  rw [take_fns hk, remF_snoc, hs] at h
  exact h

theorem rUnder_spec (T : List FS) (s : Sl) (i : Nat) (p : Int) (H : Heap) (h : Topo H s T) (hv : ValidT T) (hi : i < T.length) :
    CallsH Try.prog n_ref21_under #[.slice s.p s.n s.c, .int .i64 i, .int .i64 p] H (fun v H' => v = .bool (Und T p i) ∧ H' = H) := by
  refine F_ref21_under_ok _ _ _ ?_
  unfold F_ref21_under
  have hn := h.len
  obtain ⟨a, hp, hr⟩ := h.at hi
  have hpa := (hv.2 i hi).pa
  refine ⟨by omega, by omega, unSome_mk hp ⟨_, (rdFn hr).1, fun j H' => H' = H ∧ -1 ≤ j ∧ j < T.length ∧ Und T p i = unF T p (j.toNat + 1) j, fun j _ => (j + 1).toNat, ⟨rfl, by omega, by omega, unF_fuel hv _ _ (by omega) (by omega)⟩, ?_⟩⟩
  rintro j H1 ⟨rfl, hj0, hj, hab⟩
  unfold F_ref21_under_r1
  refine iteB_dec (fun c => iteB_beq (fun c1 => ⟨?_, rfl⟩) (fun c1 => ?_)) (fun c => ⟨by rw [hab, unF_neg (by omega)], rfl⟩)
  · rw [hab]; unfold unF; rw [if_neg (by omega), if_pos c1]
  · obtain ⟨m, rfl⟩ := Int.eq_ofNat_of_zero_le c
    obtain ⟨b, hq, hr2⟩ := h.at (i := m) (by omega)
    have hpm := (hv.2 m (by omega)).pa
    exact ⟨by omega, by omega, unSome_mk hq ⟨_, (rdFn hr2).1, ⟨rfl, by omega, by omega, by rw [hab]; exact unF_step hv (by omega) c1⟩, by dsimp only; omega⟩⟩

theorem IxB.reset {H : Heap} {b : Nat} {ix : List Int} {m : Nat} {z : Int} (h : IxB H b (ix ++ [z]) m) (y : Int) : IxB (wrs H ((⟨b, 0, none⟩ : Addr).add (ix.length * 1)) [.int .i64 y]) b (ix ++ [y]) m := by
  have := RB.wr0 h (i := ix.length) (x := z) (y := y) (v := .int .i64 y) (by rw [List.append_assoc, List.getElem?_append_right (Nat.le_refl _)]; simp) (by omega) rfl
  rw [List.append_assoc, List.set_append_right _ _ (Nat.le_refl _), Nat.sub_self, List.singleton_append, List.set_cons_zero] at this
  unfold IxB
  rw [List.append_assoc]
  exact this

theorem rremove_asg {T : List FS} {A : List Asg} {s a : Sl} {p : Int} {H H2 H5 : Heap} {restv : Sl} {T1 : List FS} {ix : List Int} (hT : Topo H s T) (hA : IsS 5 encA H a A) (hAl : A.length ≤ 100000) (hv : ValidT T) (hport : IsPort T p)
    (hix : ix = (remF p (fns T)).1) (hf1 : fns T1 = (remF p (fns T)).2) (h1 : Topo H5 restv T1) (hI : IxB H5 H2.size ix 0) (e5 : Ext H H5) :
    ∃ I_1 : Sl → Int → Heap → Prop, ∃ M_1 : Sl → Int → Heap → Nat, I_1 (Sl.mk none 0 0) (0 : Int) H5 ∧ (∀ left : Sl, ∀ i3 : Int, ∀ H16 : Heap, I_1 left i3 H16 → F_ref21_Remove_r3 (RemP T A p H) s a H2 restv I_1 M_1 left i3 H16) := by
  have hn := hT.len
  have han := hA.len
  have hixl : ix.length = T.length := by rw [hix, (remF_len p (fns T)).1]; simp
  have hT64 := hv.1
  refine loop2 A.length (fun k out H' => Own H5.size t_api_Assignment 5 H' out (((A.take k).filterMap (asgF T.length ix)).flatMap encA) ∧ Ext H5 H') ⟨Own.nil _ _ _ _, .refl _⟩ ?_
  rintro k out H18 hk ⟨o18, e18⟩
  unfold F_ref21_Remove_r3
  rw [Int.toNat_natCast]
  have n18 := Own.len rkAsg o18
  have hfl : ((A.take k).filterMap (asgF T.length ix)).length ≤ k := by
    have h1 := List.length_filterMap_le (asgF T.length ix) (A.take k)
    have h2 : (A.take k).length ≤ k := by simp; omega
    omega
  refine iteB_dec (fun c => ?_) (fun c => ?_)
  · have hkn : k < A.length := by omega
    obtain ⟨q, hq, hr⟩ := IsS.atN (hA.ext (e5.trans e18)) ((0, 0, 0, 0), 0) hkn
    have htk := take_succ_d ((0, 0, 0, 0), 0) hkn
    generalize A.getD k ((0, 0, 0, 0), 0) = x at *
    obtain ⟨⟨x0, x1, x2, x3⟩, x4⟩ := x
    have hstep : (A.take (k + 1)).filterMap (asgF T.length ix) = (A.take k).filterMap (asgF T.length ix) ++ (asgF T.length ix ((x0, x1, x2, x3), x4)).toList := by
      rw [htk, List.filterMap_append]
      congr 1
    have hI18 : IxB H18 H2.size ix 0 := RB.ext hI e18
    refine ⟨by omega, by omega, unSome_mk hq ⟨x0, hr 0 _ rfl, fun b H' => (b = true ↔ (0 ≤ x0 ∧ x0 < T.length) ∧ 0 ≤ ix.getD x0.toNat 0) ∧ H' = H18, iteB_dec (fun d => iteB_dec (fun d1 => ⟨by omega, by omega, ix.getD x0.toNat 0, ?_, ?_, rfl⟩) (fun d1 => ⟨by simp; omega, rfl⟩)) (fun d => ⟨by simp; omega, rfl⟩), ?_⟩⟩
    · exact IxB.rd' hI18 (by omega)
    · simp; omega
    rintro b H17 ⟨hb, rfl⟩
    unfold F_ref21_Remove_k2
    refine iteB_intro (fun d => ?_) (fun d => letV_mk _ rfl (next2 hkn (by omega) ⟨?_, e18⟩))
    · have hc := hb.1 d
      have hval : asgF T.length ix ((x0, x1, x2, x3), x4) = some ((ix.getD x0.toNat 0, x1, x2, x3), x4) := by unfold asgF; rw [if_pos hc]
      refine ⟨by omega, by omega, unSome_mk hq ⟨x0, hr 0 _ rfl, x1, hr 1 _ rfl, x2, hr 2 _ rfl, x3, hr 3 _ rfl, x4, hr 4 _ rfl, local_mk (vs := encA ((x0, x1, x2, x3), x4)) rfl rfl fun H19 e19 z19 b19 => ?_⟩⟩
      refine ⟨by omega, by omega, ix.getD x0.toNat 0, by rw [Int.toNat_natCast] at *; exact IxB.rd' (RB.ext hI18 e19) (by omega), b19.ok0 (by simp [encA]), letH_mk ?_⟩
      intro H20 h20
      have b20 : Blk H20 H17.size t_api_Assignment (encA ((ix.getD x0.toNat 0, x1, x2, x3), x4)) := by rw [h20]; exact b19.wr
      have m20 : Mods [H17.size] H19 H20 := by rw [h20]; exact Mods.wrs (by simp)
      clear h20
      have e1820 : Ext H17 H20 := Mods.ext e19 m20 (by simp)
      refine ⟨_, b20.rd0 rfl, _, b20.rd (i := 1) rfl, _, b20.rd (i := 2) rfl, _, b20.rd (i := 3) rfl, _, b20.rd (i := 4) rfl, ?_⟩
      refine apR rkAsg ((ix.getD x0.toNat 0, x1, x2, x3), x4) (lo := H5.size) (o18.ext e1820) (by omega) (e18.trans e1820).size ?_
      intro s' H22 ho hn22 m22
      refine letV_mk _ rfl (next2 hkn (by omega) ⟨?_, Mods.ext (e18.trans e1820) m22 (blkOf_new o18.new)⟩)
      rw [hstep, hval]
      exact ho
    · have hval : asgF T.length ix ((x0, x1, x2, x3), x4) = none := by unfold asgF; rw [if_neg (fun hh => by have := hb.2 hh; rw [d] at this; cases this)]
      rw [hstep, hval]
      simpa using o18
  · obtain rfl : k = A.length := by omega
    rw [List.take_length] at o18
    refine ⟨restv, out, ⟨some ⟨H2.size, 0, none⟩, s.n, s.n⟩, 0, _, T1, _, ix, rfl, .inr (.inr ⟨hv, hport, rfl, rfl, rfl, hix⟩), hf1, h1.ext e18, ?_, ?_, e5.trans e18⟩
    · rw [← hix]; exact Own.is rkAsg o18
    · have := RB.isS (RB.ext hI e18) s.n s.n (by simp; omega)
      simpa using this

theorem rRemove_spec (T : List FS) (A : List Asg) (s a : Sl) (p : Int) (H : Heap) (hT : Topo H s T) (hA : IsS 5 encA H a A) (hAl : A.length ≤ 100000) :
    CallsH Try.prog n_ref21_Remove #[.slice s.p s.n s.c, .slice a.p a.n a.c, .int .i64 p] H (RemP T A p H) := by
  refine F_ref21_Remove_ok _ _ _ ?_
  unfold F_ref21_Remove
  have hn := hT.len
  refine (rVal_spec T s H hT).mono ?_
  rintro v H1 ⟨rfl, e1⟩
  refine ⟨_, rfl, iteB_not (fun d => RemP.no (.inl ⟨by simpa using d, rfl, rfl, rfl, rfl⟩) e1) (fun d => ?_)⟩
  have hv : ValidT T := by simpa using d
  have hl64 := hv.1
  refine (rport_spec T s p H1 (hT.ext e1)).mono ?_
  rintro v H2 ⟨rfl, rfl⟩
  refine ⟨_, rfl, iteB_not (fun d => RemP.no (.inr (.inl ⟨hv, by simpa using d, rfl, rfl, rfl, rfl⟩)) e1) (fun d => ?_)⟩
  have hport : IsPort T p := by simpa using d
  have hp0 : 0 ≤ p := hport.1.1
  refine ⟨by omega, by omega, by omega, letH_mk ?_⟩
  rw [Int.toNat_natCast]
  intro H3 h3
  have e3 : Ext H2 H3 := by rw [h3]; exact Ext.push _ _
  have z3 : H3.size = H2.size + 1 := by rw [h3]; simp
  have i3 : IxB H3 H2.size [] T.length := by
    rw [h3, ← hn]
    exact RB.zero H2 t_int (ints_row _) s.n (.int .i64 0) (0 : Int) rfl
  clear h3
  have hle2 := e1.size
  refine loop2 T.length (fun k out H' => ∃ T1 : List FS, fns T1 = (remF p ((fns T).take k)).2 ∧ Own H3.size t_api_Function 11 H' out (T1.flatMap encF) ∧ GT H' T1 ∧ IxB H' H2.size (remF p ((fns T).take k)).1 (T.length - k) ∧ Ext H H' ∧ H3.size ≤ H'.size) ⟨[], rfl, Own.nil _ _ _ _, (fun x hx => by cases hx), i3, e1.trans e3, Nat.le_refl _⟩ ?_
  rintro k out H4 hk ⟨T1, hf1, o4, g4, i4, e4, hz4⟩
  unfold F_ref21_Remove_r4
  rw [Int.toNat_natCast, Int.toNat_natCast]
  obtain ⟨hl1, hl2⟩ := remF_len p ((fns T).take k)
  have hlk : ((fns T).take k).length = k := by simp; omega
  rw [hlk] at hl1 hl2
  have hT1e : T1.length = (remF p ((fns T).take k)).2.length := by have := congrArg List.length hf1; simpa using this
  have n4 := Own.len rkFn o4
  refine iteB_dec (fun c => ?_) (fun c => ?_)
  · have hkn : k < T.length := by omega
    have hbars := hT.barsAt hkn
    have hbl := (hv.2 k hkn).va.bl
    have hpa := (hv.2 k hkn).pa
    have hrg : regs (fnAt T k).bridge ≤ 6 := by unfold regs; split <;> omega
    have htk := take_fns hkn
    have hgu := gone_und hv hp0 hkn
    have hsn : remF p ((fns T).take (k + 1)) = remS p (remF p ((fns T).take k)) (fnAt T k) := by rw [htk, remF_snoc]
    generalize hst : remF p ((fns T).take k) = st at *
    obtain ⟨m, hm⟩ : ∃ m, T.length - k = m + 1 := ⟨T.length - k - 1, by omega⟩
    rw [hm] at i4
    have hkk : k = st.1.length := hl1.symm
    have hmk : T.length - (k + 1) = m := by omega
    have nty : ∀ {Hx : Heap} {ix : List Int} {mm : Nat}, IxB Hx H2.size ix mm → ∀ {e : TypeId} {q : Option Addr}, e ≠ t_int → TyB Hx q e → ∀ a, q = some a → a.block ∉ [H2.size] := fun {Hx ix mm} hI {e q} he hq a ha => by
      obtain ⟨_, ex, hbk⟩ := hI
      have t1 : TyB Hx (some ⟨H2.size, 0, none⟩) t_int := fun a ha => by cases ha; exact ⟨_, _, hbk⟩
      have := ty_ne hq t1 he a ha
      simpa [blkOf] using this
    refine ⟨by omega, by omega, by rw [hkk]; exact i4.ok', letH_mk ?_⟩
    intro H5 h5
    have i5 : IxB H5 H2.size (st.1 ++ [-1]) m := by rw [h5, hkk]; exact i4.set (-1)
    have m5 : Mods [H2.size] H4 H5 := by rw [h5]; exact mods_wr_add (by simp)
    clear h5
    have e5 : Ext H H5 := Mods.ext e4 m5 (by simp; omega)
    have o5 := o4.mods m5 (nty i4 (by decide) (own_ty o4))
    have g5 := g4.mods m5 (fun q hq => nty i4 (by decide) hq)
    have hz5 := m5.size
    refine (rUnder_spec T s k p H5 (hT.ext e5) hv hkn).mono ?_
    rintro v H6 ⟨rfl, rfl⟩
    refine ⟨_, rfl, iteB_not (fun d1 => ?_) (fun d1 => ?_)⟩
    rotate_left
    · have hg := hgu.2 d1
      refine letV_mk _ rfl (next2 hkn (by omega) ⟨T1, ?_, o5, g5, ?_, e5, by omega⟩)
      · rw [hsn, hf1]; unfold remS; rw [if_pos hg]
      · rw [hsn, hmk]; unfold remS; rw [if_pos hg]; exact i5
    · have hg : ¬ Gone p st.1 (fnAt T k) := fun hh => by have := hgu.1 hh; rw [d1] at this; cases this
      obtain ⟨q, hq, hr⟩ := (hT.ext e5).at hkn
      rw [Int.toNat_natCast] at hr
      obtain ⟨p0, p1, p2, p3, p4, p5, p6, p7, p8, p9, p10⟩ := rdFn hr
      generalize fnAt T k = f at *
      generalize slAt T k = fs at *
      refine ⟨by omega, by omega, unSome_mk hq ⟨_, p0, _, p1, _, p2, _, p3, _, p4, _, p5, _, p6, _, p7, _, p8, _, p9, fs, p10, local_mk (vs := fnL f fs) rfl rfl fun H8 e8 z8 b8 => ⟨fs, b8.rd (i := 10) rfl, copyBars (hbars.ext (e5.trans e8)) (by omega) ?_⟩⟩⟩
      intro cs H9 o9 e9
      refine ⟨cs, rfl, (b8.ext e9).ok (by simp), letH_mk ?_⟩
      intro H10 h10
      have b10 : Blk H10 H6.size t_api_Function (fnL f cs) := by rw [h10]; exact (b8.ext e9).wr1
      have m10 : Mods [H6.size] H9 H10 := by rw [h10]; exact mods_wr_add (by simp)
      clear h10
      have n9 : ∀ a, cs.p = some a → a.block ∉ [H6.size] := fun a ha => by have := o9.new a ha; simp; omega
      have o10 := o9.mods m10 n9
      have e610 : Ext H6 H10 := Mods.ext (e8.trans e9) m10 (by simp)
      have i10 : IxB H10 H2.size (st.1 ++ [-1]) m := RB.ext i5 e610
      have bt10 : TyB H10 (some ⟨H6.size, 0, none⟩) t_api_Function := fun a ha => by cases ha; exact ⟨_, _, b10⟩
      have n10 : ∀ a, cs.p = some a → a.block ∉ [H6.size] := fun a ha => by have := ty_ne (own_ty o10) bt10 (by decide) a ha; simpa [blkOf] using this
      refine ⟨fun H' => Blk H' H6.size t_api_Function (fnL (mvd st.1 f) cs) ∧ Mods [H6.size] H10 H', ⟨_, b10.rd0 rfl, iteB_dec (fun d2 => ⟨_, b10.rd0 rfl, by omega, by omega, ?_⟩) (fun d2 => ⟨?_, Mods.refl _ _⟩)⟩, ?_⟩
      · obtain ⟨j, hj⟩ := Int.eq_ofNat_of_zero_le d2
        have hjk : j < st.1.length := by omega
        refine ⟨st.1.getD f.parent.toNat 0, ?_, b10.ok0 (by simp), letH_mk ?_⟩
        · rw [hj, Int.toNat_natCast]
          have := i10.rd' (i := j) (by simp; omega)
          rw [List.getD, List.getElem?_append_left hjk] at this
          exact this
        · rintro H11 rfl
          refine ⟨?_, Mods.wrs (by simp)⟩
          have := b10.wr (o := 0) (ws := [.int .i64 (st.1.getD f.parent.toNat 0)])
          have e : mvd st.1 f = { f with parent := st.1.getD f.parent.toNat 0 } := by unfold mvd; rw [if_pos d2]
          rw [e]
          exact this
      · have e : mvd st.1 f = f := by unfold mvd; rw [if_neg d2]
        rw [e]; exact b10
      · rintro H12 ⟨b12, m12⟩
        unfold F_ref21_Remove_k1
        rw [Int.toNat_natCast, Int.toNat_natCast]
        have e612 : Ext H6 H12 := Mods.ext e610 m12 (by simp)
        have i12 : IxB H12 H2.size (st.1 ++ [-1]) m := RB.ext i5 e612
        have o12 := o10.mods m12 n10
        refine ⟨by omega, by omega, ?_, letH_mk ?_⟩
        · rw [hkk]
          exact RB.ok0 i12 (by simp) (by omega)
        intro H13 h13
        have i13 : IxB H13 H2.size (st.1 ++ [(out.n : Int)]) m := by rw [h13, hkk]; exact i12.reset _
        have m13 : Mods [H2.size] H12 H13 := by rw [h13]; exact mods_wr_add (by simp)
        clear h13
        have hne : H6.size ≠ H2.size := by have := RB.lt i5; omega
        have b13 : Blk H13 H6.size t_api_Function (fnL (mvd st.1 f) cs) := b12.mods m13 (by simpa using hne)
        have og12 := o5.ext e612
        have o13 := og12.mods m13 (nty i12 (by decide) (own_ty og12))
        have g13 := (g5.ext e612).mods m13 (fun q hq => nty i12 (by decide) hq)
        have c13 := o12.mods m13 (nty i12 (by decide) (own_ty o12))
        have x13 : Ext H H13 := Mods.ext (e5.trans e612) m13 (by simp; omega)
        have hz13 := m13.size
        have hz12 := e612.size
        obtain ⟨u0, u1, u2, u3, u4, u5, u6, u7, u8, u9, u10⟩ := Blk.fn b13
        refine ⟨_, u0, _, u1, _, u2, _, u3, _, u4, _, u5, _, u6, _, u7, _, u8, _, u9, cs, u10, ?_⟩
        refine apR rkFn (mvd st.1 f, cs) (lo := H3.size) o13 (by omega) (by omega) ?_
        intro s' H15 ho hn15 m15
        have nout : ∀ q, TyB H13 q t_api_Bar → ∀ a, q = some a → a.block ∉ blkOf out.p := fun q hq a ha => ty_ne hq (own_ty o13) (by decide) a ha
        have nix : H2.size ∉ blkOf out.p := fun hh => by
          obtain ⟨_, ex, hbk⟩ := i13
          have t1 : TyB H13 (some ⟨H2.size, 0, none⟩) t_int := fun a ha => by cases ha; exact ⟨_, _, hbk⟩
          exact ty_ne t1 (own_ty o13) (by decide) _ rfl hh
        have hz15 := m15.size
        refine letV_mk _ rfl (next2 hkn (by omega) ⟨T1 ++ [(mvd st.1 f, cs)], ?_, ho, (GT.append (f := mvd st.1 f) g13 (Own.is rkBar c13) (own_ty c13)).mods m15 nout, ?_, Mods.ext x13 m15 (fun x hx => by have := blkOf_new o4.new x hx; omega), by omega⟩)
        · rw [hsn]; unfold remS; rw [if_neg hg]; show List.map _ _ = _; rw [List.map_append]; show fns T1 ++ _ = _; rw [hf1]; rfl
        · rw [hsn, hmk]; unfold remS; rw [if_neg hg]
          have : (out.n : Int) = (st.2.length : Int) := by omega
          rw [← this]
          exact RB.mods i13 m15 nix
  · obtain rfl : k = T.length := by omega
    have htake : (fns T).take T.length = fns T := List.take_of_length_le (by simp)
    rw [htake] at hf1 i4
    rw [Nat.sub_self] at i4
    exact rremove_asg hT hA hAl hv hport rfl hf1 ⟨Own.is rkFn o4, fun x hx => (g4 x hx).1⟩ i4 e4

end Go.Proofs.Ytnhhncjflnlfaaa
end

section
/-
  The contract of the reference's Assign.
-/
namespace Go.Proofs.Ytnhhncjflnlfaaa
open Go.Eng
set_option linter.unusedVariables false

theorem regL_size {T : List FS} {high : Bool} {i : Nat} {B : List Bar} (hB : ∀ j, j < B.length → BarOk B j) : ∀ n, n ≤ B.length → ∀ x ∈ regL T high i B n, 0 ≤ x.2.2.2
  | 0, _, x, h => by simp [regL] at h
  | n + 1, hn, x, h => by
    simp only [regL, List.mem_append] at h
    rcases h with h | h
    · exact regL_size hB n (by omega) x h
    · split at h
      · simp at h
      · simp only [List.mem_singleton] at h
        subst h
        have := hB n (by omega)
        unfold BarOk at this
        show 0 ≤ bz B n
        omega
theorem winN_size (T : List FS) (high : Bool) (i : Nat) (S : Nat → List Int) : ∀ n, ∀ x ∈ winN T high i S n, 0 ≤ x.2.2.2
  | 0, x, h => by simp [winN] at h
  | n + 1, x, h => by
    simp only [winN, List.mem_append] at h
    rcases h with h | h
    · exact winN_size T high i S n x h
    · split at h
      · simp only [List.mem_singleton] at h
        subst h
        show 0 ≤ wszF _ _ _
        unfold wszF
        split <;> omega
      · simp at h

/-- What holds of each need. -/
structure NdOk (T : List FS) (x : Need) : Prop where
  fn : 0 ≤ x.1 ∧ x.1 < T.length
  cl : 0 ≤ x.2.2.1 ∧ x.2.2.1 < 3
  sz : 0 ≤ x.2.2.2 ∧ x.2.2.2 ≤ 44
theorem needs_ok {T : List FS} {high : Bool} (hv : ValidT T) (ho : ¬ Ovf T high) : ∀ x ∈ needsAll T high, NdOk T x := by
  intro x hx
  obtain ⟨i, hi, hxi⟩ := List.mem_flatMap.1 hx
  have hi' : i < T.length := List.mem_range.1 hi
  have hle : ¬ (x.2.2.2 > largestF x.2.2.1) := fun hgt => ho ⟨i, hi', x, hxi, hgt⟩
  have hL : largestF x.2.2.1 ≤ 44 := by unfold largestF; split <;> (try split) <;> omega
  have hf := needsAt_fst hi' x hxi
  rw [needsAt_own' hi'] at hxi
  have hc := ownL_cl _ _ _ _ x hxi
  refine ⟨by omega, hc, ?_, by omega⟩
  simp only [ownL, List.mem_append] at hxi
  rcases hxi with h | h
  · exact regL_size (hv.2 i hi').va.ba _ (Nat.le_refl _) x h
  · unfold winAll at h
    split at h
    · exact winN_size _ _ _ _ 3 x h
    · cases h

theorem plI_bnd (S : List Int) : ∀ (ord : List Nat) (l : List Rg) (bs : List Int) (x : List Rg × List Int), plI S ord l bs = some x → Asc l → (∀ r ∈ l, RgOk r) → (∀ b ∈ bs, 0 ≤ b ∧ b ≤ 4503599627370496) → ∀ b ∈ x.2, 0 ≤ b ∧ b ≤ 4503599627370496
  | [], l, bs, x, h, _, _, hb => by simp [plI] at h; rw [← h]; exact hb
  | i :: ord, l, bs, x, h, ha, hr, hb => by
    simp only [plI] at h
    cases ht : takeF l (2 ^ szOf S i) with
    | none => rw [ht] at h; cases h
    | some y =>
      obtain ⟨b, l'⟩ := y
      rw [ht] at h
      have hP := pow_pos2 (szOf S i)
      obtain ⟨r, hrm, h1, h2, h3, h4⟩ := takeF_some ht hP
      have hx : 1 ≤ ((b, (2 : Int) ^ szOf S i) : Rg).2 := pow_ge1 _
      have hro := hr r hrm
      unfold RgOk at hro
      obtain ⟨r1, _, r3⟩ := rmF_spec ha hx
      refine plI_bnd S ord l' (bs.set i b) x h (by rw [h4]; exact r1) (fun q hq => ?_) (fun c hc => ?_)
      · rw [h4] at hq
        obtain ⟨f, hf, g1, g2⟩ := r3 q hq
        have := hr f hf
        have := Asc.len r1 q hq
        unfold RgOk at *
        omega
      · rcases List.mem_or_eq_of_mem_set hc with hc | rfl
        · exact hb c hc
        · omega
def Bnd (B : List Int) : Prop := ∀ b ∈ B, 0 ≤ b ∧ b ≤ 4503599627370496
theorem placeV_bnd (free : List Rg) (S : List Int) : Bnd (placeV free S).2.1 := by
  unfold placeV
  split
  · rename_i h
    cases hp : plI S (ordF S) (mergeF free) (List.replicate S.length 0) with
    | none => intro b hb; cases hb
    | some x =>
      obtain ⟨vm, am⟩ := h.1.merge
      exact plI_bnd S _ _ _ _ hp am vm.2 (fun b hb => by have := (List.mem_replicate.1 hb).2; omega)
  · intro b hb; cases hb
theorem setB_bnd {N : List Need} : ∀ (l : List (Need × Int)) (B : List Int), Bnd B → Bnd (l.map Prod.snd) → Bnd (setB N B l)
  | [], B, h, _ => h
  | x :: l, B, h, hl => by
    refine setB_bnd l _ (fun b hb => ?_) (fun b hb => hl b (by simp at hb ⊢; exact .inr hb))
    rcases List.mem_or_eq_of_mem_set hb with hb | rfl
    · exact h b hb
    · exact hl x.2 (by simp)
theorem plS_ok (T : List FS) (N : List Need) (B : List Int) (p c : Int) (free : List Rg) (h : Bnd B) : Bnd (plS T N B p c free).2.2 ∧ (plS T N B p c free).2.2.length = B.length := by
  unfold plS
  refine ⟨setB_bnd _ _ h (fun b hb => ?_), setB_len _ _ _⟩
  obtain ⟨x, hx, rfl⟩ := List.mem_map.1 hb
  exact placeV_bnd _ _ _ (List.of_mem_zip hx).2

/-- The root bus: so many classes are done. -/
def rootR (T : List FS) (N : List Need) (h : Host) : Nat → Int × Cert × List Int
  | 0 => (0, noCert, List.replicate N.length 0)
  | k + 1 => if (rootR T N h k).1 ≠ 0 then rootR T N h k else plS T N (rootR T N h k).2.2 (-1) k (spaceF h k)
def winF (N : List Need) (B : List Int) (w : Nat) : Rg := (B.getD w 0, 2 ^ (N.getD w (0, 0, 0, 0)).2.2.2.toNat)
def brStep (T : List FS) (N : List Need) (B : List Int) (i c : Nat) : List Int :=
  match atN N i (-1 - (c : Int)) with
  | none => B
  | some w => (plS T N B i c [winF N B w]).2.2
def brR (T : List FS) (N : List Need) (B : List Int) : Nat → List Int
  | 0 => B
  | m + 1 => brStep T N (brR T N B m) (m / 3) (m % 3)

theorem rootR_ok (T : List FS) (N : List Need) (h : Host) : ∀ k, Bnd (rootR T N h k).2.2 ∧ (rootR T N h k).2.2.length = N.length
  | 0 => ⟨fun b hb => by have := (List.mem_replicate.1 hb).2; omega, by simp [rootR]⟩
  | k + 1 => by
    obtain ⟨h1, h2⟩ := rootR_ok T N h k
    unfold rootR
    split
    · exact ⟨h1, h2⟩
    · have := plS_ok T N (rootR T N h k).2.2 (-1) k (spaceF h k) h1
      exact ⟨this.1, by rw [this.2]; exact h2⟩
theorem brStep_ok (T : List FS) (N : List Need) (B : List Int) (i c : Nat) (h : Bnd B) : Bnd (brStep T N B i c) ∧ (brStep T N B i c).length = B.length := by
  unfold brStep
  split
  · exact ⟨h, rfl⟩
  · exact plS_ok _ _ _ _ _ _ h
theorem brR_ok (T : List FS) (N : List Need) (B : List Int) (h : Bnd B) : ∀ m, Bnd (brR T N B m) ∧ (brR T N B m).length = B.length
  | 0 => ⟨h, rfl⟩
  | m + 1 => by
    obtain ⟨h1, h2⟩ := brR_ok T N B h m
    have := brStep_ok T N (brR T N B m) (m / 3) (m % 3) h1
    exact ⟨this.1, by unfold brR; rw [this.2]; exact h2⟩
theorem rootR_stick {T : List FS} {N : List Need} {h : Host} {k : Nat} (hk : (rootR T N h k).1 ≠ 0) : ∀ d, rootR T N h (k + d) = rootR T N h k
  | 0 => rfl
  | d + 1 => by
    have ih := rootR_stick hk d
    rw [← Nat.add_assoc]
    show (if (rootR T N h (k + d)).1 ≠ 0 then rootR T N h (k + d) else _) = _
    rw [ih, if_pos hk]

def hiF (h : Host) : Bool := decide (0 < h.high.length)
/-- What Assign answers. -/
def AssignIs (T : List FS) (h : Host) (e : Int) (A : List Asg) (c : Cert) : Prop :=
  (¬ (ValidT T ∧ ValidH h) ∧ e = 1 ∧ A = [] ∧ c = noCert) ∨
  ((ValidT T ∧ ValidH h) ∧ ∃ e0 N, NeedsIs T (hiF h) e0 N ∧ ((e0 ≠ 0 ∧ e = e0 ∧ A = [] ∧ c = noCert) ∨
    (e0 = 0 ∧ (rootR T N h 3).1 ≠ 0 ∧ e = (rootR T N h 3).1 ∧ A = [] ∧ c = (rootR T N h 3).2.1) ∨
    (e0 = 0 ∧ (rootR T N h 3).1 = 0 ∧ e = 0 ∧ A = N.zip (brR T N (rootR T N h 3).2.2 (3 * T.length)) ∧ c = noCert)))
theorem AssignIs.uni {T : List FS} {h : Host} {e e' : Int} {A A' : List Asg} {c c' : Cert} (a : AssignIs T h e A c) (b : AssignIs T h e' A' c') : e = e' ∧ A = A' ∧ c = c' := by
  rcases a with ⟨a0, rfl, rfl, rfl⟩ | ⟨a0, e0, N, hN, a1⟩ <;> rcases b with ⟨b0, rfl, rfl, rfl⟩ | ⟨b0, e1, M, hM, b1⟩
  · exact ⟨rfl, rfl, rfl⟩
  · exact absurd b0 a0
  · exact absurd a0 b0
  · obtain ⟨rfl, rfl⟩ := hN.uni hM
    rcases a1 with ⟨u, rfl, rfl, rfl⟩ | ⟨u, v, rfl, rfl, rfl⟩ | ⟨u, v, rfl, rfl, rfl⟩ <;> rcases b1 with ⟨u', rfl, rfl, rfl⟩ | ⟨u', v', rfl, rfl, rfl⟩ | ⟨u', v', rfl, rfl, rfl⟩ <;> first | exact ⟨rfl, rfl, rfl⟩ | contradiction

/-- An answer of Assign in memory. -/
def AssignP (T : List FS) (h : Host) (H : Heap) (v : Value) (H' : Heap) : Prop :=
  ∃ (out : Sl) (e : Int) (A : List Asg) (c : Cert), v = .tuple #[.slice out.p out.n out.c, certV c, .int .i64 e] ∧ AssignIs T h e A c ∧ IsS 5 encA H' out A ∧ Own H.size t_api_Assignment 5 H' out (A.flatMap encA) ∧ Ext H H'

theorem AssignP.no {T : List FS} {h : Host} {H H' : Heap} {e : Int} {c : Cert} (ha : AssignIs T h e [] c) (he : Ext H H') : AssignP T h H (.tuple #[.slice none 0 0, certV c, .int .i64 e]) H' :=
  ⟨⟨none, 0, 0⟩, e, [], c, rfl, ha, IsS.nil _ _ _, Own.nil _ _ _ _, he⟩

theorem rAssign_spec (T : List FS) (s : Sl) (h : Host) (hs : HostS) (H : Heap) (hT : Topo H s T) (hm : HostM H h hs) : CallsH Try.prog n_ref21_Assign #[.slice s.p s.n s.c, hostV h hs] H (AssignP T h H) := by
  refine F_ref21_Assign_ok _ _ _ _ _ _ _ _ _ ?_
  unfold F_ref21_Assign
  have hn := hT.len
  refine push_mk (vs := hostL h hs) fun H1 e1 z1 b1 => push_mk (vs := encC noCert) fun H2 e2 z2 b2 => ?_
  have x2 := e1.trans e2
  refine ⟨fun b H' => (b = false ↔ ValidT T ∧ ValidH h) ∧ Ext H2 H', ?_, ?_⟩
  · refine (rVal_spec T s H2 (hT.ext x2)).mono ?_
    rintro v H3 ⟨rfl, e3⟩
    refine ⟨_, rfl, iteB_not (fun c => ⟨by simp at c; simp [c], e3⟩) (fun c => ?_)⟩
    obtain ⟨p0, p1, p2, p3, p4, p5, p6, p7⟩ := Blk.host ((b1.ext e2).ext e3)
    refine ⟨_, p0, _, p1, _, p2, _, p3, _, p4, _, p5, _, p6, _, p7, (rValidHost_spec h hs H3 (hm.ext (x2.trans e3))).mono ?_⟩
    rintro v H4 ⟨rfl, e4⟩
    simp at c
    exact ⟨_, rfl, by simp [c], e3.trans e4⟩
  rintro b H5 ⟨hb, e5⟩
  unfold F_ref21_Assign_k5
  have x5 := x2.trans e5
  have c5 := b2.ext e5
  have hz1 : H.size ≤ H1.size := e1.size
  refine iteB_intro (fun c => ?_) (fun c => ?_)
  · refine cert_wr (c := noCert) (K := fun v H' => AssignP T h H (.tuple #[.slice none 0 0, v, .int .i64 1]) H') c5 (fun H' m' _ => ?_)
    exact AssignP.no (.inl ⟨(fun hh => by have := hb.2 hh; rw [c] at this; cases this), rfl, rfl, rfl⟩) (Mods.ext x5 m' (by simpa using hz1))
  obtain ⟨hv, hvh⟩ := hb.1 c
  have hl64 := hv.1
  have p3 := (Blk.host ((b1.ext e2).ext e5)).2.2.2.1
  have hhigh : decide ((hs.high.n : Int) > 0) = hiF h := by
    have := hm.high.len
    unfold hiF
    rw [this]
    simp
  refine ⟨_, p3, ?_⟩
  rw [hhigh]
  refine (rNeeds_spec T s (hiF h) H5 (hT.ext x5)).mono ?_
  intro v H7 h7
  obtain ⟨ns, e0, N, rfl, isN, hNI, e7⟩ := h7.outI
  have x7 := x5.trans e7
  refine ⟨ns, e0, rfl, iteB_bne (fun d => ?_) (fun d => ?_)⟩
  · refine cert_wr (c := noCert) (K := fun v H' => AssignP T h H (.tuple #[.slice none 0 0, v, .int .i64 e0]) H') (c5.ext e7) (fun H' m' _ => ?_)
    exact AssignP.no (.inr ⟨⟨hv, hvh⟩, e0, N, hNI, .inl ⟨d, rfl, rfl, rfl⟩⟩) (Mods.ext x7 m' (by simpa using hz1))
  subst d
  have hNl := hNI.len
  have hnn := isN.len
  have hNd : ∀ x ∈ N, NdOk T x := by
    rcases hNI with ⟨_, h0, _⟩ | ⟨_, _, h0, _⟩ | ⟨_, ho, _, rfl⟩
    · cases h0
    · cases h0
    · exact needs_ok hv ho
  have AI : ∀ {e A c}, ((0 : Int) = 0 ∧ (rootR T N h 3).1 ≠ 0 ∧ e = (rootR T N h 3).1 ∧ A = [] ∧ c = (rootR T N h 3).2.1) ∨ ((0 : Int) = 0 ∧ (rootR T N h 3).1 = 0 ∧ e = 0 ∧ A = N.zip (brR T N (rootR T N h 3).2.2 (3 * T.length)) ∧ c = noCert) → AssignIs T h e A c := fun hh => .inr ⟨⟨hv, hvh⟩, 0, N, hNI, .inr hh⟩
  refine ⟨by omega, by omega, by omega, letH_mk ?_⟩
  rw [Int.toNat_natCast]
  intro H9 h9
  have e9 : Ext H7 H9 := by rw [h9]; exact Ext.push _ _
  have a9 : RB H9 H7.size t_api_Assignment 5 encA (List.replicate N.length ((0, 0, 0, 0), 0)) := by
    rw [h9, ← hnn]
    exact RB.zero H7 t_api_Assignment encA_len ns.n (.agg #[.int .i64 0, .int .i64 0, .int .i64 0, .int .i64 0, .int .u64 0]) (((0, 0, 0, 0), 0) : Asg) rfl
  have cs9 : CS H9 H7.size (N.length * 5) := by
    rw [h9, ← hnn]
    exact ⟨_, _, push_new _ _, by rw [zeroRow_size]; rfl⟩
  clear h9
  have hzz : H1.size < H7.size := by have := c5.lt; have := e7.size; omega
  refine loop1 N.length (fun k H' => RB H' H7.size t_api_Assignment 5 encA ((N.take k).map (fun x => (x, 0)) ++ List.replicate (N.length - k) ((0, 0, 0, 0), 0)) ∧ CS H' H7.size (N.length * 5) ∧ Ext H7 H') ⟨by simpa using a9, cs9, e9⟩ ?_
  rintro k H10 hk ⟨a10, cs10, e10⟩
  unfold F_ref21_Assign_r4
  rw [hnn, Int.toNat_natCast]
  refine iteB_dec (fun d => ?_) (fun d => ?_)
  · have hkn : k < N.length := by omega
    obtain ⟨a, hp, hr⟩ := IsS.atN (isN.ext e10) (0, 0, 0, 0) hkn
    have htk := take_succ_d (0, 0, 0, 0) hkn
    generalize N.getD k (0, 0, 0, 0) = x at *
    obtain ⟨x0, x1, x2', x3⟩ := x
    obtain ⟨m, hmm⟩ : ∃ m, N.length - k = m + 1 := ⟨N.length - k - 1, by omega⟩
    have hmk : N.length - (k + 1) = m := by omega
    rw [hmm, List.replicate_succ] at a10
    have hlk : ((N.take k).map (fun x => ((x, 0) : Asg))).length = k := by simp; omega
    have hget : ((N.take k).map (fun x => ((x, 0) : Asg)) ++ ((0, 0, 0, 0), 0) :: List.replicate m ((0, 0, 0, 0), 0))[k]? = some (((0, 0, 0, 0), 0) : Asg) := by
      rw [List.getElem?_append_right (by omega), hlk, Nat.sub_self]; rfl
    have hw := RB.wrSub a10 (i := k) (j := 0) (x := ((0, 0, 0, 0), 0)) (y := ((x0, x1, x2', x3), 0)) (ws := [.int .i64 x0, .int .i64 x1, .int .i64 x2', .int .i64 x3]) hget (by simp) rfl
    rw [List.set_append_right _ _ (by omega), hlk, Nat.sub_self, List.set_cons_zero] at hw
    have hadd : ((⟨H7.size, 0, none⟩ : Addr).add (k * 5)).add 0 = (⟨H7.size, 0, none⟩ : Addr).add (k * 5) := by rw [add_add', Nat.add_zero]
    rw [hadd] at hw
    refine ⟨by omega, by omega, unSome_mk hp ⟨x0, hr 0 _ rfl, x1, hr 1 _ rfl, x2', hr 2 _ rfl, x3, hr 3 _ rfl, by omega, by omega, ?_, letH_mk ?_⟩⟩
    · exact RB.ok0 a10 (by simp; omega) (by omega)
    · rintro H11 rfl
      refine letV_mk _ rfl (next1 hkn (by omega) ⟨?_, cs10.wrs _ _, Mods.ext e10 (mods_wr_add (S := [H7.size]) (by simp)) (by simp)⟩)
      rw [hmk, htk, List.map_append, List.append_assoc]
      exact hw
  obtain rfl : k = N.length := by omega
  have a10' : AsB H10 H7.size N (List.replicate N.length 0) := by
    rw [Nat.sub_self, List.take_length] at a10
    have : (N.map (fun x => ((x, 0) : Asg)) ++ List.replicate 0 ((0, 0, 0, 0), 0)) = N.zip (List.replicate N.length 0) := by
      rw [List.replicate_zero, List.append_nil]
      apply List.ext_getElem?
      intro i
      by_cases hi : i < N.length
      · simp [List.zip, hi]
      · simp [List.zip, hi]
    rw [this] at a10
    exact ⟨a10, cs10⟩
  refine loop1 3 (fun k H' => (rootR T N h k).1 = 0 ∧ AsB H' H7.size N (rootR T N h k).2.2 ∧ Ext H7 H') ⟨rfl, a10', e10⟩ ?_
  rintro k H12 hk ⟨hr0, a12, e12⟩
  unfold F_ref21_Assign_r3
  rw [Int.toNat_natCast]
  obtain ⟨rb1, rb2⟩ := rootR_ok T N h k
  have x12 := x7.trans e12
  refine iteB_dec (fun d1 => ?_) (fun d1 => ?_)
  · have hk3 : k < 3 := by omega
    obtain ⟨p0, p1, p2, p3, p4, p5, p6, p7⟩ := Blk.host ((((b1.ext e2).ext e5).ext e7).ext e12)
    refine ⟨_, p0, _, p1, _, p2, _, p3, _, p4, _, p5, _, p6, _, p7, (rSpace_spec h hs k H12 (hm.ext x12) hvh).mono ?_⟩
    rintro v H13 ⟨fr, rfl, o13, e13⟩
    have x13 := x12.trans e13
    have hsv := (spaceF_valid hvh k).1
    refine ⟨fr, rfl, ?_⟩
    refine (rplace_spec T s ns fr N (rootR T N h k).2.2 (-1) k (spaceF h k) H7.size ns.n H13 hnn (hT.ext x13) (isN.ext (e12.trans e13)) (a12.ext e13) rb2 hNl (Own.is rkRange o13) hsv.u64).mono ?_
    rintro v H14 ⟨rfl, a14, m14⟩
    have e14 : Ext H7 H14 := Mods.ext (e12.trans e13) m14 (by simp)
    have hstep : rootR T N h (k + 1) = plS T N (rootR T N h k).2.2 (-1) k (spaceF h k) := by
      show (if (rootR T N h k).1 ≠ 0 then rootR T N h k else _) = _
      rw [if_neg (fun hh => hh hr0)]
    rw [← hstep] at a14 ⊢
    refine ⟨_, _, _, _, _, rfl, local_mk (vs := encC (rootR T N h (k + 1)).2.1) rfl rfl fun H16 e16 z16 b16 => iteB_bne (fun d2 => ?_) (fun d2 => letV_mk _ rfl (next1 hk3 (by omega) ⟨d2, a14.ext e16, e14.trans e16⟩))⟩
    have hst : rootR T N h 3 = rootR T N h (k + 1) := by
      have := rootR_stick d2 (3 - (k + 1))
      rw [show k + 1 + (3 - (k + 1)) = 3 by omega] at this
      exact this
    refine ⟨_, b16.rd0 rfl, _, b16.rd (i := 1) rfl, _, b16.rd (i := 2) rfl, _, b16.rd (i := 3) rfl, ?_⟩
    refine cert_wr (c := (rootR T N h (k + 1)).2.1) (K := fun v H' => AssignP T h H (.tuple #[.slice none 0 0, v, .int .i64 (rootR T N h (k + 1)).1]) H') (((c5.ext e7).ext e14).ext e16) (fun H' m' _ => ?_)
    exact AssignP.no (AI (.inl ⟨rfl, by rw [hst]; exact d2, by rw [hst], rfl, by rw [hst]⟩)) (Mods.ext ((x7.trans e14).trans e16) m' (by simpa using hz1))
  obtain rfl : k = 3 := by omega
  generalize hB1 : (rootR T N h 3).2.2 = B1 at *
  refine loop1 T.length (fun i H' => AsB H' H7.size N (brR T N B1 (3 * i)) ∧ Ext H7 H') ⟨a12, e12⟩ ?_
  rintro i H18 hi ⟨a18, e18⟩
  unfold F_ref21_Assign_r2
  rw [Int.toNat_natCast]
  refine iteB_dec (fun d2 => ?_) (fun d2 => ?_)
  rotate_left
  · obtain rfl : i = T.length := by omega
    have hbl : (brR T N B1 (3 * T.length)).length = N.length := by rw [(brR_ok T N B1 rb1 _).2]; exact rb2
    refine cert_wr (c := noCert) (K := fun v H' => AssignP T h H (.tuple #[.slice (some ⟨H7.size, 0, none⟩) ns.n ns.n, v, .int .i64 0]) H') ((c5.ext e7).ext e18) (fun H' m' _ => ?_)
    have a' := a18.mods m' (by simp; omega)
    refine ⟨⟨some ⟨H7.size, 0, none⟩, ns.n, ns.n⟩, 0, _, noCert, rfl, AI (.inr ⟨rfl, hr0, rfl, rfl, rfl⟩), RB.isS a'.rb _ _ (by rw [zip_len hbl]; exact hnn), ?_, Mods.ext (x7.trans e18) m' (by simpa using hz1)⟩
    exact RB.own a'.rb (by rw [zip_len hbl]; exact a'.cs) x7.size (by rw [zip_len hbl]; exact hnn) (by show ns.n ≤ 9223372036854775807; omega)
  have hin : i < T.length := by omega
  refine loop1 3 (fun c H' => AsB H' H7.size N (brR T N B1 (3 * i + c)) ∧ Ext H7 H') ⟨a18, e18⟩ ?_
  rintro c' H19 hc ⟨a19, e19⟩
  unfold F_ref21_Assign_r1
  rw [Int.toNat_natCast]
  obtain ⟨bb1, bb2⟩ := brR_ok T N B1 rb1 (3 * i + c')
  have hbl : (brR T N B1 (3 * i + c')).length = N.length := by rw [bb2]; exact rb2
  refine iteB_dec (fun d3 => ?_) (fun d3 => ?_)
  rotate_left
  · obtain rfl : c' = 3 := by omega
    refine letV_mk _ rfl (next1 hin (by omega) ⟨by rw [show 3 * (i + 1) = 3 * i + 3 by omega]; exact a19, e19⟩)
  have hc3 : c' < 3 := by omega
  have hstep : brR T N B1 (3 * i + (c' + 1)) = brStep T N (brR T N B1 (3 * i + c')) i c' := by
    rw [← Nat.add_assoc]
    show brStep T N (brR T N B1 (3 * i + c')) ((3 * i + c') / 3) ((3 * i + c') % 3) = _
    rw [show (3 * i + c') / 3 = i by omega, show (3 * i + c') % 3 = c' by omega]
  generalize hBm : brR T N B1 (3 * i + c') = Bm at *
  have isA : IsS 5 encA H19 ⟨some ⟨H7.size, 0, none⟩, ns.n, ns.n⟩ (N.zip Bm) := RB.isS a19.rb _ _ (by rw [zip_len hbl]; exact hnn)
  rw [i64_in (n := (-1 : Int) - c') (by omega)]
  refine (rat_spec H19 ⟨some ⟨H7.size, 0, none⟩, ns.n, ns.n⟩ _ i (-1 - (c' : Int)) isA (by rw [zip_len hbl]; omega)).mono ?_
  rintro v H20 ⟨rfl, rfl⟩
  rw [zip_fst hbl]
  refine ⟨_, rfl, ?_⟩
  have x20 := x7.trans e19
  cases hat : atN N i (-1 - (c' : Int)) with
  | none =>
    have hI : atI N i (-1 - (c' : Int)) = -1 := by unfold atI; rw [hat]
    rw [hI]
    refine iteB_neg (by decide) (letV_mk _ rfl (next1 hc3 (by omega) ⟨?_, e19⟩))
    rw [hstep]
    unfold brStep
    rw [hat]
    exact a19
  | some w =>
    have hI : atI N i (-1 - (c' : Int)) = w := by unfold atI; rw [hat]
    obtain ⟨hwN, _, _⟩ := atN_spec hat
    have hnd := hNd _ (getD_mem' (0, 0, 0, 0) hwN)
    have hsz := hnd.sz
    have hbw := bb1 _ (getD_mem' (l := Bm) (k := w) 0 (by omega))
    have hzg := zip_getD hbl hwN
    rw [hI]
    have hwin : winF N Bm w = (Bm.getD w 0, 2 ^ (N.getD w (0, 0, 0, 0)).2.2.2.toNat) := rfl
    generalize hxw : N.getD w (0, 0, 0, 0) = x at *
    generalize hbwv : Bm.getD w 0 = bw at *
    have hpw := pw_small (w := x.2.2.2.toNat) (by omega)
    have hpp := pow_pos2 x.2.2.2.toNat
    refine iteB_pos (by simp) ⟨by omega, by omega, bw, by rw [Int.toNat_natCast]; exact RB.rd a19.rb hzg rfl, by omega, by omega, x.2.2.2, by rw [Int.toNat_natCast]; exact RB.rd a19.rb hzg rfl, u64_nonneg _, ?_⟩
    rw [shl1 hsz.1 (by omega)]
    refine push_mk (vs := encR (bw, 2 ^ x.2.2.2.toNat)) fun H21 e21 z21 b21 => ?_
    have x21 := x20.trans e21
    have isf : Rgs H21 ⟨some ⟨H20.size, 0, none⟩, 1, 1⟩ [winF N Bm w] := by
      rw [hwin]
      exact IsS.of_blk encR_len b21 rfl (fun i v h => h)
    refine (rplace_spec T s ns ⟨some ⟨H20.size, 0, none⟩, 1, 1⟩ N Bm i c' [winF N Bm w] H7.size ns.n H21 hnn (hT.ext x21) (isN.ext (e19.trans e21)) (a19.ext e21) hbl hNl isf (fun r hr => by simp at hr; rw [hr, hwin]; dsimp only; omega)).mono ?_
    rintro v H22 ⟨rfl, a22, m22⟩
    refine ⟨_, _, _, _, _, rfl, letV_mk _ rfl (next1 hc3 (by omega) ⟨?_, Mods.ext (e19.trans e21) m22 (by simp)⟩)⟩
    rw [hstep]
    unfold brStep
    rw [hat]
    exact a22

end Go.Proofs.Ytnhhncjflnlfaaa
end

section
/-
  The contract of the generator's Host.
-/
namespace Go.Proofs.Ytnhhncjflnlfaaa
open Go.Eng
set_option linter.unusedVariables false

theorem rkLink : RK Try.prog t_sl_api_IntLink t_api_IntLink (.agg #[.int .u32 0]) 1 4 (encI .u32) := ⟨by kernel_rfl, by kernel_rfl, rfl, by omega, by omega, ints_row _, ints_one _⟩
theorem rkRoute : RK Try.prog t_sl_api_Route t_api_Route (.agg #[.int .i64 0, .int .i64 0, .int .i64 0]) 3 24 encRt := ⟨by kernel_rfl, by kernel_rfl, rfl, by omega, by omega, encRt_len, encRt_one⟩

theorem u64L_wrap {l : List Rg} (h : U64L l) (x y : Int) : U64L (l ++ [(IntKind.u64.wrap x, IntKind.u64.wrap y)]) := fun r hr => by
  simp only [List.mem_append, List.mem_singleton] at hr
  rcases hr with hr | rfl
  · exact h r hr
  · have a := u64_nonneg x; have b := u64_lt x; have c := u64_nonneg y; have d := u64_lt y
    dsimp only; omega

theorem gRanges_spec (H : Heap) (s : Sl) (l : List Rg) (fr to un : Int) (most : Nat) (h : Rgs H s l) (hu : U64L l) (hun : 0 < un) (hn1 : 0 < (IntKind.u64.wrap (to - fr)).tdiv un) (hn2 : (IntKind.u64.wrap (to - fr)).tdiv un ≤ 4503599627370496) (hm : most ≤ 10) :
    CallsH Try.prog n_gen_ranges #[.slice s.p s.n s.c, .int .u64 fr, .int .u64 to, .int .u64 un, .int .i64 most] H (fun v H' => ∃ (out : Sl) (L : List Rg), v = .slice out.p out.n out.c ∧ Own H.size t_api_Range 2 H' out (L.flatMap encR) ∧ U64L L ∧ Ext H H') := by
  refine F_gen_ranges_ok _ _ _ _ _ ?_
  unfold F_gen_ranges
  have hsn := h.len
  generalize (IntKind.u64.wrap (to - fr)).tdiv un = n at *
  refine ⟨by omega, letV_mk n (u64_in (by omega)) ?_⟩
  refine loop2 10 (fun k out H' => ∃ L : List Rg, Own H.size t_api_Range 2 H' out (L.flatMap encR) ∧ U64L L ∧ L.length ≤ k ∧ Ext H H') ⟨[], Own.nil _ _ _ _, (fun r hr => by cases hr), by simp, .refl _⟩ ?_
  rintro k out H1 hk ⟨L, o1, u1, l1, e1⟩
  unfold F_gen_ranges_r1
  refine iteB_dec (fun c => iteB_dec (fun c1 => ?_) (fun c1 => ⟨out, L, rfl, o1, u1, e1⟩)) (fun c => ⟨out, L, rfl, o1, u1, e1⟩)
  have hkn : k < l.length := by omega
  obtain ⟨a, hp, r0, r1⟩ := Rgs.atN (h.ext e1) hkn
  have hr := hu _ (getD_mem' (0, 0) hkn)
  generalize l.getD k (0, 0) = r at *
  have h1 : 0 ≤ r.1.tmod n ∧ r.1.tmod n < n := by
    rw [Int.tmod_eq_emod_of_nonneg hr.1.1]
    exact ⟨Int.emod_nonneg _ (by omega), Int.emod_lt_of_pos _ (by omega)⟩
  have n1 := Own.len rkRange o1
  refine ⟨by omega, by omega, unSome_mk hp ⟨_, r0, by omega, by omega, by omega, unSome_mk hp ⟨_, r1, by rw [u64_in (by omega)]; omega, ?_⟩⟩⟩
  refine apR rkRange (_, _) (lo := H.size) o1 (by omega) e1.size ?_
  intro s' H3 ho hn3 m3
  exact letV_mk _ rfl (next2 (by omega) (by omega) ⟨_, ho, u64L_wrap u1 _ _, by simp; omega, Mods.ext e1 m3 (blkOf_new o1.new)⟩)

/-- A host that is being made, in block 'b'. -/
structure GH (H0 H : Heap) (b : Nat) (g : Host) (gs : HostS) : Prop where
  blk : Blk H b t_api_Host (hostL g gs)
  io : Rgs H gs.io g.io ∧ TyB H gs.io.p t_api_Range ∧ U64L g.io
  mem : Rgs H gs.mem g.mem ∧ TyB H gs.mem.p t_api_Range ∧ U64L g.mem
  high : Rgs H gs.high g.high ∧ TyB H gs.high.p t_api_Range ∧ U64L g.high
  fio : Rgs H gs.fio g.fio ∧ TyB H gs.fio.p t_api_Range ∧ U64L g.fio
  fix : Rgs H gs.fix g.fix ∧ TyB H gs.fix.p t_api_Range ∧ U64L g.fix
  links : Own H0.size t_api_IntLink 1 H gs.links (g.links.flatMap (encI .u32))
  routes : Own H0.size t_api_Route 3 H gs.routes (g.routes.flatMap encRt)
  ext : Ext H0 H
  lo : H0.size ≤ b

theorem RT.mods {H H' : Heap} {S : List Nat} {s : Sl} {l : List Rg} (h : Rgs H s l ∧ TyB H s.p t_api_Range ∧ U64L l) (m : Mods S H H') (hn : ∀ a, s.p = some a → a.block ∉ S) : Rgs H' s l ∧ TyB H' s.p t_api_Range ∧ U64L l := ⟨h.1.mods m hn, h.2.1.mods m hn, h.2.2⟩

/-- Writes to blocks of other types. -/
theorem GH.mods {H0 H H' : Heap} {b : Nat} {g : Host} {gs : HostS} {S : List Nat} (h : GH H0 H b g gs) (m : Mods S H H') (hb : b ∉ S) (hr : ∀ q, TyB H q t_api_Range → ∀ a, q = some a → a.block ∉ S) (hl : ∀ q, TyB H q t_api_IntLink → ∀ a, q = some a → a.block ∉ S) (ht : ∀ q, TyB H q t_api_Route → ∀ a, q = some a → a.block ∉ S) (hS : ∀ x ∈ S, H0.size ≤ x) : GH H0 H' b g gs :=
  ⟨h.blk.mods m hb, RT.mods h.io m (hr _ h.io.2.1), RT.mods h.mem m (hr _ h.mem.2.1), RT.mods h.high m (hr _ h.high.2.1), RT.mods h.fio m (hr _ h.fio.2.1), RT.mods h.fix m (hr _ h.fix.2.1), h.links.mods m (hl _ (own_ty h.links)), h.routes.mods m (ht _ (own_ty h.routes)), Mods.ext h.ext m hS, h.lo⟩
theorem GH.ext' {H0 H H' : Heap} {b : Nat} {g : Host} {gs : HostS} (h : GH H0 H b g gs) (e : Ext H H') : GH H0 H' b g gs :=
  h.mods (S := []) e.mods (by simp) (fun _ _ _ _ => by simp) (fun _ _ _ _ => by simp) (fun _ _ _ _ => by simp) (by simp)

theorem GH.off {H0 H : Heap} {b : Nat} {g : Host} {gs : HostS} (h : GH H0 H b g gs) {e : TypeId} (he : e ≠ t_api_Host) {q : Option Addr} (hq : TyB H q e) : ∀ a, q = some a → a.block ∉ [b] := fun a ha => by
  have t1 : TyB H (some ⟨b, 0, none⟩) t_api_Host := fun a ha => by cases ha; exact ⟨_, _, h.blk⟩
  have := ty_ne hq t1 he a ha
  simpa [blkOf] using this

/-- A field of the host is written. -/
theorem GH.set {H0 H H' : Heap} {b j : Nat} {g g' : Host} {gs gs' : HostS} {v : Value} (hb : Blk H b t_api_Host (hostL g gs)) (hx : Ext H0 H) (hlo : H0.size ≤ b) (hw : H' = wrs H ((⟨b, 0, none⟩ : Addr).add j) [v]) (hset : (hostL g gs).set j v = hostL g' gs')
    (hio : Rgs H gs'.io g'.io ∧ TyB H gs'.io.p t_api_Range ∧ U64L g'.io) (hmem : Rgs H gs'.mem g'.mem ∧ TyB H gs'.mem.p t_api_Range ∧ U64L g'.mem) (hhigh : Rgs H gs'.high g'.high ∧ TyB H gs'.high.p t_api_Range ∧ U64L g'.high)
    (hfio : Rgs H gs'.fio g'.fio ∧ TyB H gs'.fio.p t_api_Range ∧ U64L g'.fio) (hfix : Rgs H gs'.fix g'.fix ∧ TyB H gs'.fix.p t_api_Range ∧ U64L g'.fix)
    (hl : Own H0.size t_api_IntLink 1 H gs'.links (g'.links.flatMap (encI .u32))) (hr : Own H0.size t_api_Route 3 H gs'.routes (g'.routes.flatMap encRt)) : GH H0 H' b g' gs' := by
  subst hw
  have b' := hb.wr1 (i := j) (w := v)
  rw [hset] at b'
  have m : Mods [b] H (wrs H ((⟨b, 0, none⟩ : Addr).add j) [v]) := mods_wr_add (by simp)
  have t1 : TyB H (some ⟨b, 0, none⟩) t_api_Host := fun a ha => by cases ha; exact ⟨_, _, hb⟩
  have o : ∀ {e : TypeId}, e ≠ t_api_Host → ∀ {q : Option Addr}, TyB H q e → ∀ a, q = some a → a.block ∉ [b] := fun he _ hq a ha => by
    have := ty_ne hq t1 he a ha
    simpa [blkOf] using this
  exact ⟨b', RT.mods hio m (o (by decide) hio.2.1), RT.mods hmem m (o (by decide) hmem.2.1), RT.mods hhigh m (o (by decide) hhigh.2.1), RT.mods hfio m (o (by decide) hfio.2.1), RT.mods hfix m (o (by decide) hfix.2.1), hl.mods m (o (by decide) (own_ty hl)), hr.mods m (o (by decide) (own_ty hr)), Mods.ext hx m (by simpa using hlo), hlo⟩

/-- A route, a link is appended. -/
theorem GH.appR {H0 H H' : Heap} {b : Nat} {g : Host} {gs : HostS} {s' : Sl} {L : List Rt} (h : GH H0 H b g gs) (ho : Own H0.size t_api_Route 3 H' s' (L.flatMap encRt)) (m : Mods (blkOf gs.routes.p) H H') :
    okRow H' ((⟨b, 0, none⟩ : Addr).add 7) 1 ∧ ∀ H'', H'' = wrs H' ((⟨b, 0, none⟩ : Addr).add 7) [.slice s'.p s'.n s'.c] → GH H0 H'' b { g with routes := L } { gs with routes := s' } := by
  have tr := own_ty h.routes
  have t1 : TyB H (some ⟨b, 0, none⟩) t_api_Host := fun a ha => by cases ha; exact ⟨_, _, h.blk⟩
  have hb : Blk H' b t_api_Host (hostL g gs) := h.blk.mods m (ty_ne t1 tr (by decide) _ rfl)
  refine ⟨hb.ok (by simp), fun H'' hw => ?_⟩
  exact GH.set (g' := { g with routes := L }) (gs' := { gs with routes := s' }) hb (Mods.ext h.ext m (blkOf_new h.routes.new)) h.lo hw rfl (RT.mods h.io m (fun a ha => ty_ne h.io.2.1 tr (by decide) a ha)) (RT.mods h.mem m (fun a ha => ty_ne h.mem.2.1 tr (by decide) a ha)) (RT.mods h.high m (fun a ha => ty_ne h.high.2.1 tr (by decide) a ha)) (RT.mods h.fio m (fun a ha => ty_ne h.fio.2.1 tr (by decide) a ha)) (RT.mods h.fix m (fun a ha => ty_ne h.fix.2.1 tr (by decide) a ha)) (h.links.mods m (fun a ha => ty_ne (own_ty h.links) tr (by decide) a ha)) ho
theorem GH.appL {H0 H H' : Heap} {b : Nat} {g : Host} {gs : HostS} {s' : Sl} {L : List Int} (h : GH H0 H b g gs) (ho : Own H0.size t_api_IntLink 1 H' s' (L.flatMap (encI .u32))) (m : Mods (blkOf gs.links.p) H H') :
    okRow H' ((⟨b, 0, none⟩ : Addr).add 6) 1 ∧ ∀ H'', H'' = wrs H' ((⟨b, 0, none⟩ : Addr).add 6) [.slice s'.p s'.n s'.c] → GH H0 H'' b { g with links := L } { gs with links := s' } := by
  have tr := own_ty h.links
  have t1 : TyB H (some ⟨b, 0, none⟩) t_api_Host := fun a ha => by cases ha; exact ⟨_, _, h.blk⟩
  have hb : Blk H' b t_api_Host (hostL g gs) := h.blk.mods m (ty_ne t1 tr (by decide) _ rfl)
  refine ⟨hb.ok (by simp), fun H'' hw => ?_⟩
  exact GH.set (g' := { g with links := L }) (gs' := { gs with links := s' }) hb (Mods.ext h.ext m (blkOf_new h.links.new)) h.lo hw rfl (RT.mods h.io m (fun a ha => ty_ne h.io.2.1 tr (by decide) a ha)) (RT.mods h.mem m (fun a ha => ty_ne h.mem.2.1 tr (by decide) a ha)) (RT.mods h.high m (fun a ha => ty_ne h.high.2.1 tr (by decide) a ha)) (RT.mods h.fio m (fun a ha => ty_ne h.fio.2.1 tr (by decide) a ha)) (RT.mods h.fix m (fun a ha => ty_ne h.fix.2.1 tr (by decide) a ha)) ho (h.routes.mods m (fun a ha => ty_ne (own_ty h.routes) tr (by decide) a ha))

theorem RT.own {lo : Nat} {H : Heap} {s : Sl} {L : List Rg} (o : Own lo t_api_Range 2 H s (L.flatMap encR)) (u : U64L L) : Rgs H s L ∧ TyB H s.p t_api_Range ∧ U64L L := ⟨Own.is rkRange o, own_ty o, u⟩
theorem RT.ext {H H' : Heap} {s : Sl} {l : List Rg} (h : Rgs H s l ∧ TyB H s.p t_api_Range ∧ U64L l) (e : Ext H H') : Rgs H' s l ∧ TyB H' s.p t_api_Range ∧ U64L l := RT.mods (S := []) h e.mods (fun _ _ => by simp)
theorem RT.nil {H : Heap} : Rgs H (⟨none, 0, 0⟩ : Sl) [] ∧ TyB H (none : Option Addr) t_api_Range ∧ U64L [] := ⟨IsS.nil _ _ _, (fun a ha => by cases ha), fun r hr => by cases hr⟩

/-- In what blocks a host's lists lie. -/
structure HostTy (H : Heap) (gs : HostS) : Prop where
  io : TyB H gs.io.p t_api_Range
  mem : TyB H gs.mem.p t_api_Range
  high : TyB H gs.high.p t_api_Range
  fio : TyB H gs.fio.p t_api_Range
  fix : TyB H gs.fix.p t_api_Range
  links : TyB H gs.links.p t_api_IntLink
  routes : TyB H gs.routes.p t_api_Route
theorem HostM.modsT {H H' : Heap} {g : Host} {gs : HostS} {b : Nat} {vs : List Value} (m : HostM H g gs) (t : HostTy H gs) (hb : Blk H b t_api_Host vs) (md : Mods [b] H H') : HostM H' g gs := by
  have t1 : TyB H (some ⟨b, 0, none⟩) t_api_Host := fun a ha => by cases ha; exact ⟨_, _, hb⟩
  have o : ∀ {e : TypeId}, e ≠ t_api_Host → ∀ {q : Option Addr}, TyB H q e → ∀ a, q = some a → a.block ∉ [b] := fun he _ hq a ha => by
    have := ty_ne hq t1 he a ha
    simpa [blkOf] using this
  exact ⟨m.io.mods md (o (by decide) t.io), m.mem.mods md (o (by decide) t.mem), m.high.mods md (o (by decide) t.high), m.fio.mods md (o (by decide) t.fio), m.fix.mods md (o (by decide) t.fix), m.links.mods md (o (by decide) t.links), m.routes.mods md (o (by decide) t.routes), m.uio, m.umem, m.uhigh, m.ufio, m.ufix⟩

/-- A host in memory, made by the generator. -/
def GHostP (H : Heap) (v : Value) (H' : Heap) : Prop := ∃ g gs, v = hostV g gs ∧ HostM H' g gs ∧ HostTy H' gs ∧ g.links.length ≤ 5 ∧ g.routes.length ≤ 72 ∧ Ext H H'

/-- The end: the host is handed back. -/
theorem ghost_ret {H0 H1 H3 H41 : Heap} {g : Host} {gs : HostS} {z : List Value} (hz : z.length = 8) (h : GH H3 H41 H3.size g gs) (hr : Blk H41 H1.size t_api_Host z) (e : Ext H0 H41) (h01 : H0.size ≤ H1.size) (h13 : H1.size < H3.size) (hl : g.links.length ≤ 5) (hrt : g.routes.length ≤ 72) :
    okRow H41 (⟨H1.size, 0, none⟩ : Addr) 8 ∧ (letH (wrs H41 (⟨H1.size, 0, none⟩ : Addr) (hostL g gs)) (fun H45 : Heap =>
      ∃ r : Int, rd H45 (⟨H1.size, 0, none⟩ : Addr) = some (.int .i64 r) ∧ ∃ r1 : Sl, rd H45 ((⟨H1.size, 0, none⟩ : Addr).add 1) = some (.slice r1.p r1.n r1.c) ∧ ∃ r2 : Sl, rd H45 ((⟨H1.size, 0, none⟩ : Addr).add 2) = some (.slice r2.p r2.n r2.c) ∧ ∃ r3 : Sl, rd H45 ((⟨H1.size, 0, none⟩ : Addr).add 3) = some (.slice r3.p r3.n r3.c) ∧ ∃ r4 : Sl, rd H45 ((⟨H1.size, 0, none⟩ : Addr).add 4) = some (.slice r4.p r4.n r4.c) ∧ ∃ r5 : Sl, rd H45 ((⟨H1.size, 0, none⟩ : Addr).add 5) = some (.slice r5.p r5.n r5.c) ∧ ∃ r6 : Sl, rd H45 ((⟨H1.size, 0, none⟩ : Addr).add 6) = some (.slice r6.p r6.n r6.c) ∧ ∃ r7 : Sl, rd H45 ((⟨H1.size, 0, none⟩ : Addr).add 7) = some (.slice r7.p r7.n r7.c) ∧
      GHostP H0 (.agg #[.int .i64 r, .slice r1.p r1.n r1.c, .slice r2.p r2.n r2.c, .slice r3.p r3.n r3.c, .slice r4.p r4.n r4.c, .slice r5.p r5.n r5.c, .slice r6.p r6.n r6.c, .slice r7.p r7.n r7.c]) H45)) := by
  refine ⟨hr.ok0 (by omega), letH_mk ?_⟩
  intro H45 h45
  have m : Mods [H1.size] H41 H45 := by rw [h45]; exact Mods.wrs (by simp)
  have b45 : Blk H45 H1.size t_api_Host (hostL g gs) := by
    rw [h45]
    have := hr.wr (o := 0) (ws := hostL g gs)
    have e8 : spl z 0 (hostL g gs) = hostL g gs := by
      match z, hz with
      | [z0, z1, z2, z3, z4, z5, z6, z7], _ => rfl
    rw [e8] at this
    exact this
  clear h45
  have t1 : TyB H41 (some ⟨H1.size, 0, none⟩) t_api_Host := fun a ha => by cases ha; exact ⟨_, _, hr⟩
  have o : ∀ {e : TypeId}, e ≠ t_api_Host → ∀ {q : Option Addr}, TyB H41 q e → ∀ a, q = some a → a.block ∉ [H1.size] := fun he _ hq a ha => by
    have := ty_ne hq t1 he a ha
    simpa [blkOf] using this
  obtain ⟨p0, p1, p2, p3, p4, p5, p6, p7⟩ := Blk.host b45
  refine ⟨_, p0, _, p1, _, p2, _, p3, _, p4, _, p5, _, p6, _, p7, g, gs, rfl, ?_, ?_, hl, hrt, Mods.ext e m (by simpa using h01)⟩
  rotate_left
  · exact ⟨h.io.2.1.mods m (o (by decide) h.io.2.1), h.mem.2.1.mods m (o (by decide) h.mem.2.1), h.high.2.1.mods m (o (by decide) h.high.2.1), h.fio.2.1.mods m (o (by decide) h.fio.2.1), h.fix.2.1.mods m (o (by decide) h.fix.2.1), (own_ty h.links).mods m (o (by decide) (own_ty h.links)), (own_ty h.routes).mods m (o (by decide) (own_ty h.routes))⟩
  exact ⟨h.io.1.mods m (o (by decide) h.io.2.1), h.mem.1.mods m (o (by decide) h.mem.2.1), h.high.1.mods m (o (by decide) h.high.2.1), h.fio.1.mods m (o (by decide) h.fio.2.1), h.fix.1.mods m (o (by decide) h.fix.2.1), Own.is rkLink (h.links.mods m (o (by decide) (own_ty h.links))), Own.is rkRoute (h.routes.mods m (o (by decide) (own_ty h.routes))), h.io.2.2, h.mem.2.2, h.high.2.2, h.fio.2.2, h.fix.2.2⟩

end Go.Proofs.Ytnhhncjflnlfaaa
end

section
/-
  The contract of the generator's Host, whole.
-/
namespace Go.Proofs.Ytnhhncjflnlfaaa
open Go.Eng
set_option linter.unusedVariables false

/-- What stands around the host that is being made. -/
structure GA (Ha H1 H3 H : Heap) (h : Host) (hs : HostS) (g : Host) (gs : HostS) : Prop where
  gh : GH H3 H H3.size g gs
  par : Blk H Ha.size t_api_Host (hostL h hs)
  res : Blk H H1.size t_api_Host (hostL ⟨0, [], [], [], [], [], [], []⟩ ⟨⟨none, 0, 0⟩, ⟨none, 0, 0⟩, ⟨none, 0, 0⟩, ⟨none, 0, 0⟩, ⟨none, 0, 0⟩, ⟨none, 0, 0⟩, ⟨none, 0, 0⟩⟩)
  ext : Ext Ha H
  m : HostM Ha h hs
  o1 : Ha.size < H1.size
  o3 : H1.size < H3.size

theorem GA.ext' {Ha H1 H3 H H' : Heap} {h g : Host} {hs gs : HostS} (a : GA Ha H1 H3 H h hs g gs) (e : Ext H H') : GA Ha H1 H3 H' h hs g gs :=
  ⟨a.gh.ext' e, a.par.ext e, a.res.ext e, a.ext.trans e, a.m, a.o1, a.o3⟩
theorem GA.host {Ha H1 H3 H : Heap} {h g : Host} {hs gs : HostS} (a : GA Ha H1 H3 H h hs g gs) : HostM H h hs := a.m.ext a.ext
/-- Writes to the host's block and to newer ones. -/
theorem GA.upd {Ha H1 H3 H H' : Heap} {h g g' : Host} {hs gs gs' : HostS} {S : List Nat} (a : GA Ha H1 H3 H h hs g gs) (m : Mods S H H') (hS : ∀ x ∈ S, H3.size ≤ x) (gh' : GH H3 H' H3.size g' gs') : GA Ha H1 H3 H' h hs g' gs' := by
  have h1 := a.o1
  have h3 := a.o3
  exact ⟨gh', a.par.mods m (fun hh => by have := hS _ hh; omega), a.res.mods m (fun hh => by have := hS _ hh; omega), Mods.ext a.ext m (fun x hx => by have := hS x hx; omega), a.m, h1, h3⟩

theorem ghost_routes2 {Ha H1 H3 H40 : Heap} {h g : Host} {hs gs : HostS} (a : GA Ha H1 H3 H40 h hs g gs) (hl : g.links.length ≤ 5) (hrt : g.routes.length ≤ 40) : F_gen_Host_k5 (GHostP Ha) H1 H3 H40 := by
  unfold F_gen_Host_k5
  refine loop1 32 (fun k H' => ∃ g' gs', GA Ha H1 H3 H' h hs g' gs' ∧ g'.links.length ≤ 5 ∧ g'.routes.length ≤ 40 + k) ⟨g, gs, a, hl, by omega⟩ ?_
  rintro k H41 hk ⟨g', gs', b, bl, br⟩
  unfold F_gen_Host_r4
  obtain ⟨p0, p1, p2, p3, p4, p5, p6, p7⟩ := Blk.host b.gh.blk
  have nl := Own.len rkLink b.gh.links
  have nr := Own.len rkRoute b.gh.routes
  have ret := ghost_ret (H0 := Ha) (H1 := H1) rfl b.gh b.res b.ext (by have := b.o1; omega) b.o3 bl (by omega)
  refine iteB_dec (fun c => ⟨_, p6, iteB_dec (fun c1 => ⟨_, p7, _, p6, by omega, ?_⟩) (fun c1 => ⟨_, p0, _, p1, _, p2, _, p3, _, p4, _, p5, _, p6, _, p7, ret⟩)⟩) (fun c => ⟨_, p0, _, p1, _, p2, _, p3, _, p4, _, p5, _, p6, _, p7, ret⟩)
  have hz := b.gh.ext.size
  refine letH_mk ?_
  intro H42 h42
  have e42 : Ext H41 H42 := by rw [h42]; exact Ext.push _ _
  refine ⟨e42.keeps, ?_⟩
  have app := apR rkRoute ((k : Int).tmod 8, IntKind.i64.wrap (1 + IntKind.i64.wrap ((k : Int).tdiv 8)), (k : Int).tmod gs'.links.n) (lo := H3.size) (K := fun x38 H38 => okRow H38 ((⟨H3.size, 0, none⟩ : Addr).add 7) 1 ∧ (
    letH (wrs H38 ((⟨H3.size, 0, none⟩ : Addr).add 7) [.slice x38.p x38.n x38.c]) (fun H39 : Heap => letV (IntKind.i64.wrap ((k : Int) + 1)) (fun i3 : Int =>
      CI 32 (fun k H' => ∃ g' gs', GA Ha H1 H3 H' h hs g' gs' ∧ g'.links.length ≤ 5 ∧ g'.routes.length ≤ 40 + k) i3 H39 ∧ CM 32 i3 H39 < CM 32 (k : Int) H41)))) b.gh.routes (by omega) (by omega) ?_
  · unfold letH at app
    rw [h42]
    exact app
  intro s' H43 ho hn43 m43
  obtain ⟨hok, hset⟩ := b.gh.appR ho m43
  refine ⟨hok, letH_mk ?_⟩
  intro H44 h44
  have g44 := hset H44 h44
  have m44 : Mods [H3.size] H43 H44 := by rw [h44]; exact mods_wr_add (by simp)
  have b43 : Mods (H3.size :: blkOf gs'.routes.p) H41 H44 := (m43.mono (fun x hx => List.mem_cons_of_mem _ hx)).trans (m44.mono (by simp))
  refine letV_mk _ rfl (next1 (by omega) (by omega) ⟨_, _, b.upd b43 (fun x hx => ?_) g44, bl, by simp; omega⟩)
  rcases List.mem_cons.1 hx with rfl | hx
  · exact Nat.le_refl _
  · exact blkOf_new b.gh.routes.new x hx

theorem ghost_routes1 {Ha H1 H3 H35 : Heap} {h g : Host} {hs gs : HostS} (a : GA Ha H1 H3 H35 h hs g gs) (hl : g.links.length ≤ 5) (hrt : g.routes = []) : F_gen_Host_k6 (GHostP Ha) Ha H1 H3 H35 := by
  unfold F_gen_Host_k6
  refine ⟨fun H' => ∃ g' gs', GA Ha H1 H3 H' h hs g' gs' ∧ g'.links.length ≤ 5 ∧ g'.routes.length ≤ 40, ?_, fun H40 ⟨g', gs', b, bl, br⟩ => ghost_routes2 b bl br⟩
  have hrn := a.m.routes.len
  refine loop1 40 (fun k H' => ∃ g' gs', GA Ha H1 H3 H' h hs g' gs' ∧ g'.links.length ≤ 5 ∧ g'.routes.length ≤ k) ⟨g, gs, a, hl, by rw [hrt]; simp⟩ ?_
  rintro k H36 hk ⟨g', gs', b, bl, br⟩
  unfold F_gen_Host_r3
  obtain ⟨p0, p1, p2, p3, p4, p5, p6, p7⟩ := Blk.host b.gh.blk
  have q7 := (Blk.host b.par).2.2.2.2.2.2.2
  have nl := Own.len rkLink b.gh.links
  have nr := Own.len rkRoute b.gh.routes
  have out : ∃ g' gs', GA Ha H1 H3 H36 h hs g' gs' ∧ g'.links.length ≤ 5 ∧ g'.routes.length ≤ 40 := ⟨g', gs', b, bl, by omega⟩
  refine ⟨_, q7, iteB_dec (fun c => iteB_dec (fun c1 => ⟨_, p6, iteB_dec (fun c2 => ?_) (fun c2 => out)⟩) (fun c1 => out)) (fun c => out)⟩
  have hkn : k < h.routes.length := by omega
  obtain ⟨q, hq, hr⟩ := IsS.atN b.host.routes (0, 0, 0) hkn
  generalize h.routes.getD k (0, 0, 0) = x at *
  obtain ⟨x0, x1, x2⟩ := x
  refine ⟨_, p7, _, q7, by omega, by omega, unSome_mk hq ⟨x0, hr 0 _ rfl, Mod_pure _ _ (by omega) (by omega) ⟨_, rfl, _, q7, by omega, by omega, unSome_mk hq ⟨x1, hr 1 _ rfl, Mod_pure _ _ (by omega) (by omega) ⟨_, rfl, _, q7, by omega, by omega, unSome_mk hq ⟨x2, hr 2 _ rfl, _, p6, Mod_pure _ _ (by omega) (by omega) ⟨_, rfl, ?_⟩⟩⟩⟩⟩⟩⟩
  have hz := b.gh.ext.size
  refine letH_mk ?_
  intro H37 h37
  have e37 : Ext H36 H37 := by rw [h37]; exact Ext.push _ _
  refine ⟨e37.keeps, ?_⟩
  have app := apR rkRoute (modI x0 8, IntKind.i64.wrap (1 + modI x1 4), modI x2 gs'.links.n) (lo := H3.size) (K := fun x38 H38 => okRow H38 ((⟨H3.size, 0, none⟩ : Addr).add 7) 1 ∧ (
    letH (wrs H38 ((⟨H3.size, 0, none⟩ : Addr).add 7) [.slice x38.p x38.n x38.c]) (fun H39 : Heap => letV (IntKind.i64.wrap ((k : Int) + 1)) (fun i3 : Int =>
      CI 40 (fun k H' => ∃ g' gs', GA Ha H1 H3 H' h hs g' gs' ∧ g'.links.length ≤ 5 ∧ g'.routes.length ≤ k) i3 H39 ∧ CM 40 i3 H39 < CM 40 (k : Int) H36)))) b.gh.routes (by omega) (by omega) ?_
  · unfold letH at app
    rw [h37]
    exact app
  intro s' H43 ho hn43 m43
  obtain ⟨hok, hset⟩ := b.gh.appR ho m43
  refine ⟨hok, letH_mk ?_⟩
  intro H44 h44
  have g44 := hset H44 h44
  have m44 : Mods [H3.size] H43 H44 := by rw [h44]; exact mods_wr_add (by simp)
  have b43 : Mods (H3.size :: blkOf gs'.routes.p) H36 H44 := (m43.mono (fun x hx => List.mem_cons_of_mem _ hx)).trans (m44.mono (by simp))
  refine letV_mk _ rfl (next1 (by omega) (by omega) ⟨_, _, b.upd b43 (fun x hx => ?_) g44, bl, by simp; omega⟩)
  rcases List.mem_cons.1 hx with rfl | hx
  · exact Nat.le_refl _
  · exact blkOf_new b.gh.routes.new x hx

theorem ghost_links {Ha H1 H3 H26 : Heap} {h g : Host} {hs gs : HostS} (a : GA Ha H1 H3 H26 h hs g gs) (hl : g.links = []) (hrt : g.routes = []) : F_gen_Host_k7 (GHostP Ha) Ha H1 H3 H26 := by
  unfold F_gen_Host_k7
  refine ⟨fun H' => ∃ g' gs', GA Ha H1 H3 H' h hs g' gs' ∧ g'.links.length ≤ 5 ∧ g'.routes = [], ?_, fun H35 ⟨g', gs', b, bl, br⟩ => ghost_routes1 b bl br⟩
  have hln := a.m.links.len
  refine loop1 5 (fun k H' => ∃ g' gs', GA Ha H1 H3 H' h hs g' gs' ∧ g'.links.length ≤ k ∧ g'.routes = []) ⟨g, gs, a, by rw [hl]; simp, hrt⟩ ?_
  rintro k H27 hk ⟨g', gs', b, bl, br⟩
  unfold F_gen_Host_r2
  have q6 := (Blk.host b.par).2.2.2.2.2.2.1
  have nl := Own.len rkLink b.gh.links
  have out : ∃ g' gs', GA Ha H1 H3 H27 h hs g' gs' ∧ g'.links.length ≤ 5 ∧ g'.routes = [] := ⟨g', gs', b, by omega, br⟩
  refine ⟨_, q6, iteB_dec (fun c => iteB_dec (fun c1 => ?_) (fun c1 => out)) (fun c => out)⟩
  have hkn : k < h.links.length := by omega
  obtain ⟨q, hq, hr⟩ := Ints.atN b.host.links hkn
  generalize h.links.getD k 0 = x at *
  have hz := b.gh.ext.size
  refine ⟨_, q6, by omega, by omega, unSome_mk hq ⟨x, hr, local_mk (vs := encI .u32 x) rfl rfl fun H29 e29 z29 b29 => ⟨fun H' => ∃ y, Blk H' H27.size t_api_IntLink (encI .u32 y) ∧ Mods [H27.size] H29 H', ⟨x, b29.rd0 rfl, iteB_beq (fun d => iteB_intro (fun d1 => ⟨b29.ok0 (by simp [encI]), letH_mk ?_⟩) (fun d1 => ⟨x, b29, Mods.refl _ _⟩)) (fun d => ⟨x, b29, Mods.refl _ _⟩)⟩, ?_⟩⟩⟩
  · rintro H30 rfl
    exact ⟨7680, b29.wr, Mods.wrs (by simp)⟩
  rintro H31 ⟨y, b31, m31⟩
  unfold F_gen_Host_k1
  have e31 : Ext H27 H31 := Mods.ext e29 m31 (by simp)
  have c31 := b.ext' e31
  have p6 := (Blk.host c31.gh.blk).2.2.2.2.2.2.1
  have hz31 := c31.gh.ext.size
  refine ⟨_, p6, y, b31.rd0 rfl, ?_⟩
  refine apR rkLink y (lo := H3.size) c31.gh.links (by omega) (by omega) ?_
  intro s' H33 ho hn33 m33
  obtain ⟨hok, hset⟩ := c31.gh.appL ho m33
  refine ⟨hok, letH_mk ?_⟩
  intro H34 h34
  have g34 := hset H34 h34
  have m34 : Mods [H3.size] H33 H34 := by rw [h34]; exact mods_wr_add (by simp)
  have b34 : Mods (H3.size :: blkOf gs'.links.p) H31 H34 := (m33.mono (fun x hx => List.mem_cons_of_mem _ hx)).trans (m34.mono (by simp))
  refine letV_mk _ rfl (next1 (by omega) (by omega) ⟨_, _, c31.upd b34 (fun x hx => ?_) g34, by simp; omega, br⟩)
  rcases List.mem_cons.1 hx with rfl | hx
  · exact Nat.le_refl _
  · exact blkOf_new c31.gh.links.new x hx

/-- A list of ranges of the host is written. -/
theorem ghost_rng {Ha H1 H3 H H' : Heap} {h g g' : Host} {hs gs gs' : HostS} {j : Nat} {out : Sl} (a : GA Ha H1 H3 H h hs g gs) (hw : H' = wrs H ((⟨H3.size, 0, none⟩ : Addr).add j) [.slice out.p out.n out.c]) (hset : (hostL g gs).set j (.slice out.p out.n out.c) = hostL g' gs')
    (hio : Rgs H gs'.io g'.io ∧ TyB H gs'.io.p t_api_Range ∧ U64L g'.io) (hmem : Rgs H gs'.mem g'.mem ∧ TyB H gs'.mem.p t_api_Range ∧ U64L g'.mem) (hhigh : Rgs H gs'.high g'.high ∧ TyB H gs'.high.p t_api_Range ∧ U64L g'.high)
    (hfio : Rgs H gs'.fio g'.fio ∧ TyB H gs'.fio.p t_api_Range ∧ U64L g'.fio) (hfix : Rgs H gs'.fix g'.fix ∧ TyB H gs'.fix.p t_api_Range ∧ U64L g'.fix)
    (hl : gs'.links = gs.links ∧ g'.links = g.links) (hr : gs'.routes = gs.routes ∧ g'.routes = g.routes) : GA Ha H1 H3 H' h hs g' gs' := by
  have m : Mods [H3.size] H H' := by rw [hw]; exact mods_wr_add (by simp)
  refine a.upd m (by simp) (GH.set a.gh.blk a.gh.ext (Nat.le_refl _) hw hset hio hmem hhigh hfio hfix ?_ ?_)
  · rw [hl.1, hl.2]; exact a.gh.links
  · rw [hr.1, hr.2]; exact a.gh.routes

theorem gHost_spec (h : Host) (hs : HostS) (H : Heap) (hm : HostM H h hs) : CallsH Try.prog n_gen_Host #[hostV h hs] H (GHostP H) := by
  refine F_gen_Host_ok _ _ _ _ _ _ _ _ ?_
  unfold F_gen_Host
  refine push_mk (vs := hostL h hs) fun H1 e1 z1 b1 => push_mk (vs := hostL ⟨0, [], [], [], [], [], [], []⟩ ⟨⟨none, 0, 0⟩, ⟨none, 0, 0⟩, ⟨none, 0, 0⟩, ⟨none, 0, 0⟩, ⟨none, 0, 0⟩, ⟨none, 0, 0⟩, ⟨none, 0, 0⟩⟩) fun H2 e2 z2 b2 => ⟨_, (b1.ext e2).rd0 rfl, (Mod_spec _ _ H2 (by omega) (by omega)).mono ?_⟩
  rintro v H3 ⟨rfl, rfl⟩
  refine ⟨_, rfl, local_mk (vs := hostL ⟨IntKind.i64.wrap (1 + modI h.buses 40), [], [], [], [], [], [], []⟩ ⟨⟨none, 0, 0⟩, ⟨none, 0, 0⟩, ⟨none, 0, 0⟩, ⟨none, 0, 0⟩, ⟨none, 0, 0⟩, ⟨none, 0, 0⟩, ⟨none, 0, 0⟩⟩) rfl rfl fun H5 e5 z5 b5 => ?_⟩
  have x3 := e1.trans e2
  have a5 : GA H H1 H3 H5 h hs ⟨IntKind.i64.wrap (1 + modI h.buses 40), [], [], [], [], [], [], []⟩ ⟨⟨none, 0, 0⟩, ⟨none, 0, 0⟩, ⟨none, 0, 0⟩, ⟨none, 0, 0⟩, ⟨none, 0, 0⟩, ⟨none, 0, 0⟩, ⟨none, 0, 0⟩⟩ :=
    ⟨⟨b5, RT.nil, RT.nil, RT.nil, RT.nil, RT.nil, Own.nil _ _ _ _, Own.nil _ _ _ _, e5, Nat.le_refl _⟩, (b1.ext e2).ext e5, b2.ext e5, x3.trans e5, hm, by omega, by omega⟩
  refine ⟨fun H' => ∃ bu, GA H H1 H3 H' h hs ⟨bu, [], [], [], [], [], [], []⟩ ⟨⟨none, 0, 0⟩, ⟨none, 0, 0⟩, ⟨none, 0, 0⟩, ⟨none, 0, 0⟩, ⟨none, 0, 0⟩, ⟨none, 0, 0⟩, ⟨none, 0, 0⟩⟩, ⟨_, a5.par.rd0 rfl, (Mod_spec _ _ H5 (by omega) (by omega)).mono ?_⟩, ?_⟩
  · rintro v H6 ⟨rfl, rfl⟩
    refine ⟨_, rfl, iteB_dec (fun d => ⟨b5.ok0 (by simp), letH_mk ?_⟩) (fun d => ⟨_, a5⟩)⟩
    intro H7 h7
    have m7 : Mods [H3.size] H6 H7 := by rw [h7]; exact Mods.wrs (by simp)
    have b7 : Blk H7 H3.size t_api_Host (hostL ⟨256, [], [], [], [], [], [], []⟩ ⟨⟨none, 0, 0⟩, ⟨none, 0, 0⟩, ⟨none, 0, 0⟩, ⟨none, 0, 0⟩, ⟨none, 0, 0⟩, ⟨none, 0, 0⟩, ⟨none, 0, 0⟩⟩) := by rw [h7]; exact b5.wr
    exact ⟨256, a5.upd m7 (by simp) ⟨b7, RT.nil, RT.nil, RT.nil, RT.nil, RT.nil, Own.nil _ _ _ _, Own.nil _ _ _ _, Mods.ext e5 m7 (by simp), Nat.le_refl _⟩⟩
  rintro H8 ⟨bu, a8⟩
  unfold F_gen_Host_k8
  have q8 := Blk.host a8.par
  refine ⟨_, q8.2.1, (gRanges_spec H8 hs.io h.io _ _ _ 3 a8.host.io hm.uio (by omega) (by decide) (by decide) (by omega)).mono ?_⟩
  rintro v H9 ⟨o1, L1, rfl, ow1, u1, e9⟩
  have a9 := a8.ext' e9
  refine ⟨o1, rfl, a9.gh.blk.ok (by simp), letH_mk fun H10 h10 => ?_⟩
  have a10 := ghost_rng (g' := ⟨bu, L1, [], [], [], [], [], []⟩) (gs' := ⟨o1, ⟨none, 0, 0⟩, ⟨none, 0, 0⟩, ⟨none, 0, 0⟩, ⟨none, 0, 0⟩, ⟨none, 0, 0⟩, ⟨none, 0, 0⟩⟩) a9 h10 rfl (RT.own ow1 u1) a9.gh.mem a9.gh.high a9.gh.fio a9.gh.fix ⟨rfl, rfl⟩ ⟨rfl, rfl⟩
  clear h10
  refine ⟨_, (Blk.host a10.par).2.2.1, (gRanges_spec H10 hs.mem h.mem _ _ _ 3 a10.host.mem hm.umem (by omega) (by decide) (by decide) (by omega)).mono ?_⟩
  rintro v H11 ⟨o2, L2, rfl, ow2, u2, e11⟩
  have a11 := a10.ext' e11
  refine ⟨o2, rfl, a11.gh.blk.ok (by simp), letH_mk fun H12 h12 => ?_⟩
  have a12 := ghost_rng (g' := ⟨bu, L1, L2, [], [], [], [], []⟩) (gs' := ⟨o1, o2, ⟨none, 0, 0⟩, ⟨none, 0, 0⟩, ⟨none, 0, 0⟩, ⟨none, 0, 0⟩, ⟨none, 0, 0⟩⟩) a11 h12 rfl a11.gh.io (RT.own ow2 u2) a11.gh.high a11.gh.fio a11.gh.fix ⟨rfl, rfl⟩ ⟨rfl, rfl⟩
  clear h12
  refine ⟨_, (Blk.host a12.par).2.2.2.1, (gRanges_spec H12 hs.high h.high _ _ _ 2 a12.host.high hm.uhigh (by omega) (by decide) (by decide) (by omega)).mono ?_⟩
  rintro v H13 ⟨o3, L3, rfl, ow3, u3, e13⟩
  have a13 := a12.ext' e13
  refine ⟨o3, rfl, a13.gh.blk.ok (by simp), letH_mk fun H14 h14 => ?_⟩
  have a14 := ghost_rng (g' := ⟨bu, L1, L2, L3, [], [], [], []⟩) (gs' := ⟨o1, o2, o3, ⟨none, 0, 0⟩, ⟨none, 0, 0⟩, ⟨none, 0, 0⟩, ⟨none, 0, 0⟩⟩) a13 h14 rfl a13.gh.io a13.gh.mem (RT.own ow3 u3) a13.gh.fio a13.gh.fix ⟨rfl, rfl⟩ ⟨rfl, rfl⟩
  clear h14
  refine ⟨_, (Blk.host a14.par).2.2.2.2.1, (gRanges_spec H14 hs.fio h.fio _ _ _ 2 a14.host.fio hm.ufio (by omega) (by decide) (by decide) (by omega)).mono ?_⟩
  rintro v H15 ⟨o4, L4, rfl, ow4, u4, e15⟩
  have a15 := a14.ext' e15
  refine ⟨o4, rfl, a15.gh.blk.ok (by simp), letH_mk fun H16 h16 => ?_⟩
  have a16 := ghost_rng (g' := ⟨bu, L1, L2, L3, L4, [], [], []⟩) (gs' := ⟨o1, o2, o3, o4, ⟨none, 0, 0⟩, ⟨none, 0, 0⟩, ⟨none, 0, 0⟩⟩) a15 h16 rfl a15.gh.io a15.gh.mem a15.gh.high (RT.own ow4 u4) a15.gh.fix ⟨rfl, rfl⟩ ⟨rfl, rfl⟩
  clear h16
  refine ⟨_, (Blk.host a16.par).2.2.2.2.2.1, (gRanges_spec H16 hs.fix h.fix _ _ _ 2 a16.host.fix hm.ufix (by omega) (by decide) (by decide) (by omega)).mono ?_⟩
  rintro v H17 ⟨o5, L5, rfl, ow5, u5, e17⟩
  have a17 := a16.ext' e17
  refine ⟨o5, rfl, a17.gh.blk.ok (by simp), letH_mk fun H18 h18 => ?_⟩
  have a18 := ghost_rng (g' := ⟨bu, L1, L2, L3, L4, L5, [], []⟩) (gs' := ⟨o1, o2, o3, o4, o5, ⟨none, 0, 0⟩, ⟨none, 0, 0⟩⟩) a17 h18 rfl a17.gh.io a17.gh.mem a17.gh.high a17.gh.fio (RT.own ow5 u5) ⟨rfl, rfl⟩ ⟨rfl, rfl⟩
  clear h18
  refine ⟨fun H' => ∃ g gs, GA H H1 H3 H' h hs g gs ∧ g.links = [] ∧ g.routes = [], ⟨_, a18.par.rd0 rfl, (Mod_spec _ _ H18 (by omega) (by omega)).mono ?_⟩, fun H26 ⟨g, gs, a, al, ar⟩ => ghost_links a al ar⟩
  rintro v H19 ⟨rfl, rfl⟩
  refine ⟨_, rfl, iteB_dec (fun d => ?_) (fun d => ⟨_, _, a18, rfl, rfl⟩)⟩
  have zero : ∀ {H' : Heap} {s : Sl}, TyB H' s.p t_api_Range → Rgs H' ⟨slP s.p s.c 0 2, (0 : Int).toNat - 0, s.c - 0⟩ [] ∧ TyB H' (slP s.p s.c 0 2) t_api_Range ∧ U64L [] := fun {H' s} ht => ⟨⟨rfl, .inl rfl⟩, by rw [slP0]; exact ht, fun r hr => by cases hr⟩
  have one : ∀ {H' : Heap} {b : Nat} {x y : Int}, Blk H' b t_api_Range (encR (x, y)) → (0 ≤ x ∧ x ≤ 18446744073709551615) ∧ (0 ≤ y ∧ y ≤ 18446744073709551615) → Rgs H' ⟨some ⟨b, 0, none⟩, 1, 1⟩ [(x, y)] ∧ TyB H' (some ⟨b, 0, none⟩) t_api_Range ∧ U64L [(x, y)] := fun {H' b x y} hb hxy => ⟨IsS.of_blk encR_len hb rfl (fun i v h => h), (fun a ha => by cases ha; exact ⟨_, _, hb⟩), fun r hr => by simp at hr; rw [hr]; exact hxy⟩
  refine ⟨o4, (Blk.host a18.gh.blk).2.2.2.2.1, by omega, by omega, push_mk (vs := encR (4096, 61440)) fun H20 e20 z20 b20 => ⟨e20.keeps, ?_⟩⟩
  have a20 := a18.ext' e20
  refine ⟨a20.gh.blk.ok (by simp), letH_mk fun H21 h21 => ?_⟩
  have a21 := ghost_rng (out := ⟨some ⟨H19.size, 0, none⟩, 1, 1⟩) (g' := ⟨bu, [(4096, 61440)], L2, L3, L4, L5, [], []⟩) (gs' := ⟨⟨some ⟨H19.size, 0, none⟩, 1, 1⟩, o2, o3, o4, o5, ⟨none, 0, 0⟩, ⟨none, 0, 0⟩⟩) a20 h21 rfl (one b20 (by omega)) a20.gh.mem a20.gh.high a20.gh.fio a20.gh.fix ⟨rfl, rfl⟩ ⟨rfl, rfl⟩
  clear h21
  refine ⟨a21.gh.blk.ok (by simp), letH_mk fun H22 h22 => ?_⟩
  have a22 := ghost_rng (out := ⟨slP o4.p o4.c 0 2, (0 : Int).toNat - 0, o4.c - 0⟩) (g' := ⟨bu, [(4096, 61440)], L2, L3, [], L5, [], []⟩) (gs' := ⟨⟨some ⟨H19.size, 0, none⟩, 1, 1⟩, o2, o3, ⟨slP o4.p o4.c 0 2, (0 : Int).toNat - 0, o4.c - 0⟩, o5, ⟨none, 0, 0⟩, ⟨none, 0, 0⟩⟩) a21 h22 rfl a21.gh.io a21.gh.mem a21.gh.high (zero a21.gh.fio.2.1) a21.gh.fix ⟨rfl, rfl⟩ ⟨rfl, rfl⟩
  clear h22
  refine ⟨o5, (Blk.host a22.gh.blk).2.2.2.2.2.1, by omega, by omega, push_mk (vs := encR (268435456, 4026531840)) fun H23 e23 z23 b23 => ⟨e23.keeps, ?_⟩⟩
  have a23 := a22.ext' e23
  refine ⟨a23.gh.blk.ok (by simp), letH_mk fun H24 h24 => ?_⟩
  have a24 := ghost_rng (out := ⟨some ⟨H22.size, 0, none⟩, 1, 1⟩) (g' := ⟨bu, [(4096, 61440)], [(268435456, 4026531840)], L3, [], L5, [], []⟩) (gs' := ⟨⟨some ⟨H19.size, 0, none⟩, 1, 1⟩, ⟨some ⟨H22.size, 0, none⟩, 1, 1⟩, o3, ⟨slP o4.p o4.c 0 2, (0 : Int).toNat - 0, o4.c - 0⟩, o5, ⟨none, 0, 0⟩, ⟨none, 0, 0⟩⟩) a23 h24 rfl a23.gh.io (one b23 (by omega)) a23.gh.high a23.gh.fio a23.gh.fix ⟨rfl, rfl⟩ ⟨rfl, rfl⟩
  clear h24
  refine ⟨a24.gh.blk.ok (by simp), letH_mk fun H25 h25 => ?_⟩
  exact ⟨_, _, ghost_rng (out := ⟨slP o5.p o5.c 0 2, (0 : Int).toNat - 0, o5.c - 0⟩) (g' := ⟨bu, [(4096, 61440)], [(268435456, 4026531840)], L3, [], [], [], []⟩) (gs' := ⟨⟨some ⟨H19.size, 0, none⟩, 1, 1⟩, ⟨some ⟨H22.size, 0, none⟩, 1, 1⟩, o3, ⟨slP o4.p o4.c 0 2, (0 : Int).toNat - 0, o4.c - 0⟩, ⟨slP o5.p o5.c 0 2, (0 : Int).toNat - 0, o5.c - 0⟩, ⟨none, 0, 0⟩, ⟨none, 0, 0⟩⟩) a24 h25 rfl a24.gh.io a24.gh.mem a24.gh.high a24.gh.fio (zero a24.gh.fix.2.1) ⟨rfl, rfl⟩ ⟨rfl, rfl⟩, rfl, rfl⟩

end Go.Proofs.Ytnhhncjflnlfaaa
end
