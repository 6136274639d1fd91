/-
  Assignments in memory: the contracts of the reference's at, place.
-/
import Derived.Test.YtigcheamheiopaaM5
import Derived.Test.YtigcheamheiopaaJR
namespace Go.Proofs.Ytigcheamheiopaa
open Go.Eng
set_option linter.unusedVariables false

abbrev Asg := Need × Int
def encA (x : Asg) : List Value := [.int .i64 x.1.1, .int .i64 x.1.2.1, .int .i64 x.1.2.2.1, .int .i64 x.1.2.2.2, .int .u64 x.2]
theorem encA_len (x : Asg) : (encA x).length = 5 := rfl
theorem encA_one (x : Asg) : ∀ u ∈ encA x, oneC u = true := fun u hu => by simp [encA] at hu; rcases hu with rfl | rfl | rfl | rfl | rfl <;> rfl
theorem rkAsg : RK Try.prog t_sl_api_Assignment t_api_Assignment (.agg #[.int .i64 0, .int .i64 0, .int .i64 0, .int .i64 0, .int .u64 0]) 5 40 encA := ⟨by kernel_rfl, by kernel_rfl, rfl, by omega, by omega, encA_len, encA_one⟩

def nq (f ix : Int) (x : Need) : Bool := decide (x.1 = f ∧ x.2.1 = ix)
/-- Where the need with this function and index stands. -/
def atN (N : List Need) (f ix : Int) : Option Nat := N.findIdx? (nq f ix)
def atI (N : List Need) (f ix : Int) : Int := match atN N f ix with | some i => (i : Int) | none => -1
theorem atN_some {N : List Need} {f ix : Int} {k : Nat} (hk : k < N.length) (hq : nq f ix (N.getD k (0, 0, 0, 0)) = true) (hlt : ∀ j, j < k → nq f ix (N.getD j (0, 0, 0, 0)) = false) : atN N f ix = some k := by
  unfold atN
  rw [List.findIdx?_eq_some_iff_getElem]
  refine ⟨hk, by simpa [List.getD, hk] using hq, fun j hj => ?_⟩
  have := hlt j hj
  have hjl : j < N.length := by omega
  simp only [List.getD, List.getElem?_eq_getElem hjl, Option.getD_some] at this
  rw [this]; simp
theorem atN_none {N : List Need} {f ix : Int} (h : ∀ j, j < N.length → nq f ix (N.getD j (0, 0, 0, 0)) = false) : atN N f ix = none := by
  unfold atN
  rw [List.findIdx?_eq_none_iff]
  intro x hx
  have := all_of_getD (Q := fun x => nq f ix x = false) (0, 0, 0, 0) h x hx
  exact this
theorem atN_spec {N : List Need} {f ix : Int} {k : Nat} (h : atN N f ix = some k) : k < N.length ∧ (N.getD k (0, 0, 0, 0)).1 = f ∧ (N.getD k (0, 0, 0, 0)).2.1 = ix := by
  unfold atN at h
  rw [List.findIdx?_eq_some_iff_getElem] at h
  obtain ⟨hk, hq, _⟩ := h
  have : N.getD k (0, 0, 0, 0) = N[k] := by simp [List.getD, hk]
  rw [this]
  unfold nq at hq
  rw [decide_eq_true_eq] at hq
  exact ⟨hk, hq⟩

theorem rat_spec (H : Heap) (s : Sl) (A : List Asg) (f ix : Int) (h : IsS 5 encA H s A) (hl : A.length ≤ 100000) :
    CallsH Try.prog n_ref21_at #[.slice s.p s.n s.c, .int .i64 f, .int .i64 ix] H (fun v H' => v = .int .i64 (atI (A.map Prod.fst) f ix) ∧ H' = H) := by
  refine F_ref21_at_ok _ _ _ ?_
  unfold F_ref21_at
  have hn := h.len
  have hgm : ∀ j, j < A.length → (A.map Prod.fst).getD j (0, 0, 0, 0) = (A.getD j ((0, 0, 0, 0), 0)).1 := fun j hj => by simp [List.getD, hj]
  refine loop1 A.length (fun k H' => H' = H ∧ ∀ j, j < k → nq f ix ((A.map Prod.fst).getD j (0, 0, 0, 0)) = false) ⟨rfl, fun j hj => by omega⟩ ?_
  rintro k H1 hk ⟨rfl, hno⟩
  unfold F_ref21_at_r1
  refine iteB_dec (fun c => ?_) (fun c => ⟨?_, rfl⟩)
  · have hkn : k < A.length := by omega
    obtain ⟨a, hp, hr⟩ := IsS.atN h ((0, 0, 0, 0), 0) hkn
    have hg := hgm k hkn
    generalize A.getD k ((0, 0, 0, 0), 0) = x at *
    obtain ⟨⟨x0, x1, x2, x3⟩, x4⟩ := x
    have skip : nq f ix (x0, x1, x2, x3) = false → CI A.length (fun k H' => H' = H1 ∧ ∀ j, j < k → nq f ix ((A.map Prod.fst).getD j (0, 0, 0, 0)) = false) (IntKind.i64.wrap ((k : Int) + 1)) H1 ∧ CM A.length (IntKind.i64.wrap ((k : Int) + 1)) H1 < CM A.length (k : Int) H1 := fun hq => next1 hkn (by omega) ⟨rfl, fun j hj => by
      by_cases e : j = k
      · subst e; rw [hg]; exact hq
      · exact hno j (by omega)⟩
    refine ⟨by omega, by omega, unSome_mk hp ⟨x0, hr 0 _ rfl, iteB_beq (fun d => ⟨by omega, by omega, unSome_mk hp ⟨x1, hr 1 _ rfl, iteB_beq (fun d1 => ⟨?_, rfl⟩) (fun d1 => letV_mk _ rfl (skip ?_))⟩⟩) (fun d => letV_mk _ rfl (skip ?_))⟩⟩
    · unfold atI
      rw [atN_some (k := k) (by simpa using hkn) (by rw [hg]; unfold nq; exact decide_eq_true ⟨d, d1⟩) hno]
    · unfold nq; exact decide_eq_false (fun hh => d1 hh.2)
    · unfold nq; exact decide_eq_false (fun hh => d hh.1)
  · unfold atI
    rw [atN_none (fun j hj => hno j (by simp at hj; omega))]

/-- Bases written at the places of these needs. -/
def setB (N : List Need) (B : List Int) (l : List (Need × Int)) : List Int := l.foldl (fun B x => B.set ((atN N x.1.1 x.1.2.1).getD 0) x.2) B
theorem setB_len (N : List Need) : ∀ (l : List (Need × Int)) (B : List Int), (setB N B l).length = B.length
  | [], B => rfl
  | x :: l, B => by
    have := setB_len N l (B.set ((atN N x.1.1 x.1.2.1).getD 0) x.2)
    rw [List.length_set] at this
    exact this
theorem setB_snoc (N : List Need) (B : List Int) (l : List (Need × Int)) (x : Need × Int) : setB N B (l ++ [x]) = (setB N B l).set ((atN N x.1.1 x.1.2.1).getD 0) x.2 := by
  unfold setB; rw [List.foldl_append]; rfl

def sizesOf (L : List Need) : List Int := L.map (fun x => x.2.2.2)
/-- Placing the needs of a class below a bridge. -/
def plS (T : List FS) (N : List Need) (B : List Int) (p c : Int) (free : List Rg) : Int × Cert × List Int :=
  ((placeV free (sizesOf (belF T N p c))).1, (if (placeV free (sizesOf (belF T N p c))).1 = 0 then noCert else (c, (placeV free (sizesOf (belF T N p c))).2.2.2)), setB N B ((belF T N p c).zip (placeV free (sizesOf (belF T N p c))).2.1))

structure AsB (H : Heap) (g : Nat) (N : List Need) (B : List Int) : Prop where
  rb : RB H g t_api_Assignment 5 encA (N.zip B)
  cs : CS H g (N.length * 5)
theorem AsB.ext {H H' : Heap} {g : Nat} {N : List Need} {B : List Int} (h : AsB H g N B) (e : Ext H H') : AsB H' g N B := ⟨RB.ext h.rb e, h.cs.ext e⟩
theorem AsB.mods {H H' : Heap} {g : Nat} {N : List Need} {B : List Int} {S : List Nat} (h : AsB H g N B) (m : Mods S H H') (hn : g ∉ S) : AsB H' g N B := ⟨RB.mods h.rb m hn, h.cs.mods m hn⟩

theorem zip_fst {N : List Need} {B : List Int} (h : B.length = N.length) : (N.zip B).map Prod.fst = N := by
  apply List.map_fst_zip
  omega
theorem zip_len {N : List Need} {B : List Int} (h : B.length = N.length) : (N.zip B).length = N.length := by simp; omega
theorem zip_set {N : List Need} {B : List Int} (j : Nat) (v : Int) (h : B.length = N.length) (hj : j < N.length) : (N.zip B).set j (N.getD j (0, 0, 0, 0), v) = N.zip (B.set j v) := by
  apply List.ext_getElem?
  intro i
  rw [List.getElem?_set]
  by_cases e : j = i
  · subst e
    rw [if_pos rfl, if_pos (by rw [zip_len h]; exact hj)]
    exact ((List.getElem?_zip_eq_some (z := (N.getD j (0, 0, 0, 0), v))).2 ⟨getD_get (0, 0, 0, 0) hj, by rw [List.getElem?_set_self (by omega)]⟩).symm
  · rw [if_neg e]
    simp only [List.zip, List.getElem?_zipWith, List.getElem?_set_ne e]
theorem zip_getD {N : List Need} {B : List Int} {j : Nat} (h : B.length = N.length) (hj : j < N.length) : (N.zip B)[j]? = some (N.getD j (0, 0, 0, 0), B.getD j 0) :=
  (List.getElem?_zip_eq_some (z := (N.getD j (0, 0, 0, 0), B.getD j 0))).2 ⟨getD_get (0, 0, 0, 0) hj, getD_get 0 (by omega)⟩

/-- The base of a need is written. -/
theorem AsB.set {H : Heap} {g : Nat} {N : List Need} {B : List Int} (h : AsB H g N B) (hl : B.length = N.length) {j : Nat} (hj : j < N.length) (v : Int) :
    okRow H (((⟨g, 0, none⟩ : Addr).add (j * 5)).add 4) 1 ∧ AsB (wrs H (((⟨g, 0, none⟩ : Addr).add (j * 5)).add 4) [.int .u64 v]) g N (B.set j v) := by
  refine ⟨RB.ok h.rb (by rw [zip_len hl]; exact hj) (by omega), ?_⟩
  have := RB.wr h.rb (i := j) (j := 4) (x := (N.getD j (0, 0, 0, 0), B.getD j 0)) (y := (N.getD j (0, 0, 0, 0), v)) (v := .int .u64 v) (zip_getD hl hj) (by omega) rfl
  rw [zip_set j v hl hj] at this
  exact ⟨this, h.cs.wrs _ _⟩

theorem mods_wr2 {b : Nat} {H : Heap} {i j : Nat} {vs : List Value} : Mods [b] H (wrs H (((⟨b, 0, none⟩ : Addr).add i).add j) vs) := by
  rw [add_add']; exact mods_wr_add (by simp)

theorem belF_sub {T : List FS} {N : List Need} {p c : Int} : ∀ x ∈ belF T N p c, x ∈ N := fun x hx => by
  unfold belF at hx
  split at hx
  · exact (List.mem_filter.1 hx).1
  · cases hx
theorem belF_len (T : List FS) (N : List Need) (p c : Int) : (belF T N p c).length ≤ N.length := by
  unfold belF
  split
  · exact List.length_filter_le _ _
  · simp
theorem atN_of_mem {N : List Need} {x : Need} (h : x ∈ N) : ∃ j, atN N x.1 x.2.1 = some j := by
  cases hq : atN N x.1 x.2.1 with
  | some j => exact ⟨j, rfl⟩
  | none =>
    unfold atN at hq
    rw [List.findIdx?_eq_none_iff] at hq
    have := hq x h
    unfold nq at this
    simp at this

theorem placeV_len (free : List Rg) (S : List Int) : (placeV free S).2.1.length ≤ S.length ∧ ((placeV free S).1 = 0 → (placeV free S).2.1.length = S.length) := by
  unfold placeV
  split
  · cases hp : plI S (ordF S) (mergeF free) (List.replicate S.length 0) with
    | none => simp
    | some x =>
      obtain ⟨l, bs⟩ := x
      have := plI_len S _ _ _ _ hp
      simp at this
      simp [this]
  · simp

end Go.Proofs.Ytigcheamheiopaa
