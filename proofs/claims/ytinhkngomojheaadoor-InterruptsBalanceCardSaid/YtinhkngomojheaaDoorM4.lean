/-
  Placing, in plain terms; the contract of the reference's Place.
-/
import Derived.Test.YtinhkngomojheaaDoorM3
namespace Go.Proofs.YtinhkngomojheaaDoor
open Go.Eng
set_option linter.unusedVariables false

def szOf (S : List Int) (i : Nat) : Nat := (S.getD i 0).toNat
/-- Items, one after the other, at the lowest place. -/
def plI (S : List Int) : List Nat → List Rg → List Int → Option (List Rg × List Int)
  | [], l, bs => some (l, bs)
  | i :: ord, l, bs => match takeF l (2 ^ szOf S i) with
    | none => none
    | some (b, l') => plI S ord l' (bs.set i b)
theorem plI_append (S : List Int) : ∀ (a b : List Nat) (l : List Rg) (bs : List Int), plI S (a ++ b) l bs = (plI S a l bs).bind (fun x => plI S b x.1 x.2)
  | [], b, l, bs => rfl
  | i :: a, b, l, bs => by
    simp only [List.cons_append, plI]
    cases takeF l (2 ^ szOf S i) with
    | none => rfl
    | some x => exact plI_append S a b x.2 (bs.set i x.1)

def ordK (S : List Int) (k : Nat) : List Nat := (List.range S.length).filter (fun j => decide (S.getD j 0 = k))
/-- The order of the items: the greatest first, equal ones as they stand. -/
def ordN (S : List Int) (m : Nat) : List Nat := ((List.range m).map (fun j => 44 - j)).flatMap (ordK S)
def ordF (S : List Int) : List Nat := ordN S 45
theorem ordN_succ (S : List Int) (m : Nat) : ordN S (m + 1) = ordN S m ++ ordK S (44 - m) := by
  unfold ordN
  rw [List.range_succ, List.map_append, List.flatMap_append]
  simp

def placeV (free : List Rg) (S : List Int) : Int × List Int × Cert :=
  if ValidR free ∧ ItemsOk S then
    match plI S (ordF S) (mergeF free) (List.replicate S.length 0) with
    | some (_, bs) => (0, bs, noCert)
    | none => (19, [], certF (mergeF free) S 44)
  else (1, [], noCert)

/-- An answer of Place in memory. -/
def PlaceP (x : Int × List Int × Cert) (H : Heap) (v : Value) (H' : Heap) : Prop :=
  ∃ out : Sl, v = .tuple #[.slice out.p out.n out.c, certV x.2.2, .int .i64 x.1] ∧ IsS 1 (encI .u64) H' out x.2.1 ∧ TyB H' out.p t_uint64 ∧ Ext H H'

theorem plI_len (S : List Int) : ∀ (ord : List Nat) (l : List Rg) (bs : List Int) (x : List Rg × List Int), plI S ord l bs = some x → x.2.length = bs.length
  | [], l, bs, x, h => by simp [plI] at h; rw [← h]
  | i :: ord, l, bs, x, h => by
    simp only [plI] at h
    cases ht : takeF l (2 ^ szOf S i) with
    | none => rw [ht] at h; cases h
    | some y =>
      rw [ht] at h
      have := plI_len S ord y.2 (bs.set i y.1) x h
      simpa using this
/-- What is left stays in order. -/
theorem plI_asc (S : List Int) : ∀ (ord : List Nat) (l : List Rg) (bs : List Int) (x : List Rg × List Int), plI S ord l bs = some x → Asc l → Low l → Asc x.1 ∧ Low x.1 ∧ x.1.length ≤ l.length + ord.length
  | [], l, bs, x, h, ha, hl => by simp [plI] at h; rw [← h]; exact ⟨ha, hl, by simp⟩
  | i :: ord, l, bs, x, h, ha, hl => by
    simp only [plI] at h
    cases ht : takeF l (2 ^ szOf S i) with
    | none => rw [ht] at h; cases h
    | some y =>
      obtain ⟨b, l'⟩ := y
      rw [ht] at h
      obtain ⟨r, hr, h1, h2, h3, h4⟩ := takeF_some ht (pow_pos2 _)
      have hx : 1 ≤ ((b, (2 : Int) ^ szOf S i) : Rg).2 := pow_ge1 _
      obtain ⟨i1, i2, i3⟩ := plI_asc S ord l' (bs.set i b) x h (by rw [h4]; exact (rmF_spec ha hx).1) (by rw [h4]; exact hl.rm ha hx)
      refine ⟨i1, i2, ?_⟩
      have := rmF_len1 ha hx
      rw [← h4] at this
      simp only [List.length_cons]
      omega

theorem ordN_len (S : List Int) (m : Nat) : ∀ i ∈ ordN S m, i < S.length := by
  intro i hi
  obtain ⟨k, _, hk⟩ := List.mem_flatMap.1 hi
  unfold ordK at hk
  have := (List.mem_filter.1 hk).1
  exact List.mem_range.1 this

/-- Rows of u64. -/
abbrev BsB (H : Heap) (b : Nat) (bs : List Int) : Prop := RB H b t_uint64 1 (encI .u64) bs
theorem BsB.set {H : Heap} {b : Nat} {bs : List Int} {i : Nat} (h : BsB H b bs) (hi : i < bs.length) (y : Int) : BsB (wrs H ((⟨b, 0, none⟩ : Addr).add (i * 1)) [.int .u64 y]) b (bs.set i y) :=
  RB.wr0 h (x := bs.getD i 0) (getD_get 0 hi) (by omega) rfl

/-- The state: so much is done. -/
def PI (S : List Int) (M : List Rg) (H : Heap) (ob : Nat) (ord : List Nat) (left : Sl) (H' : Heap) : Prop :=
  ∃ l bs, plI S ord M (List.replicate S.length 0) = some (l, bs) ∧ Own H.size t_api_Range 2 H' left (l.flatMap encR) ∧ BsB H' ob bs ∧ Ext H H'

theorem range_filter_succ (q : Nat → Bool) (i : Nat) : (List.range (i + 1)).filter q = (List.range i).filter q ++ (if q i then [i] else []) := by
  rw [List.range_succ, List.filter_append]
  congr 1
  simp only [List.filter_cons, List.filter_nil]


end Go.Proofs.YtinhkngomojheaaDoor
