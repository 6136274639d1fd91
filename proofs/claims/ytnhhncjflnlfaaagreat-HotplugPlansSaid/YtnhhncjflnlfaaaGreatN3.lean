/-
 What a placement gives (plain): aligned places in the free space, apart from one another; what a refusal gives.
-/
import Derived.Test.YtnhhncjflnlfaaaGreatS3
namespace Go.Proofs.YtnhhncjflnlfaaaGreat
open Go.Eng
set_option linter.unusedVariables false

theorem getD_set_ne {l : List Int} {i j : Nat} {b : Int} (h : i ≠ j) : (l.set i b).getD j 0 = l.getD j 0 := by
 simp [List.getD, List.getElem?_set_ne h]
theorem getD_set_eq {l : List Int} {i : Nat} {b : Int} (h : i < l.length) : (l.set i b).getD i 0 = b := by
 simp [List.getD, h]

def PlAt (S : List Int) (l : List Rg) (bs : List Int) (i : Nat) : Prop :=
 (∃ y : Int, bs.getD i 0 = y * 2 ^ szOf S i) /\ ∀ x, bs.getD i 0 <= x -> x < bs.getD i 0 + 2 ^ szOf S i -> Cov l x
def PlNe (S : List Int) (bs : List Int) (i j : Nat) : Prop := bs.getD i 0 + 2 ^ szOf S i <= bs.getD j 0 \/ bs.getD j 0 + 2 ^ szOf S j <= bs.getD i 0

theorem plI_ok (S : List Int) : ∀ (ord : List Nat) (l : List Rg) (bs : List Int) (x : List Rg × List Int), plI S ord l bs = some x -> Asc l -> ord.Nodup -> (∀ i ∈ ord, i < bs.length) ->
  (∀ i ∈ ord, PlAt S l x.2 i) /\ (∀ i ∈ ord, ∀ j ∈ ord, i ≠ j -> PlNe S x.2 i j) /\ (∀ i, i ∉ ord -> x.2.getD i 0 = bs.getD i 0)
 | [], l, bs, x, h, ha, hd, hl => by
  simp [plI] at h
  rw [<- h]
  exact ⟨fun i hi => (by cases hi), fun i hi => (by cases hi), fun i _ => rfl⟩
 | i :: ord, l, bs, x, h, ha, hd, hl => by
  simp only [plI] at h
  cases ht : takeF l (2 ^ szOf S i) with
  | none => rw [ht] at h; cases h
  | some y =>
   obtain ⟨b, l'⟩ := y
   rw [ht] at h
   obtain ⟨r, hr, h1, h2, h3, h4⟩ := takeF_some ht (pow_pos2 _)
   have hx : 1 <= ((b, (2 : Int) ^ szOf S i) : Rg).2 := pow_ge1 _
   obtain ⟨a1, a2, _⟩ := rmF_spec ha hx
   rw [<- h4] at a1 a2
   rw [List.nodup_cons] at hd
   obtain ⟨i1, i2, i3⟩ := plI_ok S ord l' (bs.set i b) x h a1 hd.2 (fun j hj => by rw [List.length_set]; exact hl j (by simp [hj]))
   have hib : x.2.getD i 0 = b := by rw [i3 i hd.1]; exact getD_set_eq (hl i (by simp))
   have hne : ∀ j ∈ ord, PlNe S x.2 i j := fun j hj => by
    have := (i1 j hj).2
    unfold PlNe
    rw [hib]
    have p1 := pow_pos2 (szOf S i)
    have p2 := pow_pos2 (szOf S j)
    generalize x.2.getD j 0 = c at *
    generalize (2 : Int) ^ szOf S i = P at *
    generalize (2 : Int) ^ szOf S j = Q at *
    by_cases e : b + P <= c
    ·exact .inl e
    ·by_cases e2 : c + Q <= b
     ·exact .inr e2
     ·have hm : c <= max b c /\ max b c < c + Q := by omega
      have q := (a2 _).1 (this (max b c) hm.1 hm.2)
      dsimp only at q
      omega
   refine ⟨fun j hj => ?_, fun j hj k hk hjk => ?_, fun j hj => ?_⟩
   ·rcases List.mem_cons.1 hj with rfl | hj
    ·refine ⟨⟨cd r.1 (2 ^ szOf S j), by rw [hib]; exact h3⟩, fun z hz1 hz2 => ?_⟩
     rw [hib] at hz1 hz2
     exact ⟨r, hr, by omega, by omega⟩
    ·exact ⟨(i1 j hj).1, fun z hz1 hz2 => ((a2 z).1 ((i1 j hj).2 z hz1 hz2)).1⟩
   ·rcases List.mem_cons.1 hj with e1 | j1
    ·rcases List.mem_cons.1 hk with e2 | k1
     ·exact absurd (e1.trans e2.symm) hjk
     ·rw [e1]; exact hne k k1
    ·rcases List.mem_cons.1 hk with e2 | k1
     ·rw [e2]; exact (hne j j1).symm
     ·exact i2 j j1 k k1 hjk
   ·rw [i3 j (fun hh => hj (by simp [hh])), getD_set_ne (fun e => hj (by simp [e]))]

theorem ordF_nodup {S : List Int} (hI : ItemsOk S) : (ordF S).Nodup := (ordF_perm hI).nodup_iff.2 List.nodup_range
theorem ordF_mem {S : List Int} (hI : ItemsOk S) {i : Nat} : i ∈ ordF S ↔ i < S.length := by rw [(ordF_perm hI).mem_iff, List.mem_range]

theorem placeV_ok {free : List Rg} {S bs : List Int} {c : Cert} (h : placeV free S = (0, bs, c)) : ValidR free /\ ItemsOk S /\ bs.length = S.length /\ c = noCert /\ (∀ i, i < S.length -> PlAt S free bs i) /\ (∀ i, i < S.length -> ∀ j, j < S.length -> i ≠ j -> PlNe S bs i j) := by
 unfold placeV at h
 split at h
 ·rename_i hv
  cases hp : plI S (ordF S) (mergeF free) (List.replicate S.length 0) with
  | none => rw [hp] at h; simp at h
  | some x =>
   rw [hp] at h
   obtain ⟨l, b⟩ := x
   simp only [Prod.mk.injEq, true_and] at h
   have hlen := plI_len S _ _ _ _ hp
   obtain ⟨i1, i2, _⟩ := plI_ok S _ _ _ _ hp hv.1.merge.2 (ordF_nodup hv.2) (fun i hi => by rw [List.length_replicate]; exact (ordF_mem hv.2).1 hi)
   dsimp only at i1 i2 hlen
   rw [h.1] at i1 i2 hlen
   rw [List.length_replicate] at hlen
   have hcov := (mergeF_spec (l := free) (fun x hx => (hv.1.2 x hx).1)).2.1
   refine ⟨hv.1, hv.2, hlen, h.2.symm, fun i hi => ?_, fun i hi j hj hij => i2 i ((ordF_mem hv.2).2 hi) j ((ordF_mem hv.2).2 hj) hij⟩
   have := i1 i ((ordF_mem hv.2).2 hi)
   exact ⟨this.1, fun x h1 h2 => (hcov x).1 (this.2 x h1 h2)⟩
 ·simp at h

/-! ### refusals -/

theorem plI_none (S : List Int) : ∀ (ord : List Nat) (l : List Rg) (bs : List Int), plI S ord l bs = none ↔ placeL (ord.map (szOf S)) l = none
 | [], l, bs => by simp [plI, placeL]
 | i :: ord, l, bs => by
  simp only [plI, List.map_cons, placeL]
  cases ht : takeF l (2 ^ szOf S i) with
  | none => simp
  | some y =>
   obtain ⟨b, l'⟩ := y
   simp only [plI_none S ord l' (bs.set i b), Option.map_eq_none_iff]

theorem desc_ord {S : List Int} (hI : ItemsOk S) : Desc ((ordF S).map (szOf S)) := by
 have h := (ordN_spec hI 45 (Nat.le_refl _)).2
 unfold ordF
 generalize ordN S 45 = l at h
 induction l with
 | nil => trivial
 | cons i l ih =>
  rw [List.pairwise_cons] at h
  refine ⟨fun t ht => ?_, ih h.2⟩
  obtain ⟨j, hj, rfl⟩ := List.mem_map.1 ht
  have := h.1 j hj
  unfold szOf
  unfold Bef at this
  omega

theorem dem_perm {k : Nat} {a b : List Nat} (h : a.Perm b) : dem k a = dem k b := by
 induction h with
 | nil => rfl
 | cons x _ ih => simp only [dem, ih]
 | swap x y l => simp only [dem]; omega
 | trans _ _ h1 h2 => exact h1.trans h2
theorem dem_demI (k : Nat) : ∀ (S : List Int), (∀ x ∈ S, 0 <= x) -> dem k (S.map (fun x : Int => x.toNat)) = demI k S
 | [], _ => rfl
 | x :: S, h => by
  have h0 := h x (by simp)
  simp only [List.map_cons, dem, demI, dem_demI k S (fun y hy => h y (by simp [hy]))]
  by_cases e : (x : Int) >= k
  ·rw [if_pos e, if_pos (by omega)]
  ·rw [if_neg e, if_neg (by omega)]
theorem range_map_getD (S : List Int) : (List.range S.length).map (szOf S) = S.map (fun x : Int => x.toNat) := by
 apply List.ext_getElem
 ·simp
 ·intro i h1 h2
  simp at h1
  simp [szOf, List.getD, h1]
theorem dem_ord {S : List Int} (hI : ItemsOk S) (k : Nat) : dem k ((ordF S).map (szOf S)) = demI k S := by
 rw [dem_perm ((ordF_perm hI).map _), range_map_getD, dem_demI k S (fun x hx => (hI.2 x hx).1)]

theorem placeV_iff {free : List Rg} {S : List Int} (hv : ValidR free) (hI : ItemsOk S) : (placeV free S).1 = 0 ↔ Room ((ordF S).map (szOf S)) (mergeF free) := by
 rw [room_place _ _ (desc_ord hI) hv.merge.2]
 unfold placeV
 rw [if_pos ⟨hv, hI⟩]
 have := plI_none S (ordF S) (mergeF free) (List.replicate S.length 0)
 cases hp : plI S (ordF S) (mergeF free) (List.replicate S.length 0) with
 | none => rw [this.1 hp]; simp
 | some x =>
  cases hq : placeL ((ordF S).map (szOf S)) (mergeF free) with
  | none => rw [this.2 hq] at hp; cases hp
  | some y => simp

end Go.Proofs.YtnhhncjflnlfaaaGreat
