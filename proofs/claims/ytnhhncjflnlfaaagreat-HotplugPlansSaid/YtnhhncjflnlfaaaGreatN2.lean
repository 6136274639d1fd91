/-
 Aligned blocks, in plain terms: how many there are; placing items, greatest first, at the lowest place; when it goes.
-/
import Derived.Test.YtnhhncjflnlfaaaGreatN1
namespace Go.Proofs.YtnhhncjflnlfaaaGreat
open Go.Eng
set_option linter.unusedVariables false

def cd (a P : Int) : Int := (a + P - 1) / P
theorem cd_spec {a P : Int} (hP : 0 < P) : a <= cd a P * P /\ cd a P * P < a + P := by
 unfold cd
 have h1 : (a + P - 1) / P * P <= a + P - 1 := Int.ediv_mul_le _ (by omega)
 have h2 : a + P - 1 < ((a + P - 1) / P + 1) * P := Int.lt_ediv_add_one_mul_self _ hP
 rw [Int.add_mul, Int.one_mul] at h2
 omega
theorem fl_spec {a P : Int} (hP : 0 < P) : a / P * P <= a /\ a < a / P * P + P := by
 have h1 : a / P * P <= a := Int.ediv_mul_le _ (by omega)
 have h2 : a < (a / P + 1) * P := Int.lt_ediv_add_one_mul_self _ hP
 rw [Int.add_mul, Int.one_mul] at h2
 omega
theorem mul_le_of {x y P : Int} (hP : 0 < P) (h : x * P <= y * P) : x <= y := Int.le_of_mul_le_mul_right h hP
theorem mul_lt_of {x y P : Int} (hP : 0 < P) (h : x * P < y * P) : x < y := Int.lt_of_mul_lt_mul_right h (by omega)
theorem cd_le {a z P : Int} (hP : 0 < P) (h : a <= z * P) : cd a P <= z := by
 have h1 := (cd_spec (a := a) hP).2
 have : cd a P * P < (z + 1) * P := by rw [Int.add_mul, Int.one_mul]; omega
 have := mul_lt_of hP this
 omega
theorem cd_mul {z P : Int} (hP : 0 < P) : cd (z * P) P = z := by
 have h1 := cd_spec (a := z * P) hP
 have a1 := mul_le_of hP h1.1
 have a2 := cd_le hP (Int.le_refl (z * P))
 omega
theorem le_fl {b z P : Int} (hP : 0 < P) (h : z * P <= b) : z <= b / P := (Int.le_ediv_iff_mul_le hP).2 h
theorem fl_mul {z P : Int} (hP : 0 < P) : z * P / P = z := Int.mul_ediv_cancel _ (by omega)

def blkP (P : Int) (r : Rg) : Int := max 0 ((r.1 + r.2) / P - cd r.1 P)
def blkN (P : Int) : List Rg -> Int
 | [] => 0
 | r :: l => blkP P r + blkN P l
theorem blkP_nn (P : Int) (r : Rg) : 0 <= blkP P r := by unfold blkP; omega
theorem blkN_nn (P : Int) (l : List Rg) : 0 <= blkN P l := by
 induction l with
 | nil => simp [blkN]
 | cons r l ih => have := blkP_nn P r; simp only [blkN]; omega
theorem blkN_append (P : Int) (a b : List Rg) : blkN P (a ++ b) = blkN P a + blkN P b := by
 induction a with
 | nil => simp [blkN]
 | cons r a ih => simp only [List.cons_append, blkN, ih]; omega

theorem blkP_cut {P z D : Int} {r : Rg} (hP : 0 < P) (hD : 1 <= D) (h1 : r.1 <= z * P) (h2 : z * P + D * P <= r.1 + r.2) :
  blkP P (r.1, z * P - r.1) + blkP P (z * P + D * P, r.1 + r.2 - (z * P + D * P)) + D = blkP P r := by
 unfold blkP
 dsimp only
 have e1 : r.1 + (z * P - r.1) = z * P := by omega
 have e2 : z * P + D * P + (r.1 + r.2 - (z * P + D * P)) = r.1 + r.2 := by omega
 have e3 : z * P + D * P = (z + D) * P := by rw [Int.add_mul]
 rw [e1, e2, fl_mul hP, e3, cd_mul hP]
 have a1 := cd_le hP h1
 have a2 := le_fl hP (show (z + D) * P <= r.1 + r.2 by rw [<- e3]; exact h2)
 omega

theorem blkP_zero {P b : Int} (hP : 0 < P) : blkP P (b, 0) = 0 := by
 unfold blkP
 dsimp only
 rw [Int.add_zero]
 have h1 := (cd_spec (a := b) hP).1
 have h2 := (fl_spec (a := b) hP).1
 have : b / P * P <= cd b P * P := by omega
 have := mul_le_of hP this
 omega

theorem blkN_piece {P : Int} {f : Rg} {z D : Int} (hP : 0 < P) (hD : 1 <= D) (h1 : f.1 <= z * P) (h2 : z * P + D * P <= f.1 + f.2) : blkN P (piece f (z * P, D * P)) + D = blkP P f := by
 have hDP : 0 < D * P := Int.mul_pos (by omega) hP
 rw [<- blkP_cut hP hD h1 h2]
 unfold piece
 dsimp only
 rw [if_neg (by omega), blkN_append]
 congr 1
 congr 1
 ·split
  ·simp [blkN]
  ·rw [show z * P - f.1 = 0 by omega, blkP_zero hP]; rfl
 ·split
  ·simp [blkN]
  ·rw [show f.1 + f.2 - (z * P + D * P) = 0 by omega, blkP_zero hP]; rfl
theorem piece_apart {f x : Rg} (h : x.1 >= f.1 + f.2 \/ x.1 + x.2 <= f.1) : piece f x = [f] := by unfold piece; rw [if_pos h]

theorem rmF_apart {l : List Rg} {x : Rg} (h : ∀ f ∈ l, x.1 >= f.1 + f.2 \/ x.1 + x.2 <= f.1) : rmF l x = l := by
 induction l with
 | nil => rfl
 | cons f l ih =>
  have e : rmF (f :: l) x = piece f x ++ rmF l x := by unfold rmF; rw [List.flatMap_cons]
  rw [e, piece_apart (h f (by simp)), ih (fun g hg => h g (by simp [hg]))]
  rfl

theorem rmF_in {a b : List Rg} {f x : Rg} (h : Asc (a ++ f :: b)) (hx : 1 <= x.2) (h1 : f.1 <= x.1) (h2 : x.1 + x.2 <= f.1 + f.2) : rmF (a ++ f :: b) x = a ++ piece f x ++ b := by
 have e : rmF (a ++ f :: b) x = rmF a x ++ (piece f x ++ rmF b x) := by unfold rmF; rw [List.flatMap_append, List.flatMap_cons]
 have hsplit : (∀ g ∈ a, g.1 + g.2 < f.1) /\ (∀ g ∈ b, f.1 + f.2 < g.1) := by
  clear e
  induction a with
  | nil => exact ⟨(fun g hg => by cases hg), fun g hg => h.2.1 g hg⟩
  | cons r a ih =>
   obtain ⟨i1, i2⟩ := ih h.2.2
   refine ⟨fun g hg => ?_, i2⟩
   rcases List.mem_cons.1 hg with rfl | hg
   ·exact h.2.1 f (by simp)
   ·exact i1 g hg
 rw [e, rmF_apart (l := a) (fun g hg => by have := hsplit.1 g hg; omega), rmF_apart (l := b) (fun g hg => by have := hsplit.2 g hg; omega), List.append_assoc]

theorem blkN_rm {l : List Rg} {f : Rg} {P z D : Int} (h : Asc l) (hf : f ∈ l) (hP : 0 < P) (hD : 1 <= D) (h1 : f.1 <= z * P) (h2 : z * P + D * P <= f.1 + f.2) : blkN P (rmF l (z * P, D * P)) + D = blkN P l := by
 obtain ⟨a, b, rfl⟩ := List.append_of_mem hf
 have hDP : 0 < D * P := Int.mul_pos (by omega) hP
 rw [rmF_in h (by dsimp only; omega) h1 h2, blkN_append, blkN_append, blkN_append]
 have := blkN_piece (f := f) hP hD h1 h2
 simp only [blkN]
 omega

/-! ### placing -/

def fitQ (P : Int) (r : Rg) : Bool := decide (cd r.1 P * P + P <= r.1 + r.2)
theorem fitQ_iff {P : Int} (hP : 0 < P) (r : Rg) : fitQ P r = true ↔ 1 <= blkP P r := by
 unfold fitQ blkP
 rw [decide_eq_true_eq]
 constructor
 ·intro h
  have := le_fl hP (show (cd r.1 P + 1) * P <= r.1 + r.2 by rw [Int.add_mul, Int.one_mul]; exact h)
  omega
 ·intro h
  have h1 : cd r.1 P + 1 <= (r.1 + r.2) / P := by omega
  have h2 := (Int.le_ediv_iff_mul_le hP).1 h1
  rw [Int.add_mul, Int.one_mul] at h2
  exact h2

def takeF (l : List Rg) (P : Int) : Option (Int × List Rg) :=
 match l.find? (fitQ P) with
 | none => none
 | some r => some (cd r.1 P * P, rmF l (cd r.1 P * P, P))

theorem blkN_pos {l : List Rg} {P : Int} (hP : 0 < P) : 1 <= blkN P l ↔ ∃ r ∈ l, fitQ P r = true := by
 induction l with
 | nil => simp [blkN]
 | cons r l ih =>
  have n1 := blkP_nn P r
  have n2 := blkN_nn P l
  simp only [blkN]
  constructor
  ·intro h
   by_cases h1 : 1 <= blkP P r
   ·exact ⟨r, by simp, (fitQ_iff hP r).2 h1⟩
   ·obtain ⟨s, hs, hq⟩ := ih.1 (by omega)
    exact ⟨s, by simp [hs], hq⟩
  ·rintro ⟨s, hs, hq⟩
   rcases List.mem_cons.1 hs with rfl | hs
   ·have := (fitQ_iff hP s).1 hq; omega
   ·have := ih.2 ⟨s, hs, hq⟩; omega

theorem takeF_none {l : List Rg} {P : Int} (hP : 0 < P) : takeF l P = none ↔ blkN P l = 0 := by
 have hn := blkN_nn P l
 have hp := blkN_pos (l := l) hP
 unfold takeF
 constructor
 ·intro h
  cases hf : l.find? (fitQ P) with
  | none =>
   have := List.find?_eq_none.1 hf
   by_cases h1 : 1 <= blkN P l
   ·obtain ⟨r, hr, hq⟩ := hp.1 h1
    exact absurd hq (this r hr)
   ·omega
  | some r => rw [hf] at h; cases h
 ·intro h
  cases hf : l.find? (fitQ P) with
  | none => rfl
  | some r =>
   have := hp.2 ⟨r, List.mem_of_find?_eq_some hf, List.find?_some hf⟩
   omega

theorem takeF_some {l l' : List Rg} {b P : Int} (h : takeF l P = some (b, l')) (hP : 0 < P) : ∃ r ∈ l, r.1 <= b /\ b + P <= r.1 + r.2 /\ b = cd r.1 P * P /\ l' = rmF l (b, P) := by
 unfold takeF at h
 cases hf : l.find? (fitQ P) with
 | none => rw [hf] at h; cases h
 | some r =>
  rw [hf] at h
  simp only [Option.some.injEq, Prod.mk.injEq] at h
  obtain ⟨rfl, rfl⟩ := h
  have hq := List.find?_some hf
  unfold fitQ at hq
  rw [decide_eq_true_eq] at hq
  exact ⟨r, List.mem_of_find?_eq_some hf, (cd_spec hP).1, hq, rfl, rfl⟩

theorem pow_pos2 (k : Nat) : (0 : Int) < 2 ^ k := Int.pow_pos (by omega)
theorem pow_split {j k : Nat} (h : j <= k) : (2 : Int) ^ k = 2 ^ (k - j) * 2 ^ j := by rw [<- Int.pow_add, show k - j + j = k by omega]
theorem pow_ge1 (k : Nat) : (1 : Int) <= 2 ^ k := by have := pow_pos2 k; omega

theorem blkN_take {l : List Rg} {f : Rg} {j k : Nat} {y : Int} (h : Asc l) (hf : f ∈ l) (hj : j <= k) (h1 : f.1 <= y * 2 ^ k) (h2 : y * 2 ^ k + 2 ^ k <= f.1 + f.2) : blkN (2 ^ j) (rmF l (y * 2 ^ k, 2 ^ k)) + 2 ^ (k - j) = blkN (2 ^ j) l := by
 have e1 : y * (2 : Int) ^ k = (y * 2 ^ (k - j)) * 2 ^ j := by rw [pow_split hj, Int.mul_assoc]
 have e2 := pow_split hj
 rw [e1] at h1 h2 ⊢
 have := blkN_rm (P := 2 ^ j) (z := y * 2 ^ (k - j)) (D := 2 ^ (k - j)) h hf (pow_pos2 j) (pow_ge1 _) h1 (by rw [<- e2]; exact h2)
 rw [<- e2] at this
 exact this

def dem (k : Nat) : List Nat -> Int
 | [] => 0
 | s :: ss => (if k <= s then 2 ^ s else 0) + dem k ss
theorem dem_nn (k : Nat) (ss : List Nat) : 0 <= dem k ss := by
 induction ss with
 | nil => simp [dem]
 | cons s ss ih => have := pow_pos2 s; simp only [dem]; split <;> omega
theorem dem_small {k : Nat} {ss : List Nat} (h : ∀ s ∈ ss, s < k) : dem k ss = 0 := by
 induction ss with
 | nil => rfl
 | cons s ss ih =>
  have := h s (by simp)
  simp only [dem]
  rw [if_neg (by omega), ih (fun t ht => h t (by simp [ht]))]
  rfl

def Desc : List Nat -> Prop
 | [] => True
 | s :: ss => (∀ t ∈ ss, t <= s) /\ Desc ss

def Plc : List Nat -> List Rg -> Prop
 | [], _ => True
 | s :: ss, l => ∃ y : Int, (∀ x, y * 2 ^ s <= x -> x < y * 2 ^ s + 2 ^ s -> Cov l x) /\ Plc ss (rmF l (y * 2 ^ s, 2 ^ s))

theorem Asc.gap_mem {l : List Rg} (h : Asc l) : ∀ r ∈ l, ¬ Cov l (r.1 + r.2) := by
 induction l with
 | nil => intro r hr; cases hr
 | cons s l ih =>
  intro r hr
  rcases List.mem_cons.1 hr with rfl | hr
  ·exact h.gap
  ·intro hc
   have h1 := h.2.1 r hr
   have h2 := Asc.len h.2.2 r hr
   rcases Cov_cons.1 hc with hc | hc
   ·omega
   ·exact ih h.2.2 r hr hc
theorem cov_block {l : List Rg} (h : Asc l) {a b : Int} (hab : a < b) (hc : ∀ x, a <= x -> x < b -> Cov l x) : ∃ r ∈ l, r.1 <= a /\ b <= r.1 + r.2 := by
 obtain ⟨r, hr, h1, h2⟩ := hc a (Int.le_refl _) hab
 refine ⟨r, hr, h1, ?_⟩
 by_cases hlt : r.1 + r.2 < b
 ·exact absurd (hc (r.1 + r.2) (by omega) hlt) (h.gap_mem r hr)
 ·omega

def Room (ss : List Nat) (l : List Rg) : Prop := ∀ k, dem k ss <= blkN (2 ^ k) l * 2 ^ k

theorem room_step {s : Nat} {ss : List Nat} {l : List Rg} {f : Rg} {y : Int} (hd : Desc (s :: ss)) (h : Asc l) (hf : f ∈ l) (h1 : f.1 <= y * 2 ^ s) (h2 : y * 2 ^ s + 2 ^ s <= f.1 + f.2) : Room (s :: ss) l ↔ Room ss (rmF l (y * 2 ^ s, 2 ^ s)) := by
 constructor
 ·intro hr k
  by_cases hk : k <= s
  ·have hb := blkN_take (j := k) h hf hk h1 h2
   have hd2 := hr k
   simp only [dem] at hd2
   rw [if_pos hk, pow_split hk] at hd2
   rw [<- hb, Int.add_mul] at hd2
   omega
  ·rw [dem_small (fun t ht => by have := hd.1 t ht; omega)]
   exact Int.mul_nonneg (blkN_nn _ _) (by have := pow_pos2 k; omega)
 ·intro hr k
  by_cases hk : k <= s
  ·have hb := blkN_take (j := k) h hf hk h1 h2
   have hd2 := hr k
   simp only [dem]
   rw [if_pos hk, pow_split hk, <- hb, Int.add_mul]
   omega
  ·simp only [dem]
   rw [if_neg hk, dem_small (fun t ht => by have := hd.1 t ht; omega)]
   have := Int.mul_nonneg (blkN_nn (2 ^ k) l) (by have := pow_pos2 k; omega : (0 : Int) <= 2 ^ k)
   omega

theorem plc_room : ∀ (ss : List Nat) (l : List Rg), Desc ss -> Asc l -> Plc ss l -> Room ss l
 | [], l, _, _, _ => fun k => by
  have := Int.mul_nonneg (blkN_nn (2 ^ k) l) (by have := pow_pos2 k; omega : (0 : Int) <= 2 ^ k)
  simpa [dem] using this
 | s :: ss, l, hd, ha, ⟨y, hc, hp⟩ => by
  obtain ⟨f, hf, h1, h2⟩ := cov_block ha (by have := pow_pos2 s; omega) hc
  refine (room_step hd ha hf h1 h2).2 (plc_room ss _ hd.2 (rmF_spec ha (pow_ge1 s)).1 hp)

def placeL : List Nat -> List Rg -> Option (List Int)
 | [], _ => some []
 | s :: ss, l => match takeF l (2 ^ s) with
  | none => none
  | some (b, l') => (placeL ss l').map (b :: ·)

theorem room_place : ∀ (ss : List Nat) (l : List Rg), Desc ss -> Asc l -> (Room ss l ↔ (placeL ss l).isSome = true)
 | [], l, _, _ => by
  simp only [placeL, Option.isSome_some, iff_true]
  exact plc_room [] l trivial (by assumption) trivial
 | s :: ss, l, hd, ha => by
  have hP := pow_pos2 s
  cases ht : takeF l (2 ^ s) with
  | none =>
   have h0 := (takeF_none hP).1 ht
   constructor
   ·intro hr
    have := hr s
    simp only [dem] at this
    rw [if_pos (Nat.le_refl _), h0] at this
    have := dem_nn s ss
    omega
   ·intro h; rw [placeL, ht] at h; cases h
  | some x =>
   obtain ⟨b, l'⟩ := x
   obtain ⟨r, hr, h1, h2, h3, h4⟩ := takeF_some ht hP
   rw [h3] at h1 h2 h4
   rw [room_step hd ha hr h1 h2, <- h4, room_place ss l' hd.2 (by rw [h4]; exact (rmF_spec ha (pow_ge1 s)).1)]
   simp only [placeL, ht, Option.isSome_map]

end Go.Proofs.YtnhhncjflnlfaaaGreat
