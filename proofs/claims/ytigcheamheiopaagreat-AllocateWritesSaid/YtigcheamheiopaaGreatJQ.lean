import Derived.Test.YtigcheamheiopaaGreatM7
import Derived.Test.YtigcheamheiopaaGreatN3
import Derived.Test.YtigcheamheiopaaGreatP5
import Derived.Test.YtigcheamheiopaaGreatM5

section
/-
 Needs (plain): each stands once; a bridge with something below it has a window that holds it.
-/
namespace Go.Proofs.YtigcheamheiopaaGreat
open Go.Eng
set_option linter.unusedVariables false

def KNe (a b : Need) : Prop := ¬ (a.1 = b.1 ∧ a.2.1 = b.2.1)

theorem regL_keys (T : List FS) (high : Bool) (i : Nat) (B : List Bar) : ∀ n, (regL T high i B n).Pairwise KNe ∧ ∀ x ∈ regL T high i B n, 0 ≤ x.2.1 ∧ x.2.1 < n
 | 0 => ⟨List.Pairwise.nil, fun x hx => by simp [regL] at hx⟩
 | n + 1 => by
  obtain ⟨h1, h2⟩ := regL_keys T high i B n
  simp only [regL]
  split
  ·rw [List.append_nil]
   exact ⟨h1, fun x hx => by have := h2 x hx; omega⟩
  ·refine ⟨List.pairwise_append.2 ⟨h1, List.pairwise_singleton _ _, fun a ha b hb => ?_⟩, fun x hx => ?_⟩
   ·simp only [List.mem_singleton] at hb
    subst hb
    have := h2 a ha
    rintro ⟨_, e⟩
    dsimp only at e
    omega
   ·rcases List.mem_append.1 hx with hx | hx
    ·have := h2 x hx; omega
    ·simp only [List.mem_singleton] at hx; subst hx; dsimp only; omega
theorem winN_keys (T : List FS) (high : Bool) (i : Nat) (S : Nat → List Int) : ∀ n : Nat, (winN T high i S n).Pairwise KNe ∧ ∀ x ∈ winN T high i S n, x.2.1 < 0 ∧ -(n : Int) ≤ x.2.1
 | 0 => ⟨List.Pairwise.nil, fun x hx => by simp [winN] at hx⟩
 | n + 1 => by
  obtain ⟨h1, h2⟩ := winN_keys T high i S n
  simp only [winN]
  split
  ·refine ⟨List.pairwise_append.2 ⟨h1, List.pairwise_singleton _ _, fun a ha b hb => ?_⟩, fun x hx => ?_⟩
   ·simp only [List.mem_singleton] at hb
    subst hb
    have := h2 a ha
    rintro ⟨_, e⟩
    dsimp only at e
    omega
   ·rcases List.mem_append.1 hx with hx | hx
    ·have := h2 x hx; omega
    ·simp only [List.mem_singleton] at hx; subst hx; dsimp only; omega
  ·rw [List.append_nil]
   exact ⟨h1, fun x hx => by have := h2 x hx; omega⟩
theorem ownL_keys (T : List FS) (high : Bool) (i : Nat) (S : Nat → List Int) : (ownL T high i S).Pairwise KNe := by
 unfold ownL
 obtain ⟨h1, h2⟩ := regL_keys T high i (fnAt T i).bars (fnAt T i).bars.length
 have hw : (winAll T high i (fun c => if c < 3 then S (i * 3 + c) else [])).Pairwise KNe ∧ ∀ x ∈ winAll T high i (fun c => if c < 3 then S (i * 3 + c) else []), x.2.1 < 0 := by
  unfold winAll
  split
  ·obtain ⟨a, b⟩ := winN_keys T high i (fun c => if c < 3 then S (i * 3 + c) else []) 3
   exact ⟨a, fun x hx => (b x hx).1⟩
  ·exact ⟨List.Pairwise.nil, fun x hx => by cases hx⟩
 refine List.pairwise_append.2 ⟨h1, hw.1, fun a ha b hb => ?_⟩
 rintro ⟨_, e⟩
 have := h2 a ha
 have := hw.2 b hb
 omega
theorem needs_keys {T : List FS} {high : Bool} : ∀ k, k ≤ T.length → ((List.range k).flatMap (needsAt T high)).Pairwise KNe ∧ ∀ x ∈ (List.range k).flatMap (needsAt T high), 0 ≤ x.1 ∧ x.1 < k
 | 0, _ => ⟨List.Pairwise.nil, fun x hx => by simp at hx⟩
 | k + 1, hk => by
  obtain ⟨h1, h2⟩ := needs_keys (T := T) (high := high) k (by omega)
  have hf := needsAt_fst (T := T) (high := high) (show k < T.length by omega)
  rw [List.range_succ, List.flatMap_append]
  simp only [List.flatMap_cons, List.flatMap_nil, List.append_nil]
  refine ⟨List.pairwise_append.2 ⟨h1, by rw [needsAt_own' (by omega)]; exact ownL_keys _ _ _ _, fun a ha b hb => ?_⟩, fun x hx => ?_⟩
  ·rintro ⟨e, _⟩
   have := h2 a ha
   have := hf b hb
   omega
  ·rcases List.mem_append.1 hx with hx | hx
   ·have := h2 x hx; omega
   ·have := hf x hx; omega
theorem needs_at_ne {T : List FS} {high : Bool} {j k : Nat} (hj : j < (needsAll T high).length) (hk : k < (needsAll T high).length) (hne : j ≠ k) : KNe ((needsAll T high).getD j (0, 0, 0, 0)) ((needsAll T high).getD k (0, 0, 0, 0)) := by
 have h := List.pairwise_iff_getElem.1 (needs_keys (T := T) (high := high) T.length (Nat.le_refl _)).1
 have e1 : (needsAll T high).getD j (0, 0, 0, 0) = (needsAll T high)[j] := by simp [List.getD, hj]
 have e2 : (needsAll T high).getD k (0, 0, 0, 0) = (needsAll T high)[k] := by simp [List.getD, hk]
 rw [e1, e2]
 by_cases c : j < k
 ·exact h j k hj hk c
 ·have := h k j hk hj (by omega)
  rintro ⟨a, b⟩
  exact this ⟨a.symm, b.symm⟩
theorem atN_self {T : List FS} {high : Bool} {k : Nat} (hk : k < (needsAll T high).length) : atN (needsAll T high) ((needsAll T high).getD k (0, 0, 0, 0)).1 ((needsAll T high).getD k (0, 0, 0, 0)).2.1 = some k := by
 refine atN_some hk (by unfold nq; simp) (fun j hj => ?_)
 unfold nq
 rw [decide_eq_false_iff_not]
 exact needs_at_ne (by omega) hk (by omega)

/-! ### what lies below, by indices -/
def idxF (T : List FS) (N : List Need) (p c : Int) (m : Nat) : List Nat := (List.range m).filter (fun i => belQ T p c (N.getD i (0, 0, 0, 0)))
theorem idxF_succ (T : List FS) (N : List Need) (p c : Int) (m : Nat) : idxF T N p c (m + 1) = idxF T N p c m ++ (if belQ T p c (N.getD m (0, 0, 0, 0)) then [m] else []) := by
 unfold idxF
 rw [range_filter_succ]
theorem idxF_mem {T : List FS} {N : List Need} {p c : Int} {m i : Nat} : i ∈ idxF T N p c m ↔ i < m ∧ belQ T p c (N.getD i (0, 0, 0, 0)) = true := by simp [idxF]
theorem idxF_nodup (T : List FS) (N : List Need) (p c : Int) (m : Nat) : (idxF T N p c m).Nodup := List.Pairwise.filter _ List.nodup_range
theorem idxF_map (T : List FS) (N : List Need) (p c : Int) : ∀ m, m ≤ N.length → (idxF T N p c m).map (fun i => N.getD i (0, 0, 0, 0)) = (N.take m).filter (belQ T p c)
 | 0, _ => rfl
 | m + 1, h => by
  rw [idxF_succ, List.map_append, idxF_map T N p c m (by omega), takeN_succ (by omega), List.filter_append]
  congr 1
  by_cases e : belQ T p c (N.getD m (0, 0, 0, 0)) = true
  ·rw [if_pos e, List.filter_cons_of_pos e]; rfl
  ·rw [if_neg e, List.filter_cons_of_neg e]; rfl
theorem belF_idx {T : List FS} {N : List Need} {p c : Int} (h : BelOk T p) : belF T N p c = (idxF T N p c N.length).map (fun i => N.getD i (0, 0, 0, 0)) := by
 unfold belF
 rw [if_pos h, idxF_map T N p c N.length (Nat.le_refl _), List.take_length]
def setI (B : List Int) (l : List (Nat × Int)) : List Int := l.foldl (fun B x => B.set x.1 x.2) B
theorem setB_setI {T : List FS} {high : Bool} : ∀ (I : List Nat) (bs B : List Int), (∀ i ∈ I, i < (needsAll T high).length) → setB (needsAll T high) B ((I.map (fun i => (needsAll T high).getD i (0, 0, 0, 0))).zip bs) = setI B (I.zip bs)
 | [], bs, B, _ => rfl
 | i :: I, [], B, _ => rfl
 | i :: I, b :: bs, B, h => by
  have e := atN_self (T := T) (high := high) (h i (by simp))
  show setB (needsAll T high) (B.set ((atN (needsAll T high) ((needsAll T high).getD i (0, 0, 0, 0)).1 ((needsAll T high).getD i (0, 0, 0, 0)).2.1).getD 0) b) _ = setI (B.set i b) _
  rw [e]
  exact setB_setI I bs (B.set i b) (fun j hj => h j (by simp [hj]))
theorem setI_out {j : Nat} : ∀ (l : List (Nat × Int)) (B : List Int), (∀ x ∈ l, x.1 ≠ j) → (setI B l).getD j 0 = B.getD j 0
 | [], B, _ => rfl
 | x :: l, B, h => by
  show (setI (B.set x.1 x.2) l).getD j 0 = B.getD j 0
  rw [setI_out l _ (fun y hy => h y (by simp [hy])), getD_set_ne (h x (by simp))]
theorem setI_at : ∀ (I : List Nat) (bs B : List Int) (k : Nat), I.Nodup → (∀ i ∈ I, i < B.length) → I.length = bs.length → (hk : k < I.length) → (setI B (I.zip bs)).getD I[k] 0 = bs.getD k 0
 | [], bs, B, k, _, _, _, hk => by simp at hk
 | u :: I, [], B, k, _, _, hl, hk => by simp at hl
 | u :: I, b :: bs, B, k, hd, hm, hl, hk => by
  rw [List.nodup_cons] at hd
  show (setI (B.set u b) (I.zip bs)).getD (u :: I)[k] 0 = (b :: bs).getD k 0
  cases k with
  | zero =>
   rw [List.getElem_cons_zero, setI_out]
   ·rw [getD_set_eq (hm u (by simp))]; rfl
   ·intro x hx e
    have := (List.of_mem_zip (show (x.1, x.2) ∈ _ from hx)).1
    exact hd.1 (e ▸ this)
  | succ k =>
   rw [List.getElem_cons_succ]
   exact setI_at I bs (B.set u b) k hd.2 (fun i hi => by rw [List.length_set]; exact hm i (by simp [hi])) (by simpa using hl) (by simpa using hk)

/-! ### windows -/
theorem win_exists {T : List FS} {high : Bool} (hv : ValidT T) (ho : ¬ Ovf T high) {i c : Nat} (hi : i < T.length) (hc : c < 3) (hne : belF T (needsAll T high) i c ≠ []) :
  ∃ w, atN (needsAll T high) i (-1 - (c : Int)) = some w ∧ w < (needsAll T high).length ∧ ((needsAll T high).getD w (0, 0, 0, 0)).1 = i ∧ sumW (sizesOf (belF T (needsAll T high) i c)) ≤ 2 ^ ((needsAll T high).getD w (0, 0, 0, 0)).2.2.2.toNat := by
 have hbo : BelOk T i := by
  apply Classical.byContradiction
  intro hn
  unfold belF at hne
  rw [if_neg hn] at hne
  exact hne rfl
 have hbr : (fnAt T i).bridge = true := by have := hbo.2 (by omega); rwa [Int.toNat_natCast] at this
 have hbel : belF T (needsAll T high) i c = (allFrom T high (T.length - 1 - i)).filter (belQ T i c) := by
  unfold belF
  rw [if_pos hbo, bel_later hv hi]
 have hsz : sizesOf (belF T (needsAll T high) i c) = belS T (allFrom T high (T.length - 1 - i)) i c := by rw [hbel]; rfl
 have hok := needs_ok hv ho
 have hwr : WinR T high i c (belS T (allFrom T high (T.length - 1 - i)) i c) := by
  have hne2 : belS T (allFrom T high (T.length - 1 - i)) i c ≠ [] := by
   rw [← hsz]
   intro e
   exact hne (List.map_eq_nil_iff.1 e)
  refine ⟨fun h => hne2 h.1, fun h => hne2 h.1, ?_, by omega, fun x hx => ?_⟩
  ·have h1 := belS_len T (allFrom T high (T.length - 1 - i)) i c
   have h2 := allFrom_len (high := high) hv (T.length - 1 - i) (by omega)
   have := hv.1
   omega
  ·rw [← hsz] at hx
   obtain ⟨y, hy, rfl⟩ := List.mem_map.1 hx
   exact (hok y (belF_sub y hy)).sz
 obtain ⟨w1, w2⟩ := (WinR_iff hv hi hc).1 hwr
 have hperm := tab_perm T high i c hc (T.length - 1 - i) (by omega)
 obtain ⟨w, hw, hiw⟩ := wszF_isW w2
 have hmem : (((i : Int), -1 - (c : Int), (c : Int), wszF ((nB T high (T.length - 1 - i)).2 (i * 3 + c)) c (fnAt T i).hot) : Need) ∈ needsAll T high := by
  refine List.mem_flatMap.2 ⟨i, List.mem_range.2 hi, ?_⟩
  rw [needsAt_own' hi]
  unfold ownL winAll
  rw [if_pos hbr]
  refine List.mem_append.2 (.inr ?_)
  have key : ∀ n, c < n → n ≤ 3 → (((i : Int), -1 - (c : Int), (c : Int), wszF ((nB T high (T.length - 1 - i)).2 (i * 3 + c)) c (fnAt T i).hot) : Need) ∈ winN T high i (fun c => if c < 3 then (nB T high (T.length - 1 - i)).2 (i * 3 + c) else []) n := by
   intro n
   induction n with
   | zero => intro h; omega
   | succ n ih =>
    intro h1 h2
    simp only [winN]
    by_cases e : c = n
    ·subst e
     refine List.mem_append.2 (.inr ?_)
     have e3 : (if c < 3 then (nB T high (T.length - 1 - i)).2 (i * 3 + c) else []) = (nB T high (T.length - 1 - i)).2 (i * 3 + c) := if_pos hc
     rw [e3, if_pos ⟨w1, w2⟩]
     simp
    ·exact List.mem_append.2 (.inl (ih (by omega) (by omega)))
  exact key 3 hc (Nat.le_refl _)
 obtain ⟨k, hk, hke⟩ := List.getElem_of_mem hmem
 have hgk : (needsAll T high).getD k (0, 0, 0, 0) = ((i : Int), -1 - (c : Int), (c : Int), wszF ((nB T high (T.length - 1 - i)).2 (i * 3 + c)) c (fnAt T i).hot) := by
  rw [← hke]; simp [List.getD, hk]
 have hat := atN_self hk
 rw [hgk] at hat
 refine ⟨k, hat, hk, by rw [hgk], ?_⟩
 rw [hgk, hsz]
 dsimp only
 rw [hw, Int.toNat_natCast]
 have hs : sumW (belS T (allFrom T high (T.length - 1 - i)) i c) = sumW ((nB T high (T.length - 1 - i)).2 (i * 3 + c)) := (sumW_perm hperm).symm
 rw [hs]
 exact hiw.fits

theorem demI_le_sum (k : Int) : ∀ (S : List Int), demI k S ≤ sumW S
 | [] => by simp [demI, sumW]
 | x :: S => by
  have := demI_le_sum k S
  have := pow_pos2 x.toNat
  simp only [demI, sumW]
  split <;> omega
theorem sum_ge {S : List Int} {x : Int} (h : x ∈ S) : 2 ^ x.toNat ≤ sumW S := by
 induction S with
 | nil => cases h
 | cons y S ih =>
  have hp := pow_pos2 y.toNat
  have hn : 0 ≤ sumW S := by
   clear ih h
   induction S with
   | nil => simp [sumW]
   | cons z S ih2 => have := pow_pos2 z.toNat; simp only [sumW]; omega
  simp only [sumW]
  rcases List.mem_cons.1 h with rfl | h
  ·omega
  ·have := ih h; omega

theorem window_fits {S : List Int} {b : Int} {w : Nat} (hI : ItemsOk S) (hw : w ≤ 44) (ha : ∃ y, b = y * 2 ^ w) (hb : 0 ≤ b ∧ b + 2 ^ w ≤ 4503599627370496) (hs : sumW S ≤ 2 ^ w) : (placeV [(b, 2 ^ w)] S).1 = 0 := by
 have hv : ValidR [(b, 2 ^ w)] := ⟨by simp, fun r hr => by simp at hr; subst hr; unfold RgOk; dsimp only; have := pow_ge1 w; omega⟩
 have hm : mergeF [(b, 2 ^ w)] = [(b, 2 ^ w)] := mergeF_asc ⟨by dsimp only; exact pow_ge1 w, fun q hq => (by cases hq), trivial⟩
 rw [placeV_iff hv hI, hm]
 intro k
 rw [dem_ord hI]
 obtain ⟨y, rfl⟩ := ha
 by_cases hk : k ≤ w
 ·have hP := pow_pos2 k
  have e : (2 : Int) ^ w = 2 ^ (w - k) * 2 ^ k := pow_split hk
  have e1 : (y * 2 ^ w + 2 ^ w) / 2 ^ k = (y + 1) * 2 ^ (w - k) := by
   have : y * 2 ^ w + 2 ^ w = ((y + 1) * 2 ^ (w - k)) * 2 ^ k := by rw [Int.mul_assoc, ← e, Int.add_mul, Int.one_mul]
   rw [this]
   exact fl_mul hP
  have e2 : cd (y * 2 ^ w) (2 ^ k) = y * 2 ^ (w - k) := by
   have : y * 2 ^ w = (y * 2 ^ (w - k)) * 2 ^ k := by rw [Int.mul_assoc, ← e]
   rw [this]
   exact cd_mul hP
  have hb2 : blkN (2 ^ k) [(y * 2 ^ w, 2 ^ w)] = 2 ^ (w - k) := by
   have hq : (y + 1) * (2 : Int) ^ (w - k) - y * 2 ^ (w - k) = 2 ^ (w - k) := by rw [Int.add_mul, Int.one_mul]; omega
   have hp := pow_pos2 (w - k)
   simp only [blkN, blkP]
   rw [e1, e2, hq]
   omega
  rw [hb2, ← e]
  have := demI_le_sum k S
  omega
 ·have : demI (k : Int) S = 0 := by
   have key : ∀ S' : List Int, (∀ x ∈ S', x < k) → demI k S' = 0 := by
    intro S'
    induction S' with
    | nil => intro _; rfl
    | cons x S' ih =>
     intro hh
     have := hh x (by simp)
     simp only [demI]
     rw [if_neg (by omega), ih (fun y hy => hh y (by simp [hy]))]
     rfl
   refine key S (fun x hx => ?_)
   have h1 := sum_ge hx
   have h0 := (hI.2 x hx).1
   apply Classical.byContradiction
   intro hn
   have : (2 : Int) ^ (w + 1) ≤ 2 ^ x.toNat := pow_mono (by omega)
   have e : (2 : Int) ^ (w + 1) = 2 ^ w * 2 := Int.pow_succ 2 w
   have := pow_pos2 w
   omega
  rw [this]
  exact Int.mul_nonneg (blkN_nn _ _) (Int.le_of_lt (pow_pos2 k))

end Go.Proofs.YtigcheamheiopaaGreat
end

section
/-
 The program's Blocks and Refutes; the reference's Refutes.
-/
namespace Go.Proofs.YtigcheamheiopaaGreat
open Go.Eng
set_option linter.unusedVariables false

theorem Blocks_spec (H : Heap) (s : Sl) (l : List Rg) (k : Int) (h : Rgs H s l) (hu : U64L l) :
  CallsH Tryz.prog n_allocate_Blocks #[.slice s.p s.n s.c, .int .i64 k] H (fun v H' => v = .int .u64 (blkV l k) ∧ Ext H H') := by
 refine F_allocate_Blocks_ok _ _ ?_
 unfold F_allocate_Blocks
 have no : ¬ ((0 ≤ k ∧ k ≤ 52) ∧ ValidR l) → ∀ H', Ext H H' → (.int .u64 0 : Value) = .int .u64 (blkV l k) ∧ Ext H H' := fun hh H' e => ⟨by unfold blkV; rw [if_neg hh], e⟩
 refine (validRanges_spec H s l h hu).mono ?_
 rintro v H1 ⟨rfl, e1⟩
 refine ⟨_, rfl, iteB_not (fun d => no (fun hh => by simp at d; exact d hh.2) H1 e1) (fun d => iteB_dec (fun c => no (fun hh => by omega) H1 e1) (fun c => iteB_dec (fun c1 => no (fun hh => by omega) H1 e1) (fun c1 => ?_)))⟩
 have hv : ValidR l := by simpa using d
 refine (merged_spec H1 s l (h.ext e1) hv).mono ?_
 rintro v H2 ⟨m, rfl, o2, e2⟩
 obtain ⟨vm, am⟩ := hv.merge
 refine ⟨m, rfl, (countBlocks_spec H2 m (mergeF l) k (Own.is rkRange o2) (by omega) vm am).mono ?_⟩
 rintro v H3 ⟨rfl, e3⟩
 refine ⟨_, rfl, ?_, (e1.trans e2).trans e3⟩
 unfold blkV
 rw [if_pos ⟨by omega, hv⟩]

def RefC (free : List Rg) (S : List Int) (c : Cert) : Prop :=
 (ValidR free ∧ ItemsOk S) ∧ (0 ≤ c.2.1 ∧ c.2.1 ≤ 52) ∧ c.2.2.1 = demI c.2.1 S ∧ c.2.2.2 = blkN (2 ^ c.2.1.toNat) (mergeF free) ∧ c.2.2.1 > c.2.2.2 * 2 ^ c.2.1.toNat
instance (free : List Rg) (S : List Int) (c : Cert) : Decidable (RefC free S c) := by unfold RefC; infer_instance

theorem blk_shl {M : List Rg} (vm : ValidR M) (am : Asc M) {k : Int} (hk : 0 ≤ k ∧ k ≤ 52) : IntKind.u64.wrap (blkN (2 ^ k.toNat) M * 2 ^ (min k.toNat IntKind.u64.bits)) = blkN (2 ^ k.toNat) M * 2 ^ k.toNat := by
 have e : min k.toNat IntKind.u64.bits = k.toNat := by have : IntKind.u64.bits = 64 := rfl; omega
 rw [e]
 have h1 := valid_blk vm am k.toNat
 have h2 := Int.mul_nonneg (blkN_nn (2 ^ k.toNat) M) (Int.le_of_lt (pow_pos2 k.toNat))
 exact u64_in (by omega)

theorem Refutes_spec (H : Heap) (s t : Sl) (l : List Rg) (S : List Int) (c : Cert) (h : Rgs H s l) (hu : U64L l) (hS : Ints .i64 H t S) :
  CallsH Tryz.prog n_allocate_Refutes #[.slice s.p s.n s.c, .slice t.p t.n t.c, certV c] H (BoolP (decide (RefC l S c)) H) := by
 refine F_allocate_Refutes_ok _ _ _ _ _ _ ?_
 unfold F_allocate_Refutes
 have no : ¬ RefC l S c → ∀ H', Ext H H' → BoolP (decide (RefC l S c)) H (.bool false) H' := fun hh H' e => ⟨by rw [decide_eq_false hh], e⟩
 refine push_mk (vs := encC c) fun H1 e1 z1 b1 => (placeable_spec H1 s t l S (h.ext e1) hu (hS.ext e1)).mono ?_
 rintro v H2 ⟨rfl, e2⟩
 have x2 := e1.trans e2
 have b2 := b1.ext e2
 refine ⟨_, rfl, iteB_not (fun d => no (fun hh => by simp at d; exact d hh.1.1 hh.1.2) H2 x2) (fun d => ⟨_, b2.rd (i := 1) rfl, iteB_dec (fun c1 => no (fun hh => by have := hh.2.1; omega) H2 x2) (fun c1 => ⟨_, b2.rd (i := 1) rfl, iteB_dec (fun c2 => no (fun hh => by have := hh.2.1; omega) H2 x2) (fun c2 => ⟨_, b2.rd (i := 2) rfl, _, b2.rd (i := 1) rfl, ?_⟩)⟩)⟩)⟩
 have hvi : ValidR l ∧ ItemsOk S := by simpa using d
 refine (demand_spec H2 t S c.2.1 (hS.ext x2) hvi.2).mono ?_
 rintro v H3 ⟨rfl, rfl⟩
 refine ⟨_, rfl, (Ext.refl _).keeps, iteB_bne (fun c3 => no (fun hh => c3 hh.2.2.1) H3 x2) (fun c3 => ⟨_, b2.rd (i := 3) rfl, _, b2.rd (i := 1) rfl, (Blocks_spec H3 s l c.2.1 (h.ext x2) hu).mono ?_⟩)⟩
 rintro v H4 ⟨rfl, e4⟩
 have b4 := b2.ext e4
 have hb : blkV l c.2.1 = blkN (2 ^ c.2.1.toNat) (mergeF l) := by unfold blkV; rw [if_pos ⟨by omega, hvi.1⟩]
 rw [hb]
 refine ⟨_, rfl, e4.keeps, iteB_bne (fun c4 => no (fun hh => c4 hh.2.2.2.1) H4 (x2.trans e4)) (fun c4 => ⟨_, b4.rd (i := 2) rfl, _, b4.rd (i := 3) rfl, _, b4.rd (i := 1) rfl, by omega, ?_, x2.trans e4⟩)⟩
 obtain ⟨vm, am⟩ := hvi.1.merge
 rw [c4, blk_shl vm am (by omega)]
 congr 1
 apply decide_eq_decide.2
 constructor
 ·intro g; exact ⟨hvi, by omega, c3, c4, by rw [c4]; exact g⟩
 ·intro g; have := g.2.2.2.2; rw [c4] at this; exact this

end Go.Proofs.YtigcheamheiopaaGreat
end

section
/-
 The program's Free and hostFree.
-/
namespace Go.Proofs.YtigcheamheiopaaGreat
open Go.Eng
set_option linter.unusedVariables false

end Go.Proofs.YtigcheamheiopaaGreat
end

section
/-
 The program's window and placeBelow.
-/
namespace Go.Proofs.YtigcheamheiopaaGreat
open Go.Eng
set_option linter.unusedVariables false

theorem beq_dec1 {a b : Int} {q : Prop} [Decidable q] (h : q ↔ a = b) : (a == b) = decide q := by
 rw [Bool.eq_iff_iff]
 simp [h]
def winV (N : List Need) (B : List Int) (i : Int) (c : Int) : Value := match atN N i (-1 - c) with
 | some w => .tuple #[.int .u64 (B.getD w 0), .int .u64 (2 ^ (N.getD w (0, 0, 0, 0)).2.2.2.toNat), .bool true]
 | none => .tuple #[.int .u64 0, .int .u64 0, .bool false]

end Go.Proofs.YtigcheamheiopaaGreat
end

section
/-
 Assigning (plain): what is placed so far is aligned and in the space; so every window holds what lies below it.
-/
namespace Go.Proofs.YtigcheamheiopaaGreat
open Go.Eng
set_option linter.unusedVariables false

def szN (N : List Need) (k : Nat) : Nat := (N.getD k (0, 0, 0, 0)).2.2.2.toNat
def Good (N : List Need) (B : List Int) (k : Nat) : Prop := (∃ y, B.getD k 0 = y * 2 ^ szN N k) ∧ 0 ≤ B.getD k 0 ∧ B.getD k 0 + 2 ^ szN N k ≤ 4503599627370496
def GoodP (T : List FS) (N : List Need) (B : List Int) (p c : Int) : Prop := ∀ k, k < N.length → belQ T p c (N.getD k (0, 0, 0, 0)) = true → Good N B k

theorem belQ_inj {T : List FS} {x : Need} {p p' c c' : Int} (h : belQ T p c x = true) (h' : belQ T p' c' x = true) : p = p' ∧ c = c' := by
 unfold belQ at h h'
 rw [decide_eq_true_eq] at h h'
 omega

theorem plS_idx {T : List FS} {high : Bool} {B : List Int} {p c : Int} {free : List Rg} (hbo : BelOk T p) : (plS T (needsAll T high) B p c free).2.2 = setI B ((idxF T (needsAll T high) p c (needsAll T high).length).zip (placeV free (sizesOf (belF T (needsAll T high) p c))).2.1) := by
 have := setB_setI (T := T) (high := high) (idxF T (needsAll T high) p c (needsAll T high).length) (placeV free (sizesOf (belF T (needsAll T high) p c))).2.1 B (fun i hi => (idxF_mem.1 hi).1)
 rw [← belF_idx hbo] at this
 exact this
theorem bel_sizes {T : List FS} {N : List Need} {p c : Int} (hbo : BelOk T p) : sizesOf (belF T N p c) = (idxF T N p c N.length).map (fun i => (N.getD i (0, 0, 0, 0)).2.2.2) := by
 rw [belF_idx hbo]; unfold sizesOf; rw [List.map_map]; rfl

theorem plS_good {T : List FS} {high : Bool} {B : List Int} {p c : Int} {free : List Rg} (hbo : BelOk T p) (hl : B.length = (needsAll T high).length) (h : (plS T (needsAll T high) B p c free).1 = 0) :
  GoodP T (needsAll T high) (plS T (needsAll T high) B p c free).2.2 p c ∧ ∀ p' c', ¬ (p' = p ∧ c' = c) → GoodP T (needsAll T high) B p' c' → GoodP T (needsAll T high) (plS T (needsAll T high) B p c free).2.2 p' c' := by
 have h0 : (placeV free (sizesOf (belF T (needsAll T high) p c))).1 = 0 := h
 rw [plS_idx hbo]
 obtain ⟨hv, _, hbl, _, hat, _⟩ := placeV_ok (free := free) (S := sizesOf (belF T (needsAll T high) p c)) (bs := (placeV free (sizesOf (belF T (needsAll T high) p c))).2.1) (c := (placeV free (sizesOf (belF T (needsAll T high) p c))).2.2) (by rw [← h0])
 have hsz := bel_sizes (N := needsAll T high) (c := c) hbo
 generalize needsAll T high = N at *
 rw [hsz] at hat hbl ⊢
 rw [List.length_map] at hbl hat
 generalize (placeV free ((idxF T N p c N.length).map (fun i => (N.getD i (0, 0, 0, 0)).2.2.2))).2.1 = bs at *
 have hnd := idxF_nodup T N p c N.length
 have hmem : ∀ i, i ∈ idxF T N p c N.length ↔ i < N.length ∧ belQ T p c (N.getD i (0, 0, 0, 0)) = true := fun i => idxF_mem
 generalize idxF T N p c N.length = I at *
 refine ⟨fun k hk hq => ?_, fun p' c' hne hg k hk hq => ?_⟩
 ·obtain ⟨j, hj, rfl⟩ := List.getElem_of_mem ((hmem k).2 ⟨hk, hq⟩)
  have hset := setI_at I bs B j hnd (fun i hi => by have := (hmem i).1 hi; omega) (by omega) hj
  obtain ⟨⟨y, hy⟩, hcov⟩ := hat j hj
  have hse : szOf (I.map (fun i => (N.getD i (0, 0, 0, 0)).2.2.2)) j = szN N I[j] := by
   unfold szOf szN
   simp [List.getD, hj]
  rw [hse] at hy hcov
  unfold Good
  rw [hset]
  have hp := pow_pos2 (szN N I[j])
  have rng : ∀ x, Cov free x → 0 ≤ x ∧ x < 4503599627370496 := fun x ⟨r, hr, h1, h2⟩ => by have := hv.2 r hr; unfold RgOk at this; omega
  have c1 := rng _ (hcov (bs.getD j 0) (by omega) (by omega))
  have c2 := rng _ (hcov (bs.getD j 0 + 2 ^ szN N I[j] - 1) (by omega) (by omega))
  exact ⟨⟨y, hy⟩, by omega, by omega⟩
 ·have hni : k ∉ I := fun hi => by
   have := belQ_inj ((hmem k).1 hi).2 hq
   exact hne ⟨this.1.symm, this.2.symm⟩
  have := hg k hk hq
  unfold Good at this ⊢
  rw [setI_out (j := k) _ _ (fun x hx e => hni (by have := (List.of_mem_zip (show (x.1, x.2) ∈ _ from hx)).1; rw [e] at this; exact this))]
  exact this

theorem br_ok {T : List FS} {high : Bool} (hv : ValidT T) (ho : ¬ Ovf T high) {B : List Int} (hl : B.length = (needsAll T high).length) {i c : Nat} (hi : i < T.length) (hb : (fnAt T i).bridge = true) (hc : c < 3) (hp : ∀ p d : Int, -1 ≤ p → p < i → 0 ≤ d → d < 3 → GoodP T (needsAll T high) B p d) :
  ∀ free, (free = match atN (needsAll T high) i (-1 - (c : Int)) with | some w => [winF (needsAll T high) B w] | none => []) →
   (plS T (needsAll T high) B i c free).1 = 0 ∧ (plS T (needsAll T high) B i c free).2.2 = brStep T (needsAll T high) B i c ∧ U64L free := by
 intro free hfree
 have hbo : BelOk T (i : Int) := ⟨by omega, fun _ => by rw [Int.toNat_natCast]; exact hb⟩
 have hok := needs_ok hv ho
 have hI : ItemsOk (sizesOf (belF T (needsAll T high) i c)) := by
  refine ⟨?_, fun x hx => ?_⟩
  ·unfold sizesOf
   rw [List.length_map]
   have h1 := belF_len T (needsAll T high) i c
   have h2 : (needsAll T high).length ≤ 1000 := NeedsIs.len (.inr (.inr ⟨hv, ho, rfl, rfl⟩))
   omega
  ·obtain ⟨y, hy, rfl⟩ := List.mem_map.1 hx
   exact (hok y (belF_sub y hy)).sz
 cases hw : atN (needsAll T high) i (-1 - (c : Int)) with
 | none =>
  rw [hw] at hfree
  subst hfree
  have hnil : belF T (needsAll T high) i c = [] := by
   apply Classical.byContradiction
   intro hn
   obtain ⟨w, h1, _⟩ := win_exists hv ho hi hc hn
   rw [hw] at h1
   cases h1
  refine ⟨?_, ?_, fun r hr => by cases hr⟩
  ·show (placeV [] (sizesOf (belF T (needsAll T high) i c))).1 = 0
   rw [hnil]
   decide +kernel
  ·unfold plS brStep
   rw [hw, hnil]
   rfl
 | some w =>
  rw [hw] at hfree
  dsimp only at hfree
  obtain ⟨hwl, hw1, hw2⟩ := atN_spec hw
  have hx := hok _ (getD_mem' (l := needsAll T high) (k := w) (0, 0, 0, 0) hwl)
  have hpar := (hv.2 i hi).pa
  have hgood : Good (needsAll T high) B w := by
   refine hp (fnAt T i).parent ((needsAll T high).getD w (0, 0, 0, 0)).2.2.1 hpar.1 (by omega) hx.cl.1 hx.cl.2 w hwl ?_
   unfold belQ
   rw [decide_eq_true_eq]
   exact ⟨rfl, hx.fn, by rw [hw1, Int.toNat_natCast]⟩
  obtain ⟨ha, hg0, hg1⟩ := hgood
  have hsz := hx.sz
  have hpl : (placeV [winF (needsAll T high) B w] (sizesOf (belF T (needsAll T high) i c))).1 = 0 := by
   by_cases hn : belF T (needsAll T high) i c = []
   ·have hR : ValidR [winF (needsAll T high) B w] := ⟨by simp, fun r hr => by
     simp at hr; subst hr
     unfold winF RgOk
     dsimp only
     have := pow_ge1 (szN (needsAll T high) w)
     unfold szN at *
     omega⟩
    rw [hn] at hI ⊢
    rw [placeV_iff hR hI]
    intro k
    rw [dem_ord hI]
    exact Int.mul_nonneg (blkN_nn _ _) (Int.le_of_lt (pow_pos2 k))
   ·obtain ⟨w', h1, _, _, h4⟩ := win_exists hv ho hi hc hn
    rw [hw] at h1
    cases h1
    exact window_fits hI (by unfold szN at *; omega) ha ⟨hg0, hg1⟩ h4
  subst hfree
  refine ⟨hpl, ?_, fun r hr => ?_⟩
  ·unfold brStep
   rw [hw]
  ·simp at hr
   subst hr
   unfold winF
   dsimp only
   have := pow_ge1 (szN (needsAll T high) w)
   unfold szN at *
   omega

theorem brStep_no {T : List FS} {high : Bool} (hv : ValidT T) {B : List Int} {i c : Nat} (hi : i < T.length) (hb : (fnAt T i).bridge = false) : brStep T (needsAll T high) B i c = B := by
 unfold brStep
 cases hw : atN (needsAll T high) i (-1 - (c : Int)) with
 | none => rfl
 | some w =>
  exfalso
  obtain ⟨hwl, hw1, hw2⟩ := atN_spec hw
  have hm := getD_mem' (l := needsAll T high) (k := w) (0, 0, 0, 0) hwl
  obtain ⟨j, hj, hx⟩ := List.mem_flatMap.1 hm
  have hj' := List.mem_range.1 hj
  have hf := needsAt_fst hj' _ hx
  obtain rfl : j = i := by omega
  rw [needsAt_own' hj'] at hx
  unfold ownL winAll at hx
  rw [hb] at hx
  simp only [Bool.false_eq_true, if_false, List.append_nil] at hx
  have := (regL_keys T high j (fnAt T j).bars (fnAt T j).bars.length).2 _ hx
  omega

theorem good_no {T : List FS} {N : List Need} {B : List Int} (hv : ValidT T) (hN : ∀ x ∈ N, 0 ≤ x.1 ∧ x.1 < T.length) {i : Nat} (hb : (fnAt T i).bridge = false) (c : Int) : GoodP T N B i c := fun k hk hq => by
 exfalso
 have hx := hN _ (getD_mem' (l := N) (k := k) (0, 0, 0, 0) hk)
 unfold belQ at hq
 rw [decide_eq_true_eq] at hq
 have hbr := (hv.2 (N.getD k (0, 0, 0, 0)).1.toNat (by omega)).br (by omega)
 rw [hq.2.2, Int.toNat_natCast, hb] at hbr
 cases hbr

end Go.Proofs.YtigcheamheiopaaGreat
end

section
/-
 The program's Assign.
-/
namespace Go.Proofs.YtigcheamheiopaaGreat
open Go.Eng
set_option linter.unusedVariables false

theorem rootR_good {T : List FS} {high : Bool} {h : Host} : ∀ k : Nat, k ≤ 3 → (rootR T (needsAll T high) h k).1 = 0 → ∀ c : Int, 0 ≤ c → c < k → GoodP T (needsAll T high) (rootR T (needsAll T high) h k).2.2 (-1) c
 | 0, _, _, c, h1, h2 => by omega
 | k + 1, hk, h0, c, h1, h2 => by
  have hb : BelOk T (-1) := ⟨by omega, fun h => by omega⟩
  have hl := (rootR_ok T (needsAll T high) h k).2
  simp only [rootR] at h0 ⊢
  by_cases hc : (rootR T (needsAll T high) h k).1 ≠ 0
  ·rw [if_pos hc] at h0; exact absurd h0 hc
  ·rw [if_neg hc] at h0 ⊢
   obtain ⟨g1, g2⟩ := plS_good (c := (k : Int)) hb hl h0
   by_cases e : c = k
   ·rw [e]; exact g1
   ·exact g2 (-1) c (fun hh => e hh.2) (rootR_good k (by omega) (by simpa using hc) c h1 (by omega))

theorem brR_succ (T : List FS) (N : List Need) (B0 : List Int) {i c : Nat} (hc : c < 3) : brR T N B0 (3 * i + (c + 1)) = brStep T N (brR T N B0 (3 * i + c)) i c := by
 show brStep T N (brR T N B0 (3 * i + c)) ((3 * i + c) / 3) ((3 * i + c) % 3) = _
 rw [show (3 * i + c) / 3 = i by omega, show (3 * i + c) % 3 = c by omega]

end Go.Proofs.YtigcheamheiopaaGreat
end
