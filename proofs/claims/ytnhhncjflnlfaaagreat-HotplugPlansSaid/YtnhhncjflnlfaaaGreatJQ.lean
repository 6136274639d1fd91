import Derived.Test.YtnhhncjflnlfaaaGreatM7
import Derived.Test.YtnhhncjflnlfaaaGreatN3
import Derived.Test.YtnhhncjflnlfaaaGreatP5
import Derived.Test.YtnhhncjflnlfaaaGreatM5

section
/-
 Needs (plain): each stands once; a bridge with something below it has a window that holds it.
-/
namespace Go.Proofs.YtnhhncjflnlfaaaGreat
open Go.Eng
set_option linter.unusedVariables false

def KNe (a b : Need) : Prop := ¬ (a.1 = b.1 /\ a.2.1 = b.2.1)

theorem regL_keys (T : List FS) (high : Bool) (i : Nat) (B : List Bar) : ∀ n, (regL T high i B n).Pairwise KNe /\ ∀ x ∈ regL T high i B n, 0 <= x.2.1 /\ x.2.1 < n
 | 0 => ⟨List.Pairwise.nil, fun x hx => by simp [regL] at hx⟩
 | n + 1 => by
  obtain ⟨h1, h2⟩ := regL_keys T high i B n
  simp only [regL]
  split
  ·rw [List.append_nil]
   exact ⟨h1, fun x hx => by have := h2 x hx; omega⟩
  ·refine ⟨List.pairwise_append.2 ⟨h1, List.pairwise_singleton _ _, fun a ha b hb => ?_⟩, fun x hx => ?_⟩
   ·simp only [List.mem_singleton] at hb
    subst hb
    have := h2 a ha
    rintro ⟨_, e⟩
    dsimp only at e
    omega
   ·rcases List.mem_append.1 hx with hx | hx
    ·have := h2 x hx; omega
    ·simp only [List.mem_singleton] at hx; subst hx; dsimp only; omega
theorem winN_keys (T : List FS) (high : Bool) (i : Nat) (S : Nat -> List Int) : ∀ n : Nat, (winN T high i S n).Pairwise KNe /\ ∀ x ∈ winN T high i S n, x.2.1 < 0 /\ -(n : Int) <= x.2.1
 | 0 => ⟨List.Pairwise.nil, fun x hx => by simp [winN] at hx⟩
 | n + 1 => by
  obtain ⟨h1, h2⟩ := winN_keys T high i S n
  simp only [winN]
  split
  ·refine ⟨List.pairwise_append.2 ⟨h1, List.pairwise_singleton _ _, fun a ha b hb => ?_⟩, fun x hx => ?_⟩
   ·simp only [List.mem_singleton] at hb
    subst hb
    have := h2 a ha
    rintro ⟨_, e⟩
    dsimp only at e
    omega
   ·rcases List.mem_append.1 hx with hx | hx
    ·have := h2 x hx; omega
    ·simp only [List.mem_singleton] at hx; subst hx; dsimp only; omega
  ·rw [List.append_nil]
   exact ⟨h1, fun x hx => by have := h2 x hx; omega⟩
theorem ownL_keys (T : List FS) (high : Bool) (i : Nat) (S : Nat -> List Int) : (ownL T high i S).Pairwise KNe := by
 unfold ownL
 obtain ⟨h1, h2⟩ := regL_keys T high i (fnAt T i).bars (fnAt T i).bars.length
 have hw : (winAll T high i (fun c => if c < 3 then S (i * 3 + c) else [])).Pairwise KNe /\ ∀ x ∈ winAll T high i (fun c => if c < 3 then S (i * 3 + c) else []), x.2.1 < 0 := by
  unfold winAll
  split
  ·obtain ⟨a, b⟩ := winN_keys T high i (fun c => if c < 3 then S (i * 3 + c) else []) 3
   exact ⟨a, fun x hx => (b x hx).1⟩
  ·exact ⟨List.Pairwise.nil, fun x hx => by cases hx⟩
 refine List.pairwise_append.2 ⟨h1, hw.1, fun a ha b hb => ?_⟩
 rintro ⟨_, e⟩
 have := h2 a ha
 have := hw.2 b hb
 omega
theorem needs_keys {T : List FS} {high : Bool} : ∀ k, k <= T.length -> ((List.range k).flatMap (needsAt T high)).Pairwise KNe /\ ∀ x ∈ (List.range k).flatMap (needsAt T high), 0 <= x.1 /\ x.1 < k
 | 0, _ => ⟨List.Pairwise.nil, fun x hx => by simp at hx⟩
 | k + 1, hk => by
  obtain ⟨h1, h2⟩ := needs_keys (T := T) (high := high) k (by omega)
  have hf := needsAt_fst (T := T) (high := high) (show k < T.length by omega)
  rw [List.range_succ, List.flatMap_append]
  simp only [List.flatMap_cons, List.flatMap_nil, List.append_nil]
  refine ⟨List.pairwise_append.2 ⟨h1, by rw [needsAt_own' (by omega)]; exact ownL_keys _ _ _ _, fun a ha b hb => ?_⟩, fun x hx => ?_⟩
  ·rintro ⟨e, _⟩
   have := h2 a ha
   have := hf b hb
   omega
  ·rcases List.mem_append.1 hx with hx | hx
   ·have := h2 x hx; omega
   ·have := hf x hx; omega
theorem needs_at_ne {T : List FS} {high : Bool} {j k : Nat} (hj : j < (needsAll T high).length) (hk : k < (needsAll T high).length) (hne : j ≠ k) : KNe ((needsAll T high).getD j (0, 0, 0, 0)) ((needsAll T high).getD k (0, 0, 0, 0)) := by
 have h := List.pairwise_iff_getElem.1 (needs_keys (T := T) (high := high) T.length (Nat.le_refl _)).1
 have e1 : (needsAll T high).getD j (0, 0, 0, 0) = (needsAll T high)[j] := by simp [List.getD, hj]
 have e2 : (needsAll T high).getD k (0, 0, 0, 0) = (needsAll T high)[k] := by simp [List.getD, hk]
 rw [e1, e2]
 by_cases c : j < k
 ·exact h j k hj hk c
 ·have := h k j hk hj (by omega)
  rintro ⟨a, b⟩
  exact this ⟨a.symm, b.symm⟩
theorem atN_self {T : List FS} {high : Bool} {k : Nat} (hk : k < (needsAll T high).length) : atN (needsAll T high) ((needsAll T high).getD k (0, 0, 0, 0)).1 ((needsAll T high).getD k (0, 0, 0, 0)).2.1 = some k := by
 refine atN_some hk (by unfold nq; simp) (fun j hj => ?_)
 unfold nq
 rw [decide_eq_false_iff_not]
 exact needs_at_ne (by omega) hk (by omega)

/-! ### what lies below, by indices -/
def idxF (T : List FS) (N : List Need) (p c : Int) (m : Nat) : List Nat := (List.range m).filter (fun i => belQ T p c (N.getD i (0, 0, 0, 0)))
theorem idxF_succ (T : List FS) (N : List Need) (p c : Int) (m : Nat) : idxF T N p c (m + 1) = idxF T N p c m ++ (if belQ T p c (N.getD m (0, 0, 0, 0)) then [m] else []) := by
 unfold idxF
 rw [range_filter_succ]
theorem idxF_mem {T : List FS} {N : List Need} {p c : Int} {m i : Nat} : i ∈ idxF T N p c m ↔ i < m /\ belQ T p c (N.getD i (0, 0, 0, 0)) = true := by simp [idxF]
theorem idxF_nodup (T : List FS) (N : List Need) (p c : Int) (m : Nat) : (idxF T N p c m).Nodup := List.Pairwise.filter _ List.nodup_range
theorem idxF_len (T : List FS) (N : List Need) (p c : Int) (m : Nat) : (idxF T N p c m).length <= m := by
 have := List.length_filter_le (fun i => belQ T p c (N.getD i (0, 0, 0, 0))) (List.range m)
 simpa [idxF] using this
theorem idxF_map (T : List FS) (N : List Need) (p c : Int) : ∀ m, m <= N.length -> (idxF T N p c m).map (fun i => N.getD i (0, 0, 0, 0)) = (N.take m).filter (belQ T p c)
 | 0, _ => rfl
 | m + 1, h => by
  rw [idxF_succ, List.map_append, idxF_map T N p c m (by omega), takeN_succ (by omega), List.filter_append]
  congr 1
  by_cases e : belQ T p c (N.getD m (0, 0, 0, 0)) = true
  ·rw [if_pos e, List.filter_cons_of_pos e]; rfl
  ·rw [if_neg e, List.filter_cons_of_neg e]; rfl
theorem belF_idx {T : List FS} {N : List Need} {p c : Int} (h : BelOk T p) : belF T N p c = (idxF T N p c N.length).map (fun i => N.getD i (0, 0, 0, 0)) := by
 unfold belF
 rw [if_pos h, idxF_map T N p c N.length (Nat.le_refl _), List.take_length]
def setI (B : List Int) (l : List (Nat × Int)) : List Int := l.foldl (fun B x => B.set x.1 x.2) B
theorem setI_len : ∀ (l : List (Nat × Int)) (B : List Int), (setI B l).length = B.length
 | [], B => rfl
 | x :: l, B => by
  show (setI (B.set x.1 x.2) l).length = B.length
  rw [setI_len l]
  simp
theorem setB_setI {T : List FS} {high : Bool} : ∀ (I : List Nat) (bs B : List Int), (∀ i ∈ I, i < (needsAll T high).length) -> setB (needsAll T high) B ((I.map (fun i => (needsAll T high).getD i (0, 0, 0, 0))).zip bs) = setI B (I.zip bs)
 | [], bs, B, _ => rfl
 | i :: I, [], B, _ => rfl
 | i :: I, b :: bs, B, h => by
  have e := atN_self (T := T) (high := high) (h i (by simp))
  show setB (needsAll T high) (B.set ((atN (needsAll T high) ((needsAll T high).getD i (0, 0, 0, 0)).1 ((needsAll T high).getD i (0, 0, 0, 0)).2.1).getD 0) b) _ = setI (B.set i b) _
  rw [e]
  exact setB_setI I bs (B.set i b) (fun j hj => h j (by simp [hj]))
theorem setI_out {j : Nat} : ∀ (l : List (Nat × Int)) (B : List Int), (∀ x ∈ l, x.1 ≠ j) -> (setI B l).getD j 0 = B.getD j 0
 | [], B, _ => rfl
 | x :: l, B, h => by
  show (setI (B.set x.1 x.2) l).getD j 0 = B.getD j 0
  rw [setI_out l _ (fun y hy => h y (by simp [hy])), getD_set_ne (h x (by simp))]
theorem setI_at : ∀ (I : List Nat) (bs B : List Int) (k : Nat), I.Nodup -> (∀ i ∈ I, i < B.length) -> I.length = bs.length -> (hk : k < I.length) -> (setI B (I.zip bs)).getD I[k] 0 = bs.getD k 0
 | [], bs, B, k, _, _, _, hk => by simp at hk
 | u :: I, [], B, k, _, _, hl, hk => by simp at hl
 | u :: I, b :: bs, B, k, hd, hm, hl, hk => by
  rw [List.nodup_cons] at hd
  show (setI (B.set u b) (I.zip bs)).getD (u :: I)[k] 0 = (b :: bs).getD k 0
  cases k with
  | zero =>
   rw [List.getElem_cons_zero, setI_out]
   ·rw [getD_set_eq (hm u (by simp))]; rfl
   ·intro x hx e
    have := (List.of_mem_zip (show (x.1, x.2) ∈ _ from hx)).1
    exact hd.1 (e ▸ this)
  | succ k =>
   rw [List.getElem_cons_succ]
   exact setI_at I bs (B.set u b) k hd.2 (fun i hi => by rw [List.length_set]; exact hm i (by simp [hi])) (by simpa using hl) (by simpa using hk)

/-! ### windows -/
theorem win_exists {T : List FS} {high : Bool} (hv : ValidT T) (ho : ¬ Ovf T high) {i c : Nat} (hi : i < T.length) (hc : c < 3) (hne : belF T (needsAll T high) i c ≠ []) :
  ∃ w, atN (needsAll T high) i (-1 - (c : Int)) = some w /\ w < (needsAll T high).length /\ ((needsAll T high).getD w (0, 0, 0, 0)).1 = i /\ sumW (sizesOf (belF T (needsAll T high) i c)) <= 2 ^ ((needsAll T high).getD w (0, 0, 0, 0)).2.2.2.toNat := by
 have hbo : BelOk T i := by
  apply Classical.byContradiction
  intro hn
  unfold belF at hne
  rw [if_neg hn] at hne
  exact hne rfl
 have hbr : (fnAt T i).bridge = true := by have := hbo.2 (by omega); rwa [Int.toNat_natCast] at this
 have hbel : belF T (needsAll T high) i c = (allFrom T high (T.length - 1 - i)).filter (belQ T i c) := by
  unfold belF
  rw [if_pos hbo, bel_later hv hi]
 have hsz : sizesOf (belF T (needsAll T high) i c) = belS T (allFrom T high (T.length - 1 - i)) i c := by rw [hbel]; rfl
 have hok := needs_ok hv ho
 have hwr : WinR T high i c (belS T (allFrom T high (T.length - 1 - i)) i c) := by
  have hne2 : belS T (allFrom T high (T.length - 1 - i)) i c ≠ [] := by
   rw [<- hsz]
   intro e
   exact hne (List.map_eq_nil_iff.1 e)
  refine ⟨fun h => hne2 h.1, fun h => hne2 h.1, ?_, by omega, fun x hx => ?_⟩
  ·have h1 := belS_len T (allFrom T high (T.length - 1 - i)) i c
   have h2 := allFrom_len (high := high) hv (T.length - 1 - i) (by omega)
   have := hv.1
   omega
  ·rw [<- hsz] at hx
   obtain ⟨y, hy, rfl⟩ := List.mem_map.1 hx
   exact (hok y (belF_sub y hy)).sz
 obtain ⟨w1, w2⟩ := (WinR_iff hv hi hc).1 hwr
 have hperm := tab_perm T high i c hc (T.length - 1 - i) (by omega)
 obtain ⟨w, hw, hiw⟩ := wszF_isW w2
 have hmem : (((i : Int), -1 - (c : Int), (c : Int), wszF ((nB T high (T.length - 1 - i)).2 (i * 3 + c)) c (fnAt T i).hot) : Need) ∈ needsAll T high := by
  refine List.mem_flatMap.2 ⟨i, List.mem_range.2 hi, ?_⟩
  rw [needsAt_own' hi]
  unfold ownL winAll
  rw [if_pos hbr]
  refine List.mem_append.2 (.inr ?_)
  have key : ∀ n, c < n -> n <= 3 -> (((i : Int), -1 - (c : Int), (c : Int), wszF ((nB T high (T.length - 1 - i)).2 (i * 3 + c)) c (fnAt T i).hot) : Need) ∈ winN T high i (fun c => if c < 3 then (nB T high (T.length - 1 - i)).2 (i * 3 + c) else []) n := by
   intro n
   induction n with
   | zero => intro h; omega
   | succ n ih =>
    intro h1 h2
    simp only [winN]
    by_cases e : c = n
    ·subst e
     refine List.mem_append.2 (.inr ?_)
     have e3 : (if c < 3 then (nB T high (T.length - 1 - i)).2 (i * 3 + c) else []) = (nB T high (T.length - 1 - i)).2 (i * 3 + c) := if_pos hc
     rw [e3, if_pos ⟨w1, w2⟩]
     simp
    ·exact List.mem_append.2 (.inl (ih (by omega) (by omega)))
  exact key 3 hc (Nat.le_refl _)
 obtain ⟨k, hk, hke⟩ := List.getElem_of_mem hmem
 have hgk : (needsAll T high).getD k (0, 0, 0, 0) = ((i : Int), -1 - (c : Int), (c : Int), wszF ((nB T high (T.length - 1 - i)).2 (i * 3 + c)) c (fnAt T i).hot) := by
  rw [<- hke]; simp [List.getD, hk]
 have hat := atN_self hk
 rw [hgk] at hat
 refine ⟨k, hat, hk, by rw [hgk], ?_⟩
 rw [hgk, hsz]
 dsimp only
 rw [hw, Int.toNat_natCast]
 have hs : sumW (belS T (allFrom T high (T.length - 1 - i)) i c) = sumW ((nB T high (T.length - 1 - i)).2 (i * 3 + c)) := (sumW_perm hperm).symm
 rw [hs]
 exact hiw.fits

theorem demI_le_sum (k : Int) : ∀ (S : List Int), demI k S <= sumW S
 | [] => by simp [demI, sumW]
 | x :: S => by
  have := demI_le_sum k S
  have := pow_pos2 x.toNat
  simp only [demI, sumW]
  split <;> omega
theorem sum_ge {S : List Int} {x : Int} (h : x ∈ S) : 2 ^ x.toNat <= sumW S := by
 induction S with
 | nil => cases h
 | cons y S ih =>
  have hp := pow_pos2 y.toNat
  have hn : 0 <= sumW S := by
   clear ih h
   induction S with
   | nil => simp [sumW]
   | cons z S ih2 => have := pow_pos2 z.toNat; simp only [sumW]; omega
  simp only [sumW]
  rcases List.mem_cons.1 h with rfl | h
  ·omega
  ·have := ih h; omega

theorem window_fits {S : List Int} {b : Int} {w : Nat} (hI : ItemsOk S) (hw : w <= 44) (ha : ∃ y, b = y * 2 ^ w) (hb : 0 <= b /\ b + 2 ^ w <= 4503599627370496) (hs : sumW S <= 2 ^ w) : (placeV [(b, 2 ^ w)] S).1 = 0 := by
 have hv : ValidR [(b, 2 ^ w)] := ⟨by simp, fun r hr => by simp at hr; subst hr; unfold RgOk; dsimp only; have := pow_ge1 w; omega⟩
 have hm : mergeF [(b, 2 ^ w)] = [(b, 2 ^ w)] := mergeF_asc ⟨by dsimp only; exact pow_ge1 w, fun q hq => (by cases hq), trivial⟩
 rw [placeV_iff hv hI, hm]
 intro k
 rw [dem_ord hI]
 obtain ⟨y, rfl⟩ := ha
 by_cases hk : k <= w
 ·have hP := pow_pos2 k
  have e : (2 : Int) ^ w = 2 ^ (w - k) * 2 ^ k := pow_split hk
  have e1 : (y * 2 ^ w + 2 ^ w) / 2 ^ k = (y + 1) * 2 ^ (w - k) := by
   have : y * 2 ^ w + 2 ^ w = ((y + 1) * 2 ^ (w - k)) * 2 ^ k := by rw [Int.mul_assoc, <- e, Int.add_mul, Int.one_mul]
   rw [this]
   exact fl_mul hP
  have e2 : cd (y * 2 ^ w) (2 ^ k) = y * 2 ^ (w - k) := by
   have : y * 2 ^ w = (y * 2 ^ (w - k)) * 2 ^ k := by rw [Int.mul_assoc, <- e]
   rw [this]
   exact cd_mul hP
  have hb2 : blkN (2 ^ k) [(y * 2 ^ w, 2 ^ w)] = 2 ^ (w - k) := by
   have hq : (y + 1) * (2 : Int) ^ (w - k) - y * 2 ^ (w - k) = 2 ^ (w - k) := by rw [Int.add_mul, Int.one_mul]; omega
   have hp := pow_pos2 (w - k)
   simp only [blkN, blkP]
   rw [e1, e2, hq]
   omega
  rw [hb2, <- e]
  have := demI_le_sum k S
  omega
 ·have : demI (k : Int) S = 0 := by
   have key : ∀ S' : List Int, (∀ x ∈ S', x < k) -> demI k S' = 0 := by
    intro S'
    induction S' with
    | nil => intro _; rfl
    | cons x S' ih =>
     intro hh
     have := hh x (by simp)
     simp only [demI]
     rw [if_neg (by omega), ih (fun y hy => hh y (by simp [hy]))]
     rfl
   refine key S (fun x hx => ?_)
   have h1 := sum_ge hx
   have h0 := (hI.2 x hx).1
   apply Classical.byContradiction
   intro hn
   have : (2 : Int) ^ (w + 1) <= 2 ^ x.toNat := pow_mono (by omega)
   have e : (2 : Int) ^ (w + 1) = 2 ^ w * 2 := Int.pow_succ 2 w
   have := pow_pos2 w
   omega
  rw [this]
  exact Int.mul_nonneg (blkN_nn _ _) (Int.le_of_lt (pow_pos2 k))

end Go.Proofs.YtnhhncjflnlfaaaGreat
end

section
/-
 The program's Free and hostFree.
-/
namespace Go.Proofs.YtnhhncjflnlfaaaGreat
open Go.Eng
set_option linter.unusedVariables false

theorem cutR_len (e : Int) : ∀ (hs : List Rg) (b : Int), (cutR e b hs).length <= hs.length + 1
 | [], b => by unfold cutR; split <;> simp
 | h :: hs, b => by
  unfold cutR
  split
  ·have := cutR_len e hs b; simp; omega
  ·have := cutR_len e hs (min e (h.1 + h.2))
   rw [List.length_append]
   split <;> simp <;> omega

theorem drop_cons {α : Type} {l : List α} (d : α) {j : Nat} (h : j < l.length) : l.drop j = l.getD j d :: l.drop (j + 1) := by
 rw [List.drop_eq_getElem_cons h]
 simp [List.getD, h]

theorem Free_inner (H4 : Heap) (hs : List Rg) (holes : Sl) (hh : Rgs H4 holes hs) (hok : ∀ r ∈ hs, RgOk r) (hl : hs.length <= 1024) (O0 : List Rg) (hO : O0.length <= 1500000) (base e : Int) (hb : 0 <= base /\ base <= e /\ e <= 4503599627370496) (I_ : Sl -> Int -> Heap -> Prop) (M_ : Sl -> Int -> Heap -> Nat) (res : Sl) (k : Nat) (H5 H7 : Heap) (e7 : Ext H4 H7) (hk : k <= 1000000)
  (ow : Own H4.size t_95 2 H7 res (O0.flatMap encR)) (hI : ∀ res' H', Own H4.size t_95 2 H' res' ((O0 ++ cutR e base hs).flatMap encR) -> Ext H4 H' -> I_ res' ((k + 1 : Nat) : Int) H' /\ M_ res' ((k + 1 : Nat) : Int) H' < M_ res k H5) :
  ∃ I_1 : Sl -> Int -> Int -> Heap -> Prop, ∃ M_1 : Sl -> Int -> Int -> Heap -> Nat, I_1 res base 0 H7 /\ (∀ result1 : Sl, ∀ base1 : Int, ∀ x8 : Int, ∀ H8 : Heap, I_1 result1 base1 x8 H8 -> F_85_r2 holes I_ M_ res k H5 e I_1 M_1 result1 base1 x8 H8) := by
 have hn := hh.len
 have hcl := cutR_len e hs base
 refine loop3 hs.length (fun j r b H' => ∃ O : List Rg, Own H4.size t_95 2 H' r (O.flatMap encR) /\ O ++ cutR e b (hs.drop j) = O0 ++ cutR e base hs /\ (0 <= b /\ b <= e) /\ Ext H4 H') ⟨O0, ow, rfl, by omega, e7⟩ ?_
 rintro j r b H8 hj ⟨O, o8, hcut, hbb, e8⟩
 unfold F_85_r2
 have hlen := congrArg List.length hcut
 rw [List.length_append, List.length_append] at hlen
 have on := Own.len rkRange o8
 have ek : IntKind.i64.wrap ((k : Int) + 1) = ((k + 1 : Nat) : Int) := by rw [i64_in (by omega)]; omega
 refine iteB_dec (fun c => ?_) (fun c => ?_)
 ·have hjn : j < hs.length := by omega
  have hdr := drop_cons (l := hs) ((0, 0) : Rg) hjn
  obtain ⟨a, hp, r0, r1⟩ := Rgs.atN (hh.ext e8) hjn
  have hr := hok _ (getD_mem' (l := hs) (k := j) (0, 0) hjn)
  rw [hdr] at hcut
  generalize hs.getD j (0, 0) = x at *
  unfold RgOk at hr
  refine ⟨by omega, by omega, unSome_mk hp ⟨_, r0, _, r1, local_mk (vs := encR x) rfl rfl fun H10 e10 z10 b10 => ⟨_, b10.rd0 rfl, _, b10.rd (i := 1) rfl, letV_mk (x.1 + x.2) (u64_in (by omega)) ?_⟩⟩⟩
  have o10 := o8.ext e10
  have x10 := e8.trans e10
  have skip : (x.1 + x.2 <= b \/ x.1 >= e) -> CI3 hs.length (fun j r b H' => ∃ O : List Rg, Own H4.size t_95 2 H' r (O.flatMap encR) /\ O ++ cutR e b (hs.drop j) = O0 ++ cutR e base hs /\ (0 <= b /\ b <= e) /\ Ext H4 H') r b (IntKind.i64.wrap ((j : Int) + 1)) H10 /\ CM3 hs.length r b (IntKind.i64.wrap ((j : Int) + 1)) H10 < CM3 hs.length r b (j : Int) H8 := fun hsk => by
   refine next3 hjn (by omega) ⟨O, o10, ?_, hbb, x10⟩
   rw [cutR, if_pos hsk] at hcut
   exact hcut
  refine iteB_dec (fun c1 => skip (.inl c1)) (fun c1 => ⟨_, b10.rd0 rfl, iteB_dec (fun c2 => skip (.inr c2)) (fun c2 => ?_)⟩)
  rw [cutR, if_neg (by omega)] at hcut
  refine ⟨fun r' H' => Own H4.size t_95 2 H' r' ((O ++ (if x.1 > b then [(b, x.1 - b)] else [])).flatMap encR) /\ Ext H4 H', ⟨_, b10.rd0 rfl, iteB_dec (fun c3 => ⟨_, b10.rd0 rfl, ?_⟩) (fun c3 => ⟨by rw [if_neg c3, List.append_nil]; exact o10, x10⟩)⟩, ?_⟩
  ·rw [u64_in (n := x.1 - b) (by omega)]
   refine apR rkRange (b, x.1 - b) (lo := H4.size) o10 (by omega) x10.size ?_
   intro s' H' o' n' m'
   exact ⟨by rw [if_pos c3]; exact o', Mods.ext x10 m' (blkOf_new o10.new)⟩
  ·rintro r' H13 ⟨o13, e13⟩
   unfold F_85_k1
   refine letV_mk (min e (x.1 + x.2)) (by split <;> omega) (next3 hjn (by omega) ⟨_, o13, ?_, by omega, e13⟩)
   rw [<- hcut, List.append_assoc]
 ·obtain rfl : j = hs.length := by omega
  rw [List.drop_length, cutR] at hcut
  refine iteB_dec (fun c1 => ?_) (fun c1 => ?_)
  ·rw [if_pos c1] at hcut
   rw [u64_in (n := e - b) (by omega)]
   refine apR rkRange (b, e - b) (lo := H4.size) o8 (by omega) e8.size ?_
   intro s' H' o' n' m'
   rw [ek]
   rw [hcut] at o'
   exact hI s' H' o' (Mods.ext e8 m' (blkOf_new o8.new))
  ·rw [if_neg c1, List.append_nil] at hcut
   rw [hcut] at o8
   rw [ek]
   exact hI r H8 o8 e8

theorem Free_spec (H : Heap) (s t : Sl) (l f : List Rg) (h : Rgs H s l) (hf : Rgs H t f) (hu : U64L l) (hfu : U64L f) :
  CallsH Tryz.prog n_85 #[.slice s.p s.n s.c, .slice t.p t.n t.c] H (RgP (if ValidR l /\ ValidR f then freeF l f else []) H) := by
 refine F_85_ok _ _ ?_
 unfold F_85
 have no : ¬ (ValidR l /\ ValidR f) -> ∀ H', Ext H H' -> RgP (if ValidR l /\ ValidR f then freeF l f else []) H (.slice none 0 0) H' := fun hn H' e => by
  rw [if_neg hn]
  exact ⟨⟨none, 0, 0⟩, rfl, Own.nil _ _ _ _, e⟩
 refine (validRanges_spec H s l h hu).mono ?_
 rintro v H1 ⟨rfl, e1⟩
 refine ⟨_, rfl, iteB_not (fun c => no (fun hh => by simp at c; exact c hh.1) H1 e1) (fun c => (validRanges_spec H1 t f (hf.ext e1) hfu).mono ?_)⟩
 rintro v H2 ⟨rfl, e2⟩
 have x2 := e1.trans e2
 refine ⟨_, rfl, iteB_not (fun d => no (fun hh => by simp at d; exact d hh.2) H2 x2) (fun d => ?_)⟩
 have hvl : ValidR l := by simpa using c
 have hvf : ValidR f := by simpa using d
 rw [if_pos ⟨hvl, hvf⟩, <- cutL_eq (fun x hx => (hvl.2 x hx).1) (fun x hx => (hvf.2 x hx).1)]
 obtain ⟨vm, am⟩ := hvl.merge
 obtain ⟨vf, af⟩ := hvf.merge
 refine (merged_spec H2 t f (hf.ext x2) hvf).mono ?_
 rintro v H3 ⟨holes, rfl, o3, e3⟩
 have x3 := x2.trans e3
 refine ⟨holes, rfl, (merged_spec H3 s l (h.ext x3) hvl).mono ?_⟩
 rintro v H4 ⟨m, rfl, o4, e4⟩
 have isM := Own.is rkRange o4
 have isF := (Own.is rkRange o3).ext e4
 generalize mergeF l = M at *
 generalize mergeF f = F at *
 have hM := vm.1
 have hF := vf.1
 have hmn := isM.len
 have hlen : ∀ k, k <= M.length -> ((M.take k).flatMap (fun r => cutR (r.1 + r.2) r.1 F)).length <= k * 1025 := fun k hk => by
  induction k with
  | zero => simp
  | succ k ih =>
   have := ih (by omega)
   rw [take_succ_d ((0, 0) : Rg) (show k < M.length by omega), List.flatMap_append, List.length_append]
   have := cutR_len ((M.getD k (0, 0)).1 + (M.getD k (0, 0)).2) F (M.getD k (0, 0)).1
   simp only [List.flatMap_cons, List.flatMap_nil, List.append_nil]
   omega
 refine ⟨m, rfl, ?_⟩
 refine loop2 M.length (fun k r H' => Own H4.size t_95 2 H' r (((M.take k).flatMap (fun r => cutR (r.1 + r.2) r.1 F)).flatMap encR) /\ Ext H4 H') ⟨Own.nil _ _ _ _, .refl _⟩ ?_
 rintro k r H5 hk ⟨o5, e5⟩
 unfold F_85_r3
 refine iteB_dec (fun c1 => ?_) (fun c1 => ?_)
 ·have hkn : k < M.length := by omega
  obtain ⟨a, hp, r0, r1⟩ := Rgs.atN (isM.ext e5) hkn
  have hr := vm.2 _ (getD_mem' (l := M) (k := k) (0, 0) hkn)
  have htk := take_succ_d (l := M) ((0, 0) : Rg) hkn
  have hl5 := hlen k hk
  have hk2 : k * 1025 <= 1024 * 1025 := Nat.mul_le_mul_right _ (by omega)
  generalize M.getD k (0, 0) = x at *
  unfold RgOk at hr
  refine ⟨by omega, by omega, unSome_mk hp ⟨_, r0, _, r1, local_mk (vs := encR x) rfl rfl fun H7 e7 z7 b7 => ⟨_, b7.rd0 rfl, _, b7.rd0 rfl, _, b7.rd (i := 1) rfl, letV_mk (x.1 + x.2) (u64_in (by omega)) ?_⟩⟩⟩
  refine Free_inner H4 F holes isF vf.2 hF _ (by omega) x.1 (x.1 + x.2) (by omega) _ _ r k H5 H7 (e5.trans e7) (by omega) (o5.ext e7) (fun res' H' ow' e' => ?_)
  rw [<- i64_succ (by omega)]
  refine next2 hkn (by omega) ⟨?_, e'⟩
  rw [htk, List.flatMap_append]
  simp only [List.flatMap_cons, List.flatMap_nil, List.append_nil]
  exact ow'
 ·obtain rfl : k = M.length := by omega
  rw [List.take_length] at o5
  exact ⟨r, rfl, own_lo o5 (x3.trans e4).size, (x3.trans e4).trans e5⟩

theorem hostFree_spec (h : Host) (s : HostS) (c : Int) (H : Heap) (m : HostM H h s) (hv : ValidH h) : CallsH Tryz.prog n_48 #[hostV h s, .int .i64 c] H (RgP (spaceF h c) H) := by
 refine F_48_ok _ _ _ _ _ _ _ _ _ ?_
 unfold F_48
 refine push_mk (vs := hostL h s) fun H1 e1 z1 b1 => ?_
 obtain ⟨p0, p1, p2, p3, p4, p5, p6, p7⟩ := Blk.host b1
 have m1 := m.ext e1
 have a1 := hv.io.2.1; have a2 := hv.fio.2.1; have a3 := hv.mem.2.1; have a4 := hv.fix.2.1; have a5 := hv.high.2.1
 refine iteB_beq (fun d => ⟨_, p1, _, p4, (Free_spec H1 s.io s.fio h.io h.fio m1.io m1.fio m.uio m.ufio).mono ?_⟩) (fun d => iteB_beq (fun d1 => ⟨_, p2, _, p5, (Free_spec H1 s.mem s.fix h.mem h.fix m1.mem m1.fix m.umem m.ufix).mono ?_⟩) (fun d1 => ⟨_, p3, _, p5, (Free_spec H1 s.high s.fix h.high h.fix m1.high m1.fix m.uhigh m.ufix).mono ?_⟩))
 ·rintro v H2 ⟨o, rfl, ow, e2⟩
  rw [if_pos ⟨a1, a2⟩] at ow
  refine ⟨o, rfl, o, rfl, ?_, e1.trans e2⟩
  unfold spaceF
  rw [if_pos d]
  exact own_lo ow e1.size
 ·rintro v H2 ⟨o, rfl, ow, e2⟩
  rw [if_pos ⟨a3, a4⟩] at ow
  refine ⟨o, rfl, o, rfl, ?_, e1.trans e2⟩
  unfold spaceF
  rw [if_neg d, if_pos d1]
  exact own_lo ow e1.size
 ·rintro v H2 ⟨o, rfl, ow, e2⟩
  rw [if_pos ⟨a5, a4⟩] at ow
  refine ⟨o, rfl, o, rfl, ?_, e1.trans e2⟩
  unfold spaceF
  rw [if_neg d, if_neg d1]
  exact own_lo ow e1.size

end Go.Proofs.YtnhhncjflnlfaaaGreat
end

section
/-
 The program's window and placeBelow.
-/
namespace Go.Proofs.YtnhhncjflnlfaaaGreat
open Go.Eng
set_option linter.unusedVariables false

theorem beq_dec1 {a b : Int} {q : Prop} [Decidable q] (h : q ↔ a = b) : (a == b) = decide q := by
 rw [Bool.eq_iff_iff]
 simp [h]
def winV (N : List Need) (B : List Int) (i : Int) (c : Int) : Value := match atN N i (-1 - c) with
 | some w => .tuple #[.int .u64 (B.getD w 0), .int .u64 (2 ^ (N.getD w (0, 0, 0, 0)).2.2.2.toNat), .bool true]
 | none => .tuple #[.int .u64 0, .int .u64 0, .bool false]

theorem window_spec (H : Heap) (g : Nat) (N : List Need) (B : List Int) (i : Int) (c : Nat) (hA : AsB H g N B) (hl : B.length = N.length) (hn : N.length <= 100000) (hc : c < 3) (hsz : ∀ x ∈ N, 0 <= x.2.2.2 /\ x.2.2.2 <= 44) :
  CallsH Tryz.prog n_49 #[.slice (some ⟨g, 0, none⟩) N.length N.length, .int .i64 i, .int .i64 (c : Int)] H (fun v H' => v = winV N B i c /\ Ext H H') := by
 refine F_49_ok ⟨some ⟨g, 0, none⟩, N.length, N.length⟩ _ _ ?_
 unfold F_49
 refine loop1 N.length (fun k H' => Ext H H' /\ ∀ j, j < k -> nq i (-1 - (c : Int)) (N.getD j (0, 0, 0, 0)) = false) ⟨.refl _, fun j hj => by omega⟩ ?_
 rintro k H1 hk ⟨e1, hno⟩
 unfold F_49_r2
 dsimp only
 have ec : IntKind.i64.wrap (-1 - (c : Int)) = -1 - (c : Int) := i64_in (by omega)
 refine iteB_dec (fun d => ?_) (fun d => ?_)
 ·have hkn : k < N.length := by omega
  have hz := zip_getD hl hkn
  have rb := hA.rb
  have rd4 : ∀ j v, (encA (N.getD k (0, 0, 0, 0), B.getD k 0))[j]? = some v -> rd H1 (((⟨g, 0, none⟩ : Addr).add ((k : Int).toNat * 5)).add j) = some v := fun j v hv => by rw [Int.toNat_natCast]; exact RB.rd (RB.ext rb e1) hz hv
  have r0 : rd H1 ((⟨g, 0, none⟩ : Addr).add ((k : Int).toNat * 5)) = some (.int .i64 (N.getD k (0, 0, 0, 0)).1) := by rw [Int.toNat_natCast]; exact RB.rd0 (RB.ext rb e1) hz rfl
  have hs := hsz _ (getD_mem' (l := N) (k := k) (0, 0, 0, 0) hkn)
  have hse : nq i (-1 - (c : Int)) (N.getD k (0, 0, 0, 0)) = true -> atN N i (-1 - (c : Int)) = some k := fun hq => atN_some hkn hq hno
  refine ⟨by omega, by omega, unSome_mk rfl ⟨_, r0, _, rd4 1 _ rfl, _, rd4 2 _ rfl, _, rd4 3 _ rfl, _, rd4 4 _ rfl, local_mk (vs := encA (N.getD k (0, 0, 0, 0), B.getD k 0)) rfl rfl fun H3 e3 z3 b3 => ⟨fun b H' => b = nq i (-1 - (c : Int)) (N.getD k (0, 0, 0, 0)) /\ H' = H3, ⟨_, b3.rd0 rfl, iteB_beq (fun q => ⟨_, b3.rd (i := 1) rfl, ?_, rfl⟩) (fun q => ⟨?_, rfl⟩)⟩, ?_⟩⟩⟩
  ·rw [ec]
   exact beq_dec1 ⟨fun h => h.2, fun h => ⟨q, h⟩⟩
  ·exact (decide_eq_false (fun h => q h.1)).symm
  ·rintro b H4 ⟨rfl, rfl⟩
   unfold F_49_k1
   refine iteB_intro (fun q => ⟨_, b3.rd (i := 4) rfl, _, b3.rd (i := 3) rfl, hs.1, letV_mk (2 ^ (N.getD k (0, 0, 0, 0)).2.2.2.toNat) ?_ ⟨?_, e1.trans e3⟩⟩) (fun q => next1 hkn (by omega) ⟨e1.trans e3, fun j hj => ?_⟩)
   ·have e : min (N.getD k (0, 0, 0, 0)).2.2.2.toNat IntKind.u64.bits = (N.getD k (0, 0, 0, 0)).2.2.2.toNat := by have : IntKind.u64.bits = 64 := rfl; omega
    rw [e, Int.one_mul]
    have := pow44 hs
    exact u64_in (by omega)
   ·unfold winV
    rw [hse q]
   ·by_cases e : j = k
    ·rw [e]; exact q
    ·exact hno j (by omega)
 ·obtain rfl : k = N.length := by omega
  refine ⟨?_, e1⟩
  unfold winV
  rw [atN_none hno]

structure PG (lo : Nat) (U S : List Int) (H0 : Heap) (users sizes : Sl) (H' : Heap) : Prop where
 u : Own lo t_3 1 H' users (U.flatMap (Go.Eng.encI .i64))
 s : Own lo t_3 1 H' sizes (S.flatMap (Go.Eng.encI .i64))
 ne : ∀ a b, users.p = some a -> sizes.p = some b -> a.block ≠ b.block
 ext : Ext H0 H'

theorem placeV_nil (free : List Rg) (S : List Int) (h : (placeV free S).1 ≠ 0) : (placeV free S).2.1 = [] := by
 unfold placeV at h ⊢
 split
 ·rename_i hv
  rw [if_pos hv] at h
  cases hp : plI S (ordF S) (mergeF free) (List.replicate S.length 0) with
  | none => rfl
  | some x => rw [hp] at h; exact absurd rfl h
 ·rfl
theorem setI_take {I : List Nat} {bs : List Int} {k : Nat} (hI : k < I.length) (hb : k < bs.length) (B : List Int) : setI B ((I.zip bs).take (k + 1)) = (setI B ((I.zip bs).take k)).set (I.getD k 0) (bs.getD k 0) := by
 have hz : k < (I.zip bs).length := by rw [List.length_zip]; omega
 have e : (I.zip bs).getD k (0, 0) = (I.getD k 0, bs.getD k 0) := by
  have e0 : (I.zip bs).getD k (0, 0) = (I.zip bs)[k] := by unfold List.getD; rw [List.getElem?_eq_getElem hz]; rfl
  have e1 : I.getD k 0 = I[k] := by simp [List.getD, hI]
  have e2 : bs.getD k 0 = bs[k] := by simp [List.getD, hb]
  rw [e0, e1, e2, List.getElem_zip]
 rw [take_succ_d ((0, 0) : Nat × Int) hz, e]
 unfold setI
 rw [List.foldl_append]
 rfl

theorem placeBelow_spec (T : List FS) (high : Bool) (s fs : Sl) (B : List Int) (p : Int) (c : Nat) (free : List Rg) (g : Nat) (H : Heap) (hv : ValidT T) (ho : ¬ Ovf T high) (hT : Topo H s T) (hbo : BelOk T p) (hA : AsB H g (needsAll T high) B) (hl : B.length = (needsAll T high).length) (hf : Rgs H fs free) (hu : U64L free) (hnl : (needsAll T high).length <= 1000) :
  CallsH Tryz.prog n_73 #[.slice s.p s.n s.c, .slice (some ⟨g, 0, none⟩) (needsAll T high).length (needsAll T high).length, .int .i64 p, .int .i64 (c : Int), .slice fs.p fs.n fs.c] H
   (fun v H' => v = .tuple #[certV (plS T (needsAll T high) B p c free).2.1, .int .i64 (plS T (needsAll T high) B p c free).1] /\ AsB H' g (needsAll T high) (plS T (needsAll T high) B p c free).2.2 /\ Mods [g] H H') := by
 have hok := needs_ok hv ho
 have hbi := belF_idx (N := needsAll T high) (c := (c : Int)) hbo
 have hset := fun bs => setB_setI (T := T) (high := high) (idxF T (needsAll T high) p c (needsAll T high).length) bs B (fun i hi => (idxF_mem.1 hi).1)
 rw [<- hbi] at hset
 have hszs : sizesOf (belF T (needsAll T high) p c) = (idxF T (needsAll T high) p c (needsAll T high).length).map (fun i => ((needsAll T high).getD i (0, 0, 0, 0)).2.2.2) := by
  rw [hbi]; unfold sizesOf; rw [List.map_map]; rfl
 generalize hN : needsAll T high = N at *
 have hplS : plS T N B p c free = ((placeV free (sizesOf (belF T N p c))).1, (if (placeV free (sizesOf (belF T N p c))).1 = 0 then noCert else ((c : Int), (placeV free (sizesOf (belF T N p c))).2.2.2)), setI B ((idxF T N p c N.length).zip (placeV free (sizesOf (belF T N p c))).2.1)) := by
  unfold plS
  rw [hset]
 rw [hszs] at hplS
 have hnil := placeV_nil free ((idxF T N p c N.length).map (fun i => (N.getD i (0, 0, 0, 0)).2.2.2))
 have hpl := placeV_len free ((idxF T N p c N.length).map (fun i => (N.getD i (0, 0, 0, 0)).2.2.2))
 rw [List.length_map] at hpl
 refine F_73_ok s ⟨some ⟨g, 0, none⟩, N.length, N.length⟩ p c fs ?_
 unfold F_73
 refine push_mk (vs := encC noCert) fun H1 e1 z1 b1 => ?_
 have hgl : g < H.size := RB.lt hA.rb
 refine loop3 N.length (fun k u z H' => PG H1.size ((idxF T N p c k).map (fun i : Nat => (i : Int))) ((idxF T N p c k).map (fun i => (N.getD i (0, 0, 0, 0)).2.2.2)) H1 u z H') ⟨Own.nil _ _ _ _, Own.nil _ _ _ _, fun a b ha => (by cases ha), .refl _⟩ ?_
 rintro k items sizes H2 hk st
 unfold F_73_r3
 dsimp only
 have x2 := e1.trans st.ext
 have hA2 := hA.ext x2
 have hil := idxF_len T N p c k
 have un := Own.len rkInt st.u
 have sn := Own.len rkInt st.s
 rw [List.length_map] at un sn
 refine iteB_dec (fun d => ?_) (fun d => ?_)
 ·have hkn : k < N.length := by omega
  have hz := zip_getD hl hkn
  have rdA : ∀ H', Ext H1 H' -> ∀ j v, (encA (N.getD k (0, 0, 0, 0), B.getD k 0))[j]? = some v -> rd H' (((⟨g, 0, none⟩ : Addr).add ((k : Int).toNat * 5)).add j) = some v := fun H' e' j v hv => by rw [Int.toNat_natCast]; exact RB.rd (hA.ext (e1.trans e')).rb hz hv
  have r0 : rd H2 ((⟨g, 0, none⟩ : Addr).add ((k : Int).toNat * 5)) = some (.int .i64 (N.getD k (0, 0, 0, 0)).1) := by rw [Int.toNat_natCast]; exact RB.rd0 hA2.rb hz rfl
  have hx := hok _ (getD_mem' (l := N) (k := k) (0, 0, 0, 0) hkn)
  have his := idxF_succ T N p c k
  obtain ⟨fi, hfi⟩ : ∃ fi : Nat, (N.getD k (0, 0, 0, 0)).1 = fi := ⟨(N.getD k (0, 0, 0, 0)).1.toNat, by have := hx.fn; omega⟩
  have hfT : fi < T.length := by have := hx.fn; omega
  obtain ⟨af, hpf, hrf⟩ := (hT.ext x2).at hfT
  have pf := (rdFn hrf).1
  have htn := hT.len
  refine ⟨fun b H' => b = belQ T p c (N.getD k (0, 0, 0, 0)) /\ H' = H2, ⟨by omega, by omega, unSome_mk rfl ⟨_, rdA H2 st.ext 2 _ rfl, iteB_beq (fun q => ⟨by omega, by omega, unSome_mk rfl ⟨_, r0, by rw [hfi]; omega, by rw [hfi]; omega, unSome_mk hpf ⟨_, by rw [hfi]; exact pf, ?_, rfl⟩⟩⟩) (fun q => ⟨?_, rfl⟩)⟩⟩, ?_⟩
  ·exact beq_dec1 ⟨fun h => by have := h.2.2; rw [hfi, Int.toNat_natCast] at this; exact this, fun h => ⟨q, by rw [hfi]; omega, by rw [hfi, Int.toNat_natCast]; exact h⟩⟩
  ·exact (decide_eq_false (fun h => q h.1)).symm
  ·rintro b H3 ⟨rfl, rfl⟩
   unfold F_73_k1
   dsimp only
   refine iteB_intro (fun q => ?_) (fun q => ?_)
   ·rw [if_pos q] at his
    refine apRat rkInt (k : Int) (lo := H1.size) st.u (by omega) st.ext.size ?_
    intro items1 H5 o5 n5 m5 at5
    have e5 : Ext H1 H5 := Mods.ext st.ext m5 (blkOf_new st.u.new)
    have os := st.s.mods m5 (fun a ha => by
     cases hu : items.p with
     | none => simp [blkOf]
     | some b => simp only [blkOf, List.mem_singleton]; exact fun e => st.ne b a hu ha e.symm)
    have hne5 : ∀ a b, items1.p = some a -> sizes.p = some b -> a.block ≠ b.block := fun a b ha hb => by
     rcases at5 a ha with h1 | h1
     ·cases hu : items.p with
      | none => rw [hu] at h1; simp [blkOf] at h1
      | some c => rw [hu] at h1; simp only [blkOf, List.mem_singleton] at h1; rw [h1]; exact st.ne c b hu hb
     ·have := st.s.lt b hb; omega
    refine ⟨by omega, by omega, unSome_mk rfl ⟨_, rdA H5 e5 3 _ rfl, ?_⟩⟩
    refine apRat rkInt ((N.getD k (0, 0, 0, 0)).2.2.2) (lo := H1.size) os (by omega) e5.size ?_
    intro sizes1 H7 o7 n7 m7 at7
    refine next3 hkn (by omega) ⟨?_, ?_, fun a b ha hb => ?_, Mods.ext e5 m7 (blkOf_new os.new)⟩
    ·rw [his, List.map_append]
     exact o5.mods m7 (fun a ha => by
      cases hz : sizes.p with
      | none => simp [blkOf]
      | some b => simp only [blkOf, List.mem_singleton]; exact fun e => hne5 a b ha hz e)
    ·rw [his, List.map_append]; exact o7
    ·rcases at7 b hb with h1 | h1
     ·cases hz : sizes.p with
      | none => rw [hz] at h1; simp [blkOf] at h1
      | some c => rw [hz] at h1; simp only [blkOf, List.mem_singleton] at h1; rw [h1]; exact hne5 a c ha hz
     ·have := o5.lt a ha; omega
   ·rw [if_neg (by rw [q]; simp), List.append_nil] at his
    exact next3 hkn (by omega) (by rw [his]; exact st)
 ·obtain rfl : k = N.length := by omega
  have isZ := Own.is rkInt st.s
  have isU := Own.is rkInt st.u
  generalize hIx : idxF T N p c N.length = I at *
  have hIm : ∀ i ∈ I, i < N.length := fun i hi => by rw [<- hIx] at hi; exact (idxF_mem.1 hi).1
  refine (Place_spec H2 fs sizes free (I.map (fun i => (N.getD i (0, 0, 0, 0)).2.2.2)) (hf.ext x2) hu isZ).mono ?_
  rintro v H8 ⟨o, rfl, isB, tyB, e8⟩
  generalize placeV free (I.map (fun i => (N.getD i (0, 0, 0, 0)).2.2.2)) = pv at *
  obtain ⟨pe, bs, pc⟩ := pv
  dsimp only at hpl isB hplS hnil
  rw [hplS]
  refine ⟨o, _, _, _, _, _, rfl, local_mk (vs := encC pc) rfl rfl fun H10 e10 z10 b10 => ?_⟩
  have x10 := (x2.trans e8).trans e10
  have hA10 := hA.ext x10
  have c10 : Blk H10 H.size t_39 (encC noCert) := b1.ext ((st.ext.trans e8).trans e10)
  have hz8 := (x2.trans e8).size
  have hz1 := (st.ext.trans e8).size
  refine iteB_bne (fun q => ?_) (fun q => ?_)
  ·have hbl : bs = [] := hnil q
   subst hbl
   rw [if_neg q, List.zip_nil_right]
   refine ⟨b10.ok0 (by simp), letH_mk ?_⟩
   intro H11 h11
   have b11 : Blk H11 H8.size t_39 (encC ((c : Int), pc.2)) := by rw [h11]; exact b10.wr
   have m11 : Mods [H8.size] H10 H11 := by rw [h11]; exact Mods.wrs (by simp)
   clear h11
   have c11 := c10.mods m11 (by simp; omega)
   have hA11 := hA10.mods m11 (by simp; omega)
   refine ⟨_, b11.rd0 rfl, _, b11.rd (i := 1) rfl, _, b11.rd (i := 2) rfl, _, b11.rd (i := 3) rfl, ?_⟩
   refine cert_wr (c := ((c : Int), pc.2)) (K := fun v H' => (.tuple #[v, .int .i64 pe] : Value) = .tuple #[certV ((c : Int), pc.2), .int .i64 pe] /\ AsB H' g N (setI B []) /\ Mods [g] H H') c11 (fun H' m' _ => ?_)
   refine ⟨rfl, hA11.mods m' (by simp; omega), ?_⟩
   have h1 : Mods [g] H H11 := x10.mods.newer m11 (fun t ht => by simp at ht; left; omega)
   exact h1.newer m' (fun t ht => by simp at ht; left; omega)
  ·obtain rfl : pe = 0 := q
   rw [if_pos rfl]
   have hbl := hpl.2 rfl
   have hun := isU.len
   have hon := isB.len
   rw [List.length_map] at hun
   refine loop1 I.length (fun k H' => AsB H' g N (setI B ((I.zip bs).take k)) /\ Mods [g] H10 H') ⟨hA10, .refl _ _⟩ ?_
   rintro k H13 hk ⟨a13, m13⟩
   unfold F_73_r2
   dsimp only
   have ng : ∀ {e : TypeId} {qq : Option Addr}, e ≠ t_32 -> TyB H10 qq e -> ∀ a, qq = some a -> a.block ∉ [g] := fun {e qq} he hq a ha => by
    obtain ⟨_, ex, hbk⟩ := hA10.rb
    have t1 : TyB H10 (some ⟨g, 0, none⟩) t_32 := fun a ha => by cases ha; exact ⟨_, _, hbk⟩
    have := ty_ne hq t1 he a ha
    simpa [blkOf] using this
   have e810 : Ext H2 H10 := e8.trans e10
   have u13 := (isU.ext e810).mods m13 (ng (by decide) ((own_ty st.u).mods (S := []) e810.mods (fun _ _ => by simp)))
   have b13 := (isB.ext e10).mods m13 (ng (by decide) (tyB.mods (S := []) e10.mods (fun _ _ => by simp)))
   refine iteB_dec (fun d1 => ?_) (fun d1 => ?_)
   ·have hkI : k < I.length := by omega
    obtain ⟨a5, hp5, r5⟩ := Ints.atN u13 (i := k) (by rw [List.length_map]; exact hkI)
    obtain ⟨a6, hp6, r6⟩ := Ints.atN b13 (i := k) (by omega)
    have ei : (I.map (fun i : Nat => (i : Int))).getD k 0 = ((I.getD k 0 : Nat) : Int) := by simp [List.getD, hkI]
    rw [ei] at r5
    have him := hIm _ (getD_mem' (l := I) (k := k) 0 hkI)
    have hst := setI_take hkI (show k < bs.length by omega) B
    obtain ⟨ok, as1⟩ := a13.set (by rw [setI_len]; exact hl) him (bs.getD k 0)
    refine ⟨by omega, by omega, unSome_mk hp5 ⟨_, r5, by omega, by omega, unSome_mk hp6 ⟨_, r6, by omega, by omega, unSome_mk rfl ⟨by rw [Int.toNat_natCast]; exact ok, letH_mk ?_⟩⟩⟩⟩
    intro H14 h14
    rw [Int.toNat_natCast] at h14
    rw [<- h14, <- hst] at as1
    have m14 : Mods [g] H13 H14 := by rw [h14]; exact mods_wr2
    exact next1 hkI (by omega) ⟨as1, m13.trans m14⟩
   ·obtain rfl : k = I.length := by omega
    rw [List.take_of_length_le (by rw [List.length_zip]; omega)] at a13
    have c13 := c10.mods m13 (by simp; omega)
    refine cert_wr (c := noCert) (K := fun v H' => (.tuple #[v, .int .i64 0] : Value) = .tuple #[certV noCert, .int .i64 0] /\ AsB H' g N (setI B (I.zip bs)) /\ Mods [g] H H') c13 (fun H' m' _ => ?_)
    refine ⟨rfl, a13.mods m' (by simp; omega), ?_⟩
    have h1 : Mods [g] H H13 := x10.mods.trans m13
    exact h1.newer m' (fun t ht => by simp at ht; left; omega)

end Go.Proofs.YtnhhncjflnlfaaaGreat
end

section
/-
 Assigning (plain): what is placed so far is aligned and in the space; so every window holds what lies below it.
-/
namespace Go.Proofs.YtnhhncjflnlfaaaGreat
open Go.Eng
set_option linter.unusedVariables false

def szN (N : List Need) (k : Nat) : Nat := (N.getD k (0, 0, 0, 0)).2.2.2.toNat
def Good (N : List Need) (B : List Int) (k : Nat) : Prop := (∃ y, B.getD k 0 = y * 2 ^ szN N k) /\ 0 <= B.getD k 0 /\ B.getD k 0 + 2 ^ szN N k <= 4503599627370496
def GoodP (T : List FS) (N : List Need) (B : List Int) (p c : Int) : Prop := ∀ k, k < N.length -> belQ T p c (N.getD k (0, 0, 0, 0)) = true -> Good N B k

theorem belQ_inj {T : List FS} {x : Need} {p p' c c' : Int} (h : belQ T p c x = true) (h' : belQ T p' c' x = true) : p = p' /\ c = c' := by
 unfold belQ at h h'
 rw [decide_eq_true_eq] at h h'
 omega

theorem plS_idx {T : List FS} {high : Bool} {B : List Int} {p c : Int} {free : List Rg} (hbo : BelOk T p) : (plS T (needsAll T high) B p c free).2.2 = setI B ((idxF T (needsAll T high) p c (needsAll T high).length).zip (placeV free (sizesOf (belF T (needsAll T high) p c))).2.1) := by
 have := setB_setI (T := T) (high := high) (idxF T (needsAll T high) p c (needsAll T high).length) (placeV free (sizesOf (belF T (needsAll T high) p c))).2.1 B (fun i hi => (idxF_mem.1 hi).1)
 rw [<- belF_idx hbo] at this
 exact this
theorem bel_sizes {T : List FS} {N : List Need} {p c : Int} (hbo : BelOk T p) : sizesOf (belF T N p c) = (idxF T N p c N.length).map (fun i => (N.getD i (0, 0, 0, 0)).2.2.2) := by
 rw [belF_idx hbo]; unfold sizesOf; rw [List.map_map]; rfl

theorem plS_good {T : List FS} {high : Bool} {B : List Int} {p c : Int} {free : List Rg} (hbo : BelOk T p) (hl : B.length = (needsAll T high).length) (h : (plS T (needsAll T high) B p c free).1 = 0) :
  GoodP T (needsAll T high) (plS T (needsAll T high) B p c free).2.2 p c /\ ∀ p' c', ¬ (p' = p /\ c' = c) -> GoodP T (needsAll T high) B p' c' -> GoodP T (needsAll T high) (plS T (needsAll T high) B p c free).2.2 p' c' := by
 have h0 : (placeV free (sizesOf (belF T (needsAll T high) p c))).1 = 0 := h
 rw [plS_idx hbo]
 obtain ⟨hv, _, hbl, _, hat, _⟩ := placeV_ok (free := free) (S := sizesOf (belF T (needsAll T high) p c)) (bs := (placeV free (sizesOf (belF T (needsAll T high) p c))).2.1) (c := (placeV free (sizesOf (belF T (needsAll T high) p c))).2.2) (by rw [<- h0])
 have hsz := bel_sizes (N := needsAll T high) (c := c) hbo
 generalize needsAll T high = N at *
 rw [hsz] at hat hbl ⊢
 rw [List.length_map] at hbl hat
 generalize (placeV free ((idxF T N p c N.length).map (fun i => (N.getD i (0, 0, 0, 0)).2.2.2))).2.1 = bs at *
 have hnd := idxF_nodup T N p c N.length
 have hmem : ∀ i, i ∈ idxF T N p c N.length ↔ i < N.length /\ belQ T p c (N.getD i (0, 0, 0, 0)) = true := fun i => idxF_mem
 generalize idxF T N p c N.length = I at *
 refine ⟨fun k hk hq => ?_, fun p' c' hne hg k hk hq => ?_⟩
 ·obtain ⟨j, hj, rfl⟩ := List.getElem_of_mem ((hmem k).2 ⟨hk, hq⟩)
  have hset := setI_at I bs B j hnd (fun i hi => by have := (hmem i).1 hi; omega) (by omega) hj
  obtain ⟨⟨y, hy⟩, hcov⟩ := hat j hj
  have hse : szOf (I.map (fun i => (N.getD i (0, 0, 0, 0)).2.2.2)) j = szN N I[j] := by
   unfold szOf szN
   simp [List.getD, hj]
  rw [hse] at hy hcov
  unfold Good
  rw [hset]
  have hp := pow_pos2 (szN N I[j])
  have rng : ∀ x, Cov free x -> 0 <= x /\ x < 4503599627370496 := fun x ⟨r, hr, h1, h2⟩ => by have := hv.2 r hr; unfold RgOk at this; omega
  have c1 := rng _ (hcov (bs.getD j 0) (by omega) (by omega))
  have c2 := rng _ (hcov (bs.getD j 0 + 2 ^ szN N I[j] - 1) (by omega) (by omega))
  exact ⟨⟨y, hy⟩, by omega, by omega⟩
 ·have hni : k ∉ I := fun hi => by
   have := belQ_inj ((hmem k).1 hi).2 hq
   exact hne ⟨this.1.symm, this.2.symm⟩
  have := hg k hk hq
  unfold Good at this ⊢
  rw [setI_out (j := k) _ _ (fun x hx e => hni (by have := (List.of_mem_zip (show (x.1, x.2) ∈ _ from hx)).1; rw [e] at this; exact this))]
  exact this

theorem br_ok {T : List FS} {high : Bool} (hv : ValidT T) (ho : ¬ Ovf T high) {B : List Int} (hl : B.length = (needsAll T high).length) {i c : Nat} (hi : i < T.length) (hb : (fnAt T i).bridge = true) (hc : c < 3) (hp : ∀ p d : Int, -1 <= p -> p < i -> 0 <= d -> d < 3 -> GoodP T (needsAll T high) B p d) :
  ∀ free, (free = match atN (needsAll T high) i (-1 - (c : Int)) with | some w => [winF (needsAll T high) B w] | none => []) ->
   (plS T (needsAll T high) B i c free).1 = 0 /\ (plS T (needsAll T high) B i c free).2.2 = brStep T (needsAll T high) B i c /\ U64L free := by
 intro free hfree
 have hbo : BelOk T (i : Int) := ⟨by omega, fun _ => by rw [Int.toNat_natCast]; exact hb⟩
 have hok := needs_ok hv ho
 have hI : ItemsOk (sizesOf (belF T (needsAll T high) i c)) := by
  refine ⟨?_, fun x hx => ?_⟩
  ·unfold sizesOf
   rw [List.length_map]
   have h1 := belF_len T (needsAll T high) i c
   have h2 : (needsAll T high).length <= 1000 := NeedsIs.len (.inr (.inr ⟨hv, ho, rfl, rfl⟩))
   omega
  ·obtain ⟨y, hy, rfl⟩ := List.mem_map.1 hx
   exact (hok y (belF_sub y hy)).sz
 cases hw : atN (needsAll T high) i (-1 - (c : Int)) with
 | none =>
  rw [hw] at hfree
  subst hfree
  have hnil : belF T (needsAll T high) i c = [] := by
   apply Classical.byContradiction
   intro hn
   obtain ⟨w, h1, _⟩ := win_exists hv ho hi hc hn
   rw [hw] at h1
   cases h1
  refine ⟨?_, ?_, fun r hr => by cases hr⟩
  ·show (placeV [] (sizesOf (belF T (needsAll T high) i c))).1 = 0
   rw [hnil]
   decide +kernel
  ·unfold plS brStep
   rw [hw, hnil]
   rfl
 | some w =>
  rw [hw] at hfree
  dsimp only at hfree
  obtain ⟨hwl, hw1, hw2⟩ := atN_spec hw
  have hx := hok _ (getD_mem' (l := needsAll T high) (k := w) (0, 0, 0, 0) hwl)
  have hpar := (hv.2 i hi).pa
  have hgood : Good (needsAll T high) B w := by
   refine hp (fnAt T i).parent ((needsAll T high).getD w (0, 0, 0, 0)).2.2.1 hpar.1 (by omega) hx.cl.1 hx.cl.2 w hwl ?_
   unfold belQ
   rw [decide_eq_true_eq]
   exact ⟨rfl, hx.fn, by rw [hw1, Int.toNat_natCast]⟩
  obtain ⟨ha, hg0, hg1⟩ := hgood
  have hsz := hx.sz
  have hpl : (placeV [winF (needsAll T high) B w] (sizesOf (belF T (needsAll T high) i c))).1 = 0 := by
   by_cases hn : belF T (needsAll T high) i c = []
   ·have hR : ValidR [winF (needsAll T high) B w] := ⟨by simp, fun r hr => by
     simp at hr; subst hr
     unfold winF RgOk
     dsimp only
     have := pow_ge1 (szN (needsAll T high) w)
     unfold szN at *
     omega⟩
    rw [hn] at hI ⊢
    rw [placeV_iff hR hI]
    intro k
    rw [dem_ord hI]
    exact Int.mul_nonneg (blkN_nn _ _) (Int.le_of_lt (pow_pos2 k))
   ·obtain ⟨w', h1, _, _, h4⟩ := win_exists hv ho hi hc hn
    rw [hw] at h1
    cases h1
    exact window_fits hI (by unfold szN at *; omega) ha ⟨hg0, hg1⟩ h4
  subst hfree
  refine ⟨hpl, ?_, fun r hr => ?_⟩
  ·unfold brStep
   rw [hw]
  ·simp at hr
   subst hr
   unfold winF
   dsimp only
   have := pow_ge1 (szN (needsAll T high) w)
   unfold szN at *
   omega

theorem brStep_no {T : List FS} {high : Bool} (hv : ValidT T) {B : List Int} {i c : Nat} (hi : i < T.length) (hb : (fnAt T i).bridge = false) : brStep T (needsAll T high) B i c = B := by
 unfold brStep
 cases hw : atN (needsAll T high) i (-1 - (c : Int)) with
 | none => rfl
 | some w =>
  exfalso
  obtain ⟨hwl, hw1, hw2⟩ := atN_spec hw
  have hm := getD_mem' (l := needsAll T high) (k := w) (0, 0, 0, 0) hwl
  obtain ⟨j, hj, hx⟩ := List.mem_flatMap.1 hm
  have hj' := List.mem_range.1 hj
  have hf := needsAt_fst hj' _ hx
  obtain rfl : j = i := by omega
  rw [needsAt_own' hj'] at hx
  unfold ownL winAll at hx
  rw [hb] at hx
  simp only [Bool.false_eq_true, if_false, List.append_nil] at hx
  have := (regL_keys T high j (fnAt T j).bars (fnAt T j).bars.length).2 _ hx
  omega

theorem good_no {T : List FS} {N : List Need} {B : List Int} (hv : ValidT T) (hN : ∀ x ∈ N, 0 <= x.1 /\ x.1 < T.length) {i : Nat} (hb : (fnAt T i).bridge = false) (c : Int) : GoodP T N B i c := fun k hk hq => by
 exfalso
 have hx := hN _ (getD_mem' (l := N) (k := k) (0, 0, 0, 0) hk)
 unfold belQ at hq
 rw [decide_eq_true_eq] at hq
 have hbr := (hv.2 (N.getD k (0, 0, 0, 0)).1.toNat (by omega)).br (by omega)
 rw [hq.2.2, Int.toNat_natCast, hb] at hbr
 cases hbr

end Go.Proofs.YtnhhncjflnlfaaaGreat
end

section
/-
 The program's Assign.
-/
namespace Go.Proofs.YtnhhncjflnlfaaaGreat
open Go.Eng
set_option linter.unusedVariables false

theorem rootR_good {T : List FS} {high : Bool} {h : Host} : ∀ k : Nat, k <= 3 -> (rootR T (needsAll T high) h k).1 = 0 -> ∀ c : Int, 0 <= c -> c < k -> GoodP T (needsAll T high) (rootR T (needsAll T high) h k).2.2 (-1) c
 | 0, _, _, c, h1, h2 => by omega
 | k + 1, hk, h0, c, h1, h2 => by
  have hb : BelOk T (-1) := ⟨by omega, fun h => by omega⟩
  have hl := (rootR_ok T (needsAll T high) h k).2
  simp only [rootR] at h0 ⊢
  by_cases hc : (rootR T (needsAll T high) h k).1 ≠ 0
  ·rw [if_pos hc] at h0; exact absurd h0 hc
  ·rw [if_neg hc] at h0 ⊢
   obtain ⟨g1, g2⟩ := plS_good (c := (k : Int)) hb hl h0
   by_cases e : c = k
   ·rw [e]; exact g1
   ·exact g2 (-1) c (fun hh => e hh.2) (rootR_good k (by omega) (by simpa using hc) c h1 (by omega))

structure BrI (T : List FS) (N : List Need) (B0 : List Int) (g : Nat) (H7 : Heap) (i c : Nat) (H' : Heap) : Prop where
 ab : AsB H' g N (brR T N B0 (3 * i + c))
 gd : ∀ p d : Int, -1 <= p -> p < i -> 0 <= d -> d < 3 -> GoodP T N (brR T N B0 (3 * i + c)) p d
 gi : ∀ d : Int, 0 <= d -> d < c -> GoodP T N (brR T N B0 (3 * i + c)) i d
 ext : Ext H7 H'

theorem brR_succ (T : List FS) (N : List Need) (B0 : List Int) {i c : Nat} (hc : c < 3) : brR T N B0 (3 * i + (c + 1)) = brStep T N (brR T N B0 (3 * i + c)) i c := by
 show brStep T N (brR T N B0 (3 * i + c)) ((3 * i + c) / 3) ((3 * i + c) % 3) = _
 rw [show (3 * i + c) / 3 = i by omega, show (3 * i + c) % 3 = c by omega]

theorem BrI.up {T : List FS} {N : List Need} {B0 : List Int} {g : Nat} {H7 : Heap} {i : Nat} {H' : Heap} (h : BrI T N B0 g H7 i 3 H') : BrI T N B0 g H7 (i + 1) 0 H' := by
 have e : 3 * i + 3 = 3 * (i + 1) + 0 := by omega
 have h1 := h.ab
 have h2 := h.gd
 have h3 := h.gi
 rw [e] at h1 h2 h3
 refine ⟨h1, fun p d p1 p2 d1 d2 => ?_, fun d d1 d2 => by omega, h.ext⟩
 by_cases c : p < i
 ·exact h2 p d p1 c d1 d2
 ·obtain rfl : p = i := by omega
  exact h3 d d1 d2

structure AsE (T : List FS) (s : Sl) (h : Host) (hs : HostS) (H H1 H7 : Heap) : Prop where
 topo : Topo H7 s T
 m : HostM H7 h hs
 blk : Blk H7 H.size t_27 (hostL h hs)
 cert : Blk H7 H1.size t_39 (encC noCert)
 v : ValidT T
 vh : ValidH h
 o : ¬ Ovf T (hiF h)
 len : (needsAll T (hiF h)).length <= 1000
 lt : H.size <= H1.size
 ext : Ext H H7

theorem asg_root (T : List FS) (s : Sl) (h : Host) (hs : HostS) (H H1 H7 : Heap) (en : AsE T s h hs H H1 H7) (x12 : Sl) (hx12 : x12.n = (needsAll T (hiF h)).length) (I_1 : Int -> Heap -> Prop) (M_1 : Int -> Heap -> Nat) (H14 H15 : Heap)
  (a15 : AsB H15 H7.size (needsAll T (hiF h)) (rootR T (needsAll T (hiF h)) h 0).2.2) (e15 : Ext H7 H15)
  (hI : ∀ H', (rootR T (needsAll T (hiF h)) h 3).1 = 0 -> AsB H' H7.size (needsAll T (hiF h)) (rootR T (needsAll T (hiF h)) h 3).2.2 -> Ext H7 H' -> I_1 0 H' /\ M_1 0 H' < M_1 (-1) H14)
  (hN : NeedsIs T (hiF h) 0 (needsAll T (hiF h))) : F_34_k3 (AssignP T h H) H s H1 H7 x12 I_1 M_1 (-1) H14 H15 := by
 unfold F_34_k3
 generalize hNN : needsAll T (hiF h) = N at *
 have hbo : BelOk T (-1) := ⟨by omega, fun hh => by omega⟩
 refine loop1 3 (fun k H' => (rootR T N h k).1 = 0 /\ AsB H' H7.size N (rootR T N h k).2.2 /\ Ext H7 H') ⟨rfl, a15, e15⟩ ?_
 rintro k H16 hk ⟨hr0, a16, e16⟩
 unfold F_34_r2
 obtain ⟨rb1, rb2⟩ := rootR_ok T N h k
 refine iteB_dec (fun d1 => ?_) (fun d1 => ?_)
 ·have hk3 : k < 3 := by omega
  have hsv := (spaceF_valid en.vh k).1
  refine ⟨fun fr H' => Rgs H' fr (spaceF h k) /\ AsB H' H7.size N (rootR T N h k).2.2 /\ Ext H7 H', iteB_pos (by decide) ?_, ?_⟩
  ·obtain ⟨p0, p1, p2, p3, p4, p5, p6, p7⟩ := Blk.host (en.blk.ext e16)
   refine ⟨_, p0, _, p1, _, p2, _, p3, _, p4, _, p5, _, p6, _, p7, (hostFree_spec h hs k H16 (en.m.ext e16) en.vh).mono ?_⟩
   rintro v H17 ⟨fr, rfl, o17, e17⟩
   exact ⟨fr, rfl, Own.is rkRange o17, a16.ext e17, e16.trans e17⟩
  ·rintro fr H20 ⟨f20, a20, e20⟩
   unfold F_34_k1
   rw [hx12, Int.toNat_natCast]
   have pb := placeBelow_spec T (hiF h) s fr (rootR T N h k).2.2 (-1) k (spaceF h k) H7.size H20 en.v en.o (en.topo.ext e20) hbo (by rw [hNN]; exact a20) (by rw [hNN]; exact rb2) f20 hsv.u64 en.len
   rw [hNN] at pb
   refine pb.mono ?_
   rintro v H21 ⟨rfl, a21, m21⟩
   have e21 : Ext H7 H21 := Mods.ext e20 m21 (by simp)
   have hstep : rootR T N h (k + 1) = plS T N (rootR T N h k).2.2 (-1) k (spaceF h k) := by
    show (if (rootR T N h k).1 ≠ 0 then rootR T N h k else _) = _
    rw [if_neg (fun hh => hh hr0)]
   rw [<- hstep] at a21 ⊢
   refine ⟨_, _, _, _, _, rfl, local_mk (vs := encC (rootR T N h (k + 1)).2.1) rfl rfl fun H23 e23 z23 b23 => iteB_bne (fun d2 => ?_) (fun d2 => next1 hk3 (by omega) ⟨d2, a21.ext e23, e21.trans e23⟩)⟩
   have hst : rootR T N h 3 = rootR T N h (k + 1) := by
    have := rootR_stick d2 (3 - (k + 1))
    rw [show k + 1 + (3 - (k + 1)) = 3 by omega] at this
    exact this
   refine ⟨_, b23.rd0 rfl, _, b23.rd (i := 1) rfl, _, b23.rd (i := 2) rfl, _, b23.rd (i := 3) rfl, ?_⟩
   have hlt1 := en.lt
   refine cert_wr (c := (rootR T N h (k + 1)).2.1) (K := fun v H' => AssignP T h H (.tuple #[.slice none 0 0, v, .int .i64 (rootR T N h (k + 1)).1]) H') (en.cert.ext (e21.trans e23)) (fun H' m' _ => ?_)
   exact AssignP.no (.inr ⟨⟨en.v, en.vh⟩, 0, N, hN, .inr (.inl ⟨rfl, by rw [hst]; exact d2, by rw [hst], rfl, by rw [hst]⟩)⟩) (Mods.ext (en.ext.trans (e21.trans e23)) m' (by simpa using hlt1))
 ·obtain rfl : k = 3 := by omega
  exact letV_mk 0 (by decide) (hI H16 hr0 a16 e16)

theorem asg_bridge (T : List FS) (s : Sl) (h : Host) (hs : HostS) (H H1 H7 : Heap) (en : AsE T s h hs H H1 H7) (x12 : Sl) (hx12 : x12.n = (needsAll T (hiF h)).length) (R : Value -> Heap -> Prop) (I_1 : Int -> Heap -> Prop) (M_1 : Int -> Heap -> Nat) (i : Nat) (hi : i < T.length) (hb : (fnAt T i).bridge = true) (B0 : List Int) (hB0 : Bnd B0 /\ B0.length = (needsAll T (hiF h)).length) (H14 H15 : Heap)
  (st : BrI T (needsAll T (hiF h)) B0 H7.size H7 i 0 H15) (hI : ∀ H', BrI T (needsAll T (hiF h)) B0 H7.size H7 (i + 1) 0 H' -> I_1 ((i + 1 : Nat) : Int) H' /\ M_1 ((i + 1 : Nat) : Int) H' < M_1 i H14) :
  F_34_k3 R H s H1 H7 x12 I_1 M_1 (i : Int) H14 H15 := by
 unfold F_34_k3
 have hl64 := en.v.1
 have hbo : BelOk T (i : Int) := ⟨by omega, fun _ => by rw [Int.toNat_natCast]; exact hb⟩
 have hok := needs_ok en.v en.o
 refine loop1 3 (fun c H' => BrI T (needsAll T (hiF h)) B0 H7.size H7 i c H') st ?_
 rintro c H16 hc st16
 unfold F_34_r2
 refine iteB_dec (fun d1 => ?_) (fun d1 => ?_)
 ·have hc3 : c < 3 := by omega
  have hBl := (brR_ok T (needsAll T (hiF h)) B0 hB0.1 (3 * i + c)).2
  rw [hB0.2] at hBl
  have bo := br_ok en.v en.o hBl hi hb hc3 st16.gd
  have hstep := brR_succ T (needsAll T (hiF h)) B0 (i := i) hc3
  generalize hBB : brR T (needsAll T (hiF h)) B0 (3 * i + c) = B at *
  have aB : AsB H16 H7.size (needsAll T (hiF h)) B := by rw [<- hBB]; exact st16.ab
  refine ⟨fun fr H' => ∃ free, (free = match atN (needsAll T (hiF h)) i (-1 - (c : Int)) with | some w => [winF (needsAll T (hiF h)) B w] | none => []) /\ Rgs H' fr free /\ Ext H16 H', iteB_neg (by simp) ?_, ?_⟩
  ·rw [hx12, Int.toNat_natCast]
   refine (window_spec H16 H7.size (needsAll T (hiF h)) B i c aB hBl (by have := en.len; omega) hc3 (fun x hx => (hok x hx).sz)).mono ?_
   rintro v H18 ⟨rfl, e18⟩
   unfold winV
   cases hw : atN (needsAll T (hiF h)) i (-1 - (c : Int)) with
   | none => exact ⟨_, _, _, rfl, iteB_neg (by simp) ⟨_, rfl, IsS.nil _ _ _, e18⟩⟩
   | some w =>
    refine ⟨_, _, _, rfl, iteB_pos rfl (push_mk (vs := encR (winF (needsAll T (hiF h)) B w)) fun H19 e19 z19 b19 => ⟨[winF (needsAll T (hiF h)) B w], rfl, IsS.of_blk encR_len b19 rfl (fun j v hv => by simpa using hv), e18.trans e19⟩)⟩
  ·rintro fr H20 ⟨free, hfree, f20, e20⟩
   unfold F_34_k1
   rw [hx12, Int.toNat_natCast]
   obtain ⟨q1, q2, q3⟩ := bo free hfree
   refine (placeBelow_spec T (hiF h) s fr B i c free H7.size H20 en.v en.o (en.topo.ext (st16.ext.trans e20)) hbo (aB.ext e20) hBl f20 q3 en.len).mono ?_
   rintro v H21 ⟨rfl, a21, m21⟩
   have e21 : Ext H7 H21 := Mods.ext (st16.ext.trans e20) m21 (by simp)
   obtain ⟨g1, g2⟩ := plS_good (free := free) hbo hBl q1
   rw [q2, <- hstep] at a21 g1 g2
   refine ⟨_, _, _, _, _, rfl, local_mk (vs := encC (plS T (needsAll T (hiF h)) B i c free).2.1) rfl rfl fun H23 e23 z23 b23 => iteB_neg (by rw [q1]; rfl) (next1 hc3 (by omega) ⟨a21.ext e23, fun p d p1 p2 d0 d3 => ?_, fun d d0 dc => ?_, e21.trans e23⟩)⟩
   ·have := st16.gd p d p1 p2 d0 d3
    rw [hBB] at this
    exact g2 p d (by omega) this
   ·by_cases e : d = c
    ·rw [e]; exact g1
    ·have := st16.gi d d0 (by omega)
     rw [hBB] at this
     exact g2 i d (fun hh => e hh.2) this
 ·obtain rfl : c = 3 := by omega
  exact letV_mk ((i + 1 : Nat) : Int) (by rw [i64_in (by omega)]; omega) (hI H16 st16.up)

theorem Assign_spec (T : List FS) (s : Sl) (h : Host) (hs : HostS) (H : Heap) (hT : Topo H s T) (hm : HostM H h hs) : CallsH Tryz.prog n_34 #[.slice s.p s.n s.c, hostV h hs] H (AssignP T h H) := by
 refine F_34_ok _ _ _ _ _ _ _ _ _ ?_
 unfold F_34
 have hn := hT.len
 refine push_mk (vs := hostL h hs) fun H1 e1 z1 b1 => push_mk (vs := encC noCert) fun H2 e2 z2 b2 => ?_
 have x2 := e1.trans e2
 refine ⟨fun b H' => (b = false ↔ ValidT T /\ ValidH h) /\ Ext H2 H', ?_, ?_⟩
 ·refine (eValid_spec T s H2 (hT.ext x2)).mono ?_
  rintro v H3 ⟨rfl, e3⟩
  refine ⟨_, rfl, iteB_not (fun c => ⟨by simp at c; simp [c], e3⟩) (fun c => ?_)⟩
  obtain ⟨p0, p1, p2, p3, p4, p5, p6, p7⟩ := Blk.host ((b1.ext e2).ext e3)
  refine ⟨_, p0, _, p1, _, p2, _, p3, _, p4, _, p5, _, p6, _, p7, (ValidHost_spec h hs H3 (hm.ext (x2.trans e3))).mono ?_⟩
  rintro v H4 ⟨rfl, e4⟩
  simp at c
  exact ⟨_, rfl, by simp [c], e3.trans e4⟩
 rintro b H5 ⟨hb, e5⟩
 unfold F_34_k6
 have x5 := x2.trans e5
 have c5 := b2.ext e5
 have hz1 : H.size <= H1.size := e1.size
 refine iteB_intro (fun c => ?_) (fun c => ?_)
 ·refine cert_wr (c := noCert) (K := fun v H' => AssignP T h H (.tuple #[.slice none 0 0, v, .int .i64 1]) H') c5 (fun H' m' _ => ?_)
  exact AssignP.no (.inl ⟨(fun hh => by have := hb.2 hh; rw [c] at this; cases this), rfl, rfl, rfl⟩) (Mods.ext x5 m' (by simpa using hz1))
 obtain ⟨hv, hvh⟩ := hb.1 c
 have hl64 := hv.1
 have p3 := (Blk.host ((b1.ext e2).ext e5)).2.2.2.1
 have hhigh : decide ((hs.high.n : Int) > 0) = hiF h := by
  have := hm.high.len
  unfold hiF
  rw [this]
  simp
 refine ⟨_, p3, ?_⟩
 rw [hhigh]
 refine (Needs_spec T s (hiF h) H5 (hT.ext x5)).mono ?_
 intro v H7 h7
 obtain ⟨ns, e0, N, rfl, isN, hNI, e7⟩ := h7.outI
 have x7 := x5.trans e7
 refine ⟨ns, e0, rfl, iteB_bne (fun d => ?_) (fun d => ?_)⟩
 ·refine cert_wr (c := noCert) (K := fun v H' => AssignP T h H (.tuple #[.slice none 0 0, v, .int .i64 e0]) H') (c5.ext e7) (fun H' m' _ => ?_)
  exact AssignP.no (.inr ⟨⟨hv, hvh⟩, e0, N, hNI, .inl ⟨d, rfl, rfl, rfl⟩⟩) (Mods.ext x7 m' (by simpa using hz1))
 subst d
 have hNl := hNI.len
 have hnn := isN.len
 obtain ⟨ho, hNe⟩ : ¬ Ovf T (hiF h) /\ N = needsAll T (hiF h) := by
  rcases hNI with ⟨_, h0, _⟩ | ⟨_, _, h0, _⟩ | ⟨_, ho, _, hN⟩
  ·cases h0
  ·cases h0
  ·exact ⟨ho, hN⟩
 have hNd := needs_ok hv ho
 have AI : ∀ {e A c}, ((0 : Int) = 0 /\ (rootR T N h 3).1 ≠ 0 /\ e = (rootR T N h 3).1 /\ A = [] /\ c = (rootR T N h 3).2.1) \/ ((0 : Int) = 0 /\ (rootR T N h 3).1 = 0 /\ e = 0 /\ A = N.zip (brR T N (rootR T N h 3).2.2 (3 * T.length)) /\ c = noCert) -> AssignIs T h e A c := fun hh => .inr ⟨⟨hv, hvh⟩, 0, N, hNI, .inr hh⟩
 refine ⟨by omega, by omega, by omega, letH_mk ?_⟩
 rw [Int.toNat_natCast]
 intro H9 h9
 have e9 : Ext H7 H9 := by rw [h9]; exact Ext.push _ _
 have a9 : RB H9 H7.size t_32 5 encA (List.replicate N.length ((0, 0, 0, 0), 0)) := by
  rw [h9, <- hnn]
  exact RB.zero H7 t_32 encA_len ns.n (.agg #[.int .i64 0, .int .i64 0, .int .i64 0, .int .i64 0, .int .u64 0]) (((0, 0, 0, 0), 0) : Asg) rfl
 have cs9 : CS H9 H7.size (N.length * 5) := by
  rw [h9, <- hnn]
  exact ⟨_, _, push_new _ _, by rw [zeroRow_size]; rfl⟩
 clear h9
 have hzz : H1.size < H7.size := by have := c5.lt; have := e7.size; omega
 refine loop1 N.length (fun k H' => RB H' H7.size t_32 5 encA ((N.take k).map (fun x => (x, 0)) ++ List.replicate (N.length - k) ((0, 0, 0, 0), 0)) /\ CS H' H7.size (N.length * 5) /\ Ext H7 H') ⟨by simpa using a9, cs9, e9⟩ ?_
 rintro k H10 hk ⟨a10, cs10, e10⟩
 unfold F_34_r5
 refine iteB_dec (fun d => ?_) (fun d => ?_)
 ·have hkn : k < N.length := by omega
  obtain ⟨a, hp, hr⟩ := IsS.atN (isN.ext e10) (0, 0, 0, 0) hkn
  have htk := take_succ_d (0, 0, 0, 0) hkn
  generalize N.getD k (0, 0, 0, 0) = x at *
  obtain ⟨x0, x1, x2', x3⟩ := x
  obtain ⟨m, hmm⟩ : ∃ m, N.length - k = m + 1 := ⟨N.length - k - 1, by omega⟩
  have hmk : N.length - (k + 1) = m := by omega
  rw [hmm, List.replicate_succ] at a10
  have hlk : ((N.take k).map (fun x => ((x, 0) : Asg))).length = k := by simp; omega
  have hget : ((N.take k).map (fun x => ((x, 0) : Asg)) ++ ((0, 0, 0, 0), 0) :: List.replicate m ((0, 0, 0, 0), 0))[k]? = some (((0, 0, 0, 0), 0) : Asg) := by
   rw [List.getElem?_append_right (by omega), hlk, Nat.sub_self]; rfl
  refine ⟨by omega, by omega, unSome_mk hp ⟨x0, hr 0 _ rfl, x1, hr 1 _ rfl, x2', hr 2 _ rfl, x3, hr 3 _ rfl, local_mk (vs := encN (x0, x1, x2', x3)) rfl rfl fun H12 e12 z12 b12 => ?_⟩⟩
  have a12 := RB.ext a10 e12
  have hw := RB.wrSub a12 (i := k) (j := 0) (x := ((0, 0, 0, 0), 0)) (y := ((x0, x1, x2', x3), 0)) (ws := [.int .i64 x0, .int .i64 x1, .int .i64 x2', .int .i64 x3]) hget (by simp) rfl
  rw [List.set_append_right _ _ (by omega), hlk, Nat.sub_self, List.set_cons_zero] at hw
  have hadd : ((⟨H7.size, 0, none⟩ : Addr).add (k * 5)).add 0 = (⟨H7.size, 0, none⟩ : Addr).add (k * 5) := by rw [add_add', Nat.add_zero]
  rw [hadd] at hw
  refine ⟨_, b12.rd0 rfl, _, b12.rd (i := 1) rfl, _, b12.rd (i := 2) rfl, _, b12.rd (i := 3) rfl, by omega, by omega, ?_, letH_mk ?_⟩
  ·rw [Int.toNat_natCast]; exact RB.ok0 a12 (by simp; omega) (by omega)
  ·intro H13 h13
   rw [Int.toNat_natCast] at h13
   refine next1 hkn (by omega) ⟨?_, by rw [h13]; exact (cs10.ext e12).wrs _ _, by rw [h13]; exact Mods.ext (e10.trans e12) (mods_wr_add (S := [H7.size]) (by simp)) (by simp)⟩
   rw [h13, hmk, htk, List.map_append, List.append_assoc]
   exact hw
 obtain rfl : k = N.length := by omega
 have a10' : AsB H10 H7.size N (List.replicate N.length 0) := by
  rw [Nat.sub_self, List.take_length] at a10
  have : (N.map (fun x => ((x, 0) : Asg)) ++ List.replicate 0 ((0, 0, 0, 0), 0)) = N.zip (List.replicate N.length 0) := by
   rw [List.replicate_zero, List.append_nil]
   apply List.ext_getElem?
   intro i
   by_cases hi : i < N.length
   ·simp [List.zip, hi]
   ·simp [List.zip, hi]
  rw [this] at a10
  exact ⟨a10, cs10⟩
 subst hNe
 have en : AsE T s h hs H H1 H7 := ⟨hT.ext x7, hm.ext x7, ((b1.ext e2).ext e5).ext e7, c5.ext e7, hv, hvh, ho, hNl, hz1, x7⟩
 obtain ⟨rk1, rk2⟩ := rootR_ok T (needsAll T (hiF h)) h 3
 refine ⟨fun b H' => (b = -1 /\ AsB H' H7.size (needsAll T (hiF h)) (rootR T (needsAll T (hiF h)) h 0).2.2 /\ Ext H7 H') \/ ∃ i : Nat, b = i /\ i <= T.length /\ (rootR T (needsAll T (hiF h)) h 3).1 = 0 /\ BrI T (needsAll T (hiF h)) (rootR T (needsAll T (hiF h)) h 3).2.2 H7.size H7 i 0 H', fun b _ => (T.length + 1 - b).toNat, .inl ⟨rfl, a10', e10⟩, ?_⟩
 rintro b H14 (⟨rfl, a14, e14⟩ | ⟨i, rfl, hi, hr0, st⟩)
 ·unfold F_34_r4
  refine iteB_pos (by simp; omega) ⟨fun H' => H' = H14, iteB_neg (by simp) rfl, ?_⟩
  rintro H15 rfl
  refine asg_root T s h hs H H1 H7 en ns hnn _ _ H15 H15 a14 e14 (fun H' q0 aq eq => ⟨.inr ⟨0, rfl, by omega, q0, aq, fun p d p1 p2 d0 d3 => ?_, fun d d0 d1 => by omega, eq⟩, by omega⟩) hNI
  obtain rfl : p = -1 := by omega
  exact rootR_good 3 (by omega) q0 d d0 d3
 ·unfold F_34_r4
  refine iteB_dec (fun d1 => ?_) (fun d1 => ?_)
  ·have hiT : i < T.length := by omega
   obtain ⟨a, hpa, hra⟩ := (hT.ext (x7.trans st.ext)).at hiT
   have p4 := (rdFn hra).2.2.2.2.1
   have up : ∀ H', BrI T (needsAll T (hiF h)) (rootR T (needsAll T (hiF h)) h 3).2.2 H7.size H7 (i + 1) 0 H' -> (((((i + 1 : Nat) : Int) = -1 /\ AsB H' H7.size (needsAll T (hiF h)) (rootR T (needsAll T (hiF h)) h 0).2.2 /\ Ext H7 H') \/ ∃ j : Nat, ((i + 1 : Nat) : Int) = j /\ j <= T.length /\ (rootR T (needsAll T (hiF h)) h 3).1 = 0 /\ BrI T (needsAll T (hiF h)) (rootR T (needsAll T (hiF h)) h 3).2.2 H7.size H7 j 0 H') /\ (T.length + 1 - ((i + 1 : Nat) : Int)).toNat < (T.length + 1 - (i : Int)).toNat) := fun H' s' => ⟨.inr ⟨i + 1, rfl, by omega, hr0, s'⟩, by omega⟩
   refine ⟨fun H' => H' = H14 /\ (fnAt T i).bridge = true, iteB_pos (by simp) ⟨by omega, by omega, unSome_mk hpa ⟨_, p4, iteB_not (fun d2 => letV_mk ((i + 1 : Nat) : Int) (by rw [i64_in (by omega)]; omega) (up H14 ?_)) (fun d2 => ⟨rfl, d2⟩)⟩⟩, ?_⟩
   ·have s0 : ∀ c, c < 3 -> brR T (needsAll T (hiF h)) (rootR T (needsAll T (hiF h)) h 3).2.2 (3 * i + (c + 1)) = brR T (needsAll T (hiF h)) (rootR T (needsAll T (hiF h)) h 3).2.2 (3 * i + c) := fun c hc => by rw [brR_succ T _ _ hc]; exact brStep_no hv hiT d2
    have e3 : brR T (needsAll T (hiF h)) (rootR T (needsAll T (hiF h)) h 3).2.2 (3 * (i + 1) + 0) = brR T (needsAll T (hiF h)) (rootR T (needsAll T (hiF h)) h 3).2.2 (3 * i + 0) := by
     rw [show 3 * (i + 1) + 0 = 3 * i + (2 + 1) by omega, s0 2 (by omega), s0 1 (by omega), s0 0 (by omega)]
    have g1 := st.ab
    have g2 := st.gd
    rw [<- e3] at g1 g2
    refine ⟨g1, fun p d p1 p2 d0 d3 => ?_, fun d d0 d1 => by omega, st.ext⟩
    by_cases c : p < i
    ·exact g2 p d p1 c d0 d3
    ·obtain rfl : p = i := by omega
     exact good_no hv (fun x hx => (hNd x hx).fn) d2 d
   ·rintro H15 ⟨rfl, hbr⟩
    exact asg_bridge T s h hs H H1 H7 en ns hnn _ _ _ i hiT hbr _ ⟨rk1, rk2⟩ H15 H15 st up
  ·obtain rfl : i = T.length := by omega
   have hbo := brR_ok T (needsAll T (hiF h)) (rootR T (needsAll T (hiF h)) h 3).2.2 rk1 (3 * T.length + 0)
   rw [hnn, Int.toNat_natCast]
   refine cert_wr (c := noCert) (K := fun v H' => AssignP T h H (.tuple #[.slice (some ⟨H7.size, 0, none⟩) (needsAll T (hiF h)).length (needsAll T (hiF h)).length, v, .int .i64 0]) H') (en.cert.ext st.ext) (fun H' m' _ => ?_)
   have a' := st.ab.mods m' (by simp; omega)
   have hzl : ((needsAll T (hiF h)).zip (brR T (needsAll T (hiF h)) (rootR T (needsAll T (hiF h)) h 3).2.2 (3 * T.length + 0))).length = (needsAll T (hiF h)).length := zip_len (by rw [hbo.2, rk2])
   have own := RB.own a'.rb (by rw [hzl]; exact a'.cs) (lo := H.size) (n := (needsAll T (hiF h)).length) (by omega) hzl.symm (by simp [maxLen]; omega)
   exact ⟨⟨some ⟨H7.size, 0, none⟩, (needsAll T (hiF h)).length, (needsAll T (hiF h)).length⟩, 0, _, noCert, rfl, AI (.inr ⟨rfl, hr0, rfl, rfl, rfl⟩), Own.is rkAsg own, own, Mods.ext (x7.trans st.ext) m' (by simpa using hz1)⟩

end Go.Proofs.YtnhhncjflnlfaaaGreat
end

section
/-
 Small functions of Check, of the program and of the reference: inside, overlap, covers, span.
-/
namespace Go.Proofs.YtnhhncjflnlfaaaGreat
open Go.Eng
set_option linter.unusedVariables false

def InSp (l : List Rg) (b n : Int) : Prop := ∃ r ∈ l, r.1 <= b /\ b + n <= r.1 + r.2
instance (l : List Rg) (b n : Int) : Decidable (InSp l b n) := by unfold InSp; infer_instance
theorem add_zero' (a : Addr) : a.add 0 = a := by unfold Addr.add; simp
def U64 (x : Int) : Prop := 0 <= x /\ x <= 18446744073709551615

theorem inSp_not {l : List Rg} {b n : Int} (h : ∀ i, i < l.length -> ¬ ((l.getD i (0, 0)).1 <= b /\ b + n <= (l.getD i (0, 0)).1 + (l.getD i (0, 0)).2)) : ¬ InSp l b n := fun ⟨r, hr, h1⟩ => by
 obtain ⟨i, hi, rfl⟩ := List.getElem_of_mem hr
 have e : l.getD i (0, 0) = l[i] := by simp [List.getD, hi]
 have := h i hi
 rw [e] at this
 exact this h1

theorem inside_spec (H : Heap) (s : Sl) (l : List Rg) (b n : Int) (h : Rgs H s l) (hu : U64L l) (hb : U64 b) (hn : U64 n) (hl : l.length <= 100000) :
  CallsH Tryz.prog n_50 #[.slice s.p s.n s.c, .int .u64 b, .int .u64 n] H (BoolP (decide (InSp l b n)) H) := by
 refine F_50_ok _ _ _ ?_
 unfold F_50
 have hsn := h.len
 unfold U64 at hb hn
 refine loop1 l.length (fun k H' => Ext H H' /\ ∀ i, i < k -> ¬ ((l.getD i (0, 0)).1 <= b /\ b + n <= (l.getD i (0, 0)).1 + (l.getD i (0, 0)).2)) ⟨.refl _, fun i hi => by omega⟩ ?_
 rintro k H1 hk ⟨e1, hno⟩
 unfold F_50_r1
 refine iteB_dec (fun c => ?_) (fun c => ⟨by rw [decide_eq_false (inSp_not (fun i hi => hno i (by omega)))], e1⟩)
 have hkn : k < l.length := by omega
 obtain ⟨a, hp, r0, r1⟩ := Rgs.atN (h.ext e1) hkn
 have hr := hu _ (getD_mem' (l := l) (k := k) (0, 0) hkn)
 have hyes : (l.getD k (0, 0)).1 <= b /\ b + n <= (l.getD k (0, 0)).1 + (l.getD k (0, 0)).2 -> InSp l b n := fun hh => ⟨_, getD_mem' (l := l) (k := k) (0, 0) hkn, hh⟩
 have hnx : ∀ H', Ext H H' -> ¬ ((l.getD k (0, 0)).1 <= b /\ b + n <= (l.getD k (0, 0)).1 + (l.getD k (0, 0)).2) -> CI l.length (fun k H' => Ext H H' /\ ∀ i, i < k -> ¬ ((l.getD i (0, 0)).1 <= b /\ b + n <= (l.getD i (0, 0)).1 + (l.getD i (0, 0)).2)) (IntKind.i64.wrap ((k : Int) + 1)) H' /\ CM l.length (IntKind.i64.wrap ((k : Int) + 1)) H' < CM l.length (k : Int) H1 := fun H' e' hq => next1 hkn (by omega) ⟨e', fun i hi => by
  by_cases e : i = k
  ·rw [e]; exact hq
  ·exact hno i (by omega)⟩
 generalize l.getD k (0, 0) = r at *
 refine ⟨by omega, by omega, unSome_mk hp ⟨_, r0, _, r1, local_mk (vs := encR r) rfl rfl fun H3 e3 z3 b3 => ?_⟩⟩
 have x3 := e1.trans e3
 refine ⟨_, b3.rd0 rfl, iteB_dec (fun c1 => ⟨_, b3.rd (i := 1) rfl, iteB_dec (fun c2 => ⟨_, b3.rd0 rfl, _, b3.rd (i := 1) rfl, ?_⟩) (fun c2 => hnx H3 x3 (by omega))⟩) (fun c1 => hnx H3 x3 (by omega))⟩
 rw [u64_in (n := b - r.1) (by omega), u64_in (n := r.2 - n) (by omega)]
 exact iteB_dec (fun c3 => ⟨by rw [decide_eq_true (hyes (by omega))], x3⟩) (fun c3 => hnx H3 x3 (by omega))

theorem sz_pow {k : Int} (h : 0 <= k /\ k <= 44) : IntKind.u64.wrap (1 * 2 ^ (min k.toNat IntKind.u64.bits)) = 2 ^ k.toNat := by
 have e : min k.toNat IntKind.u64.bits = k.toNat := by have : IntKind.u64.bits = 64 := rfl; omega
 rw [e, Int.one_mul]
 have := pow44 h
 exact u64_in (by omega)

def OvA (x y : Asg) : Prop := if x.2 < y.2 then y.2 - x.2 < 2 ^ x.1.2.2.2.toNat else x.2 - y.2 < 2 ^ y.1.2.2.2.toNat
instance (x y : Asg) : Decidable (OvA x y) := by unfold OvA; infer_instance

abbrev asgV (x : Asg) : Value := .agg #[.int .i64 x.1.1, .int .i64 x.1.2.1, .int .i64 x.1.2.2.1, .int .i64 x.1.2.2.2, .int .u64 x.2]
theorem overlap_spec (x y : Asg) (H : Heap) (hx : U64 x.2) (hy : U64 y.2) (sx : 0 <= x.1.2.2.2 /\ x.1.2.2.2 <= 44) (sy : 0 <= y.1.2.2.2 /\ y.1.2.2.2 <= 44) :
  CallsH Tryz.prog n_51 #[asgV x, asgV y] H (BoolP (decide (OvA x y)) H) := by
 refine F_51_ok _ _ _ _ _ _ _ _ _ _ ?_
 unfold F_51
 unfold U64 at hx hy
 refine push_mk (vs := encA x) fun H1 e1 z1 b1 => push_mk (vs := encA y) fun H2 e2 z2 b2 => ?_
 have b1' := b1.ext e2
 refine ⟨fun H' => ∃ u v : Asg, Blk H' H.size t_32 (encA u) /\ Blk H' H1.size t_32 (encA v) /\ (0 <= v.1.2.2.2 /\ v.1.2.2.2 <= 44) /\ (0 <= u.2 - v.2 /\ u.2 - v.2 <= 18446744073709551615) /\ (OvA x y ↔ u.2 - v.2 < 2 ^ v.1.2.2.2.toNat) /\ Ext H H', ⟨_, b1'.rd (i := 4) rfl, _, b2.rd (i := 4) rfl, iteB_dec (fun c => ?_) (fun c => ?_)⟩, ?_⟩
 ·refine ⟨_, b2.rd0 rfl, _, b2.rd (i := 1) rfl, _, b2.rd (i := 2) rfl, _, b2.rd (i := 3) rfl, _, b2.rd (i := 4) rfl, _, b1'.rd0 rfl, _, b1'.rd (i := 1) rfl, _, b1'.rd (i := 2) rfl, _, b1'.rd (i := 3) rfl, _, b1'.rd (i := 4) rfl, b1'.ok0 (Nat.le_refl 5), letH_mk ?_⟩
  intro H3 h3
  have b3 : Blk H3 H.size t_32 (encA y) := by rw [h3]; exact b1'.wr
  have m3 : Mods [H.size] H2 H3 := by rw [h3]; exact Mods.wrs (by simp)
  have d3 := b2.mods m3 (by simp; omega)
  clear h3
  refine ⟨d3.ok0 (Nat.le_refl 5), letH_mk ?_⟩
  intro H4 h4
  have b4 : Blk H4 H1.size t_32 (encA x) := by rw [h4]; exact d3.wr
  have m4 : Mods [H1.size] H3 H4 := by rw [h4]; exact Mods.wrs (by simp)
  refine ⟨y, x, b3.mods m4 (by simp; omega), b4, sx, by omega, ?_, Mods.ext (Mods.ext (e1.trans e2) m3 (by simp)) m4 (by simp; omega)⟩
  unfold OvA
  rw [if_pos c]
 ·refine ⟨x, y, b1', b2, sy, by omega, ?_, e1.trans e2⟩
  unfold OvA
  rw [if_neg c]
 ·rintro H5 ⟨u, v, bu, bv, sv, hd, hiff, e5⟩
  unfold F_51_k1
  refine ⟨_, bu.rd (i := 4) rfl, _, bv.rd (i := 4) rfl, _, bv.rd (i := 3) rfl, sv.1, ?_, e5⟩
  rw [sz_pow sv, u64_in hd]
  congr 1
  exact decide_eq_decide.2 hiff.symm

theorem covers_spec (T : List FS) (s sa : Sl) (high : Bool) (A : List Asg) (H : Heap) (hT : Topo H s T) (hA : IsS 5 encA H sa A) :
  CallsH Tryz.prog n_47 #[.slice s.p s.n s.c, .bool high, .slice sa.p sa.n sa.c] H (fun v H' => ∃ b : Bool, v = .bool b /\ (b = true ↔ NeedsIs T high 0 (A.map Prod.fst)) /\ Ext H H') := by
 refine F_47_ok _ _ _ ?_
 unfold F_47
 refine (Needs_spec T s high H hT).mono ?_
 intro v H1 h1
 obtain ⟨ns, e0, N, rfl, isN, hNI, e1⟩ := h1.outI
 have hNl := hNI.len
 have hnn := isN.len
 have han := hA.len
 refine ⟨ns, e0, rfl, iteB_bne (fun d => ⟨false, rfl, ⟨fun h => (by cases h), fun h => absurd (h.uni hNI).1.symm d⟩, e1⟩) (fun d => ?_)⟩
 subst d
 have heq : NeedsIs T high 0 (A.map Prod.fst) ↔ A.map Prod.fst = N := ⟨fun h => (h.uni hNI).2, fun h => by rw [h]; exact hNI⟩
 refine iteB_bne (fun d => ⟨false, rfl, ⟨fun h => (by cases h), fun h => ?_⟩, e1⟩) (fun d => ?_)
 ·have := congrArg List.length (heq.1 h)
  rw [List.length_map] at this
  omega
 have hlen : A.length = N.length := by omega
 refine loop1 N.length (fun k H' => Ext H H' /\ Ext H1 H' /\ ∀ i, i < k -> (A.getD i ((0, 0, 0, 0), 0)).1 = N.getD i (0, 0, 0, 0)) ⟨e1, .refl _, fun i hi => by omega⟩ ?_
 rintro k H2 hk ⟨e2, e12, hs⟩
 unfold F_47_r1
 refine iteB_dec (fun c => ?_) (fun c => ⟨true, rfl, ⟨fun _ => heq.2 ?_, fun _ => rfl⟩, e2⟩)
 ·have hkn : k < N.length := by omega
  obtain ⟨a, hp, hr⟩ := IsS.atN (isN.ext e12) (0, 0, 0, 0) hkn
  obtain ⟨a2, hp2, _⟩ := IsS.atN (hA.ext e2) ((0, 0, 0, 0), 0) (k := k) (by omega)
  have hgA : (A.map Prod.fst).getD k (0, 0, 0, 0) = (A.getD k ((0, 0, 0, 0), 0)).1 := by simp [List.getD, show k < A.length by omega]
  have hr0 : rd H2 (a.add ((k : Int).toNat * 4)) = some (.int .i64 (N.getD k (0, 0, 0, 0)).1) := by have := hr 0 _ rfl; rwa [add_zero'] at this
  refine ⟨by omega, by omega, unSome_mk hp ⟨_, hr0, _, hr 1 _ rfl, _, hr 2 _ rfl, _, hr 3 _ rfl, local_mk (vs := encN (N.getD k (0, 0, 0, 0))) rfl rfl fun H4 e4 z4 b4 => ?_⟩⟩
  obtain ⟨a3, hp3, hr3⟩ := IsS.atN (hA.ext (e2.trans e4)) ((0, 0, 0, 0), 0) (k := k) (by omega)
  have hr30 : rd H4 (a3.add ((k : Int).toNat * 5)) = some (.int .i64 (A.getD k ((0, 0, 0, 0), 0)).1.1) := by have := hr3 0 _ rfl; rwa [add_zero'] at this
  refine ⟨by omega, by omega, unSome_mk hp3 ⟨_, hr30, _, hr3 1 _ rfl, _, hr3 2 _ rfl, _, hr3 3 _ rfl, _, b4.rd0 rfl, _, b4.rd (i := 1) rfl, _, b4.rd (i := 2) rfl, _, b4.rd (i := 3) rfl, ?_⟩⟩
  generalize hx : (A.getD k ((0, 0, 0, 0), 0)).1 = x at *
  generalize hy : N.getD k (0, 0, 0, 0) = y at *
  obtain ⟨x0, x1, x2, x3⟩ := x
  obtain ⟨y0, y1, y2, y3⟩ := y
  refine iteB_intro (fun q => ⟨false, rfl, ⟨fun h => (by cases h), fun h => ?_⟩, e2.trans e4⟩) (fun q => next1 hkn (by omega) ⟨e2.trans e4, e12.trans e4, fun i hi => ?_⟩)
  ·exfalso
   have := heq.1 h
   rw [this, hy] at hgA
   simp only [Prod.mk.injEq] at hgA
   obtain ⟨rfl, rfl, rfl, rfl⟩ := hgA
   simp at q
  ·by_cases e : i = k
   ·rw [e, hx, hy]
    simp at q
    obtain ⟨rfl, rfl, rfl, rfl⟩ := q
    rfl
   ·exact hs i (by omega)
 ·apply List.ext_getElem
  ·rw [List.length_map]; exact hlen
  ·intro i h1 h2
   have := hs i (by omega)
   have e1 : A.getD i ((0, 0, 0, 0), 0) = A[i]'(by simpa using h1) := by simp [List.getD, show i < A.length by simpa using h1]
   have e2 : N.getD i (0, 0, 0, 0) = N[i] := by simp [List.getD, h2]
   rw [e1, e2] at this
   simpa using this

end Go.Proofs.YtnhhncjflnlfaaaGreat
end

section
/-
 The program's Check and the reference's Check.
-/
namespace Go.Proofs.YtnhhncjflnlfaaaGreat
open Go.Eng
set_option linter.unusedVariables false

def zA : Asg := ((0, 0, 0, 0), 0)
def parA (T : List FS) (x : Asg) : Int := (fnAt T x.1.1.toNat).parent
abbrev clA (x : Asg) : Int := x.1.2.2.1
abbrev szA (x : Asg) : Nat := x.1.2.2.2.toNat
def spaceAt (T : List FS) (h : Host) (A : List Asg) (x : Asg) : List Rg :=
 if 0 <= parA T x then (match atN (A.map Prod.fst) (parA T x) (-1 - clA x) with | some w => [winF (A.map Prod.fst) (A.map Prod.snd) w] | none => []) else spaceF h (clA x)
structure ChkAt (T : List FS) (h : Host) (A : List Asg) (i : Nat) : Prop where
 al : (A.getD i zA).2 % 2 ^ szA (A.getD i zA) = 0
 sp : InSp (spaceAt T h A (A.getD i zA)) (A.getD i zA).2 (2 ^ szA (A.getD i zA))
 ne : ∀ k, k < i -> parA T (A.getD k zA) = parA T (A.getD i zA) -> clA (A.getD k zA) = clA (A.getD i zA) -> ¬ OvA (A.getD i zA) (A.getD k zA)
structure ChkIs (T : List FS) (h : Host) (A : List Asg) : Prop where
 v : ValidT T
 vh : ValidH h
 nd : NeedsIs T (hiF h) 0 (A.map Prod.fst)
 at' : ∀ i, i < A.length -> ChkAt T h A i

theorem NeedsIs.all {T : List FS} {high : Bool} {N : List Need} (h : NeedsIs T high 0 N) : ValidT T /\ ¬ Ovf T high /\ N = needsAll T high := by
 rcases h with ⟨_, h0, _⟩ | ⟨_, _, h0, _⟩ | ⟨hv, ho, _, hN⟩
 ·cases h0
 ·cases h0
 ·exact ⟨hv, ho, hN⟩

theorem needs_asc (T : List FS) (high : Bool) : (needsAll T high).Pairwise (fun a b => a.1 <= b.1) := by
 unfold needsAll
 rw [List.pairwise_flatMap]
 refine ⟨fun i hi => ?_, ?_⟩
 ·have hi' := List.mem_range.1 hi
  rw [List.pairwise_iff_getElem]
  intro a b ha hb hab
  have h1 := needsAt_fst hi' _ (List.getElem_mem ha)
  have h2 := needsAt_fst hi' _ (List.getElem_mem hb)
  omega
 ·have key : ∀ n, n <= T.length -> (List.range n).Pairwise (fun a b => ∀ x ∈ needsAt T high a, ∀ y ∈ needsAt T high b, x.1 <= y.1) := by
   intro n hn
   rw [List.pairwise_iff_getElem]
   intro a b ha hb hab x hx y hy
   have ha' : a < n := by simpa using ha
   have hb' : b < n := by simpa using hb
   rw [List.getElem_range] at hx hy
   have h1 := needsAt_fst (by omega) x hx
   have h2 := needsAt_fst (by omega) y hy
   omega
  exact key _ (Nat.le_refl _)
theorem needs_le {T : List FS} {high : Bool} {j k : Nat} (hjk : j <= k) (hk : k < (needsAll T high).length) : ((needsAll T high).getD j (0, 0, 0, 0)).1 <= ((needsAll T high).getD k (0, 0, 0, 0)).1 := by
 by_cases e : j = k
 ·subst e; exact Int.le_refl _
 ·have := List.pairwise_iff_getElem.1 (needs_asc T high) j k (by omega) hk (by omega)
  simpa [List.getD, show j < (needsAll T high).length by omega, hk] using this

theorem win_at {T : List FS} {high : Bool} (hv : ValidT T) (ho : ¬ Ovf T high) {i : Nat} (hi : i < (needsAll T high).length) (hp : 0 <= (fnAt T ((needsAll T high).getD i (0, 0, 0, 0)).1.toNat).parent) :
  ∃ w, atN (needsAll T high) (fnAt T ((needsAll T high).getD i (0, 0, 0, 0)).1.toNat).parent (-1 - ((needsAll T high).getD i (0, 0, 0, 0)).2.2.1) = some w /\ w < i /\ w < (needsAll T high).length := by
 have hm := getD_mem' (l := needsAll T high) (k := i) (0, 0, 0, 0) hi
 have hok := needs_ok hv ho _ hm
 have hle := fun w (h : i <= w) (hw : w < (needsAll T high).length) => needs_le (T := T) (high := high) h hw
 generalize (needsAll T high).getD i (0, 0, 0, 0) = x at *
 have hpa := (hv.2 x.1.toNat (by have := hok.fn; omega)).pa
 have hbr := (hv.2 x.1.toNat (by have := hok.fn; omega)).br hp
 generalize hq : (fnAt T x.1.toNat).parent = p at *
 obtain ⟨pn, rfl⟩ : ∃ pn : Nat, p = pn := ⟨p.toNat, by omega⟩
 obtain ⟨cn, hcn⟩ : ∃ cn : Nat, x.2.2.1 = cn := ⟨x.2.2.1.toNat, by have := hok.cl; omega⟩
 have hfn := hok.fn
 have hcl := hok.cl
 have hne : belF T (needsAll T high) pn cn ≠ [] := by
  have : x ∈ belF T (needsAll T high) pn cn := by
   unfold belF
   rw [if_pos ⟨⟨by omega, by omega⟩, fun _ => hbr⟩]
   refine List.mem_filter.2 ⟨hm, ?_⟩
   unfold belQ
   rw [decide_eq_true_eq]
   exact ⟨hcn, hok.fn, hq⟩
  intro e
  rw [e] at this
  cases this
 obtain ⟨w, h1, h2, h3, _⟩ := win_exists hv ho (i := pn) (c := cn) (by omega) (by omega) hne
 rw [hcn]
 refine ⟨w, h1, ?_, h2⟩
 apply Classical.byContradiction
 intro hn
 have := hle w (by omega) h2
 omega

theorem map_getD1 {A : List Asg} {i : Nat} (hi : i < A.length) : (A.map Prod.fst).getD i (0, 0, 0, 0) = (A.getD i zA).1 := by simp [List.getD, hi]
theorem map_getD2 {A : List Asg} {i : Nat} (hi : i < A.length) : (A.map Prod.snd).getD i 0 = (A.getD i zA).2 := by simp [List.getD, hi]

theorem chk_nd {T : List FS} {high : Bool} {A : List Asg} (h : NeedsIs T high 0 (A.map Prod.fst)) : ∀ i, i < A.length -> NdOk T (A.getD i zA).1 /\ (0 <= parA T (A.getD i zA) -> ∃ w, atN (A.map Prod.fst) (parA T (A.getD i zA)) (-1 - clA (A.getD i zA)) = some w /\ w < i /\ w < A.length) := by
 intro i hi
 obtain ⟨hv, ho, hN⟩ := h.all
 have hl : (needsAll T high).length = A.length := by rw [<- hN]; simp
 have e := map_getD1 hi
 rw [hN] at e
 refine ⟨by rw [<- e]; exact needs_ok hv ho _ (getD_mem' _ (by omega)), fun hp => ?_⟩
 rw [hN]
 have hw := win_at hv ho (i := i) (by omega) (by rw [e]; exact hp)
 rw [e] at hw
 obtain ⟨w, h1, h2, h3⟩ := hw
 exact ⟨w, h1, h2, by omega⟩

theorem chk_bound {T : List FS} {h : Host} {A : List Asg} (hn : NeedsIs T (hiF h) 0 (A.map Prod.fst)) (vh : ValidH h) : ∀ i, i < A.length -> (∀ j, j <= i -> InSp (spaceAt T h A (A.getD j zA)) (A.getD j zA).2 (2 ^ szA (A.getD j zA))) -> (A.getD i zA).2 + 2 ^ szA (A.getD i zA) <= 4503599627370496 := by
 intro i
 induction i using Nat.strongRecOn with
 | _ i ih =>
  intro hi hs
  obtain ⟨hnd, hw⟩ := chk_nd hn i hi
  obtain ⟨r, hr, h1, h2⟩ := hs i (Nat.le_refl _)
  unfold spaceAt at hr
  split at hr
  ·rename_i hp
   obtain ⟨w, e, h3, h4⟩ := hw hp
   rw [e] at hr
   simp at hr
   have := ih w h3 h4 (fun j hj => hs j (by omega))
   subst hr
   unfold winF at h2
   rw [map_getD1 h4, map_getD2 h4] at h2
   dsimp only at h2
   unfold szA at *
   omega
  ·have := (spaceF_valid vh (clA (A.getD i zA))).1.2 r hr
   unfold RgOk at this
   omega

theorem window_specS (H : Heap) (s : Sl) (A : List Asg) (i : Int) (c : Nat) (h : IsS 5 encA H s A) (hn : A.length <= 100000) (hc : c < 3) (hsz : ∀ j, j < A.length -> 0 <= (A.getD j zA).1.2.2.2 /\ (A.getD j zA).1.2.2.2 <= 44) :
  CallsH Tryz.prog n_49 #[.slice s.p s.n s.c, .int .i64 i, .int .i64 (c : Int)] H (fun v H' => v = winV (A.map Prod.fst) (A.map Prod.snd) i c /\ Ext H H') := by
 refine F_49_ok _ _ _ ?_
 unfold F_49
 have hsn := h.len
 refine loop1 A.length (fun k H' => Ext H H' /\ ∀ j, j < k -> nq i (-1 - (c : Int)) ((A.map Prod.fst).getD j (0, 0, 0, 0)) = false) ⟨.refl _, fun j hj => by omega⟩ ?_
 rintro k H1 hk ⟨e1, hno⟩
 unfold F_49_r2
 have ec : IntKind.i64.wrap (-1 - (c : Int)) = -1 - (c : Int) := i64_in (by omega)
 refine iteB_dec (fun d => ?_) (fun d => ?_)
 ·have hkn : k < A.length := by omega
  obtain ⟨a, hp, hr⟩ := IsS.atN (h.ext e1) zA hkn
  have r0 : rd H1 (a.add ((k : Int).toNat * 5)) = some (.int .i64 (A.getD k zA).1.1) := by have := hr 0 _ rfl; rwa [add_zero'] at this
  have hs := hsz k hkn
  have m1 := map_getD1 hkn
  have m2 := map_getD2 hkn
  have hse : nq i (-1 - (c : Int)) (A.getD k zA).1 = true -> atN (A.map Prod.fst) i (-1 - (c : Int)) = some k := fun hq => atN_some (by simpa using hkn) (by rw [m1]; exact hq) hno
  refine ⟨by omega, by omega, unSome_mk hp ⟨_, r0, _, hr 1 _ rfl, _, hr 2 _ rfl, _, hr 3 _ rfl, _, hr 4 _ rfl, local_mk (vs := encA (A.getD k zA)) rfl rfl fun H3 e3 z3 b3 => ⟨fun b H' => b = nq i (-1 - (c : Int)) (A.getD k zA).1 /\ H' = H3, ⟨_, b3.rd0 rfl, iteB_beq (fun q => ⟨_, b3.rd (i := 1) rfl, ?_, rfl⟩) (fun q => ⟨?_, rfl⟩)⟩, ?_⟩⟩⟩
  ·rw [ec]
   exact beq_dec1 ⟨fun h => h.2, fun h => ⟨q, h⟩⟩
  ·exact (decide_eq_false (fun h => q h.1)).symm
  ·rintro b H4 ⟨rfl, rfl⟩
   unfold F_49_k1
   refine iteB_intro (fun q => ⟨_, b3.rd (i := 4) rfl, _, b3.rd (i := 3) rfl, hs.1, letV_mk (2 ^ szA (A.getD k zA)) (sz_pow hs) ⟨?_, e1.trans e3⟩⟩) (fun q => next1 hkn (by omega) ⟨e1.trans e3, fun j hj => ?_⟩)
   ·unfold winV
    rw [hse q]
    dsimp only
    rw [m1, m2]
   ·by_cases e : j = k
    ·rw [e, m1]; exact q
    ·exact hno j (by omega)
 ·obtain rfl : k = A.length := by omega
  refine ⟨?_, e1⟩
  unfold winV
  rw [atN_none (fun j hj => hno j (by simpa using hj))]

structure CkE (T : List FS) (s : Sl) (h : Host) (hs : HostS) (A : List Asg) (sa : Sl) (H H4 : Heap) : Prop where
 topo : Topo H4 s T
 m : HostM H4 h hs
 blk : Blk H4 H.size t_27 (hostL h hs)
 isA : IsS 5 encA H4 sa A
 v : ValidT T
 vh : ValidH h
 nd : NeedsIs T (hiF h) 0 (A.map Prod.fst)
 cap : sa.n <= sa.c
 u : ∀ i, i < A.length -> U64 (A.getD i zA).2
 ext : Ext H H4
theorem CkE.go {T : List FS} {s : Sl} {h : Host} {hs : HostS} {A : List Asg} {sa : Sl} {H H4 H' : Heap} (en : CkE T s h hs A sa H H4) (e : Ext H4 H') : CkE T s h hs A sa H H' :=
 ⟨en.topo.ext e, en.m.ext e, en.blk.ext e, en.isA.ext e, en.v, en.vh, en.nd, en.cap, en.u, en.ext.trans e⟩
theorem CkE.len {T : List FS} {s : Sl} {h : Host} {hs : HostS} {A : List Asg} {sa : Sl} {H H4 : Heap} (en : CkE T s h hs A sa H H4) : A.length <= 1000 := by
 have := en.nd.len
 simpa using this
def ChkP (T : List FS) (h : Host) (A : List Asg) (H : Heap) (v : Value) (H' : Heap) : Prop := ∃ b : Bool, v = .bool b /\ (b = true ↔ ChkIs T h A) /\ Ext H H'
theorem ChkP.no {T : List FS} {h : Host} {A : List Asg} {H H' : Heap} (hn : ¬ ChkIs T h A) (e : Ext H H') : ChkP T h A H (.bool false) H' := ⟨false, rfl, ⟨fun h => (by cases h), fun h => absurd h hn⟩, e⟩

structure Roots (h : Host) (b : Nat) (k : Nat) (f : Nat -> Sl) (H : Heap) : Prop where
 blk : Blk H b t_91 (tab 3 (fun i => .slice (f i).p (f i).n (f i).c))
 rg : ∀ j, j < k -> Rgs H (f j) (spaceF h j)
 new : ∀ j, j < k -> ∀ a, (f j).p = some a -> b < a.block
theorem Roots.ext {h : Host} {b k : Nat} {f : Nat -> Sl} {H H' : Heap} (r : Roots h b k f H) (e : Ext H H') : Roots h b k f H' := ⟨r.blk.ext e, fun j hj => (r.rg j hj).ext e, r.new⟩

theorem chk_inner (T : List FS) (s : Sl) (h : Host) (hs : HostS) (A : List Asg) (sa : Sl) (H H14 : Heap) (en : CkE T s h hs A sa H H14) (i : Nat) (hi : i < A.length) (I_1 : Int -> Heap -> Prop) (M_1 : Int -> Heap -> Nat) (H9 : Heap) (space : Sl)
  (b9 : Blk H14 H9.size t_32 (encA (A.getD i zA))) (hsp : Rgs H14 space (spaceAt T h A (A.getD i zA))) (hsu : U64L (spaceAt T h A (A.getD i zA))) (hsl : (spaceAt T h A (A.getD i zA)).length <= 100000) (hal : (A.getD i zA).2 % 2 ^ szA (A.getD i zA) = 0)
  (hI : ∀ H', ChkAt T h A i -> Ext H14 H' -> I_1 (IntKind.i64.wrap ((i : Int) + 1)) H' /\ M_1 (IntKind.i64.wrap ((i : Int) + 1)) H' < M_1 i H9) :
  F_15_k2 (ChkP T h A H) s sa I_1 M_1 i H9 (2 ^ szA (A.getD i zA)) (parA T (A.getD i zA)) (clA (A.getD i zA)) space H14 := by
 unfold F_15_k2
 have hAl := en.len
 have hsn := en.isA.len
 have hcap := en.cap
 obtain ⟨hnd, _⟩ := chk_nd en.nd i hi
 have hpw := pow44 hnd.sz
 have hub := en.u i hi
 refine ⟨_, b9.rd (i := 4) rfl, (inside_spec H14 space _ _ _ hsp hsu hub (by unfold U64 szA; omega) hsl).mono ?_⟩
 rintro v H15 ⟨rfl, e15⟩
 refine ⟨_, rfl, iteB_not (fun c => ChkP.no (fun hc => ?_) (en.ext.trans e15)) (fun c => ?_)⟩
 ·have := (hc.at' i hi).sp
  simp at c
  exact c this
 have hins : InSp (spaceAt T h A (A.getD i zA)) (A.getD i zA).2 (2 ^ szA (A.getD i zA)) := by simpa using c
 refine ⟨by omega, by omega, ?_⟩
 refine loop1 i (fun k H' => Ext H14 H' /\ ∀ m, m < k -> parA T (A.getD m zA) = parA T (A.getD i zA) -> clA (A.getD m zA) = clA (A.getD i zA) -> ¬ OvA (A.getD i zA) (A.getD m zA)) ⟨e15, fun m hm => by omega⟩ ?_
 rintro k H16 hk ⟨e16, hno⟩
 unfold F_15_r1
 rw [slP0, Int.toNat_natCast]
 refine iteB_dec (fun d => ?_) (fun d => ?_)
 ·have hki : k < i := by omega
  obtain ⟨a, hp, hr⟩ := IsS.atN (en.isA.ext e16) zA (k := k) (by omega)
  have r0 : rd H16 (a.add ((k : Int).toNat * 5)) = some (.int .i64 (A.getD k zA).1.1) := by have := hr 0 _ rfl; rwa [add_zero'] at this
  obtain ⟨hnk, _⟩ := chk_nd en.nd k (by omega)
  have huk := en.u k (by omega)
  have hnx : ∀ H', Ext H14 H' -> (parA T (A.getD k zA) = parA T (A.getD i zA) -> clA (A.getD k zA) = clA (A.getD i zA) -> ¬ OvA (A.getD i zA) (A.getD k zA)) ->
    CI i (fun k H' => Ext H14 H' /\ ∀ m, m < k -> parA T (A.getD m zA) = parA T (A.getD i zA) -> clA (A.getD m zA) = clA (A.getD i zA) -> ¬ OvA (A.getD i zA) (A.getD m zA)) (IntKind.i64.wrap ((k : Int) + 1)) H' /\ CM i (IntKind.i64.wrap ((k : Int) + 1)) H' < CM i (k : Int) H16 := fun H' e' hq => next1 hki (by omega) ⟨e', fun m hm => by
   by_cases e : m = k
   ·rw [e]; exact hq
   ·exact hno m (by omega)⟩
  have hbad : parA T (A.getD k zA) = parA T (A.getD i zA) -> clA (A.getD k zA) = clA (A.getD i zA) -> OvA (A.getD i zA) (A.getD k zA) -> ¬ ChkIs T h A := fun h1 h2 h3 hc => (hc.at' i hi).ne k hki h1 h2 h3
  have hfn := hnk.fn
  obtain ⟨fi, hfi⟩ : ∃ fi : Nat, (A.getD k zA).1.1 = fi := ⟨(A.getD k zA).1.1.toNat, by omega⟩
  have hfT : fi < T.length := by omega
  have hpk : parA T (A.getD k zA) = (fnAt T fi).parent := by unfold parA; rw [hfi, Int.toNat_natCast]
  have hTn := en.topo.len
  refine ⟨by omega, by omega, unSome_mk hp ⟨_, r0, _, hr 1 _ rfl, _, hr 2 _ rfl, _, hr 3 _ rfl, _, hr 4 _ rfl, local_mk (vs := encA (A.getD k zA)) rfl rfl fun H18 e18 z18 b18 => ?_⟩⟩
  obtain ⟨af, hpf, hrf⟩ := (en.topo.ext (e16.trans e18)).at hfT
  have pf := (rdFn hrf).1
  have c9 := b9.ext (e16.trans e18)
  refine ⟨_, b18.rd0 rfl, by rw [hfi]; omega, by rw [hfi]; omega, unSome_mk hpf ⟨_, by rw [hfi]; exact pf, iteB_beq (fun q1 => ⟨_, b18.rd (i := 2) rfl, iteB_beq (fun q2 => ?_) (fun q2 => hnx H18 (e16.trans e18) (fun _ h2 => absurd h2 q2))⟩) (fun q1 => hnx H18 (e16.trans e18) (fun h1 => absurd h1 (by rw [hpk]; exact q1)))⟩⟩
  refine ⟨_, c9.rd0 rfl, _, c9.rd (i := 1) rfl, _, c9.rd (i := 2) rfl, _, c9.rd (i := 3) rfl, _, c9.rd (i := 4) rfl, _, b18.rd0 rfl, _, b18.rd (i := 1) rfl, _, b18.rd (i := 2) rfl, _, b18.rd (i := 3) rfl, _, b18.rd (i := 4) rfl, (overlap_spec (A.getD i zA) (A.getD k zA) H18 hub huk hnd.sz hnk.sz).mono ?_⟩
  rintro v H19 ⟨rfl, e19⟩
  have x19 := (e16.trans e18).trans e19
  exact ⟨_, rfl, iteB_dec (fun q3 => ChkP.no (hbad (by rw [hpk]; exact q1) q2 q3) (en.ext.trans x19)) (fun q3 => hnx H19 x19 (fun _ _ => q3))⟩
 ·obtain rfl : k = i := by omega
  exact hI H16 ⟨hal, hins, hno⟩ e16

theorem chk_round (T : List FS) (s : Sl) (h : Host) (hs : HostS) (A : List Asg) (sa : Sl) (H H4 H9 : Heap) (en : CkE T s h hs A sa H H9) (f : Nat -> Sl) (ro : Roots h H4.size 3 f H9) (i : Nat) (hi : i < A.length) (I_1 : Int -> Heap -> Prop) (M_1 : Int -> Heap -> Nat)
  (hI : ∀ H', ChkAt T h A i -> Ext H9 H' -> I_1 (IntKind.i64.wrap ((i : Int) + 1)) H' /\ M_1 (IntKind.i64.wrap ((i : Int) + 1)) H' < M_1 i H9) :
  F_15_r3 (ChkP T h A H) s sa H4 I_1 M_1 i H9 := by
 unfold F_15_r3
 have hAl := en.len
 have hsn := en.isA.len
 refine iteB_pos (by simp; omega) ?_
 obtain ⟨hnd, hw⟩ := chk_nd en.nd i hi
 obtain ⟨a, hp, hr⟩ := IsS.atN en.isA zA (k := i) hi
 have r0 : rd H9 (a.add ((i : Int).toNat * 5)) = some (.int .i64 (A.getD i zA).1.1) := by have := hr 0 _ rfl; rwa [add_zero'] at this
 have hpw := pow44 hnd.sz
 have hub := en.u i hi
 refine ⟨by omega, by omega, unSome_mk hp ⟨_, r0, _, hr 1 _ rfl, _, hr 2 _ rfl, _, hr 3 _ rfl, _, hr 4 _ rfl, local_mk (vs := encA (A.getD i zA)) rfl rfl fun H11 e11 z11 b11 => ?_⟩⟩
 have hfn := hnd.fn
 obtain ⟨fi, hfi⟩ : ∃ fi : Nat, (A.getD i zA).1.1 = fi := ⟨(A.getD i zA).1.1.toNat, by omega⟩
 have hfT : fi < T.length := by omega
 have hpk : parA T (A.getD i zA) = (fnAt T fi).parent := by unfold parA; rw [hfi, Int.toNat_natCast]
 have hTn := en.topo.len
 obtain ⟨af, hpf, hrf⟩ := (en.topo.ext e11).at hfT
 have pf := (rdFn hrf).1
 refine ⟨_, b11.rd (i := 3) rfl, hnd.sz.1, letV_mk (2 ^ szA (A.getD i zA)) (sz_pow hnd.sz) ⟨_, b11.rd (i := 4) rfl, by unfold szA; omega, ?_⟩⟩
 have hub' := hub
 unfold U64 at hub'
 rw [Int.tmod_eq_emod_of_nonneg hub'.1]
 refine iteB_bne (fun d => ChkP.no (fun hc => d (hc.at' i hi).al) (en.ext.trans e11)) (fun d => ?_)
 have hcl := hnd.cl
 obtain ⟨cn, hcn⟩ : ∃ cn : Nat, clA (A.getD i zA) = cn := ⟨(clA (A.getD i zA)).toNat, by unfold clA; omega⟩
 have hc3 : cn < 3 := by unfold clA at hcn; omega
 refine ⟨_, b11.rd0 rfl, by rw [hfi]; omega, by rw [hfi]; omega, unSome_mk hpf ⟨_, by rw [hfi]; exact pf, _, b11.rd (i := 2) rfl, hcl.1, by omega, ?_⟩⟩
 rw [<- hpk]
 have hroot : rd H11 ((⟨H4.size, 0, none⟩ : Addr).add ((clA (A.getD i zA)).toNat * 1)) = some (.slice (f cn).p (f cn).n (f cn).c) := by
  rw [hcn, Int.toNat_natCast, Nat.mul_one]
  exact (ro.blk.ext e11).rd (tab_get hc3)
 have hwin : ∀ w, w < A.length -> U64L [winF (A.map Prod.fst) (A.map Prod.snd) w] := fun w hw r hr => by
  simp at hr
  subst hr
  unfold winF
  rw [map_getD1 hw, map_getD2 hw]
  have h1 := en.u w hw
  have h2 := pow44 (chk_nd en.nd w hw).1.sz
  unfold U64 at h1
  dsimp only
  omega
 refine ⟨f cn, hroot, fun sp H' => Rgs H' sp (spaceAt T h A (A.getD i zA)) /\ U64L (spaceAt T h A (A.getD i zA)) /\ (spaceAt T h A (A.getD i zA)).length <= 100000 /\ Ext H11 H', iteB_dec (fun q => ?_) (fun q => ?_), ?_⟩
 ·obtain ⟨w, hat, hwi, hwl⟩ := hw q
  have he : spaceAt T h A (A.getD i zA) = [winF (A.map Prod.fst) (A.map Prod.snd) w] := by
   unfold spaceAt
   rw [if_pos q, hat]
  show CallsH Tryz.prog n_49 #[.slice sa.p sa.n sa.c, .int .i64 (parA T (A.getD i zA)), .int .i64 (clA (A.getD i zA))] H11 _
  rw [hcn] at hat ⊢
  refine (window_specS H11 sa A (parA T (A.getD i zA)) cn (en.isA.ext e11) (by omega) hc3 (fun j hj => (chk_nd en.nd j hj).1.sz)).mono ?_
  rintro v H12 ⟨rfl, e12⟩
  unfold winV
  rw [hat]
  refine ⟨_, _, _, rfl, iteB_neg (by simp) (push_mk (vs := encR (winF (A.map Prod.fst) (A.map Prod.snd) w)) fun H13 e13 z13 b13 => ?_)⟩
  rw [he]
  exact ⟨IsS.of_blk encR_len b13 rfl (fun j v hv => by simpa using hv), hwin w hwl, by simp, e12.trans e13⟩
 ·have he : spaceAt T h A (A.getD i zA) = spaceF h cn := by
   unfold spaceAt
   rw [if_neg q, hcn]
  rw [he]
  have hv := (spaceF_valid en.vh cn).1
  exact ⟨(ro.rg cn hc3).ext e11, hv.u64, by have := hv.1; omega, .refl _⟩
 ·rintro sp H14 ⟨h1, h2, h3, e14⟩
  exact chk_inner T s h hs A sa H H14 (en.go (e11.trans e14)) i hi I_1 M_1 H9 sp (b11.ext e14) h1 h2 h3 d (fun H' hc e' => hI H' hc ((e11.trans e14).trans e'))

theorem Check_spec (T : List FS) (s : Sl) (h : Host) (hs : HostS) (A : List Asg) (sa : Sl) (H : Heap) (hT : Topo H s T) (hm : HostM H h hs) (hA : IsS 5 encA H sa A) (hc : sa.n <= sa.c) (hu : ∀ i, i < A.length -> U64 (A.getD i zA).2) :
  CallsH Tryz.prog n_15 #[.slice s.p s.n s.c, hostV h hs, .slice sa.p sa.n sa.c] H (ChkP T h A H) := by
 refine F_15_ok _ _ _ _ _ _ _ _ _ _ ?_
 unfold F_15
 refine push_mk (vs := hostL h hs) fun H1 e1 z1 b1 => (eValid_spec T s H1 (hT.ext e1)).mono ?_
 rintro v H2 ⟨rfl, e2⟩
 have x2 := e1.trans e2
 refine ⟨_, rfl, iteB_not (fun c => ChkP.no (fun hh => by simp at c; exact c hh.v) x2) (fun c => ?_)⟩
 have hv : ValidT T := by simpa using c
 obtain ⟨p0, p1, p2, p3, p4, p5, p6, p7⟩ := Blk.host (b1.ext e2)
 refine ⟨_, p0, _, p1, _, p2, _, p3, _, p4, _, p5, _, p6, _, p7, (ValidHost_spec h hs H2 (hm.ext x2)).mono ?_⟩
 rintro v H3 ⟨rfl, e3⟩
 have x3 := x2.trans e3
 refine ⟨_, rfl, iteB_not (fun c => ChkP.no (fun hh => by simp at c; exact c hh.vh) x3) (fun c => ?_)⟩
 have hvh : ValidH h := by simpa using c
 have p3 := (Blk.host ((b1.ext e2).ext e3)).2.2.2.1
 have hhigh : decide ((hs.high.n : Int) > 0) = hiF h := by
  have := hm.high.len
  unfold hiF
  rw [this]
  simp
 refine ⟨_, p3, ?_⟩
 rw [hhigh]
 refine (covers_spec T s sa (hiF h) A H3 (hT.ext x3) (hA.ext x3)).mono ?_
 rintro v H4 ⟨b, rfl, hb, e4⟩
 have x4 := x3.trans e4
 refine ⟨_, rfl, iteB_not (fun c => ChkP.no (fun hh => by have := hb.2 hh.nd; rw [c] at this; cases this) x4) (fun c => ?_)⟩
 have en4 : CkE T s h hs A sa H H4 := ⟨hT.ext x4, hm.ext x4, ((b1.ext e2).ext e3).ext e4, hA.ext x4, hv, hvh, hb.1 c, hc, hu, x4⟩
 refine push_mk (vs := [.slice none 0 0, .slice none 0 0, .slice none 0 0]) fun H5 e5 z5 b5 => ?_
 refine loop1 3 (fun k H' => ∃ f, Roots h H4.size k f H' /\ Ext H4 H') ⟨fun _ => ⟨none, 0, 0⟩, ⟨b5, fun j hj => by omega, fun j hj => by omega⟩, e5⟩ ?_
 rintro k H6 hk ⟨f, ro, e6⟩
 unfold F_15_r4
 refine iteB_dec (fun d => ?_) (fun d => ?_)
 ·have hk3 : k < 3 := by omega
  have en6 := en4.go e6
  obtain ⟨p0, p1, p2, p3, p4, p5, p6, p7⟩ := Blk.host en6.blk
  refine ⟨_, p0, _, p1, _, p2, _, p3, _, p4, _, p5, _, p6, _, p7, (hostFree_spec h hs k H6 en6.m hvh).mono ?_⟩
  rintro v H7 ⟨o, rfl, ow, e7⟩
  refine ⟨o, rfl, by omega, by omega, ?_, letH_mk ?_⟩
  ·rw [Int.toNat_natCast, Nat.mul_one]
   exact (ro.blk.ext e7).ok (by rw [tab_length]; omega)
  intro H8 h8
  rw [Int.toNat_natCast, Nat.mul_one] at h8
  have b8 : Blk H8 H4.size t_91 (tab 3 (fun i => .slice (upd f k o i).p (upd f k o i).n (upd f k o i).c)) := by
   have := (ro.blk.ext e7).wr1 (i := k) (w := .slice o.p o.n o.c)
   rw [tab_set hk3] at this
   rw [h8]
   rw [tab_congr (g := upd (fun i => Value.slice (f i).p (f i).n (f i).c) k (.slice o.p o.n o.c))]
   ·exact this
   ·intro i hi
    unfold upd
    split <;> rfl
  have m8 : Mods [H4.size] H7 H8 := by rw [h8]; exact mods_wr_add (by simp)
  clear h8
  have hlt : H4.size < H6.size := by have := ro.blk.lt; omega
  have hn : ∀ a, o.p = some a -> H4.size < a.block := fun a ha => by have := ow.new a ha; omega
  refine next1 hk3 (by omega) ⟨upd f k o, ⟨b8, fun j hj => ?_, fun j hj => ?_⟩, Mods.ext (e6.trans e7) m8 (by simp)⟩
  ·by_cases e : j = k
   ·subst e
    rw [upd_same]
    exact (Own.is rkRange ow).mods m8 (fun a ha => by have := hn a ha; simp; omega)
   ·rw [upd_ne e]
    exact ((ro.rg j (by omega)).ext e7).mods m8 (fun a ha => by have := ro.new j (by omega) a ha; simp; omega)
  ·by_cases e : j = k
   ·subst e
    rw [upd_same]
    exact hn
   ·rw [upd_ne e]
    exact ro.new j (by omega)
 ·obtain rfl : k = 3 := by omega
  have hAl := en4.len
  have hsn := hA.len
  refine loop1 A.length (fun k H' => (∀ i, i < k -> ChkAt T h A i) /\ Ext H6 H') ⟨fun i hi => by omega, .refl _⟩ ?_
  rintro k H9 hk9 ⟨hall, e9⟩
  by_cases hkl : k < A.length
  ·refine chk_round T s h hs A sa H H4 H9 (en4.go (e6.trans e9)) f (ro.ext e9) k hkl _ _ (fun H' hck e' => next1 hkl (by omega) ⟨fun i hi => ?_, e9.trans e'⟩)
   by_cases e : i = k
   ·rw [e]; exact hck
   ·exact hall i (by omega)
  ·obtain rfl : k = A.length := by omega
   unfold F_15_r3
   refine iteB_neg (by simp; omega) ?_
   exact ⟨true, rfl, ⟨fun _ => ⟨hv, hvh, hb.1 c, hall⟩, fun _ => rfl⟩, (x4.trans e6).trans e9⟩

end Go.Proofs.YtnhhncjflnlfaaaGreat
end

section
/-
 The reference's Check.
-/
namespace Go.Proofs.YtnhhncjflnlfaaaGreat
open Go.Eng
set_option linter.unusedVariables false

theorem rinside_spec (H : Heap) (s : Sl) (l : List Rg) (b n : Int) (h : Rgs H s l) (hu : U64L l) (hb : U64 b) (hn : U64 n) (hl : l.length <= 100000) :
  CallsH Tryz.prog n_77 #[.slice s.p s.n s.c, .agg #[.int .u64 b, .int .u64 n]] H (BoolP (decide (InSp l b n)) H) := by
 refine F_77_ok _ _ _ ?_
 unfold F_77
 have hsn := h.len
 unfold U64 at hb hn
 refine push_mk (vs := [.int .u64 b, .int .u64 n]) fun H1 e1 z1 b1 => ?_
 refine loop1 l.length (fun k H' => Ext H1 H' /\ ∀ i, i < k -> ¬ ((l.getD i (0, 0)).1 <= b /\ b + n <= (l.getD i (0, 0)).1 + (l.getD i (0, 0)).2)) ⟨.refl _, fun i hi => by omega⟩ ?_
 rintro k H2 hk ⟨e2, hno⟩
 unfold F_77_r1
 have x2 := e1.trans e2
 have b2 := b1.ext e2
 refine iteB_dec (fun c => ?_) (fun c => ⟨by rw [decide_eq_false (inSp_not (fun i hi => hno i (by omega)))], x2⟩)
 have hkn : k < l.length := by omega
 obtain ⟨a, hp, r0, r1⟩ := Rgs.atN (h.ext x2) hkn
 have hr := hu _ (getD_mem' (l := l) (k := k) (0, 0) hkn)
 have hyes : (l.getD k (0, 0)).1 <= b /\ b + n <= (l.getD k (0, 0)).1 + (l.getD k (0, 0)).2 -> InSp l b n := fun hh => ⟨_, getD_mem' (l := l) (k := k) (0, 0) hkn, hh⟩
 have hnx : ¬ ((l.getD k (0, 0)).1 <= b /\ b + n <= (l.getD k (0, 0)).1 + (l.getD k (0, 0)).2) -> CI l.length (fun k H' => Ext H1 H' /\ ∀ i, i < k -> ¬ ((l.getD i (0, 0)).1 <= b /\ b + n <= (l.getD i (0, 0)).1 + (l.getD i (0, 0)).2)) (IntKind.i64.wrap ((k : Int) + 1)) H2 /\ CM l.length (IntKind.i64.wrap ((k : Int) + 1)) H2 < CM l.length (k : Int) H2 := fun hq => next1 hkn (by omega) ⟨e2, fun i hi => by
  by_cases e : i = k
  ·rw [e]; exact hq
  ·exact hno i (by omega)⟩
 generalize l.getD k (0, 0) = r at *
 refine ⟨_, b2.rd0 rfl, by omega, by omega, unSome_mk hp ⟨_, r0, iteB_dec (fun c1 => ?_) (fun c1 => letV_mk _ rfl (hnx (by omega)))⟩⟩
 refine ⟨_, b2.rd0 rfl, by omega, by omega, unSome_mk hp ⟨_, r0, by omega, by omega, unSome_mk hp ⟨_, r1, ?_⟩⟩⟩
 rw [u64_in (n := b - r.1) (by omega)]
 refine iteB_dec (fun c2 => ?_) (fun c2 => letV_mk _ rfl (hnx (by omega)))
 refine ⟨_, b2.rd (i := 1) rfl, by omega, by omega, unSome_mk hp ⟨_, r1, _, b2.rd0 rfl, by omega, by omega, unSome_mk hp ⟨_, r0, ?_⟩⟩⟩
 rw [u64_in (n := b - r.1) (by omega), u64_in (n := r.2 - (b - r.1)) (by omega)]
 exact iteB_dec (fun c3 => ⟨by rw [decide_eq_true (hyes (by omega))], x2⟩) (fun c3 => letV_mk _ rfl (hnx (by omega)))

theorem rspan_spec (x : Asg) (H : Heap) (hx : 0 <= x.1.2.2.2 /\ x.1.2.2.2 <= 44) :
  CallsH Tryz.prog n_76 #[asgV x] H (fun v H' => v = .agg #[.int .u64 x.2, .int .u64 (2 ^ szA x)] /\ Ext H H') := by
 refine F_76_ok _ _ _ _ _ ?_
 unfold F_76
 refine push_mk (vs := encA x) fun H1 e1 z1 b1 => push_mk (vs := [.int .u64 0, .int .u64 0]) fun H2 e2 z2 b2 => ?_
 have b1' := b1.ext e2
 refine ⟨_, b1'.rd (i := 4) rfl, _, b1'.rd (i := 3) rfl, u64_nonneg _, b2.ok0 (Nat.le_refl 2), letH_mk ?_⟩
 intro H3 h3
 have b3 : Blk H3 H1.size t_95 [.int .u64 x.2, .int .u64 (IntKind.u64.wrap (1 * 2 ^ (min (IntKind.u64.wrap x.1.2.2.2).toNat IntKind.u64.bits)))] := by rw [h3]; exact b2.wr
 have m3 : Mods [H1.size] H2 H3 := by rw [h3]; exact Mods.wrs (by simp)
 clear h3
 refine ⟨_, b3.rd0 rfl, _, b3.rd (i := 1) rfl, ?_, Mods.ext (e1.trans e2) m3 (by simp; omega)⟩
 rw [shl1 hx.1 (by omega)]

theorem rchk_inner (T : List FS) (s : Sl) (h : Host) (hs : HostS) (A : List Asg) (sa : Sl) (H H13 : Heap) (en : CkE T s h hs A sa H H13) (i : Nat) (hi : i < A.length) (hall : ∀ j, j < i -> ChkAt T h A j) (I_1 : Int -> Heap -> Prop) (M_1 : Int -> Heap -> Nat) (H6 : Heap) (space : Sl)
  (b6 : Blk H13 H6.size t_32 (encA (A.getD i zA))) (hsp : Rgs H13 space (spaceAt T h A (A.getD i zA))) (hsu : U64L (spaceAt T h A (A.getD i zA))) (hsl : (spaceAt T h A (A.getD i zA)).length <= 100000)
  (hI : ∀ H', ChkAt T h A i -> Ext H13 H' -> I_1 (IntKind.i64.wrap ((i : Int) + 1)) H' /\ M_1 (IntKind.i64.wrap ((i : Int) + 1)) H' < M_1 i H6) :
  F_37_k2 (ChkP T h A H) s sa I_1 M_1 i H6 (parA T (A.getD i zA)) space H13 := by
 unfold F_37_k2
 have hAl := en.len
 have hsn := en.isA.len
 obtain ⟨hnd, _⟩ := chk_nd en.nd i hi
 have hpw := pow44 hnd.sz
 have hub := en.u i hi
 have hub' := hub
 unfold U64 at hub'
 refine ⟨_, b6.rd (i := 4) rfl, _, b6.rd (i := 3) rfl, u64_nonneg _, ?_⟩
 rw [shl1 hnd.sz.1 (by have := hnd.sz; omega)]
 refine ⟨by omega, ?_⟩
 rw [Int.tmod_eq_emod_of_nonneg hub'.1]
 refine iteB_bne (fun d => ChkP.no (fun hc => d (hc.at' i hi).al) en.ext) (fun hal => ?_)
 refine ⟨_, b6.rd0 rfl, _, b6.rd (i := 1) rfl, _, b6.rd (i := 2) rfl, _, b6.rd (i := 3) rfl, _, b6.rd (i := 4) rfl, (rspan_spec (A.getD i zA) H13 hnd.sz).mono ?_⟩
 rintro v H14 ⟨rfl, e14⟩
 refine ⟨_, _, rfl, (rinside_spec H14 space _ _ _ (hsp.ext e14) hsu hub (by unfold U64 szA; omega) hsl).mono ?_⟩
 rintro v H15 ⟨rfl, e15⟩
 have x15 := e14.trans e15
 refine ⟨_, rfl, iteB_not (fun c => ChkP.no (fun hc => ?_) (en.ext.trans x15)) (fun c => ?_)⟩
 ·have := (hc.at' i hi).sp
  simp at c
  exact c this
 have hins : InSp (spaceAt T h A (A.getD i zA)) (A.getD i zA).2 (2 ^ szA (A.getD i zA)) := by simpa using c
 have hbi := chk_bound en.nd en.vh i hi (fun j hj => by
  by_cases e : j = i
  ·rw [e]; exact hins
  ·exact (hall j (by omega)).sp)
 refine loop1 i (fun k H' => Ext H13 H' /\ ∀ m, m < k -> parA T (A.getD m zA) = parA T (A.getD i zA) -> clA (A.getD m zA) = clA (A.getD i zA) -> ¬ OvA (A.getD i zA) (A.getD m zA)) ⟨x15, fun m hm => by omega⟩ ?_
 rintro k H16 hk ⟨e16, hno⟩
 unfold F_37_r1
 refine iteB_dec (fun d => ?_) (fun d => ?_)
 ·have hki : k < i := by omega
  obtain ⟨a, hp, hr⟩ := IsS.atN (en.isA.ext e16) zA (k := k) (by omega)
  have r0 : rd H16 (a.add ((k : Int).toNat * 5)) = some (.int .i64 (A.getD k zA).1.1) := by have := hr 0 _ rfl; rwa [add_zero'] at this
  obtain ⟨hnk, _⟩ := chk_nd en.nd k (by omega)
  have huk := en.u k (by omega)
  have hbk := chk_bound en.nd en.vh k (by omega) (fun j hj => (hall j (by omega)).sp)
  have hnx : ∀ H', Ext H13 H' -> (parA T (A.getD k zA) = parA T (A.getD i zA) -> clA (A.getD k zA) = clA (A.getD i zA) -> ¬ OvA (A.getD i zA) (A.getD k zA)) ->
    CI i (fun k H' => Ext H13 H' /\ ∀ m, m < k -> parA T (A.getD m zA) = parA T (A.getD i zA) -> clA (A.getD m zA) = clA (A.getD i zA) -> ¬ OvA (A.getD i zA) (A.getD m zA)) (IntKind.i64.wrap ((k : Int) + 1)) H' /\ CM i (IntKind.i64.wrap ((k : Int) + 1)) H' < CM i (k : Int) H16 := fun H' e' hq => next1 hki (by omega) ⟨e', fun m hm => by
   by_cases e : m = k
   ·rw [e]; exact hq
   ·exact hno m (by omega)⟩
  have hbad : parA T (A.getD k zA) = parA T (A.getD i zA) -> clA (A.getD k zA) = clA (A.getD i zA) -> OvA (A.getD i zA) (A.getD k zA) -> ¬ ChkIs T h A := fun h1 h2 h3 hc => (hc.at' i hi).ne k hki h1 h2 h3
  have hfn := hnk.fn
  obtain ⟨fi, hfi⟩ : ∃ fi : Nat, (A.getD k zA).1.1 = fi := ⟨(A.getD k zA).1.1.toNat, by omega⟩
  have hfT : fi < T.length := by omega
  have hpk : parA T (A.getD k zA) = (fnAt T fi).parent := by unfold parA; rw [hfi, Int.toNat_natCast]
  have hTn := en.topo.len
  have c6 := b6.ext e16
  obtain ⟨af, hpf, hrf⟩ := (en.topo.ext e16).at hfT
  have pf := (rdFn hrf).1
  have hpwk := pow44 hnk.sz
  unfold U64 at huk
  refine ⟨by omega, by omega, unSome_mk hp ⟨_, hr 2 _ rfl, _, c6.rd (i := 2) rfl, iteB_beq (fun q2 => ?_) (fun q2 => letV_mk _ rfl (hnx H16 e16 (fun _ h2 => absurd h2 q2)))⟩⟩
  refine ⟨by omega, by omega, unSome_mk hp ⟨_, r0, by rw [hfi]; omega, by rw [hfi]; omega, unSome_mk hpf ⟨_, by rw [hfi]; exact pf, iteB_beq (fun q1 => ?_) (fun q1 => letV_mk _ rfl (hnx H16 e16 (fun h1 => absurd h1 (by rw [hpk]; exact q1))))⟩⟩⟩
  refine ⟨by omega, by omega, unSome_mk hp ⟨_, hr 4 _ rfl, _, c6.rd (i := 4) rfl, _, c6.rd0 rfl, _, c6.rd (i := 1) rfl, _, c6.rd (i := 2) rfl, _, c6.rd (i := 3) rfl, _, c6.rd (i := 4) rfl, (rspan_spec (A.getD i zA) H16 hnd.sz).mono ?_⟩⟩
  rintro v H17 ⟨rfl, e17⟩
  refine ⟨_, _, rfl, e17.keeps, ?_⟩
  have hov : OvA (A.getD i zA) (A.getD k zA) ↔ ((A.getD k zA).2 < (A.getD i zA).2 + 2 ^ szA (A.getD i zA) /\ (A.getD i zA).2 < (A.getD k zA).2 + 2 ^ szA (A.getD k zA)) := by
   unfold OvA szA
   unfold szA at hbi hbk
   split <;> omega
  rw [u64_in (n := (A.getD i zA).2 + 2 ^ szA (A.getD i zA)) (by unfold szA at *; omega)]
  obtain ⟨a2, hp2, hr2⟩ := IsS.atN (en.isA.ext (e16.trans e17)) zA (k := k) (by omega)
  have r02 : rd H17 (a2.add ((k : Int).toNat * 5)) = some (.int .i64 (A.getD k zA).1.1) := by have := hr2 0 _ rfl; rwa [add_zero'] at this
  refine iteB_dec (fun q3 => ?_) (fun q3 => letV_mk _ rfl (hnx H17 (e16.trans e17) (fun _ _ ho => q3 (hov.1 ho).1)))
  refine ⟨_, (c6.ext e17).rd (i := 4) rfl, by omega, by omega, unSome_mk hp2 ⟨_, hr2 4 _ rfl, by omega, by omega, unSome_mk hp2 ⟨_, r02, _, hr2 1 _ rfl, _, hr2 2 _ rfl, _, hr2 3 _ rfl, _, hr2 4 _ rfl, (rspan_spec (A.getD k zA) H17 hnk.sz).mono ?_⟩⟩⟩
  rintro v H18 ⟨rfl, e18⟩
  have x18 := (e16.trans e17).trans e18
  refine ⟨_, _, rfl, e18.keeps, ?_⟩
  rw [u64_in (n := (A.getD k zA).2 + 2 ^ szA (A.getD k zA)) (by unfold szA at *; omega)]
  exact iteB_dec (fun q4 => ChkP.no (hbad (by rw [hpk]; exact q1) q2 (hov.2 ⟨q3, q4⟩)) (en.ext.trans x18)) (fun q4 => letV_mk _ rfl (hnx H18 x18 (fun _ _ ho => q4 (hov.1 ho).2)))
 ·obtain rfl : k = i := by omega
  exact letV_mk _ rfl (hI H16 ⟨hal, hins, hno⟩ e16)

theorem rchk_round (T : List FS) (s : Sl) (h : Host) (hs : HostS) (A : List Asg) (sa : Sl) (H H6 : Heap) (en : CkE T s h hs A sa H H6) (i : Nat) (hi : i < A.length) (hall : ∀ j, j < i -> ChkAt T h A j) (I_1 : Int -> Heap -> Prop) (M_1 : Int -> Heap -> Nat)
  (hI : ∀ H', ChkAt T h A i -> Ext H6 H' -> I_1 (IntKind.i64.wrap ((i : Int) + 1)) H' /\ M_1 (IntKind.i64.wrap ((i : Int) + 1)) H' < M_1 i H6) :
  F_37_r3 (ChkP T h A H) H s sa I_1 M_1 i H6 := by
 unfold F_37_r3
 have hAl := en.len
 have hsn := en.isA.len
 refine iteB_pos (by simp; omega) ?_
 obtain ⟨hnd, hw⟩ := chk_nd en.nd i hi
 obtain ⟨a, hp, hr⟩ := IsS.atN en.isA zA (k := i) hi
 have r0 : rd H6 (a.add ((i : Int).toNat * 5)) = some (.int .i64 (A.getD i zA).1.1) := by have := hr 0 _ rfl; rwa [add_zero'] at this
 have hub := en.u i hi
 refine ⟨by omega, by omega, unSome_mk hp ⟨_, r0, _, hr 1 _ rfl, _, hr 2 _ rfl, _, hr 3 _ rfl, _, hr 4 _ rfl, local_mk (vs := encA (A.getD i zA)) rfl rfl fun H8 e8 z8 b8 => ?_⟩⟩
 have en8 := en.go e8
 obtain ⟨p0, p1, p2, p3, p4, p5, p6, p7⟩ := Blk.host en8.blk
 have hcl := hnd.cl
 obtain ⟨cn, hcn⟩ : ∃ cn : Nat, clA (A.getD i zA) = cn := ⟨(clA (A.getD i zA)).toNat, by unfold clA; omega⟩
 refine ⟨_, p0, _, p1, _, p2, _, p3, _, p4, _, p5, _, p6, _, p7, _, b8.rd (i := 2) rfl, (rSpace_spec h hs (clA (A.getD i zA)) H8 en8.m en.vh).mono ?_⟩
 rintro v H9 ⟨fr, rfl, ow, e9⟩
 have hfn := hnd.fn
 obtain ⟨fi, hfi⟩ : ∃ fi : Nat, (A.getD i zA).1.1 = fi := ⟨(A.getD i zA).1.1.toNat, by omega⟩
 have hfT : fi < T.length := by omega
 have hpk : parA T (A.getD i zA) = (fnAt T fi).parent := by unfold parA; rw [hfi, Int.toNat_natCast]
 have hTn := en.topo.len
 have b9 := b8.ext e9
 have en9 := en8.go e9
 obtain ⟨af, hpf, hrf⟩ := en9.topo.at hfT
 have pf := (rdFn hrf).1
 refine ⟨fr, rfl, _, b9.rd0 rfl, by rw [hfi]; omega, by rw [hfi]; omega, unSome_mk hpf ⟨_, by rw [hfi]; exact pf, ?_⟩⟩
 rw [<- hpk]
 have hwin : ∀ w, w < A.length -> U64L [winF (A.map Prod.fst) (A.map Prod.snd) w] := fun w hw r hr => by
  simp at hr
  subst hr
  unfold winF
  rw [map_getD1 hw, map_getD2 hw]
  have h1 := en.u w hw
  have h2 := pow44 (chk_nd en.nd w hw).1.sz
  unfold U64 at h1
  dsimp only
  omega
 refine ⟨fun sp H' => Rgs H' sp (spaceAt T h A (A.getD i zA)) /\ U64L (spaceAt T h A (A.getD i zA)) /\ (spaceAt T h A (A.getD i zA)).length <= 100000 /\ Ext H9 H', iteB_dec (fun q => ?_) (fun q => ?_), ?_⟩
 ·obtain ⟨w, hat, hwi, hwl⟩ := hw q
  have he : spaceAt T h A (A.getD i zA) = [winF (A.map Prod.fst) (A.map Prod.snd) w] := by
   unfold spaceAt
   rw [if_pos q, hat]
  refine ⟨_, b9.rd (i := 2) rfl, ?_⟩
  rw [i64_in (n := -1 - (A.getD i zA).1.2.2.1) (by omega)]
  refine (rat_spec H9 sa A (parA T (A.getD i zA)) (-1 - clA (A.getD i zA)) en9.isA (by omega)).mono ?_
  rintro v H10 ⟨rfl, rfl⟩
  unfold atI
  rw [hat]
  dsimp only
  obtain ⟨aw, hpw, hrw⟩ := IsS.atN en9.isA zA (k := w) hwl
  have rw0 : rd H10 (aw.add ((w : Int).toNat * 5)) = some (.int .i64 (A.getD w zA).1.1) := by have := hrw 0 _ rfl; rwa [add_zero'] at this
  refine ⟨_, rfl, by omega, by omega, unSome_mk hpw ⟨_, rw0, _, hrw 1 _ rfl, _, hrw 2 _ rfl, _, hrw 3 _ rfl, _, hrw 4 _ rfl, (rspan_spec (A.getD w zA) H10 (chk_nd en.nd w hwl).1.sz).mono ?_⟩⟩
  rintro v H11 ⟨rfl, e11⟩
  refine ⟨_, _, rfl, push_mk (vs := encR ((A.getD w zA).2, 2 ^ szA (A.getD w zA))) fun H12 e12 z12 b12 => ?_⟩
  have hwe : winF (A.map Prod.fst) (A.map Prod.snd) w = ((A.getD w zA).2, 2 ^ szA (A.getD w zA)) := by
   unfold winF
   rw [map_getD1 hwl, map_getD2 hwl]
  have hu1 := hwin w hwl
  rw [he]
  rw [hwe] at hu1 ⊢
  exact ⟨IsS.of_blk encR_len b12 rfl (fun j v hv => by simpa using hv), hu1, by simp, e11.trans e12⟩
 ·have he : spaceAt T h A (A.getD i zA) = spaceF h (clA (A.getD i zA)) := by
   unfold spaceAt
   rw [if_neg q]
  rw [he]
  have hv := (spaceF_valid en.vh (clA (A.getD i zA))).1
  exact ⟨Own.is rkRange ow, hv.u64, by have := hv.1; omega, .refl _⟩
 ·rintro sp H14 ⟨h1, h2, h3, e14⟩
  exact rchk_inner T s h hs A sa H H14 (en9.go e14) i hi hall I_1 M_1 H6 sp (b9.ext e14) h1 h2 h3 (fun H' hc e' => hI H' hc (((e8.trans e9).trans e14).trans e'))

theorem rCheck_spec (T : List FS) (s : Sl) (h : Host) (hs : HostS) (A : List Asg) (sa : Sl) (H : Heap) (hT : Topo H s T) (hm : HostM H h hs) (hA : IsS 5 encA H sa A) (hc : sa.n <= sa.c) (hu : ∀ i, i < A.length -> U64 (A.getD i zA).2) :
  CallsH Tryz.prog n_37 #[.slice s.p s.n s.c, hostV h hs, .slice sa.p sa.n sa.c] H (ChkP T h A H) := by
 refine F_37_ok _ _ _ _ _ _ _ _ _ _ ?_
 unfold F_37
 refine push_mk (vs := hostL h hs) fun H1 e1 z1 b1 => (rVal_spec T s H1 (hT.ext e1)).mono ?_
 rintro v H2 ⟨rfl, e2⟩
 have x2 := e1.trans e2
 refine ⟨_, rfl, iteB_not (fun c => ChkP.no (fun hh => by simp at c; exact c hh.v) x2) (fun c => ?_)⟩
 have hv : ValidT T := by simpa using c
 obtain ⟨p0, p1, p2, p3, p4, p5, p6, p7⟩ := Blk.host (b1.ext e2)
 refine ⟨_, p0, _, p1, _, p2, _, p3, _, p4, _, p5, _, p6, _, p7, (rValidHost_spec h hs H2 (hm.ext x2)).mono ?_⟩
 rintro v H3 ⟨rfl, e3⟩
 have x3 := x2.trans e3
 refine ⟨_, rfl, iteB_not (fun c => ChkP.no (fun hh => by simp at c; exact c hh.vh) x3) (fun c => ?_)⟩
 have hvh : ValidH h := by simpa using c
 have p3 := (Blk.host ((b1.ext e2).ext e3)).2.2.2.1
 have hhigh : decide ((hs.high.n : Int) > 0) = hiF h := by
  have := hm.high.len
  unfold hiF
  rw [this]
  simp
 refine ⟨_, p3, ?_⟩
 rw [hhigh]
 refine (rNeeds_spec T s (hiF h) H3 (hT.ext x3)).mono ?_
 intro v H4 h4
 obtain ⟨ns, e0, N, rfl, isN, hNI, e4⟩ := h4.outI
 have x4 := x3.trans e4
 refine ⟨ns, e0, rfl, iteB_bne (fun d => ChkP.no (fun hh => d (hh.nd.uni hNI).1.symm) x4) (fun d => ?_)⟩
 subst d
 have hnn := isN.len
 have han := hA.len
 have hNl := hNI.len
 refine iteB_bne (fun d => ChkP.no (fun hh => ?_) x4) (fun d => ?_)
 ·have := congrArg List.length (hh.nd.uni hNI).2
  rw [List.length_map] at this
  omega
 have hlen : A.length = N.length := by omega
 refine loop1 A.length (fun k H' => Ext H4 H' /\ ∀ i, i < k -> (A.getD i zA).1 = N.getD i (0, 0, 0, 0)) ⟨.refl _, fun i hi => by omega⟩ ?_
 rintro k H5 hk ⟨e5, hsame⟩
 unfold F_37_r4
 refine iteB_dec (fun d1 => ?_) (fun d1 => ?_)
 ·have hkA : k < A.length := by omega
  obtain ⟨a, hp, hr⟩ := IsS.atN (hA.ext (x4.trans e5)) zA (k := k) hkA
  have r0 : rd H5 (a.add ((k : Int).toNat * 5)) = some (.int .i64 (A.getD k zA).1.1) := by have := hr 0 _ rfl; rwa [add_zero'] at this
  obtain ⟨a2, hp2, hr2⟩ := IsS.atN (isN.ext e5) (0, 0, 0, 0) (k := k) (by omega)
  have r02 : rd H5 (a2.add ((k : Int).toNat * 4)) = some (.int .i64 (N.getD k (0, 0, 0, 0)).1) := by have := hr2 0 _ rfl; rwa [add_zero'] at this
  have hgA := map_getD1 hkA
  refine ⟨by omega, by omega, unSome_mk hp ⟨_, r0, _, hr 1 _ rfl, _, hr 2 _ rfl, _, hr 3 _ rfl, by omega, by omega, unSome_mk hp2 ⟨_, r02, _, hr2 1 _ rfl, _, hr2 2 _ rfl, _, hr2 3 _ rfl, iteB_not (fun q => ChkP.no (fun hh => ?_) (x4.trans e5)) (fun q => letV_mk _ rfl (next1 hkA (by omega) ⟨e5, fun i hi => ?_⟩))⟩⟩⟩
  ·rw [(hh.nd.uni hNI).2] at hgA
   rw [hgA] at q
   simp at q
  ·by_cases e : i = k
   ·rw [e]
    simp at q
    obtain ⟨q0, q1, q2, q3⟩ := q
    exact Prod.ext q0 (Prod.ext q1 (Prod.ext q2 q3))
   ·exact hsame i (by omega)
 ·obtain rfl : k = A.length := by omega
  have hmap : A.map Prod.fst = N := by
   apply List.ext_getElem
   ·rw [List.length_map]; exact hlen
   ·intro i h1 h2
    have := hsame i (by omega)
    rw [<- map_getD1 (by omega)] at this
    simpa [List.getD, h1, h2, show i < A.length by omega] using this
  have nd : NeedsIs T (hiF h) 0 (A.map Prod.fst) := by rw [hmap]; exact hNI
  have en5 : CkE T s h hs A sa H H5 := ⟨hT.ext (x4.trans e5), hm.ext (x4.trans e5), (((b1.ext e2).ext e3).ext e4).ext e5, hA.ext (x4.trans e5), hv, hvh, nd, hc, hu, x4.trans e5⟩
  refine loop1 A.length (fun k H' => (∀ i, i < k -> ChkAt T h A i) /\ Ext H5 H') ⟨fun i hi => by omega, .refl _⟩ ?_
  rintro k H6 hk6 ⟨hall, e6⟩
  by_cases hkl : k < A.length
  ·refine rchk_round T s h hs A sa H H6 (en5.go e6) k hkl hall _ _ (fun H' hck e' => next1 hkl (by omega) ⟨fun i hi => ?_, e6.trans e'⟩)
   by_cases e : i = k
   ·rw [e]; exact hck
   ·exact hall i (by omega)
  ·obtain rfl : k = A.length := by omega
   unfold F_37_r3
   refine iteB_neg (by simp; omega) ?_
   exact ⟨true, rfl, ⟨fun _ => ⟨hv, hvh, nd, hall⟩, fun _ => rfl⟩, en5.ext.trans e6⟩

end Go.Proofs.YtnhhncjflnlfaaaGreat
end

section
/-
 Assigning (plain): what is assigned passes the check.
-/
namespace Go.Proofs.YtnhhncjflnlfaaaGreat
open Go.Eng
set_option linter.unusedVariables false

end Go.Proofs.YtnhhncjflnlfaaaGreat
end
