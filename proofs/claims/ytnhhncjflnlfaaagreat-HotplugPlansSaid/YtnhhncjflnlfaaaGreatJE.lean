import Derived.Test.YtnhhncjflnlfaaaGreatJQ
import Derived.Test.YtnhhncjflnlfaaaGreatEngB
import Derived.Test.YtnhhncjflnlfaaaGreatJA
import Derived.Test.YtnhhncjflnlfaaaGreatA1
import Derived.Test.YtnhhncjflnlfaaaGreatJN
import Derived.Test.YtnhhncjflnlfaaaGreatJG

section
/-
 Plain facts for plans: the needs stand in one order; the needs of the first functions of a topology.
-/
namespace Go.Proofs.YtnhhncjflnlfaaaGreat
open Go.Eng
set_option linter.unusedVariables false

/-! ### lists in a strict order -/
theorem sorted_ext {α : Type} (κ : α -> Int) : ∀ (l m : List α), l.Pairwise (fun a b => κ a < κ b) -> m.Pairwise (fun a b => κ a < κ b) -> (∀ x, x ∈ l ↔ x ∈ m) -> l = m
 | [], [], _, _, _ => rfl
 | [], y :: m, _, _, h => by have := (h y).2 (by simp); cases this
 | x :: l, [], _, _, h => by have := (h x).1 (by simp); cases this
 | x :: l, y :: m, hl, hm, h => by
  obtain ⟨h1, h2⟩ := List.pairwise_cons.1 hl
  obtain ⟨h3, h4⟩ := List.pairwise_cons.1 hm
  have hxy : x = y := by
   rcases List.mem_cons.1 ((h x).1 (by simp)) with e | e
   ·exact e
   ·rcases List.mem_cons.1 ((h y).2 (by simp)) with e' | e'
    ·exact e'.symm
    ·have := h3 x e; have := h1 y e'; omega
  subst hxy
  rw [sorted_ext κ l m h2 h4 (fun z => ⟨fun hz => by
   rcases List.mem_cons.1 ((h z).1 (by simp [hz])) with e | e
   ·subst e; have := h1 z hz; omega
   ·exact e, fun hz => by
   rcases List.mem_cons.1 ((h z).2 (by simp [hz])) with e | e
   ·subst e; have := h3 z hz; omega
   ·exact e⟩)]
theorem nodup_len {α : Type} [DecidableEq α] : ∀ (l m : List α), l.Nodup -> (∀ x ∈ l, x ∈ m) -> l.length <= m.length
 | [], m, _, _ => by simp
 | x :: l, m, hl, h => by
  obtain ⟨h1, h2⟩ := List.nodup_cons.1 hl
  have hx := h x (by simp)
  have := nodup_len l (m.erase x) h2 (fun z hz => (List.mem_erase_of_ne (by intro e; subst e; exact h1 hz)).2 (h z (by simp [hz])))
  rw [List.length_erase_of_mem hx] at this
  have hp : 0 < m.length := List.length_pos_of_mem hx
  simp only [List.length_cons]
  omega
theorem sorted_nodup {α : Type} {κ : α -> Int} {l : List α} (h : l.Pairwise (fun a b => κ a < κ b)) : l.Nodup :=
 List.Pairwise.imp (fun {a b} hab e => by subst e; omega) h

def kapN (x : Need) : Int := x.1 * 1000 + (if 0 <= x.2.1 then x.2.1 else 100 - x.2.1)
def kapA (x : Asg) : Int := kapN x.1

theorem regL_kap (T : List FS) (high : Bool) (i : Nat) (B : List Bar) : ∀ n, (regL T high i B n).Pairwise (fun a b => kapN a < kapN b) /\ ∀ x ∈ regL T high i B n, x.1 = i /\ 0 <= x.2.1 /\ x.2.1 < n
 | 0 => ⟨List.Pairwise.nil, fun x hx => by simp [regL] at hx⟩
 | n + 1 => by
  obtain ⟨h1, h2⟩ := regL_kap T high i B n
  simp only [regL]
  split
  ·rw [List.append_nil]
   exact ⟨h1, fun x hx => by have := h2 x hx; omega⟩
  ·refine ⟨List.pairwise_append.2 ⟨h1, List.pairwise_singleton _ _, fun a ha b hb => ?_⟩, fun x hx => ?_⟩
   ·simp only [List.mem_singleton] at hb
    subst hb
    have := h2 a ha
    unfold kapN
    dsimp only
    rw [if_pos (by omega), if_pos (by omega)]
    omega
   ·rcases List.mem_append.1 hx with hx | hx
    ·have := h2 x hx; omega
    ·simp only [List.mem_singleton] at hx; subst hx; dsimp only; omega
theorem winN_kap (T : List FS) (high : Bool) (i : Nat) (S : Nat -> List Int) : ∀ n : Nat, (winN T high i S n).Pairwise (fun a b => kapN a < kapN b) /\ ∀ x ∈ winN T high i S n, x.1 = i /\ x.2.1 < 0 /\ -(n : Int) <= x.2.1
 | 0 => ⟨List.Pairwise.nil, fun x hx => by simp [winN] at hx⟩
 | n + 1 => by
  obtain ⟨h1, h2⟩ := winN_kap T high i S n
  simp only [winN]
  split
  ·refine ⟨List.pairwise_append.2 ⟨h1, List.pairwise_singleton _ _, fun a ha b hb => ?_⟩, fun x hx => ?_⟩
   ·simp only [List.mem_singleton] at hb
    subst hb
    have := h2 a ha
    unfold kapN
    dsimp only
    rw [if_neg (by omega), if_neg (by omega)]
    omega
   ·rcases List.mem_append.1 hx with hx | hx
    ·have := h2 x hx; omega
    ·simp only [List.mem_singleton] at hx; subst hx; dsimp only; omega
  ·rw [List.append_nil]
   exact ⟨h1, fun x hx => by have := h2 x hx; omega⟩

theorem needsAt_kap {T : List FS} {high : Bool} (hv : ValidT T) {i : Nat} (hi : i < T.length) : (needsAt T high i).Pairwise (fun a b => kapN a < kapN b) /\ ∀ x ∈ needsAt T high i, x.1 = i /\ -3 <= x.2.1 /\ x.2.1 < 6 := by
 rw [needsAt_own' hi]
 have hbl := (hv.2 i hi).va.bl
 have hr : regs (fnAt T i).bridge <= 6 := by unfold regs; split <;> omega
 obtain ⟨r1, r2⟩ := regL_kap T high i (fnAt T i).bars (fnAt T i).bars.length
 unfold ownL winAll
 have w : (if (fnAt T i).bridge then winN T high i (fun c => if c < 3 then (nB T high (T.length - 1 - i)).2 (i * 3 + c) else []) 3 else []).Pairwise (fun a b => kapN a < kapN b) /\ ∀ x ∈ (if (fnAt T i).bridge then winN T high i (fun c => if c < 3 then (nB T high (T.length - 1 - i)).2 (i * 3 + c) else []) 3 else []), x.1 = i /\ x.2.1 < 0 /\ -3 <= x.2.1 := by
  split
  ·exact winN_kap T high i _ 3
  ·exact ⟨List.Pairwise.nil, fun x hx => by cases hx⟩
 obtain ⟨w1, w2⟩ := w
 refine ⟨List.pairwise_append.2 ⟨r1, w1, fun a ha b hb => ?_⟩, fun x hx => ?_⟩
 ·have h1 := r2 a ha
  have h2 := w2 b hb
  unfold kapN
  rw [if_pos (by omega), if_neg (by omega)]
  omega
 ·rcases List.mem_append.1 hx with hx | hx
  ·have := r2 x hx; omega
  ·have := w2 x hx; omega
theorem kapN_rng {x : Need} {i : Int} (h : x.1 = i /\ -3 <= x.2.1 /\ x.2.1 < 6) : i * 1000 <= kapN x /\ kapN x < i * 1000 + 200 := by
 unfold kapN
 split <;> omega
theorem needs_kap {T : List FS} {high : Bool} (hv : ValidT T) : (needsAll T high).Pairwise (fun a b => kapN a < kapN b) := by
 unfold needsAll
 rw [List.pairwise_flatMap]
 refine ⟨fun i hi => (needsAt_kap hv (List.mem_range.1 hi)).1, ?_⟩
 have key : ∀ n, n <= T.length -> (List.range n).Pairwise (fun a b => ∀ x ∈ needsAt T high a, ∀ y ∈ needsAt T high b, kapN x < kapN y) := by
  intro n hn
  rw [List.pairwise_iff_getElem]
  intro a b ha hb hab x hx y hy
  have ha' : a < n := by simpa using ha
  have hb' : b < n := by simpa using hb
  rw [List.getElem_range] at hx hy
  have h1 := kapN_rng ((needsAt_kap hv (show a < T.length by omega)).2 x hx)
  have h2 := kapN_rng ((needsAt_kap hv (show b < T.length by omega)).2 y hy)
  omega
 exact key _ (Nat.le_refl _)
theorem need_mem {T : List FS} {high : Bool} {x : Need} : x ∈ needsAll T high ↔ ∃ i : Nat, i < T.length /\ x ∈ needsAt T high i := by
 unfold needsAll
 rw [List.mem_flatMap]
 exact ⟨fun ⟨i, hi, hx⟩ => ⟨i, List.mem_range.1 hi, hx⟩, fun ⟨i, hi, hx⟩ => ⟨i, List.mem_range.2 hi, hx⟩⟩
theorem kap_inj {T : List FS} {high : Bool} (hv : ValidT T) {x y : Need} (hx : x ∈ needsAll T high) (hy : y ∈ needsAll T high) (h1 : x.1 = y.1) (h2 : x.2.1 = y.2.1) : x = y := by
 have hs := needs_kap (high := high) hv
 obtain ⟨i, hi, rfl⟩ := List.getElem_of_mem hx
 obtain ⟨j, hj, rfl⟩ := List.getElem_of_mem hy
 rw [List.pairwise_iff_getElem] at hs
 have hk : kapN (needsAll T high)[i] = kapN (needsAll T high)[j] := by unfold kapN; rw [h1, h2]
 rcases Nat.lt_trichotomy i j with h | h | h
 ·have := hs i j hi hj h; omega
 ·subst h; rfl
 ·have := hs j i hj hi h; omega

/-! ### the first functions of a topology -/
theorem fnAt_take {T : List FS} {n i : Nat} (h : i < n) : fnAt (T.take n) i = fnAt T i := by
 unfold fnAt
 simp [List.getD, h]
theorem OkAt_take {T : List FS} {n i : Nat} (h : i < n) (hk : OkAt T i) : OkAt (T.take n) i := by
 have e := fnAt_take (T := T) h
 refine ⟨by rw [e]; exact hk.va, by rw [e]; exact hk.pa, fun hp => ?_, fun k hk' => ?_⟩
 ·rw [e] at hp ⊢
  have := hk.pa
  rw [fnAt_take (by omega)]
  exact hk.br hp
 ·rw [fnAt_take (by omega), e]
  exact hk.un k hk'
theorem ValidT_take {T : List FS} (hv : ValidT T) (n : Nat) : ValidT (T.take n) :=
 ⟨by have := hv.1; rw [List.length_take]; omega, fun i hi => by rw [List.length_take] at hi; exact OkAt_take (by omega) (hv.2 i (by omega))⟩

theorem abF_take {T : List FS} (hv : ValidT T) {n : Nat} : ∀ (m : Nat) (i : Int), i < n -> i < T.length -> abF (T.take n) m i = abF T m i
 | 0, i, _, _ => rfl
 | m + 1, i, h, hl => by
  unfold abF
  by_cases hi : i < 0
  ·rw [if_pos hi, if_pos hi]
  ·rw [if_neg hi, if_neg hi, fnAt_take (by omega)]
   have hpa := (hv.2 i.toNat (by omega)).pa
   split
   ·rfl
   ·exact abF_take hv m _ (by omega) (by omega)
theorem aboveF_take {T : List FS} (hv : ValidT T) {n i : Nat} (h : i < n) (hi : i < T.length) : aboveF (T.take n) i = aboveF T i := by
 unfold aboveF
 rw [fnAt_take h]
 have hpa := (hv.2 i hi).pa
 have hl : (T.take n).length = min n T.length := List.length_take ..
 rw [abF_fuel (ValidT_take hv n) _ _ (by rw [hl]; omega) (by rw [hl]; omega), abF_fuel hv _ _ (by omega) (by omega)]
 exact abF_take hv _ _ (by omega) (by omega)
theorem classF_take {T : List FS} (hv : ValidT T) {high : Bool} {n i : Nat} (h : i < n) (hi : i < T.length) (k : Int) : classF (T.take n) high i k = classF T high i k := by
 unfold classF
 rw [aboveF_take hv h hi]
theorem regL_take {T : List FS} (hv : ValidT T) {high : Bool} {n i : Nat} (h : i < n) (hi : i < T.length) (B : List Bar) : ∀ m, regL (T.take n) high i B m = regL T high i B m
 | 0 => rfl
 | m + 1 => by simp only [regL]; rw [regL_take hv h hi B m, classF_take hv h hi]
theorem WCond_take {T : List FS} (hv : ValidT T) {high : Bool} {n i c : Nat} (h : i < n) (hi : i < T.length) : WCond (T.take n) high i c ↔ WCond T high i c := by
 unfold WCond
 rw [fnAt_take h, aboveF_take hv h hi]

theorem reg_mem {T : List FS} {high : Bool} {i : Nat} (hi : i < T.length) {x : Need} (h0 : 0 <= x.2.1) : x ∈ needsAt T high i ↔ x ∈ regL T high i (fnAt T i).bars (fnAt T i).bars.length := by
 rw [needsAt_own' hi]
 unfold ownL winAll
 rw [List.mem_append]
 constructor
 ·rintro (h | h)
  ·exact h
  ·exfalso
   split at h
   ·have := (winN_kap T high i _ 3).2 x h; omega
   ·cases h
 ·exact .inl
theorem reg_take {T : List FS} (hv : ValidT T) {high : Bool} {n i : Nat} (h : i < n) (hi : i < T.length) {x : Need} (h0 : 0 <= x.2.1) : x ∈ needsAt (T.take n) high i ↔ x ∈ needsAt T high i := by
 rw [reg_mem hi h0, reg_mem (by rw [List.length_take]; omega) h0, fnAt_take h, regL_take hv h hi]

theorem winN_at (T : List FS) (high : Bool) (i : Nat) (S : Nat -> List Int) : ∀ m : Nat, ∀ x ∈ winN T high i S m, ∃ c : Nat, c < m /\ x.2.1 = -1 - (c : Int) /\ x.2.2.1 = c /\ WCond T high i c /\ WOk (S c) c (fnAt T i).hot
 | 0, x, hx => by simp [winN] at hx
 | m + 1, x, hx => by
  simp only [winN] at hx
  rcases List.mem_append.1 hx with hx | hx
  ·obtain ⟨c, h1, h2⟩ := winN_at T high i S m x hx
   exact ⟨c, by omega, h2⟩
  ·split at hx
   ·rename_i h
    simp only [List.mem_singleton] at hx
    subst hx
    exact ⟨m, by omega, rfl, rfl, h⟩
   ·cases hx

def winE (T : List FS) (high : Bool) (i c : Nat) : Prop := (fnAt T i).bridge = true /\ WCond T high i c /\ ((fnAt T i).hot = true \/ belF T (needsAll T high) i c ≠ [])
theorem winE_iff {T : List FS} {high : Bool} (hv : ValidT T) (ho : ¬ Ovf T high) {i c : Nat} (hi : i < T.length) (hc : c < 3) :
  (∃ x ∈ needsAt T high i, x.2.1 = -1 - (c : Int)) ↔ winE T high i c := by
 have hok := needs_ok hv ho
 have hperm := tab_perm T high i c hc (T.length - 1 - i) (by omega)
 have hbel : (fnAt T i).bridge = true -> (belF T (needsAll T high) i c ≠ [] ↔ (nB T high (T.length - 1 - i)).2 (i * 3 + c) ≠ []) := fun hb => by
  have hbo : BelOk T (i : Int) := ⟨by omega, fun _ => by rw [Int.toNat_natCast]; exact hb⟩
  have e : belF T (needsAll T high) i c = (allFrom T high (T.length - 1 - i)).filter (belQ T i c) := by unfold belF; rw [if_pos hbo, bel_later hv hi]
  rw [e]
  constructor
  ·intro h1 h2
   rw [h2] at hperm
   have := hperm.nil_eq
   exact h1 (List.map_eq_nil_iff.1 this.symm)
  ·intro h1 h2
   rw [h2, List.map_nil] at hperm
   exact h1 hperm.eq_nil
 have hwok : ¬ ((nB T high (T.length - 1 - i)).2 (i * 3 + c) = [] /\ (fnAt T i).hot = false) -> WOk ((nB T high (T.length - 1 - i)).2 (i * 3 + c)) c (fnAt T i).hot := fun h => by
  refine ⟨h, ?_, by omega, fun x hx => ?_⟩
  ·rw [hperm.length_eq, List.length_map]
   have h1 := List.length_filter_le (belQ T i c) (allFrom T high (T.length - 1 - i))
   have h2 := allFrom_len (high := high) hv (T.length - 1 - i) (by omega)
   have := hv.1
   omega
  ·obtain ⟨y, hy, rfl⟩ := List.mem_map.1 (hperm.mem_iff.1 hx)
   have hy1 := (List.mem_filter.1 hy).1
   obtain ⟨d, hd, hyd⟩ := List.mem_flatMap.1 hy1
   have hd' := List.mem_range.1 hd
   exact (hok y (need_mem.2 ⟨_, by omega, hyd⟩)).sz
 rw [needsAt_own' hi]
 unfold ownL winAll winE
 constructor
 ·rintro ⟨x, hx, he⟩
  rcases List.mem_append.1 hx with hx | hx
  ·have := (regL_kap T high i _ _).2 x hx; omega
  ·split at hx
   ·rename_i hb
    obtain ⟨c', hc', e1, _, h1, h2⟩ := winN_at T high i _ 3 x hx
    obtain rfl : c' = c := by omega
    rw [if_pos hc] at h2
    refine ⟨hb, h1, ?_⟩
    by_cases hh : (fnAt T i).hot = true
    ·exact .inl hh
    ·right
     rw [hbel hb]
     intro e
     exact h2.1 ⟨e, by simpa using hh⟩
   ·cases hx
 ·rintro ⟨hb, hw, hor⟩
  have hW : WOk ((nB T high (T.length - 1 - i)).2 (i * 3 + c)) c (fnAt T i).hot := hwok (fun ⟨e1, e2⟩ => by
   rcases hor with h | h
   ·rw [h] at e2; cases e2
   ·exact (hbel hb).1 h e1)
  refine ⟨((i : Int), -1 - (c : Int), (c : Int), wszF ((nB T high (T.length - 1 - i)).2 (i * 3 + c)) c (fnAt T i).hot), List.mem_append.2 (.inr ?_), rfl⟩
  rw [if_pos hb]
  have key : ∀ m, c < m -> m <= 3 -> (((i : Int), -1 - (c : Int), (c : Int), wszF ((nB T high (T.length - 1 - i)).2 (i * 3 + c)) c (fnAt T i).hot) : Need) ∈ winN T high i (fun c => if c < 3 then (nB T high (T.length - 1 - i)).2 (i * 3 + c) else []) m := by
   intro m
   induction m with
   | zero => intro h; omega
   | succ m ih =>
    intro h1 h2
    simp only [winN]
    by_cases e : c = m
    ·subst e
     refine List.mem_append.2 (.inr ?_)
     have e3 : (if c < 3 then (nB T high (T.length - 1 - i)).2 (i * 3 + c) else []) = (nB T high (T.length - 1 - i)).2 (i * 3 + c) := if_pos hc
     rw [e3, if_pos ⟨hw, hW⟩]
     simp
    ·exact List.mem_append.2 (.inl (ih (by omega) (by omega)))
  exact key 3 hc (Nat.le_refl _)

def NewOk (T : List FS) (n : Nat) : Prop := ∀ i, n <= i -> i < T.length -> 0 <= (fnAt T i).parent /\ ((fnAt T i).parent < n -> (fnAt T (fnAt T i).parent.toNat).hot = true)

theorem bel_mem {T : List FS} {N : List Need} {i : Nat} {c : Nat} (hb : (fnAt T i).bridge = true) (hi : i < T.length) {x : Need} : x ∈ belF T N i c ↔ x ∈ N /\ x.2.2.1 = c /\ (0 <= x.1 /\ x.1 < T.length) /\ (fnAt T x.1.toNat).parent = i := by
 unfold belF
 rw [if_pos ⟨by omega, fun _ => by rw [Int.toNat_natCast]; exact hb⟩, List.mem_filter]
 unfold belQ
 rw [decide_eq_true_eq]
theorem idx_class {T : List FS} {high : Bool} {i : Nat} (hi : i < T.length) {x : Need} (hx : x ∈ needsAt T high i) (h0 : x.2.1 < 0) : x.2.1 = -1 - x.2.2.1 := by
 rw [needsAt_own' hi] at hx
 unfold ownL winAll at hx
 rcases List.mem_append.1 hx with hx | hx
 ·have := (regL_kap T high i _ _).2 x hx; omega
 ·split at hx
  ·obtain ⟨c, _, e1, e2, _⟩ := winN_at T high i _ 3 x hx
   omega
  ·cases hx

theorem win_take {T : List FS} {high : Bool} {n : Nat} (hv : ValidT T) (ho : ¬ Ovf T high) (ho' : ¬ Ovf (T.take n) high) (hn : n <= T.length) (hw : NewOk T n) : ∀ d i : Nat, i < n -> n - i <= d -> ∀ c, c < 3 -> (winE T high i c ↔ winE (T.take n) high i c) := by
 intro d
 induction d with
 | zero => intro i hi hd; omega
 | succ d ih =>
  intro i hi hd c hc
  have hiT : i < T.length := by omega
  have hl : (T.take n).length = n := by rw [List.length_take]; omega
  have hv' := ValidT_take hv n
  unfold winE
  rw [fnAt_take hi, WCond_take hv hi hiT]
  by_cases hb : (fnAt T i).bridge = true
  ·by_cases hh : (fnAt T i).hot = true
   ·exact ⟨fun ⟨h1, h2, _⟩ => ⟨h1, h2, .inl hh⟩, fun ⟨h1, h2, _⟩ => ⟨h1, h2, .inl hh⟩⟩
   ·have hb' : (fnAt (T.take n) i).bridge = true := by rw [fnAt_take hi]; exact hb
    have key : (∃ x, x ∈ belF T (needsAll T high) i c) ↔ ∃ x, x ∈ belF (T.take n) (needsAll (T.take n) high) i c := by
     have lift : ∀ (g : Nat), i < g -> g < n -> ∀ (x : Need), x ∈ needsAt T high g -> x.2.2.1 = c -> (∃ y ∈ needsAt (T.take n) high g, y.2.2.1 = c) := fun g hig hg x hx hxc => by
      by_cases h0 : 0 <= x.2.1
      ·exact ⟨x, (reg_take hv hg (by omega) h0).2 hx, hxc⟩
      ·have hcl := idx_class (by omega) hx (by omega)
       have h1 := (winE_iff hv ho (by omega) hc).1 ⟨x, hx, by rw [hcl, hxc]⟩
       have h2 := (ih g hg (by omega) c hc).1 h1
       obtain ⟨y, hy, hye⟩ := (winE_iff hv' ho' (by omega) hc).2 h2
       exact ⟨y, hy, by have := idx_class (by omega) hy (by omega); omega⟩
     have low : ∀ (g : Nat), i < g -> g < n -> ∀ (x : Need), x ∈ needsAt (T.take n) high g -> x.2.2.1 = c -> (∃ y ∈ needsAt T high g, y.2.2.1 = c) := fun g hig hg x hx hxc => by
      by_cases h0 : 0 <= x.2.1
      ·exact ⟨x, (reg_take hv hg (by omega) h0).1 hx, hxc⟩
      ·have hcl := idx_class (by omega) hx (by omega)
       have h1 := (winE_iff hv' ho' (by omega) hc).1 ⟨x, hx, by rw [hcl, hxc]⟩
       have h2 := (ih g hg (by omega) c hc).2 h1
       obtain ⟨y, hy, hye⟩ := (winE_iff hv ho (by omega) hc).2 h2
       exact ⟨y, hy, by have := idx_class (by omega) hy (by omega); omega⟩
     constructor
     ·rintro ⟨x, hx⟩
      obtain ⟨h1, h2, h3, h4⟩ := (bel_mem hb hiT).1 hx
      obtain ⟨g, hg, hxg⟩ := need_mem.1 h1
      have hf := needsAt_fst hg x hxg
      rw [hf, Int.toNat_natCast] at h4
      have hgi : i < g := by have := (hv.2 g hg).pa; omega
      have hgn : g < n := by
       apply Classical.byContradiction
       intro hge
       have := (hw g (by omega) hg).2 (by omega)
       rw [h4, Int.toNat_natCast] at this
       exact hh this
      obtain ⟨y, hy, hyc⟩ := lift g hgi hgn x hxg h2
      have hyf := needsAt_fst (by omega) y hy
      exact ⟨y, (bel_mem hb' (by omega)).2 ⟨need_mem.2 ⟨g, by omega, hy⟩, hyc, by omega, by rw [hyf, Int.toNat_natCast, fnAt_take hgn]; exact h4⟩⟩
     ·rintro ⟨x, hx⟩
      obtain ⟨h1, h2, h3, h4⟩ := (bel_mem hb' (by omega)).1 hx
      obtain ⟨g, hg, hxg⟩ := need_mem.1 h1
      have hf := needsAt_fst hg x hxg
      rw [hf, Int.toNat_natCast, fnAt_take (by omega)] at h4
      have hgi : i < g := by have := (hv.2 g (by omega)).pa; omega
      obtain ⟨y, hy, hyc⟩ := low g hgi (by omega) x hxg h2
      have hyf := needsAt_fst (by omega) y hy
      exact ⟨y, (bel_mem hb hiT).2 ⟨need_mem.2 ⟨g, by omega, hy⟩, hyc, by omega, by rw [hyf, Int.toNat_natCast]; exact h4⟩⟩
    have e1 : ∀ l : List Need, l ≠ [] ↔ ∃ x, x ∈ l := fun l => by
     cases l with
     | nil => simp
     | cons x l => simp
    rw [<- e1, <- e1] at key
    rw [key]
  ·exact ⟨fun h => absurd h.1 hb, fun h => absurd h.1 hb⟩

theorem key_take {T : List FS} {high : Bool} {n : Nat} (hv : ValidT T) (ho : ¬ Ovf T high) (ho' : ¬ Ovf (T.take n) high) (hn : n <= T.length) (hw : NewOk T n) {x : Need} (hx : x ∈ needsAll T high) (hf : x.1 < n) :
  ∃ y ∈ needsAll (T.take n) high, y.1 = x.1 /\ y.2.1 = x.2.1 := by
 obtain ⟨g, hg, hxg⟩ := need_mem.1 hx
 have hfg := needsAt_fst hg x hxg
 have hgn : g < n := by omega
 have hl : (T.take n).length = n := by rw [List.length_take]; omega
 by_cases h0 : 0 <= x.2.1
 ·exact ⟨x, need_mem.2 ⟨g, by omega, (reg_take hv hgn hg h0).2 hxg⟩, rfl, rfl⟩
 ·have hcl := idx_class hg hxg (by omega)
  have hc := (needs_ok hv ho x hx).cl
  obtain ⟨c, hcc⟩ : ∃ c : Nat, x.2.2.1 = c := ⟨x.2.2.1.toNat, by omega⟩
  have h1 := (winE_iff hv ho hg (c := c) (by omega)).1 ⟨x, hxg, by rw [hcl, hcc]⟩
  have h2 := (win_take hv ho ho' hn hw (n - g) g hgn (Nat.le_refl _) c (by omega)).1 h1
  obtain ⟨y, hy, hye⟩ := (winE_iff (ValidT_take hv n) ho' (by omega) (by omega)).2 h2
  have hyf := needsAt_fst (by omega) y hy
  exact ⟨y, need_mem.2 ⟨g, by omega, hy⟩, by omega, by omega⟩

end Go.Proofs.YtnhhncjflnlfaaaGreat
end

section
/-
 Moves: which they are; the reference's of, affected, moves.
-/
namespace Go.Proofs.YtnhhncjflnlfaaaGreat
open Go.Eng
set_option linter.unusedVariables false

abbrev Mv := Int × Int × Int × Int
def encMv (x : Mv) : List Value := [.int .i64 x.1, .int .i64 x.2.1, .int .i64 x.2.2.1, .int .u64 x.2.2.2]
theorem encMv_len (x : Mv) : (encMv x).length = 4 := rfl
theorem encMv_one (x : Mv) : ∀ u ∈ encMv x, oneC u = true := fun u hu => by simp [encMv] at hu; rcases hu with rfl | rfl | rfl | rfl <;> rfl
theorem rkMv : RK Tryz.prog t_37 t_47 (.agg #[.int .i64 0, .int .i64 0, .int .i64 0, .int .u64 0]) 4 32 encMv := ⟨by kernel_rfl, by kernel_rfl, rfl, by omega, by omega, encMv_len, encMv_one⟩

def ofL (A : List Asg) (f : Int) : List Asg := A.filter (fun x => decide (x.1.1 = f))
def affB (A B : List Asg) (f : Int) : Bool := !(decide (ofL A f = ofL B f))
def stopL (A B : List Asg) (n k : Nat) : List Mv := ((List.range k).filter (fun j : Nat => affB A B ((n : Int) - 1 - j))).map (fun j : Nat => (1, (n : Int) - 1 - j, 0, 0))
def writeQ (A B : List Asg) (n : Nat) (x : Asg) : Bool := decide ((n : Int) <= x.1.1) || affB A B x.1.1
def writeL (A B : List Asg) (n k : Nat) : List Mv := ((B.take k).filter (writeQ A B n)).map (fun x => (2, x.1.1, x.1.2.1, x.2))
def startQ (A B : List Asg) (n f : Nat) : Bool := decide ((n : Int) <= (f : Int)) || affB A B f
def startL (A B : List Asg) (n k : Nat) : List Mv := ((List.range k).filter (startQ A B n)).map (fun f : Nat => (3, (f : Int), 0, 0))
def movesF (A B : List Asg) (n m : Nat) : List Mv := stopL A B n n ++ writeL A B n B.length ++ startL A B n m

theorem stopL_succ (A B : List Asg) (n k : Nat) : stopL A B n (k + 1) = stopL A B n k ++ (if affB A B ((n : Int) - 1 - k) then [(1, (n : Int) - 1 - k, 0, 0)] else []) := by
 unfold stopL
 rw [range_filter_succ, List.map_append]
 congr 1
 split <;> rfl
theorem startL_succ (A B : List Asg) (n k : Nat) : startL A B n (k + 1) = startL A B n k ++ (if startQ A B n k then [(3, (k : Int), 0, 0)] else []) := by
 unfold startL
 rw [range_filter_succ, List.map_append]
 congr 1
 split <;> rfl
theorem writeL_succ (A B : List Asg) (n : Nat) {k : Nat} (hk : k < B.length) : writeL A B n (k + 1) = writeL A B n k ++ (if writeQ A B n (B.getD k zA) then [(2, (B.getD k zA).1.1, (B.getD k zA).1.2.1, (B.getD k zA).2)] else []) := by
 unfold writeL
 rw [filter_succ zA _ hk, List.map_append]
 congr 1
 split <;> rfl
theorem stopL_len (A B : List Asg) (n k : Nat) : (stopL A B n k).length <= k := by
 unfold stopL
 rw [List.length_map]
 have := List.length_filter_le (fun j : Nat => affB A B ((n : Int) - 1 - j)) (List.range k)
 rw [List.length_range] at this
 exact this
theorem startL_len (A B : List Asg) (n k : Nat) : (startL A B n k).length <= k := by
 unfold startL
 rw [List.length_map]
 have := List.length_filter_le (startQ A B n) (List.range k)
 rw [List.length_range] at this
 exact this
theorem writeL_len (A B : List Asg) (n k : Nat) : (writeL A B n k).length <= k := by
 unfold writeL
 rw [List.length_map]
 exact filter_take_len _ _ _

theorem asg_rd {H : Heap} {s : Sl} {A : List Asg} (h : IsS 5 encA H s A) {k : Nat} (hk : k < A.length) : ∃ a, s.p = some a /\ rd H (a.add ((k : Int).toNat * 5)) = some (.int .i64 (A.getD k zA).1.1) /\ ∀ j v, (encA (A.getD k zA))[j]? = some v -> rd H ((a.add ((k : Int).toNat * 5)).add j) = some v := by
 obtain ⟨a, hp, hr⟩ := IsS.atN h zA hk
 exact ⟨a, hp, by have := hr 0 _ rfl; rwa [add_zero'] at this, hr⟩

theorem rof_spec (H : Heap) (s : Sl) (A : List Asg) (f : Int) (h : IsS 5 encA H s A) (hl : A.length <= 100000) :
  CallsH Tryz.prog n_104 #[.slice s.p s.n s.c, .int .i64 f] H (fun v H' => ∃ out : Sl, v = .slice out.p out.n out.c /\ Own H.size t_32 5 H' out ((ofL A f).flatMap encA) /\ Ext H H') := by
 refine F_104_ok _ _ ?_
 unfold F_104
 have hn := h.len
 refine loop2 A.length (fun k out H' => Own H.size t_32 5 H' out ((ofL (A.take k) f).flatMap encA) /\ Ext H H') ⟨Own.nil _ _ _ _, .refl _⟩ ?_
 rintro k out H1 hk ⟨ow, e1⟩
 unfold F_104_r1
 have hon := Own.len rkAsg ow
 have hol : (ofL (A.take k) f).length <= k := filter_take_len _ _ _
 refine iteB_dec (fun c => ?_) (fun c => ?_)
 ·have hkn : k < A.length := by omega
  obtain ⟨a, hp, r0, hr⟩ := asg_rd (h.ext e1) hkn
  have hsu : ofL (A.take (k + 1)) f = ofL (A.take k) f ++ (if decide ((A.getD k zA).1.1 = f) then [A.getD k zA] else []) := filter_succ zA _ hkn
  refine ⟨by omega, by omega, unSome_mk hp ⟨_, r0, iteB_beq (fun q => ?_) (fun q => ?_)⟩⟩
  ·rw [if_pos (by simpa using q)] at hsu
   refine ⟨by omega, by omega, unSome_mk hp ⟨_, r0, _, hr 1 _ rfl, _, hr 2 _ rfl, _, hr 3 _ rfl, _, hr 4 _ rfl, ?_⟩⟩
   refine apR rkAsg (A.getD k zA) (lo := H.size) ow (by omega) e1.size ?_
   intro s' H3 o3 n3 m3
   exact letV_mk _ rfl (next2 hkn (by omega) ⟨by rw [hsu]; exact o3, Mods.ext e1 m3 (blkOf_new ow.new)⟩)
  ·rw [if_neg (by simpa using q), List.append_nil] at hsu
   exact letV_mk _ rfl (next2 hkn (by omega) ⟨by rw [hsu]; exact ow, e1⟩)
 ·obtain rfl : k = A.length := by omega
  rw [List.take_length] at ow
  exact ⟨out, rfl, ow, e1⟩

theorem asg_eqB {x y : Asg} : (!(((x.1.1 == y.1.1) && ((x.1.2.1 == y.1.2.1) && ((x.1.2.2.1 == y.1.2.2.1) && ((x.1.2.2.2 == y.1.2.2.2) && true)))) && ((x.2 == y.2) && true))) = !(decide (x = y)) := by
 congr 1
 rw [Bool.eq_iff_iff, decide_eq_true_eq]
 obtain ⟨⟨x0, x1, x2, x3⟩, x4⟩ := x
 obtain ⟨⟨y0, y1, y2, y3⟩, y4⟩ := y
 simp

theorem list_same {A B : List Asg} (hl : A.length = B.length) (h : ∀ i, i < A.length -> A.getD i zA = B.getD i zA) : A = B := by
 apply List.ext_getElem hl
 intro i h1 h2
 have := h i h1
 simpa [List.getD, h1, h2] using this

theorem raff_spec (H : Heap) (s t : Sl) (A B : List Asg) (f : Int) (h : IsS 5 encA H s A) (h' : IsS 5 encA H t B) (hl : A.length <= 100000) (hl' : B.length <= 100000) :
  CallsH Tryz.prog n_79 #[.slice s.p s.n s.c, .slice t.p t.n t.c, .int .i64 f] H (BoolP (affB A B f) H) := by
 refine F_79_ok _ _ _ ?_
 unfold F_79
 refine (rof_spec H s A f h hl).mono ?_
 rintro v H1 ⟨x, rfl, ox, e1⟩
 refine ⟨x, rfl, (rof_spec H1 t B f (h'.ext e1) hl').mono ?_⟩
 rintro v H2 ⟨y, rfl, oy, e2⟩
 have ix := (Own.is rkAsg ox).ext e2
 have iy := Own.is rkAsg oy
 have hx := ix.len
 have hy := iy.len
 have hlx : (ofL A f).length <= A.length := List.length_filter_le _ _
 have x2 := e1.trans e2
 unfold affB
 generalize ofL A f = U at *
 generalize ofL B f = V at *
 refine ⟨y, rfl, iteB_bne (fun c => ⟨by rw [decide_eq_false (fun e => c (by rw [hx, hy, e]))]; rfl, x2⟩) (fun c => ?_)⟩
 refine loop1 U.length (fun k H' => H' = H2 /\ ∀ i, i < k -> U.getD i zA = V.getD i zA) ⟨rfl, fun i hi => by omega⟩ ?_
 rintro k H3 hk ⟨rfl, hs⟩
 unfold F_79_r1
 refine iteB_dec (fun d => ?_) (fun d => ⟨?_, x2⟩)
 ·have hkn : k < U.length := by omega
  obtain ⟨a, hp, r0, hr⟩ := asg_rd ix hkn
  obtain ⟨b, hq, q0, hs'⟩ := asg_rd iy (k := k) (by omega)
  refine ⟨by omega, by omega, unSome_mk hp ⟨_, r0, _, hr 1 _ rfl, _, hr 2 _ rfl, _, hr 3 _ rfl, _, hr 4 _ rfl, by omega, by omega, unSome_mk hq ⟨_, q0, _, hs' 1 _ rfl, _, hs' 2 _ rfl, _, hs' 3 _ rfl, _, hs' 4 _ rfl, ?_⟩⟩⟩
  rw [asg_eqB]
  refine iteB_not (fun g => ⟨by rw [decide_eq_false (fun e => by rw [e] at g; simp at g)]; rfl, x2⟩) (fun g => letV_mk _ rfl (next1 hkn (by omega) ⟨rfl, fun i hi => ?_⟩))
  by_cases e : i = k
  ·rw [e]; simpa using g
  ·exact hs i (by omega)
 ·rw [decide_eq_true (list_same (by omega) (fun i hi => hs i (by omega)))]
  rfl

def MvP (M : List Mv) (H : Heap) (v : Value) (H' : Heap) : Prop := ∃ out : Sl, v = .slice out.p out.n out.c /\ Own H.size t_47 4 H' out (M.flatMap encMv) /\ Ext H H'

theorem rmoves_spec (H : Heap) (s t : Sl) (A B : List Asg) (n m : Nat) (h : IsS 5 encA H s A) (h' : IsS 5 encA H t B) (hl : A.length <= 1001) (hl' : B.length <= 1001) (hn : n <= 1000) (hm : m <= 1000) :
  CallsH Tryz.prog n_39 #[.slice s.p s.n s.c, .slice t.p t.n t.c, .int .i64 (n : Int), .int .i64 (m : Int)] H (MvP (movesF A B n m) H) := by
 refine F_39_ok _ _ _ _ ?_
 unfold F_39
 have hbn := h'.len
 refine letV_mk ((n : Int) - 1 - ((0 : Nat) : Int)) (by rw [i64_in (by omega)]; omega) ?_
 refine ⟨fun out f H' => ∃ k : Nat, f = (n : Int) - 1 - k /\ k <= n /\ Own H.size t_47 4 H' out ((stopL A B n k).flatMap encMv) /\ Ext H H', fun _ f _ => (f + 1).toNat, ⟨0, rfl, by omega, Own.nil _ _ _ _, .refl _⟩, ?_⟩
 rintro out f H1 ⟨k, rfl, hk, ow, e1⟩
 unfold F_39_r5
 have hon := Own.len rkMv ow
 have hsl := stopL_len A B n k
 refine iteB_dec (fun c => ?_) (fun c => ?_)
 ·have hkn : k < n := by omega
  have hss := stopL_succ A B n k
  refine (raff_spec H1 s t A B ((n : Int) - 1 - k) (h.ext e1) (h'.ext e1) (by omega) (by omega)).mono ?_
  rintro v H2 ⟨rfl, e2⟩
  have x2 := e1.trans e2
  have ow2 := ow.ext e2
  refine ⟨_, rfl, iteB_intro (fun q => ?_) (fun q => ?_)⟩
  ·rw [if_pos q] at hss
   refine apR rkMv ((1, (n : Int) - 1 - k, 0, 0) : Mv) (lo := H.size) ow2 (by omega) x2.size ?_
   intro s' H4 o4 n4 m4
   exact letV_mk ((n : Int) - 1 - ((k + 1 : Nat) : Int)) (by rw [i64_in (by omega)]; omega) ⟨⟨k + 1, rfl, by omega, by rw [hss]; exact o4, Mods.ext x2 m4 (blkOf_new ow2.new)⟩, by dsimp only; omega⟩
  ·rw [if_neg (by rw [q]; exact Bool.false_ne_true), List.append_nil] at hss
   exact letV_mk ((n : Int) - 1 - ((k + 1 : Nat) : Int)) (by rw [i64_in (by omega)]; omega) ⟨⟨k + 1, rfl, by omega, by rw [hss]; exact ow2, x2⟩, by dsimp only; omega⟩
 obtain rfl : n = k := by omega
 refine loop2 B.length (fun k out H' => Own H.size t_47 4 H' out ((stopL A B n n ++ writeL A B n k).flatMap encMv) /\ Ext H H') ⟨by simpa [writeL] using ow, e1⟩ ?_
 rintro k2 out2 H5 hk2 ⟨ow5, e5⟩
 unfold F_39_r4
 have hon5 := Own.len rkMv ow5
 have hwl := writeL_len A B n k2
 rw [List.length_append] at hon5
 refine iteB_dec (fun c2 => ?_) (fun c2 => ?_)
 ·have hkB : k2 < B.length := by omega
  obtain ⟨a, hp, r0, hr⟩ := asg_rd (h'.ext e5) hkB
  have hws := writeL_succ A B n hkB
  refine ⟨by omega, by omega, unSome_mk hp ⟨_, r0, ?_⟩⟩
  refine ⟨fun b H' => b = writeQ A B n (B.getD k2 zA) /\ Ext H5 H', iteB_dec (fun q => ⟨?_, .refl _⟩) (fun q => (raff_spec H5 s t A B (B.getD k2 zA).1.1 (h.ext e5) (h'.ext e5) (by omega) (by omega)).mono ?_), ?_⟩
  ·unfold writeQ
   rw [decide_eq_true (by omega), Bool.true_or]
  ·rintro v H6 ⟨rfl, e6⟩
   refine ⟨_, rfl, ?_, e6⟩
   unfold writeQ
   rw [decide_eq_false (by omega), Bool.false_or]
  ·rintro b H7 ⟨rfl, e7⟩
   unfold F_39_k1
   have x7 := e5.trans e7
   have ow7 := ow5.ext e7
   refine iteB_intro (fun q => ?_) (fun q => ?_)
   ·rw [if_pos q] at hws
    obtain ⟨a2, hp2, _, hr2⟩ := asg_rd (h'.ext x7) hkB
    refine ⟨by omega, by omega, unSome_mk hp2 ⟨_, hr2 1 _ rfl, by omega, by omega, unSome_mk hp2 ⟨_, hr2 4 _ rfl, ?_⟩⟩⟩
    refine apR rkMv ((2, (B.getD k2 zA).1.1, (B.getD k2 zA).1.2.1, (B.getD k2 zA).2) : Mv) (lo := H.size) ow7 (by omega) x7.size ?_
    intro s' H9 o9 n9 m9
    exact letV_mk _ rfl (next2 hkB (by omega) ⟨by rw [hws, <- List.append_assoc]; exact o9, Mods.ext x7 m9 (blkOf_new ow7.new)⟩)
   ·rw [if_neg (by rw [q]; exact Bool.false_ne_true), List.append_nil] at hws
    exact letV_mk _ rfl (next2 hkB (by omega) ⟨by rw [hws]; exact ow7, x7⟩)
 obtain rfl : k2 = B.length := by omega
 refine loop2 m (fun k out H' => Own H.size t_47 4 H' out ((stopL A B n n ++ writeL A B n B.length ++ startL A B n k).flatMap encMv) /\ Ext H H') ⟨by simpa [startL] using ow5, e5⟩ ?_
 rintro k3 out3 H10 hk3 ⟨ow10, e10⟩
 unfold F_39_r3
 have hon10 := Own.len rkMv ow10
 have hsl3 := startL_len A B n k3
 rw [List.length_append, List.length_append] at hon10
 refine iteB_dec (fun c3 => ?_) (fun c3 => ?_)
 ·have hkm : k3 < m := by omega
  have hss := startL_succ A B n k3
  refine ⟨fun b H' => b = startQ A B n k3 /\ Ext H10 H', iteB_dec (fun q => ⟨?_, .refl _⟩) (fun q => (raff_spec H10 s t A B k3 (h.ext e10) (h'.ext e10) (by omega) (by omega)).mono ?_), ?_⟩
  ·unfold startQ
   rw [decide_eq_true (by omega), Bool.true_or]
  ·rintro v H11 ⟨rfl, e11⟩
   refine ⟨_, rfl, ?_, e11⟩
   unfold startQ
   rw [decide_eq_false (by omega), Bool.false_or]
  ·rintro b H12 ⟨rfl, e12⟩
   unfold F_39_k2
   have x12 := e10.trans e12
   have ow12 := ow10.ext e12
   refine iteB_intro (fun q => ?_) (fun q => ?_)
   ·rw [if_pos q] at hss
    refine apR rkMv ((3, (k3 : Int), 0, 0) : Mv) (lo := H.size) ow12 (by omega) x12.size ?_
    intro s' H14 o14 n14 m14
    exact letV_mk _ rfl (next2 hkm (by omega) ⟨by rw [hss, <- List.append_assoc]; exact o14, Mods.ext x12 m14 (blkOf_new ow12.new)⟩)
   ·rw [if_neg (by rw [q]; exact Bool.false_ne_true), List.append_nil] at hss
    exact letV_mk _ rfl (next2 hkm (by omega) ⟨by rw [hss]; exact ow12, x12⟩)
 ·obtain rfl : m = k3 := by omega
  exact ⟨out3, rfl, ow10, e10⟩

end Go.Proofs.YtnhhncjflnlfaaaGreat
end

section
/-
 The program's moves: writeMove, extensionMoves, byFunction, reassignmentMoves.
-/
namespace Go.Proofs.YtnhhncjflnlfaaaGreat
open Go.Eng
set_option linter.unusedVariables false

theorem writeMove_spec (x : Asg) (H : Heap) : CallsH Tryz.prog n_72 #[asgV x] H (fun v H' => v = .agg #[.int .i64 2, .int .i64 x.1.1, .int .i64 x.1.2.1, .int .u64 x.2] /\ Ext H H') := by
 refine F_72_ok _ _ _ _ _ ?_
 unfold F_72
 refine push_mk (vs := encA x) fun H1 e1 z1 b1 => push_mk (vs := encMv (0, 0, 0, 0)) fun H2 e2 z2 b2 => ?_
 have b1' := b1.ext e2
 refine ⟨_, b1'.rd0 rfl, _, b1'.rd (i := 1) rfl, _, b1'.rd (i := 4) rfl, b2.ok0 (Nat.le_refl 4), letH_mk ?_⟩
 intro H3 h3
 have b3 : Blk H3 H1.size t_47 (encMv (2, x.1.1, x.1.2.1, x.2)) := by rw [h3]; exact b2.wr
 have m3 : Mods [H1.size] H2 H3 := by rw [h3]; exact Mods.wrs (by simp)
 clear h3
 exact ⟨_, b3.rd0 rfl, _, b3.rd (i := 1) rfl, _, b3.rd (i := 2) rfl, _, b3.rd (i := 3) rfl, rfl, Mods.ext (e1.trans e2) m3 (by simp; omega)⟩

def extW (B : List Asg) (n k : Nat) : List Mv := ((B.take k).filter (fun x => decide ((n : Int) <= x.1.1))).map (fun x => (2, x.1.1, x.1.2.1, x.2))
def extS (n k : Nat) : List Mv := ((List.range k).filter (fun f => decide (n <= f))).map (fun f : Nat => (3, (f : Int), 0, 0))
def extM (B : List Asg) (n m : Nat) : List Mv := extW B n B.length ++ extS n m
theorem extW_succ (B : List Asg) (n : Nat) {k : Nat} (hk : k < B.length) : extW B n (k + 1) = extW B n k ++ (if decide ((n : Int) <= (B.getD k zA).1.1) then [(2, (B.getD k zA).1.1, (B.getD k zA).1.2.1, (B.getD k zA).2)] else []) := by
 unfold extW
 rw [filter_succ zA _ hk, List.map_append]
 congr 1
 split <;> rfl
theorem extS_succ (n : Nat) {k : Nat} (h : n <= k) : extS n (k + 1) = extS n k ++ [(3, (k : Int), 0, 0)] := by
 unfold extS
 rw [range_filter_succ, List.map_append, if_pos (by simpa using h)]
 rfl
theorem extS_nil (n : Nat) : extS n n = [] := by
 unfold extS
 rw [List.filter_eq_nil_iff.2 (fun f hf => by have := List.mem_range.1 hf; simp; omega)]
 rfl
theorem extW_len (B : List Asg) (n k : Nat) : (extW B n k).length <= k := by
 unfold extW
 rw [List.length_map]
 exact filter_take_len _ _ _
theorem extS_len (n k : Nat) : (extS n k).length <= k := by
 unfold extS
 rw [List.length_map]
 have := List.length_filter_le (fun f => decide (n <= f)) (List.range k)
 rw [List.length_range] at this
 exact this

theorem moves_ext {A B : List Asg} {n m : Nat} (h : ∀ f : Int, f < n -> affB A B f = false) : movesF A B n m = extM B n m := by
 have h1 : stopL A B n n = [] := by
  unfold stopL
  rw [List.filter_eq_nil_iff.2 (fun j hj => by have := List.mem_range.1 hj; rw [h _ (by omega)]; exact Bool.false_ne_true)]
  rfl
 have h2 : writeL A B n B.length = extW B n B.length := by
  unfold writeL extW
  congr 1
  apply List.filter_congr
  intro x _
  unfold writeQ
  by_cases c : (n : Int) <= x.1.1
  ·rw [decide_eq_true c, Bool.true_or]
  ·rw [decide_eq_false c, Bool.false_or, h _ (by omega)]
 have h3 : startL A B n m = extS n m := by
  unfold startL extS
  congr 1
  apply List.filter_congr
  intro f _
  unfold startQ
  by_cases c : n <= f
  ·rw [decide_eq_true (by omega), Bool.true_or, decide_eq_true c]
  ·rw [decide_eq_false (by omega), Bool.false_or, h _ (by omega), decide_eq_false c]
 unfold movesF extM
 rw [h1, h2, h3, List.nil_append]

theorem extensionMoves_spec (H : Heap) (t : Sl) (B : List Asg) (n m : Nat) (h : IsS 5 encA H t B) (hl : B.length <= 1001) (hn : n <= m) (hm : m <= 1000) :
  CallsH Tryz.prog n_33 #[.slice t.p t.n t.c, .int .i64 (m : Int), .int .i64 (n : Int)] H (MvP (extM B n m) H) := by
 refine F_33_ok _ _ _ ?_
 unfold F_33
 have htn := h.len
 refine loop2 B.length (fun k out H' => Own H.size t_47 4 H' out ((extW B n k).flatMap encMv) /\ Ext H H') ⟨Own.nil _ _ _ _, .refl _⟩ ?_
 rintro k out H1 hk ⟨ow, e1⟩
 unfold F_33_r2
 have hon := Own.len rkMv ow
 have hwl := extW_len B n k
 refine iteB_dec (fun c => ?_) (fun c => ?_)
 ·have hkn : k < B.length := by omega
  obtain ⟨a, hp, r0, hr⟩ := asg_rd (h.ext e1) hkn
  have hws := extW_succ B n hkn
  refine ⟨by omega, by omega, unSome_mk hp ⟨_, r0, _, hr 1 _ rfl, _, hr 2 _ rfl, _, hr 3 _ rfl, _, hr 4 _ rfl, local_mk (vs := encA (B.getD k zA)) rfl rfl fun H3 e3 z3 b3 => ?_⟩⟩
  have x3 := e1.trans e3
  refine ⟨_, b3.rd0 rfl, iteB_dec (fun q => ?_) (fun q => ?_)⟩
  ·rw [if_pos (by simpa using q)] at hws
   refine ⟨_, b3.rd0 rfl, _, b3.rd (i := 1) rfl, _, b3.rd (i := 2) rfl, _, b3.rd (i := 3) rfl, _, b3.rd (i := 4) rfl, (writeMove_spec (B.getD k zA) H3).mono ?_⟩
   rintro v H4 ⟨rfl, e4⟩
   have x4 := x3.trans e4
   have ow4 := ow.ext (e3.trans e4)
   refine ⟨_, _, _, _, rfl, ?_⟩
   refine apR rkMv ((2, (B.getD k zA).1.1, (B.getD k zA).1.2.1, (B.getD k zA).2) : Mv) (lo := H.size) ow4 (by omega) x4.size ?_
   intro s' H6 o6 n6 m6
   exact next2 hkn (by omega) ⟨by rw [hws]; exact o6, Mods.ext x4 m6 (blkOf_new ow4.new)⟩
  ·rw [if_neg (by simpa using q), List.append_nil] at hws
   exact next2 hkn (by omega) ⟨by rw [hws]; exact ow.ext e3, x3⟩
 obtain rfl : k = B.length := by omega
 refine ⟨fun out f H' => ∃ k : Nat, f = k /\ n <= k /\ k <= m /\ Own H.size t_47 4 H' out ((extW B n B.length ++ extS n k).flatMap encMv) /\ Ext H H', fun _ f _ => (m - f).toNat, ⟨n, rfl, Nat.le_refl _, hn, by rw [extS_nil, List.append_nil]; exact ow, e1⟩, ?_⟩
 rintro out2 f H7 ⟨k2, rfl, hnk, hkm, ow7, e7⟩
 unfold F_33_r1
 have hon7 := Own.len rkMv ow7
 have hsl := extS_len n k2
 rw [List.length_append] at hon7
 refine iteB_dec (fun c2 => ?_) (fun c2 => ?_)
 ·have hss := extS_succ n hnk
  refine apR rkMv ((3, (k2 : Int), 0, 0) : Mv) (lo := H.size) ow7 (by omega) e7.size ?_
  intro s' H9 o9 n9 m9
  exact letV_mk ((k2 + 1 : Nat) : Int) (by rw [i64_in (by omega)]; omega) ⟨⟨k2 + 1, rfl, by omega, by omega, by rw [hss, <- List.append_assoc]; exact o9, Mods.ext e7 m9 (blkOf_new ow7.new)⟩, by dsimp only; omega⟩
 ·obtain rfl : m = k2 := by omega
  exact ⟨out2, rfl, ow7, e7⟩

theorem sEqual_spec (H : Heap) (a b : Sl) (A B : List Asg) (ha : IsS 5 encA H a A) (hb : IsS 5 encA H b B) (hl : A.length <= 100000) :
  CallsH Tryz.prog n_75 #[.slice a.p a.n a.c, .slice b.p b.n b.c] H (fun v H' => v = .bool (decide (A = B)) /\ H' = H) := by
 refine F_75_ok _ _ ?_
 unfold F_75
 have na := ha.len
 have nb := hb.len
 refine iteB_bne (fun c => ⟨by rw [decide_eq_false (fun e => c (by rw [na, nb, e]))], rfl⟩) (fun c => ?_)
 refine loop1 A.length (fun k H' => H' = H /\ ∀ i, i < k -> A.getD i zA = B.getD i zA) ⟨rfl, fun i hi => by omega⟩ ?_
 rintro k H1 hk ⟨rfl, heq⟩
 unfold F_75_r1
 refine iteB_dec (fun c1 => ?_) (fun c1 => ⟨by rw [decide_eq_true (list_same (by omega) (fun i hi => heq i (by omega)))], rfl⟩)
 have hkn : k < A.length := by omega
 obtain ⟨p, hp, r0, hr⟩ := asg_rd ha hkn
 obtain ⟨q, hq, q0, hs⟩ := asg_rd hb (k := k) (by omega)
 refine ⟨by omega, by omega, unSome_mk hp ⟨_, r0, _, hr 1 _ rfl, _, hr 2 _ rfl, _, hr 3 _ rfl, _, hr 4 _ rfl, by omega, by omega, unSome_mk hq ⟨_, q0, _, hs 1 _ rfl, _, hs 2 _ rfl, _, hs 3 _ rfl, _, hs 4 _ rfl, ?_⟩⟩⟩
 rw [asg_eqB]
 refine iteB_not (fun g => ⟨by rw [decide_eq_false (fun e => by rw [e] at g; simp at g)], rfl⟩) (fun g => next1 hkn (by omega) ⟨rfl, fun i hi => ?_⟩)
 by_cases e : i = k
 ·rw [e]; simpa using g
 ·exact heq i (by omega)

structure BF (H0 : Heap) (b m : Nat) (A : List Asg) (S : Nat -> Sl) (H : Heap) : Prop where
 blk : Blk H b t_33 (tab m (fun i => slV (S i)))
 own : ∀ f : Nat, f < m -> Own (b + 1) t_32 5 H (S f) ((ofL A f).flatMap encA)
 ne : ∀ f g : Nat, f < m -> g < m -> f ≠ g -> ∀ a a', (S f).p = some a -> (S g).p = some a' -> a.block ≠ a'.block
 ext : Ext H0 H
theorem BF.go {H0 H H' : Heap} {b m : Nat} {A : List Asg} {S : Nat -> Sl} (h : BF H0 b m A S H) (e : Ext H H') : BF H0 b m A S H' := ⟨h.blk.ext e, fun f hf => (h.own f hf).ext e, h.ne, h.ext.trans e⟩

theorem zeroRow_nil (n : Nat) : zeroRow (.slice none 0 0) n = (tab n (fun _ => slV ⟨none, 0, 0⟩)).toArray := by
 unfold zeroRow tab
 apply Array.ext
 ·simp [Value.cells]
 ·intro i h1 h2
  simp [Value.cells, Nat.mod_one]
theorem zeroRow_bool (n : Nat) : zeroRow (.bool false) n = (List.replicate n (Value.bool false)).toArray := by
 unfold zeroRow
 apply Array.ext
 ·simp [Value.cells]
 ·intro i h1 h2
  simp [Value.cells, Nat.mod_one]
theorem letH_keeps {H : Heap} {o : Obj} {l : List (Addr × Nat)} {K : Heap -> Prop} (h : letH (H.push o) K) : letH (H.push o) (fun H1 => Keeps H H1 l /\ K H1) := ⟨(Ext.push _ _).keeps, h⟩

theorem byFunction_spec (H : Heap) (s : Sl) (A : List Asg) (m : Nat) (h : IsS 5 encA H s A) (hl : A.length <= 1001) (hm : m <= 1000) :
  CallsH Tryz.prog n_74 #[.slice s.p s.n s.c, .int .i64 (m : Int)] H (fun v H' => v = .slice (some ⟨H.size, 0, none⟩) m m /\ ∃ S, BF H H.size m A S H') := by
 refine F_74_ok _ _ ?_
 unfold F_74
 have hn := h.len
 refine ⟨by omega, by omega, by omega, letH_mk ?_⟩
 rw [Int.toNat_natCast]
 intro H1 h1
 have e1 : Ext H H1 := by rw [h1]; exact Ext.push _ _
 have b1 : Blk H1 H.size t_33 (tab m (fun _ => slV ⟨none, 0, 0⟩)) := by rw [h1, zeroRow_nil]; exact Blk.new _ _ _
 clear h1
 refine loop1 A.length (fun k H' => ∃ S, BF H H.size m (A.take k) S H') ⟨fun _ => ⟨none, 0, 0⟩, b1, fun f hf => by simpa [ofL] using Own.nil _ _ _ _, fun f g hf hg hne a a' ha => (by cases ha), e1⟩ ?_
 rintro k H2 hk ⟨S, st⟩
 unfold F_74_r2
 rw [Int.toNat_natCast]
 have hsu : ∀ f : Int, k < A.length -> ofL (A.take (k + 1)) f = ofL (A.take k) f ++ (if decide ((A.getD k zA).1.1 = f) then [A.getD k zA] else []) := fun f hk => filter_succ zA _ hk
 refine iteB_dec (fun c => ?_) (fun c => ?_)
 ·have hkn : k < A.length := by omega
  obtain ⟨a, hp, r0, hr⟩ := asg_rd (h.ext st.ext) hkn
  have hnx : ∀ H', Ext H2 H' -> (∀ f : Nat, f < m -> (A.getD k zA).1.1 ≠ f) -> CI A.length (fun k H' => ∃ S, BF H H.size m (A.take k) S H') (IntKind.i64.wrap ((k : Int) + 1)) H' /\ CM A.length (IntKind.i64.wrap ((k : Int) + 1)) H' < CM A.length (k : Int) H2 := fun H' e' hf => next1 hkn (by omega) ⟨S, (st.go e').blk, fun f hfm => by
   rw [hsu f hkn, if_neg (by simpa using hf f hfm), List.append_nil]
   exact (st.go e').own f hfm, st.ne, (st.go e').ext⟩
  refine ⟨by omega, by omega, unSome_mk hp ⟨_, r0, _, hr 1 _ rfl, _, hr 2 _ rfl, _, hr 3 _ rfl, _, hr 4 _ rfl, local_mk (vs := encA (A.getD k zA)) rfl rfl fun H4 e4 z4 b4 => ?_⟩⟩
  refine ⟨_, b4.rd0 rfl, fun b H' => (b = true ↔ 0 <= (A.getD k zA).1.1 /\ (A.getD k zA).1.1 < m) /\ H' = H4, iteB_dec (fun q => ⟨?_, rfl⟩) (fun q => ⟨?_, rfl⟩), ?_⟩
  ·rw [decide_eq_true_eq]; omega
  ·exact ⟨fun h => (by cases h), fun h => by omega⟩
  ·rintro b H5 ⟨hb, rfl⟩
   unfold F_74_k1
   rw [Int.toNat_natCast]
   refine iteB_intro (fun q => ?_) (fun q => hnx H5 e4 (fun f hf e => by rw [hb.2 (by omega)] at q; cases q))
   have hq := hb.1 q
   obtain ⟨f, hf⟩ : ∃ f : Nat, (A.getD k zA).1.1 = f := ⟨(A.getD k zA).1.1.toNat, by omega⟩
   rw [hf] at hq ⊢
   have hfm : f < m := by omega
   have st5 := st.go e4
   have rdS : rd H5 ((⟨H.size, 0, none⟩ : Addr).add ((f : Int).toNat * 1)) = some (.slice (S f).p (S f).n (S f).c) := by
    rw [Int.toNat_natCast, Nat.mul_one]
    exact st5.blk.rd (tab_get hfm)
   refine ⟨by omega, by omega, S f, rdS, _, b4.rd0 rfl, _, b4.rd (i := 1) rfl, _, b4.rd (i := 2) rfl, _, b4.rd (i := 3) rfl, _, b4.rd (i := 4) rfl, letH_keeps ?_⟩
   have of := st5.own f hfm
   have hon := Own.len rkAsg of
   have hol : (ofL (A.take k) f).length <= k := filter_take_len _ _ _
   have hlt5 : H.size < H5.size := st5.blk.lt
   refine apRat rkAsg (A.getD k zA) (lo := H.size + 1) of (by omega) (by omega) ?_
   intro s' H7 o7 n7 m7 at7
   have hbn : H.size ∉ blkOf (S f).p := fun hh => by have := blkOf_new of.new _ hh; omega
   have b7 := st5.blk.mods m7 hbn
   refine ⟨by omega, by omega, ?_, letH_mk ?_⟩
   ·rw [Int.toNat_natCast, Nat.mul_one]
    exact b7.ok (by rw [tab_length]; omega)
   intro H8 h8
   rw [Int.toNat_natCast, Nat.mul_one] at h8
   have b8 : Blk H8 H.size t_33 (tab m (fun i => slV (upd S f s' i))) := by
    have := b7.wr1 (i := f) (w := .slice s'.p s'.n s'.c)
    rw [tab_set hfm] at this
    rw [h8]
    rw [tab_congr (g := upd (fun i => slV (S i)) f (slV s'))]
    ·exact this
    ·intro i hi
     unfold upd
     split <;> rfl
   have m8 : Mods [H.size] H7 H8 := by rw [h8]; exact mods_wr_add (by simp)
   clear h8
   have o8 := o7.mods m8 (fun a ha => by have := o7.new a ha; simp; omega)
   refine next1 hkn (by omega) ⟨upd S f s', b8, fun g hg => ?_, fun g g' hg hg' hne a a' ha ha' => ?_, ?_⟩
   ·rw [hsu g hkn]
    by_cases e : g = f
    ·subst e
     rw [upd_same, if_pos (by simpa using hf)]
     exact o8
    ·rw [upd_ne e, if_neg (by rw [hf]; simp; omega), List.append_nil]
     have og := st5.own g hg
     have og7 := og.mods m7 (fun a ha hh => by
      cases hp2 : (S f).p with
      | none => rw [hp2] at hh; simp [blkOf] at hh
      | some c => rw [hp2] at hh; simp only [blkOf, List.mem_singleton] at hh; exact st5.ne g f hg hfm e a c ha hp2 hh)
     exact og7.mods m8 (fun a ha => by have := og.new a ha; simp; omega)
   ·have side : ∀ g, g < m -> g ≠ f -> ∀ a a', s'.p = some a -> (S g).p = some a' -> a.block ≠ a'.block := fun g hg hgf a a' ha ha' => by
     rcases at7 a ha with h1 | h1
     ·cases hp2 : (S f).p with
      | none => rw [hp2] at h1; simp [blkOf] at h1
      | some c => rw [hp2] at h1; simp only [blkOf, List.mem_singleton] at h1; rw [h1]; exact st5.ne f g hfm hg (fun e => hgf e.symm) c a' hp2 ha'
     ·have := (st5.own g hg).lt a' ha'; omega
    by_cases e : g = f
    ·subst e
     rw [upd_same] at ha
     rw [upd_ne (fun e => hne e.symm)] at ha'
     exact side g' hg' (fun e => hne e.symm) a a' ha ha'
    ·rw [upd_ne e] at ha
     by_cases e' : g' = f
     ·subst e'
      rw [upd_same] at ha'
      exact fun hh => side g hg e a' a ha' ha hh.symm
     ·rw [upd_ne e'] at ha'
      exact st.ne g g' hg hg' hne a a' ha ha'
   ·have x7 : Ext H H7 := Mods.ext st5.ext m7 (fun x hx => by have := blkOf_new of.new x hx; omega)
    exact Mods.ext x7 m8 (by simp)
 ·obtain rfl : k = A.length := by omega
  rw [List.take_length] at st
  exact ⟨rfl, S, st⟩

theorem reassignmentMoves_spec (H : Heap) (s t : Sl) (A B : List Asg) (n m : Nat) (h : IsS 5 encA H s A) (h' : IsS 5 encA H t B) (hl : A.length <= 1001) (hl' : B.length <= 1001) (hn : n <= m) (hm : m <= 1000) (hB : ∀ x ∈ B, 0 <= x.1.1 /\ x.1.1 < m) :
  CallsH Tryz.prog n_35 #[.slice s.p s.n s.c, .slice t.p t.n t.c, .int .i64 (m : Int), .int .i64 (n : Int)] H (MvP (movesF A B n m) H) := by
 refine F_35_ok _ _ _ _ ?_
 unfold F_35
 have hbn := h'.len
 refine (byFunction_spec H s A m h hl hm).mono ?_
 rintro v H1 ⟨rfl, S, bf⟩
 refine ⟨⟨some ⟨H.size, 0, none⟩, m, m⟩, rfl, (byFunction_spec H1 t B m (h'.ext bf.ext) hl' hm).mono ?_⟩
 rintro v H2 ⟨rfl, S2, bf2⟩
 have bf' := bf.go bf2.ext
 refine ⟨⟨some ⟨H1.size, 0, none⟩, m, m⟩, rfl, by omega, by omega, by omega, letH_mk ?_⟩
 rw [Int.toNat_natCast]
 intro H3 h3
 have e3 : Ext H2 H3 := by rw [h3]; exact Ext.push _ _
 have b3 : BBlk H3 H2.size t_4 m (fun _ => false) := by rw [h3, zeroRow_bool]; exact BBlk.of (Blk.new _ _ _)
 clear h3
 have x2 := bf'.ext
 have hzz : H.size <= H2.size := x2.size
 refine loop1 n (fun k H' => Ext H2 H' /\ ∃ w, BBlk H' H2.size t_4 m w /\ ∀ f : Nat, f < k -> w f = affB A B f) ⟨e3, _, b3, fun f hf => by omega⟩ ?_
 rintro k H4 hk ⟨e4, w, b4, hw⟩
 unfold F_35_r6
 rw [Int.toNat_natCast]
 refine iteB_dec (fun c => ?_) (fun c => ?_)
 ·have hkn : k < n := by omega
  have g1 := bf'.go e4
  have g2 := bf2.go e4
  have r1 : rd H4 ((⟨H.size, 0, none⟩ : Addr).add ((k : Int).toNat * 1)) = some (slV (S k)) := by rw [Int.toNat_natCast, Nat.mul_one]; exact g1.blk.rd (tab_get (by omega))
  have r2 : rd H4 ((⟨H1.size, 0, none⟩ : Addr).add ((k : Int).toNat * 1)) = some (slV (S2 k)) := by rw [Int.toNat_natCast, Nat.mul_one]; exact g2.blk.rd (tab_get (by omega))
  have hol : (ofL A k).length <= A.length := List.length_filter_le _ _
  refine ⟨by omega, by dsimp only; omega, unSome_mk rfl ⟨S k, r1, by omega, by dsimp only; omega, unSome_mk rfl ⟨S2 k, r2, (sEqual_spec H4 (S k) (S2 k) (ofL A k) (ofL B k) (Own.is rkAsg (g1.own k (by omega))) (Own.is rkAsg (g2.own k (by omega))) (by omega)).mono ?_⟩⟩⟩
  rintro v H5 ⟨rfl, rfl⟩
  refine ⟨_, rfl, by omega, by omega, b4.ok (by omega), letH_mk ?_⟩
  intro H6 h6
  have b6 := b4.wr (i := k) (by omega) (!(decide (ofL A k = ofL B k)))
  rw [<- h6] at b6
  have m6 : Mods [H2.size] H5 H6 := by rw [h6]; exact mods_wr_add (by simp)
  refine letV_mk _ rfl (next1 hkn (by omega) ⟨Mods.ext e4 m6 (by simp), _, b6, fun f hf => ?_⟩)
  by_cases e : f = k
  ·subst e; rw [upd_same]; rfl
  ·rw [upd_ne e]; exact hw f (by omega)
 obtain rfl : n = k := by omega
 refine letV_mk ((n : Int) - 1 - ((0 : Nat) : Int)) (by rw [i64_in (by omega)]; omega) ?_
 have x4 := x2.trans e4
 refine ⟨fun out f H' => ∃ k : Nat, f = (n : Int) - 1 - k /\ k <= n /\ Own H4.size t_47 4 H' out ((stopL A B n k).flatMap encMv) /\ Ext H4 H', fun _ f _ => (f + 1).toNat, ⟨0, rfl, by omega, Own.nil _ _ _ _, .refl _⟩, ?_⟩
 rintro out f H7 ⟨k, rfl, hk, ow, e7⟩
 unfold F_35_r5
 rw [Int.toNat_natCast]
 have hon := Own.len rkMv ow
 have hsl := stopL_len A B n k
 have rdw : ∀ H', Ext H4 H' -> ∀ f : Nat, f < n -> rd H' ((⟨H2.size, 0, none⟩ : Addr).add ((f : Int).toNat * 1)) = some (.bool (affB A B f)) := fun H' e' f hf => by
  rw [<- hw f hf, Int.toNat_natCast]
  exact (b4.ext e').rd (by omega)
 refine iteB_dec (fun c => ?_) (fun c => ?_)
 ·have hkn : k < n := by omega
  have hss := stopL_succ A B n k
  obtain ⟨fi, hfi⟩ : ∃ fi : Nat, (n : Int) - 1 - k = fi := ⟨((n : Int) - 1 - k).toNat, by omega⟩
  have r := rdw H7 e7 fi (by omega)
  rw [hfi] at hss
  rw [hfi]
  refine ⟨by omega, by omega, _, r, iteB_intro (fun q => ?_) (fun q => ?_)⟩
  ·rw [if_pos q] at hss
   refine apR rkMv ((1, (fi : Int), 0, 0) : Mv) (lo := H4.size) ow (by omega) e7.size ?_
   intro s' H9 o9 n9 m9
   exact letV_mk ((n : Int) - 1 - ((k + 1 : Nat) : Int)) (by rw [i64_in (by omega)]; omega) ⟨⟨k + 1, rfl, by omega, by rw [hss]; exact o9, Mods.ext e7 m9 (blkOf_new ow.new)⟩, by dsimp only; omega⟩
  ·rw [if_neg (by rw [q]; exact Bool.false_ne_true), List.append_nil] at hss
   exact letV_mk ((n : Int) - 1 - ((k + 1 : Nat) : Int)) (by rw [i64_in (by omega)]; omega) ⟨⟨k + 1, rfl, by omega, by rw [hss]; exact ow, e7⟩, by dsimp only; omega⟩
 obtain rfl : n = k := by omega
 refine loop2 B.length (fun k out H' => Own H4.size t_47 4 H' out ((stopL A B n n ++ writeL A B n k).flatMap encMv) /\ Ext H4 H') ⟨by simpa [writeL] using ow, e7⟩ ?_
 rintro k2 out2 H10 hk2 ⟨ow10, e10⟩
 unfold F_35_r4
 rw [Int.toNat_natCast]
 have hon5 := Own.len rkMv ow10
 have hwl := writeL_len A B n k2
 rw [List.length_append] at hon5
 refine iteB_dec (fun c2 => ?_) (fun c2 => ?_)
 ·have hkB : k2 < B.length := by omega
  obtain ⟨a, hp, r0, hr⟩ := asg_rd (h'.ext (bf.ext.trans (bf2.ext.trans (e4.trans e10)))) hkB
  have hws := writeL_succ A B n hkB
  have hfr := hB _ (getD_mem' zA hkB)
  refine ⟨by omega, by omega, unSome_mk hp ⟨_, r0, _, hr 1 _ rfl, _, hr 2 _ rfl, _, hr 3 _ rfl, _, hr 4 _ rfl, local_mk (vs := encA (B.getD k2 zA)) rfl rfl fun H12 e12 z12 b12 => ?_⟩⟩
  refine ⟨fun b H' => b = writeQ A B n (B.getD k2 zA) /\ H' = H12, ⟨_, b12.rd0 rfl, iteB_dec (fun q => ⟨?_, rfl⟩) (fun q => ⟨_, b12.rd0 rfl, by omega, by omega, ?_⟩)⟩, ?_⟩
  ·unfold writeQ
   rw [decide_eq_true (by omega), Bool.true_or]
  ·obtain ⟨fi, hfi⟩ : ∃ fi : Nat, (B.getD k2 zA).1.1 = fi := ⟨(B.getD k2 zA).1.1.toNat, by omega⟩
   have r := rdw H12 (e10.trans e12) fi (by omega)
   rw [<- hfi] at r
   refine ⟨_, r, ?_, rfl⟩
   unfold writeQ
   rw [decide_eq_false (by omega), Bool.false_or]
  ·rintro b H13 ⟨rfl, rfl⟩
   unfold F_35_k1
   have x13 := e10.trans e12
   refine iteB_intro (fun q => ?_) (fun q => ?_)
   ·rw [if_pos q] at hws
    refine ⟨_, b12.rd0 rfl, _, b12.rd (i := 1) rfl, _, b12.rd (i := 2) rfl, _, b12.rd (i := 3) rfl, _, b12.rd (i := 4) rfl, (writeMove_spec (B.getD k2 zA) H13).mono ?_⟩
    rintro v H14 ⟨rfl, e14⟩
    have x14 := x13.trans e14
    have ow14 := ow10.ext (e12.trans e14)
    refine ⟨_, _, _, _, rfl, ?_⟩
    refine apR rkMv ((2, (B.getD k2 zA).1.1, (B.getD k2 zA).1.2.1, (B.getD k2 zA).2) : Mv) (lo := H4.size) ow14 (by omega) x14.size ?_
    intro s' H16 o16 n16 m16
    exact next2 hkB (by omega) ⟨by rw [hws, <- List.append_assoc]; exact o16, Mods.ext x14 m16 (blkOf_new ow14.new)⟩
   ·rw [if_neg (by rw [q]; exact Bool.false_ne_true), List.append_nil] at hws
    exact next2 hkB (by omega) ⟨by rw [hws]; exact ow10.ext e12, x13⟩
 obtain rfl : k2 = B.length := by omega
 refine loop2 m (fun k out H' => Own H4.size t_47 4 H' out ((stopL A B n n ++ writeL A B n B.length ++ startL A B n k).flatMap encMv) /\ Ext H4 H') ⟨by simpa [startL] using ow10, e10⟩ ?_
 rintro k3 out3 H17 hk3 ⟨ow17, e17⟩
 unfold F_35_r3
 rw [Int.toNat_natCast]
 have hon10 := Own.len rkMv ow17
 have hsl3 := startL_len A B n k3
 rw [List.length_append, List.length_append] at hon10
 refine iteB_dec (fun c3 => ?_) (fun c3 => ?_)
 ·have hkm : k3 < m := by omega
  have hss := startL_succ A B n k3
  refine ⟨fun b H' => b = startQ A B n k3 /\ H' = H17, iteB_dec (fun q => ⟨?_, rfl⟩) (fun q => ⟨by omega, by omega, _, rdw H17 e17 k3 (by omega), ?_, rfl⟩), ?_⟩
  ·unfold startQ
   rw [decide_eq_true (by omega), Bool.true_or]
  ·unfold startQ
   rw [decide_eq_false (by omega), Bool.false_or]
  ·rintro b H18 ⟨rfl, rfl⟩
   unfold F_35_k2
   refine iteB_intro (fun q => ?_) (fun q => ?_)
   ·rw [if_pos q] at hss
    refine apR rkMv ((3, (k3 : Int), 0, 0) : Mv) (lo := H4.size) ow17 (by omega) e17.size ?_
    intro s' H14 o14 n14 m14
    exact letV_mk _ rfl (next2 hkm (by omega) ⟨by rw [hss, <- List.append_assoc]; exact o14, Mods.ext e17 m14 (blkOf_new ow17.new)⟩)
   ·rw [if_neg (by rw [q]; exact Bool.false_ne_true), List.append_nil] at hss
    exact letV_mk _ rfl (next2 hkm (by omega) ⟨by rw [hss]; exact ow17, e17⟩)
 ·obtain rfl : m = k3 := by omega
  exact ⟨out3, rfl, own_lo ow17 x4.size, x4.trans e17⟩

end Go.Proofs.YtnhhncjflnlfaaaGreat
end

section
/-
 Extending assignments: filling the window of a bridge (plain, and the program's).
-/
namespace Go.Proofs.YtnhhncjflnlfaaaGreat
open Go.Eng
set_option linter.unusedVariables false

def zN : Need := (0, 0, 0, 0)
def freeV (l f : List Rg) : List Rg := if ValidR l /\ ValidR f then freeF l f else []
def freshQ (N : List Need) (n i : Nat) : Bool := decide ((n : Int) <= (N.getD i zN).1)
def freshI (T : List FS) (N : List Need) (n : Nat) (p c : Int) (k : Nat) : List Nat := (idxF T N p c k).filter (freshQ N n)
def keptI (T : List FS) (N : List Need) (n : Nat) (p c : Int) (k : Nat) : List Nat := (idxF T N p c k).filter (fun i => !freshQ N n i)
def szI (N : List Need) (I : List Nat) : List Int := I.map (fun i => (N.getD i zN).2.2.2)
def frW (T : List FS) (N : List Need) (n : Nat) (p c : Int) (B : List Int) (w : Nat) : List Rg := freeV [winF N B w] ((keptI T N n p c N.length).map (winF N B))
def plW (T : List FS) (N : List Need) (n : Nat) (p c : Int) (B : List Int) (w : Nat) : Int × List Int × Cert := placeV (frW T N n p c B w) (szI N (freshI T N n p c N.length))
def fillF (T : List FS) (N : List Need) (n : Nat) (p c : Int) (B : List Int) : Option (List Int) :=
 if freshI T N n p c N.length = [] then some B
 else match atN N p (-1 - c) with
  | none => none
  | some w => if (plW T N n p c B w).1 = 0 then some (setI B ((freshI T N n p c N.length).zip (plW T N n p c B w).2.1)) else none

theorem freshI_succ (T : List FS) (N : List Need) (n : Nat) (p c : Int) (k : Nat) : freshI T N n p c (k + 1) = freshI T N n p c k ++ (if belQ T p c (N.getD k zN) && freshQ N n k then [k] else []) := by
 unfold freshI
 rw [idxF_succ, List.filter_append]
 congr 1
 show List.filter _ (if belQ T p c (N.getD k zN) then [k] else []) = _
 cases h1 : belQ T p c (N.getD k zN) <;> cases h2 : freshQ N n k <;> simp [h2]
theorem keptI_succ (T : List FS) (N : List Need) (n : Nat) (p c : Int) (k : Nat) : keptI T N n p c (k + 1) = keptI T N n p c k ++ (if belQ T p c (N.getD k zN) && !freshQ N n k then [k] else []) := by
 unfold keptI
 rw [idxF_succ, List.filter_append]
 congr 1
 show List.filter _ (if belQ T p c (N.getD k zN) then [k] else []) = _
 cases h1 : belQ T p c (N.getD k zN) <;> cases h2 : freshQ N n k <;> simp [h2]
theorem freshI_len (T : List FS) (N : List Need) (n : Nat) (p c : Int) (k : Nat) : (freshI T N n p c k).length <= k := Nat.le_trans (List.length_filter_le _ _) (idxF_len T N p c k)
theorem keptI_len (T : List FS) (N : List Need) (n : Nat) (p c : Int) (k : Nat) : (keptI T N n p c k).length <= k := Nat.le_trans (List.length_filter_le _ _) (idxF_len T N p c k)
theorem freshI_mem {T : List FS} {N : List Need} {n : Nat} {p c : Int} {k i : Nat} : i ∈ freshI T N n p c k ↔ i < k /\ belQ T p c (N.getD i zN) = true /\ (n : Int) <= (N.getD i zN).1 := by
 unfold freshI
 rw [List.mem_filter]
 show i ∈ idxF T N p c k /\ freshQ N n i = true ↔ _
 rw [idxF_mem]
 unfold freshQ
 rw [decide_eq_true_eq, and_assoc]
 rfl
theorem keptI_mem {T : List FS} {N : List Need} {n : Nat} {p c : Int} {k i : Nat} : i ∈ keptI T N n p c k ↔ i < k /\ belQ T p c (N.getD i zN) = true /\ (N.getD i zN).1 < n := by
 unfold keptI
 rw [List.mem_filter]
 show i ∈ idxF T N p c k /\ (!freshQ N n i) = true ↔ _
 rw [idxF_mem]
 unfold freshQ
 rw [Bool.not_eq_true', decide_eq_false_iff_not, and_assoc]
 have : ¬ (n : Int) <= (N.getD i zN).1 ↔ (N.getD i zN).1 < n := by omega
 rw [this]
 rfl
def AllU (B : List Int) : Prop := ∀ x ∈ B, U64 x
theorem AllU.at {B : List Int} (h : AllU B) {i : Nat} (hi : i < B.length) : U64 (B.getD i 0) := h _ (getD_mem' 0 hi)
theorem setI_all : ∀ (l : List (Nat × Int)) (B : List Int), AllU B -> (∀ x ∈ l, U64 x.2) -> AllU (setI B l)
 | [], B, h, _ => h
 | x :: l, B, h, hl => setI_all l (B.set x.1 x.2) (fun y hy => by
   rcases List.mem_or_eq_of_mem_set hy with h1 | h1
   ·exact h y h1
   ·rw [h1]; exact hl x (by simp)) (fun y hy => hl y (by simp [hy]))
theorem setI_allBnd {B : List Int} {I : List Nat} {bs : List Int} (h : AllU B) (hb : Bnd bs) : AllU (setI B (I.zip bs)) := setI_all _ _ h (fun x hx => by
 have := hb x.2 (List.of_mem_zip (show (x.1, x.2) ∈ _ from hx)).2
 unfold U64
 omega)

/-! ### the program's extension in memory -/
structure XE (T : List FS) (N : List Need) (n : Nat) (l ns : Sl) (H0 : Heap) (xb b1 b2 : Nat) : Prop where
 topo : Topo H0 l T
 nd : IsS 4 encN H0 ns N
 v : ValidT T
 ok : ∀ x ∈ N, NdOk T x
 len : N.length <= 1000
 nn : n <= T.length
 d1 : xb ≠ b1
 d2 : b1 ≠ b2
 d3 : xb ≠ b2
 l0 : H0.size <= xb
 l1 : H0.size <= b1
 l2 : H0.size <= b2
structure XS (N : List Need) (n : Nat) (l ns : Sl) (H0 : Heap) (xb b1 b2 : Nat) (B : List Int) (P : Nat -> Bool) (H : Heap) : Prop where
 x : Blk H xb t_130 [slV l, .int .i64 (n : Int), slV ns, .slice (some ⟨b1, 0, none⟩) N.length N.length, .slice (some ⟨b2, 0, none⟩) N.length N.length]
 b : BsB H b1 B
 p : BBlk H b2 t_4 N.length P
 bl : B.length = N.length
 u : AllU B
 ext : Ext H0 H
section
variable {T : List FS} {N : List Need} {n : Nat} {l ns : Sl} {H0 : Heap} {xb b1 b2 : Nat} {B : List Int} {P : Nat -> Bool} {H H' : Heap}
theorem XS.go (s : XS N n l ns H0 xb b1 b2 B P H) (e : Ext H H') : XS N n l ns H0 xb b1 b2 B P H' := ⟨s.x.ext e, RB.ext s.b e, s.p.ext e, s.bl, s.u, s.ext.trans e⟩
theorem XS.rdL (s : XS N n l ns H0 xb b1 b2 B P H) : rd H (⟨xb, 0, none⟩ : Addr) = some (.slice l.p l.n l.c) := s.x.rd0 rfl
theorem XS.rdN (s : XS N n l ns H0 xb b1 b2 B P H) : rd H ((⟨xb, 0, none⟩ : Addr).add 1) = some (.int .i64 (n : Int)) := s.x.rd (i := 1) rfl
theorem XS.rdD (s : XS N n l ns H0 xb b1 b2 B P H) : rd H ((⟨xb, 0, none⟩ : Addr).add 2) = some (.slice ns.p ns.n ns.c) := s.x.rd (i := 2) rfl
theorem XS.rdB (s : XS N n l ns H0 xb b1 b2 B P H) : rd H ((⟨xb, 0, none⟩ : Addr).add 3) = some (.slice (some ⟨b1, 0, none⟩) N.length N.length) := s.x.rd (i := 3) rfl
theorem XS.rdP (s : XS N n l ns H0 xb b1 b2 B P H) : rd H ((⟨xb, 0, none⟩ : Addr).add 4) = some (.slice (some ⟨b2, 0, none⟩) N.length N.length) := s.x.rd (i := 4) rfl
theorem XS.base (s : XS N n l ns H0 xb b1 b2 B P H) {i : Nat} (hi : i < N.length) : rd H ((⟨b1, 0, none⟩ : Addr).add (i * 1)) = some (.int .u64 (B.getD i 0)) := RB.rd0 s.b (getD_get 0 (by rw [s.bl]; exact hi)) rfl
theorem XS.setB (s : XS N n l ns H0 xb b1 b2 B P H) (en : XE T N n l ns H0 xb b1 b2) {i : Nat} (hi : i < N.length) {y : Int} (hy : U64 y) :
  okRow H ((⟨b1, 0, none⟩ : Addr).add (i * 1)) 1 /\ XS N n l ns H0 xb b1 b2 (B.set i y) P (wrs H ((⟨b1, 0, none⟩ : Addr).add (i * 1)) [.int .u64 y]) := by
 have hib : i < B.length := by rw [s.bl]; exact hi
 have m : Mods [b1] H (wrs H ((⟨b1, 0, none⟩ : Addr).add (i * 1)) [.int .u64 y]) := mods_wr_add (by simp)
 have h0 := en.d1
 have h1 := en.d2
 refine ⟨RB.ok0 s.b hib (by omega), s.x.mods m (by simp; exact h0), BsB.set s.b hib y, s.p.mods m (by simp; omega), by rw [List.length_set]; exact s.bl, fun z hz => ?_, Mods.ext s.ext m (by simp; exact en.l1)⟩
 rcases List.mem_or_eq_of_mem_set hz with h1 | h1
 ·exact s.u z h1
 ·rw [h1]; exact hy
theorem XS.setP (s : XS N n l ns H0 xb b1 b2 B P H) (en : XE T N n l ns H0 xb b1 b2) {i : Nat} (hi : i < N.length) :
  okRow H ((⟨b2, 0, none⟩ : Addr).add (i * 1)) 1 /\ XS N n l ns H0 xb b1 b2 B (upd P i true) (wrs H ((⟨b2, 0, none⟩ : Addr).add (i * 1)) [.bool true]) := by
 have m : Mods [b2] H (wrs H ((⟨b2, 0, none⟩ : Addr).add (i * 1)) [.bool true]) := mods_wr_add (by simp)
 have h0 := en.d3
 have h1 := en.d2
 exact ⟨s.p.ok hi, s.x.mods m (by simp; exact h0), RB.mods s.b m (by simp; exact h1), s.p.wr hi true, s.bl, s.u, Mods.ext s.ext m (by simp; exact en.l2)⟩
end

theorem IndexFunc_spec (H : Heap) (s : Sl) (N : List Need) (f ix : Int) (c0 c1 : Addr) (h : IsS 4 encN H s N) (hl : N.length <= 100000) (h0 : rd H c0 = some (.int .i64 f)) (h1 : rd H c1 = some (.int .i64 ix)) :
  CallsH Tryz.prog n_100 #[.slice s.p s.n s.c, .func (.func 101) #[] #[.pointer (some c0), .pointer (some c1)]] H (fun v H' => v = .int .i64 (atI N f ix) /\ Ext H H') := by
 refine F_100_ok _ _ _ ?_
 unfold F_100
 have hn := h.len
 refine loop1 N.length (fun k H' => Ext H H' /\ ∀ j, j < k -> nq f ix (N.getD j zN) = false) ⟨.refl _, fun j hj => by omega⟩ ?_
 rintro k H1 hk ⟨e1, hno⟩
 unfold F_100_r1
 refine iteB_dec (fun c => ?_) (fun c => ⟨?_, e1⟩)
 ·have hkn : k < N.length := by omega
  obtain ⟨a, hp, hr⟩ := IsS.atN (h.ext e1) zN hkn
  have r0 : rd H1 (a.add ((k : Int).toNat * 4)) = some (.int .i64 (N.getD k zN).1) := by have := hr 0 _ rfl; rwa [add_zero'] at this
  refine ⟨by omega, by omega, unSome_mk hp ⟨_, r0, _, hr 1 _ rfl, _, hr 2 _ rfl, _, hr 3 _ rfl, F_101_ok _ _ _ _ _ _ ?_⟩⟩
  unfold F_101
  refine push_mk (vs := encN (N.getD k zN)) fun H2 e2 z2 b2 => ?_
  have hnx : nq f ix (N.getD k zN) = false -> CI N.length (fun k H' => Ext H H' /\ ∀ j, j < k -> nq f ix (N.getD j zN) = false) (IntKind.i64.wrap ((k : Int) + 1)) H2 /\ CM N.length (IntKind.i64.wrap ((k : Int) + 1)) H2 < CM N.length (k : Int) H1 := fun hq => next1 hkn (by omega) ⟨e1.trans e2, fun j hj => by
   by_cases e : j = k
   ·rw [e]; exact hq
   ·exact hno j (by omega)⟩
  refine ⟨_, b2.rd0 rfl, f, (e1.trans e2).rd h0, iteB_beq (fun q => ⟨_, b2.rd (i := 1) rfl, ix, (e1.trans e2).rd h1, ?_⟩) (fun q => ⟨false, rfl, iteB_neg rfl (hnx ?_)⟩)⟩
  ·refine ⟨_, rfl, iteB_beq (fun q1 => ⟨?_, e1.trans e2⟩) (fun q1 => hnx ?_)⟩
   ·unfold atI
    rw [atN_some hkn (by unfold nq; exact decide_eq_true ⟨q, q1⟩) hno]
   ·unfold nq; exact decide_eq_false (fun h => q1 h.2)
  ·unfold nq; exact decide_eq_false (fun h => q h.1)
 ·unfold atI
  rw [atN_none (fun j hj => hno j (by omega))]

section
variable {T : List FS} {N : List Need} {n : Nat} {l ns : Sl} {H0 : Heap} {xb b1 b2 : Nat} {B : List Int} {P : Nat -> Bool}
theorem find_spec (en : XE T N n l ns H0 xb b1 b2) (H : Heap) (s : XS N n l ns H0 xb b1 b2 B P H) (f ix : Int) :
  CallsH Tryz.prog n_70 #[.pointer (some ⟨xb, 0, none⟩), .int .i64 f, .int .i64 ix] H (fun v H' => v = .int .i64 (atI N f ix) /\ Ext H H') := by
 refine F_70_ok _ _ _ ?_
 unfold F_70
 refine push_mk (vs := [.int .i64 f]) fun H1 e1 z1 q1 => push_mk (vs := [.int .i64 ix]) fun H2 e2 z2 q2 => ?_
 have x2 := e1.trans e2
 have hl := en.len
 refine ⟨ns, (s.go x2).rdD, (IndexFunc_spec H2 ns N f ix _ _ (en.nd.ext (s.ext.trans x2)) (by omega) ((q1.ext e2).rd0 rfl) (q2.rd0 rfl)).mono ?_⟩
 rintro v H3 ⟨rfl, e3⟩
 exact ⟨_, rfl, rfl, x2.trans e3⟩

theorem need_rd (en : XE T N n l ns H0 xb b1 b2) {H : Heap} (e : Ext H0 H) {k : Nat} (hk : k < N.length) : ∃ a, ns.p = some a /\ rd H (a.add ((k : Int).toNat * 4)) = some (.int .i64 (N.getD k zN).1) /\ ∀ j v, (encN (N.getD k zN))[j]? = some v -> rd H ((a.add ((k : Int).toNat * 4)).add j) = some v := by
 obtain ⟨a, hp, hr⟩ := IsS.atN (en.nd.ext e) zN hk
 exact ⟨a, hp, by have := hr 0 _ rfl; rwa [add_zero'] at this, hr⟩

theorem span_spec (en : XE T N n l ns H0 xb b1 b2) (H : Heap) (s : XS N n l ns H0 xb b1 b2 B P H) (i : Nat) (hi : i < N.length) :
  CallsH Tryz.prog n_102 #[.pointer (some ⟨xb, 0, none⟩), .int .i64 (i : Int)] H (fun v H' => v = .agg #[.int .u64 (winF N B i).1, .int .u64 (winF N B i).2] /\ Ext H H') := by
 refine F_102_ok _ _ ?_
 unfold F_102
 refine push_mk (vs := [.int .u64 0, .int .u64 0]) fun H1 e1 z1 q1 => ?_
 have s1 := s.go e1
 obtain ⟨a, hp, r0, hr⟩ := need_rd en s1.ext hi
 have hsz := (en.ok _ (getD_mem' (l := N) zN hi)).sz
 have hnn := en.nd.len
 refine ⟨⟨some ⟨b1, 0, none⟩, N.length, N.length⟩, s1.rdB, by omega, by dsimp only; omega, unSome_mk rfl ⟨_, by rw [Int.toNat_natCast]; exact s1.base hi, ns, s1.rdD, by omega, by omega, unSome_mk hp ⟨_, hr 3 _ rfl, u64_nonneg _, q1.ok0 (Nat.le_refl 2), letH_mk ?_⟩⟩⟩
 intro H2 h2
 have q2 : Blk H2 H.size t_95 [.int .u64 (B.getD i 0), .int .u64 (IntKind.u64.wrap (1 * 2 ^ (min (IntKind.u64.wrap (N.getD i zN).2.2.2).toNat IntKind.u64.bits)))] := by rw [h2]; exact q1.wr
 have m2 : Mods [H.size] H1 H2 := by rw [h2]; exact Mods.wrs (by simp)
 clear h2
 refine ⟨_, q2.rd0 rfl, _, q2.rd (i := 1) rfl, ?_, Mods.ext e1 m2 (by simp)⟩
 rw [shl1 hsz.1 (by omega)]
 rfl

structure XG (lo : Nat) (U : List Int) (S : List Int) (R : List Rg) (H0 : Heap) (users sizes taken : Sl) (H' : Heap) : Prop where
 pg : PG lo U S H0 users sizes H'
 t : Own lo t_95 2 H' taken (R.flatMap encR)

def fillPost (T : List FS) (N : List Need) (n : Nat) (l ns : Sl) (H0 : Heap) (xb b1 b2 : Nat) (p c : Int) (B : List Int) (P : Nat -> Bool) (v : Value) (H' : Heap) : Prop :=
 ∃ b : Bool, v = .bool b /\ ((b = true /\ ∃ B', fillF T N n p c B = some B' /\ XS N n l ns H0 xb b1 b2 B' (fun j => P j || decide (j ∈ freshI T N n p c N.length)) H') \/ (b = false /\ fillF T N n p c B = none /\ Ext H0 H'))

theorem fill_write (en : XE T N n l ns H0 xb b1 b2) (p c : Int) (w : Nat) (hw : atN N p (-1 - c) = some w) (hne : freshI T N n p c N.length ≠ []) (h0 : (plW T N n p c B w).1 = 0) (Ha H17 : Heap) (s17 : XS N n l ns H0 xb b1 b2 B P H17) (wt bs : Sl)
  (hwt : Ints .i64 H17 wt ((freshI T N n p c N.length).map (fun i : Nat => (i : Int)))) (hbs : Ints .u64 H17 bs (plW T N n p c B w).2.1) (twt : TyB H17 wt.p t_3) (tbs : TyB H17 bs.p t_30) (hw1 : ∀ a, wt.p = some a -> a.block ≠ b1 /\ a.block ≠ b2) (hb1 : ∀ a, bs.p = some a -> a.block ≠ b1 /\ a.block ≠ b2) :
  ∃ I_1 : Int -> Heap -> Prop, ∃ M_1 : Int -> Heap -> Nat, I_1 0 H17 /\ (∀ x26 : Int, ∀ H18 : Heap, I_1 x26 H18 -> F_71_r1 (fillPost T N n l ns H0 xb b1 b2 p c B P) ⟨xb, 0, none⟩ wt bs I_1 M_1 x26 H18) := by
 have hbnd : Bnd (plW T N n p c B w).2.1 := placeV_bnd _ _
 have hbl := (placeV_len (frW T N n p c B w) (szI N (freshI T N n p c N.length))).2 h0
 have hfill : fillF T N n p c B = some (setI B ((freshI T N n p c N.length).zip (plW T N n p c B w).2.1)) := by
  unfold fillF
  rw [if_neg hne, hw]
  dsimp only
  rw [if_pos h0]
 have hIm : ∀ i ∈ freshI T N n p c N.length, i < N.length := fun i hi => (freshI_mem.1 hi).1
 have hfl := freshI_len T N n p c N.length
 have hlen := en.len
 rw [hfill.symm.trans hfill] at hfill
 have hbl' : (plW T N n p c B w).2.1.length = (freshI T N n p c N.length).length := by
  show (placeV _ _).2.1.length = _
  rw [hbl]
  simp [szI]
 generalize hI : freshI T N n p c N.length = I at *
 generalize hbsE : (plW T N n p c B w).2.1 = bl at *
 have hwn := hwt.len
 have hbn := hbs.len
 rw [List.length_map] at hwn
 refine loop1 I.length (fun k H' => XS N n l ns H0 xb b1 b2 (setI B ((I.zip bl).take k)) (fun j => P j || decide (j ∈ I.take k)) H' /\ Mods [b1, b2] H17 H') ⟨by simpa [setI] using s17, .refl _ _⟩ ?_
 rintro k H18 hk ⟨s18, m18⟩
 unfold F_71_r1
 refine iteB_dec (fun d => ?_) (fun d => ?_)
 ·have hkI : k < I.length := by omega
  have hw18 := hwt.mods m18 (fun a ha => by have := hw1 a ha; simp; omega)
  have hb18 := hbs.mods m18 (fun a ha => by have := hb1 a ha; simp; omega)
  obtain ⟨a3, hp3, r3⟩ := Ints.atN hw18 (i := k) (by rw [List.length_map]; exact hkI)
  obtain ⟨a4, hp4, r4⟩ := Ints.atN hb18 (i := k) (by omega)
  have ei : (I.map (fun i : Nat => (i : Int))).getD k 0 = ((I.getD k 0 : Nat) : Int) := by simp [List.getD, hkI]
  rw [ei] at r3
  have him := hIm _ (getD_mem' (l := I) (k := k) 0 hkI)
  have hst := setI_take hkI (show k < bl.length by omega) B
  have hyu : U64 (bl.getD k 0) := by
   have := hbnd _ (getD_mem' (k := k) 0 (show k < bl.length by omega))
   unfold U64
   omega
  obtain ⟨ok1, s19⟩ := s18.setB en him hyu
  refine ⟨by omega, by omega, unSome_mk hp3 ⟨_, r3, ⟨some ⟨b1, 0, none⟩, N.length, N.length⟩, s18.rdB, by omega, by omega, unSome_mk hp4 ⟨_, r4, by omega, by dsimp only; omega, unSome_mk rfl ⟨by rw [Int.toNat_natCast]; exact ok1, letH_mk ?_⟩⟩⟩⟩
  intro H19 h19
  rw [Int.toNat_natCast] at h19
  rw [<- h19] at s19
  have m19 : Mods [b1, b2] H18 H19 := by rw [h19]; exact mods_wr_add (by simp)
  obtain ⟨ok2, s20⟩ := s19.setP en him
  refine ⟨⟨some ⟨b2, 0, none⟩, N.length, N.length⟩, s19.rdP, by omega, by dsimp only; omega, unSome_mk rfl ⟨by rw [Int.toNat_natCast]; exact ok2, letH_mk ?_⟩⟩
  intro H20 h20
  rw [Int.toNat_natCast] at h20
  rw [<- h20] at s20
  have m20 : Mods [b1, b2] H19 H20 := by rw [h20]; exact mods_wr_add (by simp)
  refine next1 hkI (by omega) ⟨⟨s20.x, by rw [hst]; exact s20.b, s20.p.congr (fun j hj => ?_), by rw [hst]; exact s20.bl, by rw [hst]; exact s20.u, s20.ext⟩, (m18.trans m19).trans m20⟩
  rw [take_succ_d 0 hkI]
  unfold upd
  by_cases e : j = I.getD k 0
  ·rw [if_pos e]
   symm
   rw [Bool.or_eq_true, decide_eq_true_eq]
   exact .inr (List.mem_append.2 (.inr (by rw [e]; simp)))
  ·rw [if_neg e]
   rw [Bool.eq_iff_iff]
   simp only [Bool.or_eq_true, decide_eq_true_eq, List.mem_append, List.mem_singleton]
   exact ⟨fun h => h.elim .inl (fun h => .inr (.inl h)), fun h => h.elim .inl (fun h => h.elim .inr (fun h => absurd h e))⟩
 ·obtain rfl : k = I.length := by omega
  have hzl : (I.zip bl).length = I.length := by rw [List.length_zip]; omega
  rw [List.take_of_length_le (by omega), List.take_length] at s18
  refine ⟨true, rfl, .inl ⟨rfl, _, hfill, ?_⟩⟩
  rw [hI]
  exact s18

theorem fill_spec (en : XE T N n l ns H0 xb b1 b2) (H : Heap) (s : XS N n l ns H0 xb b1 b2 B P H) (p : Int) (c : Nat) (hc : c < 3) (hP : freshI T N n p c N.length ≠ [] -> ∀ w, atN N p (-1 - (c : Int)) = some w -> P w = true) :
  CallsH Tryz.prog n_71 #[.pointer (some ⟨xb, 0, none⟩), .int .i64 p, .int .i64 (c : Int)] H (fillPost T N n l ns H0 xb b1 b2 p c B P) := by
 refine F_71_ok _ _ _ ?_
 unfold F_71
 have hnn := en.nd.len
 have hlen := en.len
 have hb1 : b1 < H.size := RB.lt s.b
 have hb2 : b2 < H.size := s.p.lt
 refine ⟨ns, s.rdD, ?_⟩
 have Inv := fun (k : Nat) (u z t : Sl) (H' : Heap) => XG H.size ((freshI T N n p c k).map (fun i : Nat => (i : Int))) (szI N (freshI T N n p c k)) ((keptI T N n p c k).map (winF N B)) H u z t H'
 refine loop4 N.length (fun k u z t H' => XG H.size ((freshI T N n p c k).map (fun i : Nat => (i : Int))) (szI N (freshI T N n p c k)) ((keptI T N n p c k).map (winF N B)) H u z t H') ⟨⟨Own.nil _ _ _ _, Own.nil _ _ _ _, fun a b ha => (by cases ha), .refl _⟩, Own.nil _ _ _ _⟩ ?_
 rintro k wt sz tk H1 hk g
 unfold F_71_r2
 have s1 := s.go g.pg.ext
 have un := Own.len rkInt g.pg.u
 have sn := Own.len rkInt g.pg.s
 have tn := Own.len rkRange g.t
 have fl := freshI_len T N n p c k
 have kl := keptI_len T N n p c k
 rw [List.length_map] at un tn
 have szl : (szI N (freshI T N n p c k)).length = (freshI T N n p c k).length := by simp [szI]
 refine iteB_dec (fun d => ?_) (fun d => ?_)
 ·have hkn : k < N.length := by omega
  obtain ⟨a, hp, r0, hr⟩ := need_rd en s1.ext hkn
  have hx := en.ok _ (getD_mem' (l := N) zN hkn)
  have fs := freshI_succ T N n p c k
  have ks := keptI_succ T N n p c k
  refine ⟨by omega, by omega, unSome_mk hp ⟨_, r0, _, hr 1 _ rfl, _, hr 2 _ rfl, _, hr 3 _ rfl, local_mk (vs := encN (N.getD k zN)) rfl rfl fun H3 e3 z3 b3 => ?_⟩⟩
  have g3 : XG H.size ((freshI T N n p c k).map (fun i : Nat => (i : Int))) (szI N (freshI T N n p c k)) ((keptI T N n p c k).map (winF N B)) H wt sz tk H3 := ⟨⟨g.pg.u.ext e3, g.pg.s.ext e3, g.pg.ne, g.pg.ext.trans e3⟩, g.t.ext e3⟩
  have s3 := s1.go e3
  have skip : belQ T p c (N.getD k zN) = false -> CI4 N.length (fun k u z t H' => XG H.size ((freshI T N n p c k).map (fun i : Nat => (i : Int))) (szI N (freshI T N n p c k)) ((keptI T N n p c k).map (winF N B)) H u z t H') wt sz tk (IntKind.i64.wrap ((k : Int) + 1)) H3 /\ CM4 N.length wt sz tk (IntKind.i64.wrap ((k : Int) + 1)) H3 < CM4 N.length wt sz tk (k : Int) H1 := fun hq => next4 hkn (by omega) (by
   rw [hq, Bool.false_and] at fs ks
   rw [if_neg Bool.false_ne_true, List.append_nil] at fs ks
   rw [fs, ks]
   exact g3)
  have hfn := hx.fn
  obtain ⟨fi, hfi⟩ : ∃ fi : Nat, (N.getD k zN).1 = fi := ⟨(N.getD k zN).1.toNat, by omega⟩
  have hfT : fi < T.length := by omega
  have hTn := en.topo.len
  obtain ⟨af, hpf, hrf⟩ := (en.topo.ext s3.ext).at hfT
  have pf := (rdFn hrf).1
  refine ⟨_, b3.rd (i := 2) rfl, iteB_bne (fun q => skip ?_) (fun q => ⟨l, s3.rdL, _, b3.rd0 rfl, by rw [hfi]; omega, by rw [hfi]; omega, unSome_mk hpf ⟨_, by rw [hfi]; exact pf, iteB_bne (fun q1 => skip ?_) (fun q1 => ?_)⟩⟩)⟩
  ·unfold belQ; exact decide_eq_false (fun h => q h.1)
  ·unfold belQ; exact decide_eq_false (fun h => q1 (by have := h.2.2; rw [hfi, Int.toNat_natCast] at this; exact this))
  have hbq : belQ T p c (N.getD k zN) = true := by
   unfold belQ
   rw [decide_eq_true_eq]
   exact ⟨q, hfn, by rw [hfi, Int.toNat_natCast]; exact q1⟩
  rw [hbq, Bool.true_and] at fs ks
  refine ⟨_, b3.rd0 rfl, _, s3.rdN, iteB_dec (fun q2 => ?_) (fun q2 => ?_)⟩
  ·have hfq : freshQ N n k = false := by unfold freshQ; exact decide_eq_false (by omega)
   rw [hfq] at fs ks
   rw [if_neg Bool.false_ne_true, List.append_nil] at fs
   rw [if_pos (by decide)] at ks
   refine (span_spec en H3 s3 k hkn).mono ?_
   rintro v H4 ⟨rfl, e4⟩
   have t4 := g3.t.ext e4
   refine ⟨_, _, rfl, ?_⟩
   refine apR rkRange (winF N B k) (lo := H.size) t4 (by omega) (g3.pg.ext.trans e4).size ?_
   intro tk1 H6 o6 n6 m6
   have tne : ∀ {xs : List Value} {u : Sl}, Own H.size t_3 1 H4 u xs -> ∀ a, u.p = some a -> a.block ∉ blkOf tk.p := fun ho => ty_ne (own_ty ho) (own_ty t4) (by decide)
   refine next4 hkn (by omega) ⟨⟨?_, ?_, g3.pg.ne, Mods.ext (g3.pg.ext.trans e4) m6 (blkOf_new t4.new)⟩, ?_⟩
   ·rw [fs]; exact (g3.pg.u.ext e4).mods m6 (tne (g3.pg.u.ext e4))
   ·rw [fs]; exact (g3.pg.s.ext e4).mods m6 (tne (g3.pg.s.ext e4))
   ·rw [ks, List.map_append]; exact o6
  ·have hfq : freshQ N n k = true := by unfold freshQ; exact decide_eq_true (by omega)
   rw [hfq] at fs ks
   rw [if_neg (by decide), List.append_nil] at ks
   rw [if_pos (by decide)] at fs
   refine apRat rkInt (k : Int) (lo := H.size) g3.pg.u (by omega) g3.pg.ext.size ?_
   intro wt1 H8 o8 n8 m8 at8
   have e8 : Ext H H8 := Mods.ext g3.pg.ext m8 (blkOf_new g3.pg.u.new)
   have os := g3.pg.s.mods m8 (fun a ha => by
    cases hu : wt.p with
    | none => simp [blkOf]
    | some b => simp only [blkOf, List.mem_singleton]; exact fun e => g3.pg.ne b a hu ha e.symm)
   have ot := g3.t.mods m8 (ty_ne (own_ty g3.t) (own_ty g3.pg.u) (by decide))
   have hne8 : ∀ a b, wt1.p = some a -> sz.p = some b -> a.block ≠ b.block := fun a b ha hb => by
    rcases at8 a ha with h1 | h1
    ·cases hu : wt.p with
     | none => rw [hu] at h1; simp [blkOf] at h1
     | some c => rw [hu] at h1; simp only [blkOf, List.mem_singleton] at h1; rw [h1]; exact g3.pg.ne c b hu hb
    ·have := g3.pg.s.lt b hb; omega
   have hwo : H1.size ∉ blkOf wt.p := fun hh => by
    cases hu : wt.p with
    | none => rw [hu] at hh; simp [blkOf] at hh
    | some c => rw [hu] at hh; simp only [blkOf, List.mem_singleton] at hh; have := g.pg.u.lt c hu; omega
   have b8 := b3.mods m8 hwo
   refine ⟨_, b8.rd (i := 3) rfl, ?_⟩
   refine apRat rkInt ((N.getD k zN).2.2.2) (lo := H.size) os (by omega) e8.size ?_
   intro sz1 H10 o10 n10 m10 at10
   refine next4 hkn (by omega) ⟨⟨?_, ?_, fun a b ha hb => ?_, Mods.ext e8 m10 (blkOf_new os.new)⟩, ?_⟩
   ·rw [fs, List.map_append]
    exact o8.mods m10 (fun a ha => by
     cases hz : sz.p with
     | none => simp [blkOf]
     | some b => simp only [blkOf, List.mem_singleton]; exact fun e => hne8 a b ha hz e)
   ·rw [fs]; unfold szI; rw [List.map_append]; exact o10
   ·rcases at10 b hb with h1 | h1
    ·cases hz : sz.p with
     | none => rw [hz] at h1; simp [blkOf] at h1
     | some c => rw [hz] at h1; simp only [blkOf, List.mem_singleton] at h1; rw [h1]; exact hne8 a c ha hz
    ·have := o8.lt a ha; omega
   ·rw [ks]; exact ot.mods m10 (ty_ne (own_ty ot) (own_ty os) (by decide))
 ·obtain rfl : k = N.length := by omega
  have isU := Own.is rkInt g.pg.u
  have isS := Own.is rkInt g.pg.s
  have isT := Own.is rkRange g.t
  refine iteB_beq (fun q => ?_) (fun q => ?_)
  ·have hnil : freshI T N n p c N.length = [] := List.eq_nil_of_length_eq_zero (by omega)
   refine ⟨true, rfl, .inl ⟨rfl, B, by unfold fillF; rw [if_pos hnil], s1.x, s1.b, s1.p.congr (fun j hj => by rw [hnil]; simp), s1.bl, s1.u, s1.ext⟩⟩
  ·have hne : freshI T N n p c N.length ≠ [] := fun e => q (by rw [un, e]; rfl)
   rw [i64_in (n := -1 - (c : Int)) (by omega)]
   refine (find_spec en H1 s1 p (-1 - (c : Int))).mono ?_
   rintro v H11 ⟨rfl, e11⟩
   have s11 := s1.go e11
   cases hw : atN N p (-1 - (c : Int)) with
   | none =>
    have : atI N p (-1 - (c : Int)) = -1 := by unfold atI; rw [hw]
    rw [this]
    exact ⟨_, rfl, iteB_pos (by decide) ⟨false, rfl, .inr ⟨rfl, by unfold fillF; rw [if_neg hne, hw], s11.ext⟩⟩⟩
   | some w =>
    have : atI N p (-1 - (c : Int)) = (w : Int) := by unfold atI; rw [hw]
    rw [this]
    obtain ⟨hwl, _, _⟩ := atN_spec hw
    have hPw := hP hne w hw
    have rp : rd H11 ((⟨b2, 0, none⟩ : Addr).add ((w : Int).toNat * 1)) = some (.bool (P w)) := by rw [Int.toNat_natCast]; exact s11.p.rd hwl
    refine ⟨_, rfl, iteB_dec (fun hh => by omega) (fun _ => ⟨⟨some ⟨b2, 0, none⟩, N.length, N.length⟩, s11.rdP, by omega, by dsimp only; omega, unSome_mk rfl ⟨_, rp, iteB_neg (by rw [hPw]; rfl) ((span_spec en H11 s11 w hwl).mono ?_)⟩⟩)⟩
    rintro v H12 ⟨rfl, e12⟩
    refine ⟨_, _, rfl, push_mk (vs := encR (winF N B w)) fun H13 e13 z13 b13 => ?_⟩
    have x13 := (e11.trans e12).trans e13
    have hwu : ∀ i, i < N.length -> U64 (winF N B i).1 /\ U64 (winF N B i).2 := fun i hi => by
     have h1 := s.u.at (i := i) (by rw [s.bl]; exact hi)
     have h2 := pow44 (en.ok _ (getD_mem' (l := N) zN hi)).sz
     unfold winF U64 at *
     dsimp only
     exact ⟨h1, by show 0 <= (2 : Int) ^ (N.getD i zN).2.2.2.toNat /\ (2 : Int) ^ (N.getD i zN).2.2.2.toNat <= 18446744073709551615; omega⟩
    have hu1 : U64L [winF N B w] := fun r hr => by simp at hr; subst hr; exact hwu w hwl
    have hu2 : U64L ((keptI T N n p c N.length).map (winF N B)) := fun r hr => by
     obtain ⟨i, hi, rfl⟩ := List.mem_map.1 hr
     exact hwu i (keptI_mem.1 hi).1
    have i13 : Rgs H13 ⟨some ⟨H12.size, 0, none⟩, 1, 1⟩ [winF N B w] := IsS.of_blk encR_len b13 rfl (fun j v hv => by simpa using hv)
    refine (Free_spec H13 ⟨some ⟨H12.size, 0, none⟩, 1, 1⟩ tk [winF N B w] _ i13 (isT.ext x13) hu1 hu2).mono ?_
    rintro v H14 ⟨fr, rfl, of, e14⟩
    have hfr : (if ValidR [winF N B w] /\ ValidR ((keptI T N n p c N.length).map (winF N B)) then freeF [winF N B w] ((keptI T N n p c N.length).map (winF N B)) else []) = frW T N n p c B w := rfl
    rw [hfr] at of
    have huf : U64L (frW T N n p c B w) := by
     unfold frW freeV
     split
     ·rename_i hv
      intro r hr
      have key : ∀ (g m : List Rg), (∀ x ∈ g, 1 <= x.2) -> Asc m -> (∀ r ∈ m, 0 <= r.1 /\ r.1 + r.2 <= 4503599627370496) -> ∀ r ∈ g.foldl rmF m, 1 <= r.2 /\ 0 <= r.1 /\ r.1 + r.2 <= 4503599627370496 := by
       intro g
       induction g with
       | nil => intro m _ ha hm r hr; exact ⟨ha.len r hr, hm r hr⟩
       | cons x g ih =>
        intro m hx ha hm r hr
        obtain ⟨r1, _, r3⟩ := rmF_spec ha (hx x (by simp))
        refine ih (rmF m x) (fun y hy => hx y (by simp [hy])) r1 (fun q hq => ?_) r hr
        obtain ⟨f, hf, g1, g2⟩ := r3 q hq
        have := hm f hf
        omega
      obtain ⟨vm, am⟩ := hv.1.merge
      have := key _ (mergeF [winF N B w]) (fun x hx => (hv.2.2 x hx).1) am (fun r hr => by have := vm.2 r hr; unfold RgOk at this; omega) r hr
      omega
     ·intro r hr; cases hr
    have x14 := x13.trans e14
    refine ⟨fr, rfl, (PlaceN_spec H14 fr sz (frW T N n p c B w) _ (Own.is rkRange of) huf (isS.ext x14)).mono ?_⟩
    rintro v H15 ⟨bs, rfl, isB, tyB, e15, newB⟩
    refine ⟨bs, _, _, _, _, _, rfl, local_mk (vs := encC (placeV (frW T N n p c B w) (szI N (freshI T N n p c N.length))).2.2) rfl rfl fun H17 e17 z17 b17 => ?_⟩
    have x17 := (x14.trans e15).trans e17
    have s17 := s1.go x17
    refine iteB_bne (fun q => ⟨false, rfl, .inr ⟨rfl, ?_, s17.ext⟩⟩) (fun q => ?_)
    ·unfold fillF
     rw [if_neg hne, hw]
     dsimp only
     exact if_neg q
    ·have t1 := own_ty g.pg.u
     have hne1 : ∀ {e : TypeId} {q : Option Addr}, e ≠ t_30 -> TyB H17 q e -> ∀ a, q = some a -> a.block ≠ b1 := fun {e q} he hq a ha => by
      obtain ⟨_, ex, hbk⟩ := s17.b
      have t2 : TyB H17 (some ⟨b1, 0, none⟩) t_30 := fun a ha => by cases ha; exact ⟨_, _, hbk⟩
      have := ty_ne hq t2 he a ha
      simpa [blkOf] using this
     have hne2 : ∀ {e : TypeId} {q : Option Addr}, e ≠ t_4 -> TyB H17 q e -> ∀ a, q = some a -> a.block ≠ b2 := fun {e q} he hq a ha => by
      have t2 : TyB H17 (some ⟨b2, 0, none⟩) t_4 := fun a ha => by cases ha; exact ⟨_, _, s17.p⟩
      have := ty_ne hq t2 he a ha
      simpa [blkOf] using this
     have twt : TyB H17 wt.p t_3 := t1.mods (S := []) x17.mods (fun _ _ => by simp)
     have tbs : TyB H17 bs.p t_30 := tyB.mods (S := []) e17.mods (fun _ _ => by simp)
     refine fill_write en p c w hw hne q H17 H17 s17 wt bs (isU.ext x17) (isB.ext e17) twt tbs (fun a ha => ⟨hne1 (by decide) twt a ha, hne2 (by decide) twt a ha⟩) (fun a ha => ⟨?_, hne2 (by decide) tbs a ha⟩)
     have := newB a ha
     have := x14.size
     have := g.pg.ext.size
     omega
end

end Go.Proofs.YtnhhncjflnlfaaaGreat
end

section
/-
 Extending assignments: keeping the old ones, filling all bridges (plain, and the program's).
-/
namespace Go.Proofs.YtnhhncjflnlfaaaGreat
open Go.Eng
set_option linter.unusedVariables false

def fitsF (T : List FS) (N : List Need) (n : Nat) (B : List Int) : Nat -> Option (List Int)
 | 0 => some B
 | m + 1 => (fitsF T N n B m).bind (fun B' => fillF T N n ((m / 3 : Nat) : Int) ((m % 3 : Nat) : Int) B')
theorem fitsF_succ (T : List FS) (N : List Need) (n : Nat) (B : List Int) {p c : Nat} (hc : c < 3) : fitsF T N n B (3 * p + (c + 1)) = (fitsF T N n B (3 * p + c)).bind (fun B' => fillF T N n (p : Int) (c : Int) B') := by
 show (fitsF T N n B (3 * p + c)).bind (fun B' => fillF T N n (((3 * p + c) / 3 : Nat) : Int) (((3 * p + c) % 3 : Nat) : Int) B') = _
 rw [show (3 * p + c) / 3 = p by omega, show (3 * p + c) % 3 = c by omega]
theorem fitsF_none {T : List FS} {N : List Need} {n : Nat} {B : List Int} {m : Nat} (h : fitsF T N n B m = none) : ∀ d, fitsF T N n B (m + d) = none
 | 0 => h
 | d + 1 => by
  show (fitsF T N n B (m + d)).bind _ = none
  rw [fitsF_none h d]
  rfl
theorem fitsF_none' {T : List FS} {N : List Need} {n : Nat} {B : List Int} {m k : Nat} (h : fitsF T N n B m = none) (hk : m <= k) : fitsF T N n B k = none := by
 have := fitsF_none h (k - m)
 rw [show m + (k - m) = k by omega] at this
 exact this

theorem nodup_inj {α : Type} {l : List α} (h : l.Nodup) {i j : Nat} (hi : i < l.length) (hj : j < l.length) (e : l[i] = l[j]) : i = j := by
 have hp := List.pairwise_iff_getElem.1 h
 rcases Nat.lt_trichotomy i j with h1 | h1 | h1
 ·exact absurd e (hp i j hi hj h1)
 ·exact h1
 ·exact absurd e.symm (hp j i hj hi h1)
def bas (A : List Asg) (x : Need) : Int := ((A.find? (fun y => decide (y.1 = x))).map Prod.snd).getD 0
def B0F (N : List Need) (A : List Asg) (n : Nat) : List Int := N.map (fun x : Need => if x.1 < (n : Int) then bas A x else 0)
theorem B0F_len (N : List Need) (A : List Asg) (n : Nat) : (B0F N A n).length = N.length := by simp [B0F]
theorem bas_at {A : List Asg} (hn : (A.map Prod.fst).Nodup) {j : Nat} (hj : j < A.length) {x : Need} (hx : (A.getD j zA).1 = x) : bas A x = (A.getD j zA).2 := by
 unfold bas
 have hmem : A.getD j zA ∈ A := getD_mem' zA hj
 cases hf : A.find? (fun y => decide (y.1 = x)) with
 | none =>
  rw [List.find?_eq_none] at hf
  exact absurd hx (by have := hf _ hmem; simpa using this)
 | some y =>
  have h1 := List.find?_some hf
  have h2 := List.mem_of_find?_eq_some hf
  rw [decide_eq_true_eq] at h1
  obtain ⟨i, hi, rfl⟩ := List.getElem_of_mem h2
  have e : (A.map Prod.fst)[i]'(by simpa using hi) = (A.map Prod.fst)[j]'(by simpa using hj) := by
   simp only [List.getElem_map]
   rw [h1, <- hx]
   simp [List.getD, hj]
  have hij := nodup_inj hn _ _ e
  subst hij
  simp [List.getD, hi]
theorem B0F_at {N : List Need} {A : List Asg} {n i : Nat} (hi : i < N.length) : (B0F N A n).getD i 0 = if (N.getD i zN).1 < n then bas A (N.getD i zN) else 0 := by
 unfold B0F
 simp [List.getD, hi]

def SubN (A : List Asg) (N : List Need) : Prop := ∀ x ∈ A, x.1 ∈ N
instance (A : List Asg) (N : List Need) : Decidable (SubN A N) := by unfold SubN; infer_instance
def extF (T : List FS) (N : List Need) (n : Nat) (A : List Asg) : Option (List Int) := if SubN A N then fitsF T N n (B0F N A n) (3 * T.length) else none

structure Old (T : List FS) (high : Bool) (n : Nat) (A : List Asg) : Prop where
 v : ValidT T
 o : ¬ Ovf T high
 o' : ¬ Ovf (T.take n) high
 nn : n <= T.length
 nw : NewOk T n
 a : A.map Prod.fst = needsAll (T.take n) high
theorem Old.nodup {T : List FS} {high : Bool} {n : Nat} {A : List Asg} (h : Old T high n A) : (A.map Prod.fst).Nodup := by
 rw [h.a]; exact sorted_nodup (needs_kap (ValidT_take h.v n))
theorem Old.fn {T : List FS} {high : Bool} {n : Nat} {A : List Asg} (h : Old T high n A) : ∀ x ∈ A, 0 <= x.1.1 /\ x.1.1 < n := fun x hx => by
 have hm : x.1 ∈ needsAll (T.take n) high := by rw [<- h.a]; exact List.mem_map.2 ⟨x, hx, rfl⟩
 have := (needs_ok (ValidT_take h.v n) h.o' _ hm).fn
 have hl : (T.take n).length = n := by rw [List.length_take]; have := h.nn; omega
 omega
theorem Old.all {T : List FS} {high : Bool} {n : Nat} {A : List Asg} (h : Old T high n A) (hs : SubN A (needsAll T high)) {x : Need} (hx : x ∈ needsAll T high) (hf : x.1 < n) : ∃ j, j < A.length /\ (A.getD j zA).1 = x := by
 obtain ⟨y, hy, h1, h2⟩ := key_take h.v h.o h.o' h.nn h.nw hx hf
 rw [<- h.a] at hy
 obtain ⟨z, hz, rfl⟩ := List.mem_map.1 hy
 have := kap_inj h.v (hs z hz) hx h1 h2
 obtain ⟨j, hj, rfl⟩ := List.getElem_of_mem hz
 exact ⟨j, hj, by rw [<- this]; simp [List.getD, hj]⟩
theorem Old.list {T : List FS} {high : Bool} {n : Nat} {A : List Asg} (h : Old T high n A) (hs : SubN A (needsAll T high)) : (needsAll T high).filter (fun x => decide (x.1 < (n : Int))) = A.map Prod.fst := by
 refine sorted_ext kapN _ _ (List.Pairwise.filter _ (needs_kap h.v)) (by rw [h.a]; exact needs_kap (ValidT_take h.v n)) (fun x => ⟨fun hx => ?_, fun hx => ?_⟩)
 ·obtain ⟨h1, h2⟩ := List.mem_filter.1 hx
  rw [decide_eq_true_eq] at h2
  obtain ⟨j, hj, e⟩ := h.all hs h1 h2
  exact List.mem_map.2 ⟨_, getD_mem' zA hj, e⟩
 ·obtain ⟨y, hy, rfl⟩ := List.mem_map.1 hx
  exact List.mem_filter.2 ⟨hs y hy, by rw [decide_eq_true_eq]; exact (h.fn y hy).2⟩

/-! ### the program's keep -/
structure KS (N : List Need) (A : List Asg) (k : Nat) (B : List Int) (P : Nat -> Bool) : Prop where
 sub : ∀ j, j < k -> (A.getD j zA).1 ∈ N
 p : ∀ i, i < N.length -> (P i = true ↔ ∃ j, j < k /\ (A.getD j zA).1 = N.getD i zN)
 b : ∀ i, i < N.length -> ∀ j, j < k -> (A.getD j zA).1 = N.getD i zN -> B.getD i 0 = (A.getD j zA).2
 z : ∀ i, i < N.length -> (∀ j, j < k -> (A.getD j zA).1 ≠ N.getD i zN) -> B.getD i 0 = 0

theorem getD_inj {N : List Need} (hn : N.Nodup) {i j : Nat} (hi : i < N.length) (hj : j < N.length) (e : N.getD i zN = N.getD j zN) : i = j := by
 have e1 : N.getD i zN = N[i] := by simp [List.getD, hi]
 have e2 : N.getD j zN = N[j] := by simp [List.getD, hj]
 rw [e1, e2] at e
 exact nodup_inj hn _ _ e

section
variable {T : List FS} {high : Bool} {n : Nat} {A : List Asg} {l ns : Sl} {H0 : Heap} {xb b1 b2 : Nat}

theorem keep_spec (od : Old T high n A) (en : XE T (needsAll T high) n l ns H0 xb b1 b2) (H : Heap) (P : Nat -> Bool) (B : List Int) (s : XS (needsAll T high) n l ns H0 xb b1 b2 B P H) (ks : KS (needsAll T high) A 0 B P) (sa : Sl) (hA : IsS 5 encA H0 sa A) (hAu : ∀ i, i < A.length -> U64 (A.getD i zA).2) :
  CallsH Tryz.prog n_29 #[.pointer (some ⟨xb, 0, none⟩), .slice sa.p sa.n sa.c] H (fun v H' => ∃ b : Bool, v = .bool b /\ ((b = true /\ SubN A (needsAll T high) /\ ∃ B P, XS (needsAll T high) n l ns H0 xb b1 b2 B P H' /\ KS (needsAll T high) A A.length B P) \/ (b = false /\ ¬ SubN A (needsAll T high) /\ Ext H0 H'))) := by
 refine F_29_ok _ _ ?_
 unfold F_29
 have hlen := en.len
 have hAl : A.length <= 1000 := by
  have h1 := congrArg List.length od.a
  have h2 : (needsAll (T.take n) high).length <= 1000 := NeedsIs.len (.inr (.inr ⟨ValidT_take od.v n, od.o', rfl, rfl⟩))
  rw [List.length_map] at h1
  omega
 have hsn := hA.len
 have hN : (needsAll T high).Nodup := sorted_nodup (needs_kap od.v)
 have hkeys : ∀ {i : Nat}, i < (needsAll T high).length -> atN (needsAll T high) ((needsAll T high).getD i zN).1 ((needsAll T high).getD i zN).2.1 = some i := fun hi => atN_self hi
 have hinj : ∀ {x y : Need}, x ∈ needsAll T high -> y ∈ needsAll T high -> x.1 = y.1 -> x.2.1 = y.2.1 -> x = y := fun h1 h2 => kap_inj od.v h1 h2
 have hnn := en.nd.len
 have hAn := od.nodup
 generalize needsAll T high = N at *
 refine loop1 A.length (fun k H' => ∃ B P, XS N n l ns H0 xb b1 b2 B P H' /\ KS N A k B P) ⟨B, P, s, ks⟩ ?_
 rintro k H1 hk ⟨B, P, s1, k1⟩
 unfold F_29_r1
 refine iteB_dec (fun c => ?_) (fun c => ?_)
 ·have hkA : k < A.length := by omega
  obtain ⟨a, hp, r0, hr⟩ := asg_rd (hA.ext s1.ext) hkA
  refine ⟨by omega, by omega, unSome_mk hp ⟨_, r0, _, hr 1 _ rfl, _, hr 2 _ rfl, _, hr 3 _ rfl, _, hr 4 _ rfl, local_mk (vs := encA (A.getD k zA)) rfl rfl fun H3 e3 z3 b3 => ?_⟩⟩
  have s3 := s1.go e3
  have hbad : (A.getD k zA).1 ∉ N -> ¬ SubN A N := fun hn hs => hn (hs _ (getD_mem' zA hkA))
  refine ⟨_, b3.rd0 rfl, _, b3.rd (i := 1) rfl, (find_spec en H3 s3 (A.getD k zA).1.1 (A.getD k zA).1.2.1).mono ?_⟩
  rintro v H4 ⟨rfl, e4⟩
  have s4 := s3.go e4
  have b4 := b3.ext e4
  cases hw : atN N (A.getD k zA).1.1 (A.getD k zA).1.2.1 with
  | none =>
   have hi : atI N (A.getD k zA).1.1 (A.getD k zA).1.2.1 = -1 := by unfold atI; rw [hw]
   rw [hi]
   refine ⟨_, rfl, iteB_pos (by decide) ⟨false, rfl, .inr ⟨rfl, hbad (fun hm => ?_), s4.ext⟩⟩⟩
   obtain ⟨j, hj⟩ := atN_of_mem hm
   rw [hw] at hj
   cases hj
  | some i =>
   have hi : atI N (A.getD k zA).1.1 (A.getD k zA).1.2.1 = (i : Int) := by unfold atI; rw [hw]
   rw [hi]
   obtain ⟨hiN, hi1, hi2⟩ := atN_spec hw
   obtain ⟨a2, hp2, q0, hr2⟩ := need_rd en s4.ext hiN
   refine ⟨_, rfl, iteB_dec (fun hh => by omega) (fun _ => ⟨ns, s4.rdD, by omega, by omega, unSome_mk hp2 ⟨_, q0, _, hr2 1 _ rfl, _, hr2 2 _ rfl, _, hr2 3 _ rfl, _, b4.rd0 rfl, _, b4.rd (i := 1) rfl, _, b4.rd (i := 2) rfl, _, b4.rd (i := 3) rfl, ?_⟩⟩)⟩
   have hmi : N.getD i zN ∈ N := getD_mem' zN hiN
   refine iteB_not (fun q => ⟨false, rfl, .inr ⟨rfl, hbad (fun hm => ?_), s4.ext⟩⟩) (fun q => ?_)
   ·have := hinj hmi hm hi1 hi2
    rw [this] at q
    simp at q
   ·have heq : (A.getD k zA).1 = N.getD i zN := by
     simp only [Bool.and_eq_true, beq_iff_eq, Bool.and_true] at q
     obtain ⟨q0, q1, q2, q3⟩ := q
     exact Prod.ext q0.symm (Prod.ext q1.symm (Prod.ext q2.symm q3.symm))
    obtain ⟨ok1, s5⟩ := s4.setB en hiN (hAu k hkA)
    refine ⟨⟨some ⟨b1, 0, none⟩, N.length, N.length⟩, s4.rdB, _, b4.rd (i := 4) rfl, by omega, by dsimp only; omega, unSome_mk rfl ⟨by rw [Int.toNat_natCast]; exact ok1, letH_mk ?_⟩⟩
    intro H5 h5
    rw [Int.toNat_natCast] at h5
    rw [<- h5] at s5
    obtain ⟨ok2, s6⟩ := s5.setP en hiN
    refine ⟨⟨some ⟨b2, 0, none⟩, N.length, N.length⟩, s5.rdP, by omega, by dsimp only; omega, unSome_mk rfl ⟨by rw [Int.toNat_natCast]; exact ok2, letH_mk ?_⟩⟩
    intro H6 h6
    rw [Int.toNat_natCast] at h6
    rw [<- h6] at s6
    have hset : ∀ m, m < N.length -> (B.set i (A.getD k zA).2).getD m 0 = if m = i then (A.getD k zA).2 else B.getD m 0 := fun m hm => by
     have hbl := s4.bl
     by_cases e : m = i
     ·subst e; rw [if_pos rfl]; simp [List.getD, show m < B.length by omega]
     ·rw [if_neg e]; simp [List.getD, List.getElem?_set_ne (fun h => e h.symm)]
    have huniq : ∀ j, j < k -> (A.getD j zA).1 ≠ N.getD i zN := fun j hj e => by
     have e1 : (A.map Prod.fst)[j]'(by simp; omega) = (A.map Prod.fst)[k]'(by simpa using hkA) := by
      simp only [List.getElem_map]
      have x1 : A.getD j zA = A[j] := by simp [List.getD, show j < A.length by omega]
      have x2 : A.getD k zA = A[k] := by simp [List.getD, hkA]
      rw [<- x1, <- x2, e, heq]
     have := nodup_inj hAn _ _ e1
     omega
    refine next1 hkA (by omega) ⟨_, _, s6, ⟨fun j hj => ?_, fun m hm => ?_, fun m hm j hj he => ?_, fun m hm hno => ?_⟩⟩
    ·by_cases e : j = k
     ·subst e; rw [heq]; exact hmi
     ·exact k1.sub j (by omega)
    ·unfold upd
     by_cases e : m = i
     ·subst e
      rw [if_pos rfl]
      exact ⟨fun _ => ⟨k, by omega, heq⟩, fun _ => rfl⟩
     ·rw [if_neg e, k1.p m hm]
      constructor
      ·rintro ⟨j, hj, he⟩
       exact ⟨j, by omega, he⟩
      ·rintro ⟨j, hj, he⟩
       by_cases ej : j = k
       ·subst ej
        rw [heq] at he
        exact absurd (getD_inj hN hm hiN he.symm) e
       ·exact ⟨j, by omega, he⟩
    ·rw [hset m hm]
     by_cases e : m = i
     ·subst e
      rw [if_pos rfl]
      by_cases ej : j = k
      ·rw [ej]
      ·exact absurd he (huniq j (by omega))
     ·rw [if_neg e]
      by_cases ej : j = k
      ·subst ej
       rw [heq] at he
       exact absurd (getD_inj hN hm hiN he.symm) e
      ·exact k1.b m hm j (by omega) he
    ·rw [hset m hm]
     by_cases e : m = i
     ·subst e
      exact absurd heq (hno k (by omega))
     ·rw [if_neg e]
      exact k1.z m hm (fun j hj => hno j (by omega))
 ·obtain rfl : k = A.length := by omega
  refine ⟨true, rfl, .inl ⟨rfl, fun x hx => ?_, B, P, s1, k1⟩⟩
  obtain ⟨j, hj, rfl⟩ := List.getElem_of_mem hx
  have := k1.sub j hj
  have e : A.getD j zA = A[j] := by simp [List.getD, hj]
  rw [e] at this
  exact this

theorem KS.done (od : Old T high n A) {B : List Int} {P : Nat -> Bool} (hbl : B.length = (needsAll T high).length) (k : KS (needsAll T high) A A.length B P) (hs : SubN A (needsAll T high)) : B = B0F (needsAll T high) A n /\ ∀ i, i < (needsAll T high).length -> ((needsAll T high).getD i zN).1 < n -> P i = true := by
 refine ⟨?_, fun i hi hf => (k.p i hi).2 (od.all hs (getD_mem' zN hi) hf)⟩
 apply List.ext_getElem
 ·rw [hbl, B0F_len]
 intro i h1 h2
 have hi : i < (needsAll T high).length := by omega
 have e1 : B[i] = B.getD i 0 := by simp [List.getD, h1]
 have e2 : (B0F (needsAll T high) A n)[i] = (B0F (needsAll T high) A n).getD i 0 := by simp [List.getD, h2]
 rw [e1, e2, B0F_at hi]
 by_cases hf : ((needsAll T high).getD i zN).1 < n
 ·rw [if_pos hf]
  obtain ⟨j, hj, he⟩ := od.all hs (getD_mem' zN hi) hf
  rw [k.b i hi j hj he, bas_at od.nodup hj he]
 ·rw [if_neg hf]
  refine k.z i hi (fun j hj he => hf ?_)
  have := (od.fn _ (getD_mem' zA hj)).2
  rw [he] at this
  exact this

/-! ### filling all bridges -/
def parN (T : List FS) (x : Need) : Int := (fnAt T x.1.toNat).parent
structure PInv (T : List FS) (N : List Need) (n p c : Nat) (P : Nat -> Bool) : Prop where
 old : ∀ i, i < N.length -> (N.getD i zN).1 < n -> P i = true
 new : ∀ i, i < N.length -> (n : Int) <= (N.getD i zN).1 -> (parN T (N.getD i zN) < p \/ parN T (N.getD i zN) = p /\ (N.getD i zN).2.2.1 < c) -> P i = true

theorem belQ_par {T : List FS} {N : List Need} (hok : ∀ x ∈ N, NdOk T x) {i : Nat} (hi : i < N.length) {p c : Int} : belQ T p c (N.getD i zN) = true ↔ (N.getD i zN).2.2.1 = c /\ parN T (N.getD i zN) = p := by
 unfold belQ
 rw [decide_eq_true_eq]
 exact ⟨fun h => ⟨h.1, h.2.2⟩, fun h => ⟨h.1, (hok _ (getD_mem' zN hi)).fn, h.2⟩⟩

theorem fits_skip {N : List Need} {B : List Int} (hok : ∀ x ∈ N, NdOk T x) {p : Nat} (h : ∀ i, i < N.length -> (n : Int) <= (N.getD i zN).1 -> parN T (N.getD i zN) ≠ p) : fitsF T N n B (3 * (p + 1)) = fitsF T N n B (3 * p) /\ ∀ P, PInv T N n p 0 P -> PInv T N n (p + 1) 0 P := by
 have hnil : ∀ c : Nat, freshI T N n p c N.length = [] := fun c => by
  apply List.eq_nil_iff_forall_not_mem.2
  intro i hi
  obtain ⟨h1, h2, h3⟩ := freshI_mem.1 hi
  exact h i h1 h3 ((belQ_par hok h1).1 h2).2
 have step : ∀ c : Nat, c < 3 -> fitsF T N n B (3 * p + (c + 1)) = fitsF T N n B (3 * p + c) := fun c hc => by
  rw [fitsF_succ T N n B hc]
  have : (fun B' => fillF T N n (p : Int) (c : Int) B') = some := by
   funext B'
   unfold fillF
   rw [if_pos (hnil c)]
  rw [this]
  cases fitsF T N n B (3 * p + c) <;> rfl
 refine ⟨?_, fun P hP => ⟨hP.old, fun i hi hf hor => hP.new i hi hf ?_⟩⟩
 ·rw [show 3 * (p + 1) = 3 * p + (2 + 1) by omega, step 2 (by omega), step 1 (by omega), step 0 (by omega)]
  rfl
 ·have := h i hi hf
  rcases hor with h1 | ⟨_, h1⟩
  ·left; omega
  ·exact .inl (by have := (hok _ (getD_mem' (l := N) zN hi)).cl; omega)

theorem fill_step {N : List Need} (en : XE T N n l ns H0 xb b1 b2) {B B0 : List Int} {P : Nat -> Bool} (H : Heap) (s : XS N n l ns H0 xb b1 b2 B P H) {p c : Nat} (hc : c < 3) (hpT : p < T.length) (pi : PInv T N n p c P) (hf : fitsF T N n B0 (3 * p + c) = some B) :
  CallsH Tryz.prog n_71 #[.pointer (some ⟨xb, 0, none⟩), .int .i64 (p : Int), .int .i64 (c : Int)] H (fun v H' => ∃ b : Bool, v = .bool b /\ ((b = true /\ ∃ B' P', fitsF T N n B0 (3 * p + (c + 1)) = some B' /\ XS N n l ns H0 xb b1 b2 B' P' H' /\ PInv T N n p (c + 1) P') \/ (b = false /\ fitsF T N n B0 (3 * T.length) = none /\ Ext H0 H'))) := by
 refine (fill_spec en H s p c hc (fun _ w hw => ?_)).mono ?_
 ·obtain ⟨hwl, h1, _⟩ := atN_spec hw
  by_cases hf2 : (N.getD w zN).1 < n
  ·exact pi.old w hwl hf2
  ·refine pi.new w hwl (by omega) (.inl ?_)
   have h1' : (N.getD w zN).1 = p := h1
   unfold parN
   rw [h1', Int.toNat_natCast]
   exact (en.v.2 p hpT).pa.2
 ·rintro v H' ⟨b, rfl, h⟩
  have hs := fitsF_succ T N n B0 (p := p) hc
  rw [hf] at hs
  refine ⟨b, rfl, ?_⟩
  rcases h with ⟨rfl, B', hB, s'⟩ | ⟨rfl, hB, e'⟩
  ·refine .inl ⟨rfl, B', _, hs.trans hB, s', ⟨fun i hi hf2 => by rw [pi.old i hi hf2]; rfl, fun i hi hf2 hor => ?_⟩⟩
   by_cases hin : i ∈ freshI T N n p c N.length
   ·rw [Bool.or_eq_true]; exact .inr (by simpa using hin)
   ·rw [Bool.or_eq_true]
    refine .inl (pi.new i hi hf2 ?_)
    rcases hor with h1 | ⟨h1, h2⟩
    ·exact .inl h1
    ·by_cases e : (N.getD i zN).2.2.1 = c
     ·exact absurd (freshI_mem.2 ⟨hi, (belQ_par en.ok hi).2 ⟨e, h1⟩, hf2⟩) hin
     ·exact .inr ⟨h1, by omega⟩
  ·exact .inr ⟨rfl, fitsF_none' (hs.trans hB) (by omega), e'⟩

theorem PInv.up {N : List Need} (hok : ∀ x ∈ N, NdOk T x) {p : Nat} {P : Nat -> Bool} (h : PInv T N n p 3 P) : PInv T N n (p + 1) 0 P := ⟨h.old, fun i hi hf hor => h.new i hi hf (by have := (hok _ (getD_mem' (l := N) zN hi)).cl; omega)⟩

theorem fillPorts_spec {N : List Need} (en : XE T N n l ns H0 xb b1 b2) (nw : NewOk T n) {B0 : List Int} {P : Nat -> Bool} (H : Heap) (s : XS N n l ns H0 xb b1 b2 B0 P H) (pi : ∀ i, i < N.length -> (N.getD i zN).1 < n -> P i = true) :
  CallsH Tryz.prog n_30 #[.pointer (some ⟨xb, 0, none⟩)] H (fun v H' => ∃ b : Bool, v = .bool b /\ ((b = true /\ ∃ B' P', fitsF T N n B0 (3 * n) = some B' /\ XS N n l ns H0 xb b1 b2 B' P' H' /\ PInv T N n n 0 P') \/ (b = false /\ fitsF T N n B0 (3 * T.length) = none /\ Ext H0 H'))) := by
 refine F_30_ok _ ?_
 unfold F_30
 have hnn := en.nn
 have hv64 := en.v.1
 have hnewp : ∀ i, i < N.length -> (n : Int) <= (N.getD i zN).1 -> 0 <= parN T (N.getD i zN) /\ (parN T (N.getD i zN) < n -> IsPort T (parN T (N.getD i zN))) := fun i hi hf => by
  have hfn := (en.ok _ (getD_mem' (l := N) zN hi)).fn
  have h := nw (N.getD i zN).1.toNat (by omega) (by omega)
  exact ⟨h.1, fun hlt => ⟨⟨h.1, by unfold parN at *; omega⟩, h.2 hlt⟩⟩
 refine loop1 n (fun k H' => ∃ B' P', fitsF T N n B0 (3 * k) = some B' /\ XS N n l ns H0 xb b1 b2 B' P' H' /\ PInv T N n k 0 P') ⟨B0, P, rfl, s, pi, fun i hi hf hor => ?_⟩ ?_
 ·have := (hnewp i hi hf).1
  have := (en.ok _ (getD_mem' (l := N) zN hi)).cl
  omega
 rintro k H1 hk ⟨B, P, hf, s1, p1⟩
 unfold F_30_r2
 refine ⟨_, s1.rdN, iteB_dec (fun c => ?_) (fun c => ?_)⟩
 ·have hkn : k < n := by omega
  refine ⟨l, s1.rdL, (isPort_spec T l k H1 (en.topo.ext s1.ext) en.v).mono ?_⟩
  rintro v H2 ⟨rfl, rfl⟩
  refine ⟨_, rfl, iteB_not (fun q => ?_) (fun q => ?_)⟩
  ·have hnp : ¬ IsPort T k := by simpa using q
   obtain ⟨h1, h2⟩ := fits_skip (B := B0) en.ok (p := k) (fun i hi hf he => hnp (by have := (hnewp i hi hf).2 (by omega); rw [he] at this; exact this))
   exact letV_mk _ rfl (next1 hkn (by omega) ⟨B, P, h1.trans hf, s1, h2 P p1⟩)
  ·refine loop1 3 (fun c H' => ∃ B' P', fitsF T N n B0 (3 * k + c) = some B' /\ XS N n l ns H0 xb b1 b2 B' P' H' /\ PInv T N n k c P') ⟨B, P, hf, s1, p1⟩ ?_
   rintro c3 H3 hc3 ⟨B, P, hf, s3, p3⟩
   unfold F_30_r1
   refine iteB_dec (fun d => ?_) (fun d => ?_)
   ·refine (fill_step en H3 s3 (by omega) (by omega) p3 hf).mono ?_
    rintro v H4 ⟨b, rfl, h⟩
    rcases h with ⟨rfl, B', P', h1, h2, h3⟩ | ⟨rfl, h1, e4⟩
    ·exact ⟨_, rfl, iteB_neg rfl (letV_mk _ rfl (next1 (by omega) (by omega) ⟨B', P', h1, h2, h3⟩))⟩
    ·exact ⟨_, rfl, iteB_pos rfl ⟨false, rfl, .inr ⟨rfl, h1, e4⟩⟩⟩
   ·obtain rfl : c3 = 3 := by omega
    exact letV_mk _ rfl (next1 hkn (by omega) ⟨B, P, by rw [show 3 * (k + 1) = 3 * k + 3 by omega]; exact hf, s3, p3.up en.ok⟩)
 ·obtain rfl : n = k := by omega
  exact ⟨true, rfl, .inl ⟨rfl, B, P, hf, s1, p1⟩⟩

theorem fillBridges_spec {N : List Need} (en : XE T N n l ns H0 xb b1 b2) (nw : NewOk T n) {B0 B : List Int} {P : Nat -> Bool} (H : Heap) (hf : fitsF T N n B0 (3 * n) = some B) (s : XS N n l ns H0 xb b1 b2 B P H) (pi : PInv T N n n 0 P) :
  CallsH Tryz.prog n_31 #[.pointer (some ⟨xb, 0, none⟩)] H (fun v H' => ∃ b : Bool, v = .bool b /\ ((b = true /\ ∃ B' P', fitsF T N n B0 (3 * T.length) = some B' /\ XS N n l ns H0 xb b1 b2 B' P' H') \/ (b = false /\ fitsF T N n B0 (3 * T.length) = none /\ Ext H0 H'))) := by
 refine F_31_ok _ ?_
 unfold F_31
 have hnn := en.nn
 have hv64 := en.v.1
 have hTn := en.topo.len
 refine ⟨_, s.rdN, fun x H' => ∃ k : Nat, x = k /\ n <= k /\ k <= T.length /\ ∃ B' P', fitsF T N n B0 (3 * k) = some B' /\ XS N n l ns H0 xb b1 b2 B' P' H' /\ PInv T N n k 0 P', fun x _ => (T.length - x).toNat, ⟨n, rfl, Nat.le_refl _, hnn, B, P, hf, s, pi⟩, ?_⟩
 rintro x H1 ⟨k, rfl, hnk, hkT, B, P, hf, s1, p1⟩
 unfold F_31_r2
 refine ⟨l, s1.rdL, iteB_dec (fun c => ?_) (fun c => ?_)⟩
 ·have hkT' : k < T.length := by omega
  obtain ⟨a, hpa, hra⟩ := (en.topo.ext s1.ext).at hkT'
  have p4 := (rdFn hra).2.2.2.2.1
  refine ⟨l, s1.rdL, by omega, by omega, unSome_mk hpa ⟨_, p4, iteB_not (fun q => ?_) (fun q => ?_)⟩⟩
  ·obtain ⟨h1, h2⟩ := fits_skip (B := B0) (T := T) (n := n) en.ok (p := k) (fun i hi hf he => by
    have hfn := (en.ok _ (getD_mem' (l := N) zN hi)).fn
    have hbr := (en.v.2 (N.getD i zN).1.toNat (by omega)).br
    unfold parN at he
    rw [he, Int.toNat_natCast, q] at hbr
    have := hbr (by omega)
    cases this)
   exact letV_mk ((k + 1 : Nat) : Int) (by rw [i64_in (by omega)]; omega) ⟨⟨k + 1, rfl, by omega, by omega, B, P, h1.trans hf, s1, h2 P p1⟩, by dsimp only; omega⟩
  ·refine loop1 3 (fun c H' => ∃ B' P', fitsF T N n B0 (3 * k + c) = some B' /\ XS N n l ns H0 xb b1 b2 B' P' H' /\ PInv T N n k c P') ⟨B, P, hf, s1, p1⟩ ?_
   rintro c3 H3 hc3 ⟨B, P, hf, s3, p3⟩
   unfold F_31_r1
   refine iteB_dec (fun d => ?_) (fun d => ?_)
   ·refine (fill_step en H3 s3 (by omega) hkT' p3 hf).mono ?_
    rintro v H4 ⟨b, rfl, h⟩
    rcases h with ⟨rfl, B', P', h1, h2, h3⟩ | ⟨rfl, h1, e4⟩
    ·exact ⟨_, rfl, iteB_neg rfl (letV_mk _ rfl (next1 (by omega) (by omega) ⟨B', P', h1, h2, h3⟩))⟩
    ·exact ⟨_, rfl, iteB_pos rfl ⟨false, rfl, .inr ⟨rfl, h1, e4⟩⟩⟩
   ·obtain rfl : c3 = 3 := by omega
    exact letV_mk ((k + 1 : Nat) : Int) (by rw [i64_in (by omega)]; omega) ⟨⟨k + 1, rfl, by omega, by omega, B, P, by rw [show 3 * (k + 1) = 3 * k + 3 by omega]; exact hf, s3, p3.up en.ok⟩, by dsimp only; omega⟩
 ·obtain rfl : k = T.length := by omega
  exact ⟨true, rfl, .inl ⟨rfl, B, P, hf, s1⟩⟩

theorem assignments_spec {N : List Need} (en : XE T N n l ns H0 xb b1 b2) {B : List Int} {P : Nat -> Bool} (H : Heap) (s : XS N n l ns H0 xb b1 b2 B P H) :
  CallsH Tryz.prog n_32 #[.pointer (some ⟨xb, 0, none⟩)] H (fun v H' => ∃ out : Sl, v = .slice out.p out.n out.c /\ Own H.size t_32 5 H' out ((N.zip B).flatMap encA) /\ Ext H H') := by
 refine F_32_ok _ ?_
 unfold F_32
 have hlen := en.len
 have hnn := en.nd.len
 have hbl := s.bl
 refine ⟨ns, s.rdD, by omega, by omega, by omega, letH_mk ?_⟩
 rw [Int.toNat_natCast, hnn]
 intro H1 h1
 have e1 : Ext H H1 := by rw [h1]; exact Ext.push _ _
 have a1 : RB H1 H.size t_32 5 encA (List.replicate N.length zA) := by
  rw [h1]
  exact RB.zero H t_32 encA_len N.length (.agg #[.int .i64 0, .int .i64 0, .int .i64 0, .int .i64 0, .int .u64 0]) zA rfl
 have cs1 : CS H1 H.size (N.length * 5) := by
  rw [h1]
  exact ⟨_, _, push_new _ _, by rw [zeroRow_size]; rfl⟩
 clear h1
 have hzl : (N.zip B).length = N.length := zip_len hbl
 refine ⟨ns, (s.go e1).rdD, ?_⟩
 refine loop1 N.length (fun k H' => RB H' H.size t_32 5 encA ((N.zip B).take k ++ List.replicate (N.length - k) zA) /\ CS H' H.size (N.length * 5) /\ Ext H H') ⟨by simpa using a1, cs1, e1⟩ ?_
 rintro k H2 hk ⟨a2, cs2, e2⟩
 unfold F_32_r1
 rw [Int.toNat_natCast ns.n, hnn]
 refine iteB_dec (fun c => ?_) (fun c => ?_)
 ·have hkn : k < N.length := by omega
  obtain ⟨a, hp, r0, hr⟩ := need_rd en (s.go e2).ext hkn
  refine ⟨by omega, by omega, unSome_mk hp ⟨_, r0, _, hr 1 _ rfl, _, hr 2 _ rfl, _, hr 3 _ rfl, local_mk (vs := encN (N.getD k zN)) rfl rfl fun H4 e4 z4 b4 => ?_⟩⟩
  have s4 := s.go (e2.trans e4)
  have a4 := RB.ext a2 e4
  refine ⟨_, b4.rd0 rfl, _, b4.rd (i := 1) rfl, _, b4.rd (i := 2) rfl, _, b4.rd (i := 3) rfl, ⟨some ⟨b1, 0, none⟩, N.length, N.length⟩, s4.rdB, by omega, by dsimp only; omega, unSome_mk rfl ⟨_, by rw [Int.toNat_natCast]; exact s4.base hkn, by omega, by omega, ?_, letH_mk ?_⟩⟩
  ·rw [Int.toNat_natCast]
   exact RB.ok0 a4 (by simp; omega) (by omega)
  ·intro H5 h5
   rw [Int.toNat_natCast] at h5
   have hzk : (N.zip B).getD k zA = (N.getD k zN, B.getD k 0) := by
    have := zip_getD hbl hkn
    unfold List.getD
    rw [this]
    rfl
   obtain ⟨m, hmm⟩ : ∃ m, N.length - k = m + 1 := ⟨N.length - k - 1, by omega⟩
   have hw := RB.wrRow a4 (i := k) (N.getD k zN, B.getD k 0) (by simp; omega)
   have hlk : ((N.zip B).take k).length = k := by rw [List.length_take, hzl]; omega
   rw [hmm, List.replicate_succ, List.set_append_right _ _ (by omega), hlk, Nat.sub_self, List.set_cons_zero] at hw
   have hst := take_succ_d (l := N.zip B) (k := k) zA (by omega)
   rw [hzk] at hst
   refine next1 hkn (by omega) ⟨?_, by rw [h5]; exact (cs2.ext e4).wrs _ _, by rw [h5]; exact Mods.ext (e2.trans e4) (mods_wr_add (S := [H.size]) (by simp)) (by simp)⟩
   rw [h5, hst, show N.length - (k + 1) = m by omega, List.append_assoc]
   exact hw
 ·obtain rfl : k = N.length := by omega
  rw [Nat.sub_self, List.replicate_zero, List.append_nil, List.take_of_length_le (by omega)] at a2
  exact ⟨⟨some ⟨H.size, 0, none⟩, N.length, N.length⟩, rfl, RB.own a2 (by rw [hzl]; exact cs2) (Nat.le_refl _) hzl.symm (by simp [maxLen]; omega), e2⟩
end

theorem newExtension_spec {T : List FS} {N : List Need} {n : Nat} {l ns : Sl} (H : Heap) (hT : Topo H l T) (hN : IsS 4 encN H ns N) (v : ValidT T) (ok : ∀ x ∈ N, NdOk T x) (hl : N.length <= 1000) (hn : n <= T.length) :
  CallsH Tryz.prog n_28 #[.slice l.p l.n l.c, .slice ns.p ns.n ns.c, .int .i64 (n : Int)] H (fun v H' => ∃ xb b1 b2, v = .pointer (some ⟨xb, 0, none⟩) /\ XE T N n l ns H xb b1 b2 /\ XS N n l ns H xb b1 b2 (List.replicate N.length 0) (fun _ => false) H') := by
 refine F_28_ok _ _ _ ?_
 unfold F_28
 have hnn := hN.len
 obtain ⟨np, nn, nc⟩ := ns
 dsimp only at hnn
 subst hnn
 have bz : ∀ G : Heap, BsB (G.push (.cells (zeroRow (.int .u64 0) N.length) t_30 (0, 0))) G.size (List.replicate N.length 0) := fun G => RB.zero (enc := Go.Eng.encI .u64) (sz := 1) G t_30 (fun _ => rfl) N.length (.int .u64 0) (0 : Int) rfl
 have pz : ∀ G : Heap, BBlk (G.push (.cells (zeroRow (.bool false) N.length) t_4 (0, 0))) G.size t_4 N.length (fun _ => false) := fun G => by rw [zeroRow_bool]; exact BBlk.of (Blk.new _ _ _)
 have uz : AllU (List.replicate N.length 0) := fun x hx => by rw [(List.mem_replicate.1 hx).2]; unfold U64; omega
 dsimp only
 rw [Int.toNat_natCast]
 refine ⟨⟨by omega, by omega, by omega, letH_mk ?_⟩, ⟨by omega, by omega, by omega, letH_mk ?_⟩⟩
 ·intro H1 h1
  have e1 : Ext H H1 := by rw [h1]; exact Ext.push _ _
  have q1 : BsB H1 H.size (List.replicate N.length 0) := by rw [h1]; exact bz H
  have z1 : H1.size = H.size + 1 := by rw [h1]; simp
  clear h1
  refine ⟨by omega, by omega, by omega, letH_mk ?_⟩
  intro H2 h2
  have e2 : Ext H1 H2 := by rw [h2]; exact Ext.push _ _
  have q2 : BBlk H2 H1.size t_4 N.length (fun _ => false) := by rw [h2]; exact pz H1
  have z2 : H2.size = H1.size + 1 := by rw [h2]; simp
  clear h2
  refine push_mk (vs := [slV l, .int .i64 (n : Int), slV ⟨np, N.length, nc⟩, .slice (some ⟨H.size, 0, none⟩) N.length N.length, .slice (some ⟨H1.size, 0, none⟩) N.length N.length]) fun H3 e3 z3 b3 => ?_
  exact ⟨H2.size, H.size, H1.size, rfl, ⟨hT, hN, v, ok, hl, hn, by omega, by omega, by omega, by omega, by omega, by omega⟩, ⟨b3, RB.ext q1 (e2.trans e3), q2.ext e3, by simp, uz, (e1.trans e2).trans e3⟩⟩
 ·intro H1 h1
  have e1 : Ext H H1 := by rw [h1]; exact Ext.push _ _
  have q1 : BBlk H1 H.size t_4 N.length (fun _ => false) := by rw [h1]; exact pz H
  have z1 : H1.size = H.size + 1 := by rw [h1]; simp
  clear h1
  refine ⟨by omega, by omega, by omega, letH_mk ?_⟩
  intro H2 h2
  have e2 : Ext H1 H2 := by rw [h2]; exact Ext.push _ _
  have q2 : BsB H2 H1.size (List.replicate N.length 0) := by rw [h2]; exact bz H1
  have z2 : H2.size = H1.size + 1 := by rw [h2]; simp
  clear h2
  refine push_mk (vs := [slV l, .int .i64 (n : Int), slV ⟨np, N.length, nc⟩, .slice (some ⟨H1.size, 0, none⟩) N.length N.length, .slice (some ⟨H.size, 0, none⟩) N.length N.length]) fun H3 e3 z3 b3 => ?_
  exact ⟨H2.size, H1.size, H.size, rfl, ⟨hT, hN, v, ok, hl, hn, by omega, by omega, by omega, by omega, by omega, by omega⟩, ⟨b3, RB.ext q2 e3, q1.ext (e2.trans e3), by simp, uz, (e1.trans e2).trans e3⟩⟩

end Go.Proofs.YtnhhncjflnlfaaaGreat
end

section
/-
 The reference's fit and extend.
-/
namespace Go.Proofs.YtnhhncjflnlfaaaGreat
open Go.Eng
set_option linter.unusedVariables false

def plG (T : List FS) (N L : List Need) (B : List Int) (p c : Int) (free : List Rg) : Int × Cert × List Int :=
 ((placeV free (sizesOf (belF T L p c))).1, (if (placeV free (sizesOf (belF T L p c))).1 = 0 then noCert else (c, (placeV free (sizesOf (belF T L p c))).2.2.2)), setB N B ((belF T L p c).zip (placeV free (sizesOf (belF T L p c))).2.1))

theorem rplaceG_spec (T : List FS) (s ns fs : Sl) (N L : List Need) (B : List Int) (p c : Int) (free : List Rg) (g na : Nat) (H : Heap) (hna : na = N.length) (hT : Topo H s T) (hN : IsS 4 encN H ns L) (hLN : ∀ x ∈ belF T L p c, x ∈ N) (hLl : L.length <= 1000) (hA : AsB H g N B) (hBl : B.length = N.length) (hNl : N.length <= 1000) (hf : Rgs H fs free) (hu : U64L free) :
  CallsH Tryz.prog n_62 #[.slice s.p s.n s.c, .slice (some ⟨g, 0, none⟩) na na, .slice ns.p ns.n ns.c, .int .i64 p, .int .i64 c, .slice fs.p fs.n fs.c] H
   (fun v H' => v = .tuple #[certV (plG T N L B p c free).2.1, .int .i64 (plG T N L B p c free).1] /\ AsB H' g N (plG T N L B p c free).2.2 /\ Mods [g] H H') := by
 subst hna
 refine F_62_ok s ⟨some ⟨g, 0, none⟩, N.length, N.length⟩ ns p c fs ?_
 unfold F_62
 have hgl : g < H.size := RB.lt hA.rb
 refine push_mk (vs := encC noCert) fun H1 e1 z1 b1 => (rBelow_spec T s ns L p c H1 (hT.ext e1) (hN.ext e1) (by omega)).mono ?_
 rintro v H2 ⟨bl, rfl, o2, n2, e2⟩
 have hbl := belF_len T L p c
 have hsub := hLN
 have x2 := e1.trans e2
 have is2 := Own.is rkNeed o2
 unfold plG
 generalize belF T L p c = bel at *
 refine ⟨bl, rfl, ?_⟩
 refine loop2 bel.length (fun k out H' => Own H2.size t_3 1 H' out ((sizesOf (bel.take k)).flatMap (Go.Eng.encI .i64)) /\ Ext H2 H') ⟨Own.nil _ _ _ _, .refl _⟩ ?_
 rintro k ss H3 hk ⟨o3, e3⟩
 unfold F_62_r2
 have n3 := Own.len rkInt o3
 have hsl : (sizesOf (bel.take k)).length <= k := by unfold sizesOf; simp; omega
 refine iteB_dec (fun d => ?_) (fun d => ?_)
 ·have hkn : k < bel.length := by omega
  obtain ⟨a, hp, hr⟩ := IsS.atN (is2.ext e3) (0, 0, 0, 0) hkn
  have htk := take_succ_d (0, 0, 0, 0) hkn
  refine ⟨by omega, by omega, unSome_mk hp ⟨_, hr 3 _ rfl, ?_⟩⟩
  refine apR rkInt ((bel.getD k (0, 0, 0, 0)).2.2.2) (lo := H2.size) o3 (by omega) e3.size ?_
  intro s' H5 ho hn5 m5
  refine letV_mk _ rfl (next2 hkn (by omega) ⟨?_, Mods.ext e3 m5 (blkOf_new o3.new)⟩)
  rw [htk]
  unfold sizesOf at ho ⊢
  rw [List.map_append]
  exact ho
 obtain rfl : k = bel.length := by omega
 rw [List.take_length] at o3
 have x3 := x2.trans e3
 refine (rPlace_spec H3 fs ss free (sizesOf bel) (hf.ext x3) hu (Own.is rkInt o3)).mono ?_
 rintro v H6 ⟨xs, rfl, hxs, txs, e6⟩
 have hpl := placeV_len free (sizesOf bel)
 have hslen : (sizesOf bel).length = bel.length := by unfold sizesOf; simp
 generalize placeV free (sizesOf bel) = pv at *
 obtain ⟨e, bs, ce⟩ := pv
 dsimp only at hxs hpl ⊢
 have x6 := x3.trans e6
 refine ⟨xs, _, _, _, _, _, rfl, local_mk (vs := encC ce) rfl rfl fun H8 e8 z8 b8 => ⟨b8.ok0 (by simp), letH_mk ?_⟩⟩
 intro H9 h9
 have b9 : Blk H9 H6.size t_39 (encC (c, ce.2)) := by rw [h9]; exact b8.wr
 have m9 : Mods [H6.size] H8 H9 := by rw [h9]; exact Mods.wrs (by simp)
 clear h9
 have e89 : Ext H6 H9 := Mods.ext e8 m9 (by simp)
 have hz6 : H.size <= H6.size := x6.size
 have hz1 : H.size < H6.size := by have := (e2.trans e3).size; have := e6.size; omega
 have x9 := x6.trans e89
 have hbsn := hxs.len
 refine loop1 bs.length (fun k H' => AsB H' g N (setB N B ((bel.zip bs).take k)) /\ Mods [g] H9 H') ⟨hA.ext x9, Mods.refl _ _⟩ ?_
 rintro k H10 hk ⟨a10, m10⟩
 unfold F_62_r1
 have gH9 : g < H9.size := Nat.lt_of_lt_of_le hgl x9.size
 have ty9 : TyB H9 (some ⟨g, 0, none⟩) t_32 := by
  obtain ⟨_, ex, hbk⟩ := (hA.ext x9).rb
  intro a ha; cases ha; exact ⟨_, _, hbk⟩
 have offg : ∀ {q : Option Addr} {ty : TypeId}, ty ≠ t_32 -> TyB H9 q ty -> ∀ a, q = some a -> a.block ∉ [g] := fun {q ty} hne hq a ha => by
  have := ty_ne hq ty9 hne a ha
  simpa [blkOf] using this
 have b10 : Blk H10 H6.size t_39 (encC (c, ce.2)) := b9.mods m10 (by simp; omega)
 have c1 : Blk H10 H.size t_39 (encC noCert) := ((((b1.ext e2).ext e3).ext e6).ext e89).mods m10 (by simp; omega)
 refine iteB_dec (fun d1 => ?_) (fun d1 => ?_)
 ·have hkn : k < bs.length := by omega
  have hkb : k < bel.length := by omega
  have isb9 := ((is2.ext e3).ext e6).ext e89
  have isb10 : IsS 4 encN H10 bl bel := isb9.mods m10 (offg (by decide) (own_ty ((((o2.ext e3)).ext e6).ext e89)))
  have isx10 : IsS 1 (Go.Eng.encI .u64) H10 xs bs := (hxs.ext e89).mods m10 (offg (by decide) (txs.mods (S := []) e89.mods (by simp)))
  obtain ⟨a, hp, hr⟩ := IsS.atN isb10 (0, 0, 0, 0) hkb
  obtain ⟨q, hq, hrq⟩ := Ints.atN isx10 hkn
  obtain ⟨j, hj⟩ := atN_of_mem (hsub _ (getD_mem' (0, 0, 0, 0) hkb))
  obtain ⟨hjN, _, _⟩ := atN_spec hj
  have hBl10 : (setB N B ((bel.zip bs).take k)).length = N.length := by rw [setB_len]; exact hBl
  have isA : IsS 5 encA H10 ⟨some ⟨g, 0, none⟩, N.length, N.length⟩ (N.zip (setB N B ((bel.zip bs).take k))) := RB.isS a10.rb _ _ (zip_len hBl10).symm
  have hzk : k < (bel.zip bs).length := by simp; omega
  have htk := take_succ_d ((0, 0, 0, 0), 0) hzk
  have hzg : (bel.zip bs).getD k ((0, 0, 0, 0), 0) = (bel.getD k (0, 0, 0, 0), bs.getD k 0) := by
   have := (List.getElem?_zip_eq_some (z := (bel.getD k (0, 0, 0, 0), bs.getD k 0))).2 ⟨getD_get (0, 0, 0, 0) hkb, getD_get 0 hkn⟩
   simp only [List.getD, this, Option.getD_some]
  rw [hzg] at htk
  generalize bel.getD k (0, 0, 0, 0) = x at *
  obtain ⟨x0, x1, x2, x3⟩ := x
  refine ⟨by omega, by omega, unSome_mk hp ⟨x0, hr 0 _ rfl, by omega, by omega, unSome_mk hp ⟨x1, hr 1 _ rfl, by omega, by omega, unSome_mk hq ⟨_, hrq, ?_⟩⟩⟩⟩
  refine (rat_spec H10 ⟨some ⟨g, 0, none⟩, N.length, N.length⟩ _ x0 x1 isA (by rw [zip_len hBl10]; omega)).mono ?_
  rintro v H11 ⟨rfl, rfl⟩
  have hat : atI ((N.zip (setB N B ((bel.zip bs).take k))).map Prod.fst) x0 x1 = (j : Int) := by
   rw [zip_fst hBl10]
   unfold atI
   rw [show atN N x0 x1 = some j from hj]
  rw [hat]
  obtain ⟨hok, hset⟩ := AsB.set a10 hBl10 hjN (bs.getD k 0)
  refine ⟨_, rfl, .refl _ _, by omega, by show (j : Int) < (N.length : Int); omega, unSome_mk rfl ⟨?_, letH_mk ?_⟩⟩
  ·rw [Int.toNat_natCast]; exact hok
  ·rw [Int.toNat_natCast]
   rintro H12 rfl
   refine letV_mk _ rfl (next1 hkn (by omega) ⟨?_, m10.trans mods_wr2⟩)
   rw [htk, setB_snoc]
   show AsB _ g N ((setB N B ((bel.zip bs).take k)).set ((atN N x0 x1).getD 0) (bs.getD k 0))
   rw [show atN N x0 x1 = some j from hj]
   exact hset
 ·obtain rfl : k = bs.length := by omega
  have htk : (bel.zip bs).take bs.length = bel.zip bs := List.take_of_length_le (by simp; omega)
  rw [htk] at a10
  have fin : ∀ H13, Mods [H6.size, H.size] H10 H13 -> AsB H13 g N (setB N B (bel.zip bs)) /\ Mods [g] H H13 := fun H13 m13 => by
   refine ⟨a10.mods m13 (by simp; omega), ?_⟩
   have h1 : Mods [g] H H10 := (x9.mods).trans m10
   exact h1.newer m13 (fun t ht => by simp at ht; left; omega)
  refine iteB_beq (fun d2 => ⟨b10.ok0 (by simp), letH_mk ?_⟩) (fun d2 => ?_)
  ·intro H13 h13
   have b13 : Blk H13 H6.size t_39 (encC noCert) := by rw [h13]; exact b10.wr
   have m13 : Mods [H6.size, H.size] H10 H13 := by rw [h13]; exact Mods.wrs (by simp)
   have c13 : Blk H13 H.size t_39 (encC noCert) := by rw [h13]; exact c1.wr_ne (by show H.size ≠ H6.size; omega)
   clear h13
   refine ⟨_, b13.rd0 rfl, _, b13.rd (i := 1) rfl, _, b13.rd (i := 2) rfl, _, b13.rd (i := 3) rfl, ?_⟩
   refine cert_wr (c := noCert) (K := fun v H' => (.tuple #[v, .int .i64 e] : Value) = .tuple #[certV (if e = 0 then noCert else (c, ce.2)), .int .i64 e] /\ AsB H' g N (setB N B (bel.zip bs)) /\ Mods [g] H H') c13 (fun H' m' _ => ?_)
   rw [if_pos d2]
   exact ⟨rfl, fin H' (m13.trans (m'.mono (by simp)))⟩
  ·refine ⟨_, b10.rd0 rfl, _, b10.rd (i := 1) rfl, _, b10.rd (i := 2) rfl, _, b10.rd (i := 3) rfl, ?_⟩
   refine cert_wr (c := (c, ce.2)) (K := fun v H' => (.tuple #[v, .int .i64 e] : Value) = .tuple #[certV (if e = 0 then noCert else (c, ce.2)), .int .i64 e] /\ AsB H' g N (setB N B (bel.zip bs)) /\ Mods [g] H H') c1 (fun H' m' _ => ?_)
   rw [if_neg d2]
   exact ⟨rfl, fin H' (m'.mono (by simp))⟩

theorem freeV_u64 {l f : List Rg} : U64L (freeV l f) := by
 unfold freeV
 split
 ·rename_i hv
  intro r hr
  have key : ∀ (g m : List Rg), (∀ x ∈ g, 1 <= x.2) -> Asc m -> (∀ r ∈ m, 0 <= r.1 /\ r.1 + r.2 <= 4503599627370496) -> ∀ r ∈ g.foldl rmF m, 1 <= r.2 /\ 0 <= r.1 /\ r.1 + r.2 <= 4503599627370496 := by
   intro g
   induction g with
   | nil => intro m _ ha hm r hr; exact ⟨ha.len r hr, hm r hr⟩
   | cons x g ih =>
    intro m hx ha hm r hr
    obtain ⟨r1, _, r3⟩ := rmF_spec ha (hx x (by simp))
    refine ih (rmF m x) (fun y hy => hx y (by simp [hy])) r1 (fun q hq => ?_) r hr
    obtain ⟨f, hf, g1, g2⟩ := r3 q hq
    have := hm f hf
    omega
  obtain ⟨vm, am⟩ := hv.1.merge
  have := key _ (mergeF l) (fun x hx => (hv.2.2 x hx).1) am (fun r hr => by have := vm.2 r hr; unfold RgOk at this; omega) r hr
  omega
 ·intro r hr; cases hr

theorem belF_idx' {T : List FS} {N : List Need} (hv : ValidT T) (hok : ∀ x ∈ N, NdOk T x) {p : Nat} (hp : p < T.length) (c : Int) : belF T N p c = (idxF T N p c N.length).map (fun i => N.getD i (0, 0, 0, 0)) := by
 by_cases hb : (fnAt T p).bridge = true
 ·exact belF_idx ⟨by omega, fun _ => by rw [Int.toNat_natCast]; exact hb⟩
 ·have h1 : belF T N p c = [] := by
   unfold belF
   rw [if_neg (fun h => hb (by have := h.2 (by omega); rwa [Int.toNat_natCast] at this))]
  have h2 : idxF T N p c N.length = [] := by
   apply List.eq_nil_iff_forall_not_mem.2
   intro i hi
   obtain ⟨h1, h2⟩ := idxF_mem.1 hi
   have hfn := (hok _ (getD_mem' (l := N) zN h1)).fn
   have hpar := ((belQ_par hok h1).1 h2).2
   have hbr := (hv.2 (N.getD i zN).1.toNat (by omega)).br
   unfold parN at hpar
   rw [hpar, Int.toNat_natCast] at hbr
   exact hb (hbr (by omega))
  rw [h1, h2]
  rfl

theorem fillF_old {T : List FS} {N : List Need} {n : Nat} {p c : Int} {B B' : List Int} (h : fillF T N n p c B = some B') : B'.length = B.length /\ ∀ i, i < N.length -> (N.getD i zN).1 < n -> B'.getD i 0 = B.getD i 0 := by
 unfold fillF at h
 split at h
 ·cases h; exact ⟨rfl, fun _ _ _ => rfl⟩
 ·split at h
  ·cases h
  ·split at h
   ·cases h
    refine ⟨setI_len _ _, fun i hi hf => setI_out _ _ (fun x hx e => ?_)⟩
    have h1 := (List.of_mem_zip (show (x.1, x.2) ∈ _ from hx)).1
    rw [e] at h1
    have := (freshI_mem.1 h1).2.2
    omega
   ·cases h
theorem fitsF_old {T : List FS} {N : List Need} {n : Nat} {B0 : List Int} : ∀ {m : Nat} {B : List Int}, fitsF T N n B0 m = some B -> B.length = B0.length /\ ∀ i, i < N.length -> (N.getD i zN).1 < n -> B.getD i 0 = B0.getD i 0
 | 0, B, h => by cases h; exact ⟨rfl, fun _ _ _ => rfl⟩
 | m + 1, B, h => by
  simp only [fitsF] at h
  cases h1 : fitsF T N n B0 m with
  | none => rw [h1] at h; cases h
  | some B1 =>
   rw [h1] at h
   obtain ⟨a1, a2⟩ := fitsF_old h1
   obtain ⟨b1, b2⟩ := fillF_old h
   exact ⟨by rw [b1, a1], fun i hi hf => by rw [b2 i hi hf, a2 i hi hf]⟩
theorem fillF_all {T : List FS} {N : List Need} {n : Nat} {p c : Int} {B B' : List Int} (h : fillF T N n p c B = some B') (hu : AllU B) : AllU B' := by
 unfold fillF at h
 split at h
 ·cases h; exact hu
 ·split at h
  ·cases h
  ·split at h
   ·cases h; exact setI_allBnd hu (placeV_bnd _ _)
   ·cases h

def KeptA (N : List Need) (n : Nat) (A : List Asg) (B : List Int) : Prop := ∀ i, i < N.length -> (N.getD i zN).1 < n -> ∃ k, atN (A.map Prod.fst) (N.getD i zN).1 (N.getD i zN).2.1 = some k /\ k < A.length /\ (A.getD k zA).1 = N.getD i zN /\ (A.getD k zA).2 = B.getD i 0

theorem rfit_spec {T : List FS} {high : Bool} {n : Nat} (hv : ValidT T) (ho : ¬ Ovf T high) (s sa ns : Sl) (A : List Asg) (B : List Int) (p c : Nat) (g : Nat) (H : Heap) (hp : p < T.length) (hc : c < 3) (hT : Topo H s T) (hA : IsS 5 encA H sa A) (hAl : A.length <= 1000) (hN : IsS 4 encN H ns (needsAll T high)) (ab : AsB H g (needsAll T high) B) (hBl : B.length = (needsAll T high).length) (hu : AllU B) (hNl : (needsAll T high).length <= 1000) (hk : KeptA (needsAll T high) n A B) :
  CallsH Tryz.prog n_78 #[.slice s.p s.n s.c, .slice sa.p sa.n sa.c, .slice (some ⟨g, 0, none⟩) (needsAll T high).length (needsAll T high).length, .slice ns.p ns.n ns.c, .int .i64 (n : Int), .int .i64 (p : Int), .int .i64 (c : Int)] H
   (fun v H' => ∃ b : Bool, v = .bool b /\ ((b = true /\ ∃ B', fillF T (needsAll T high) n p c B = some B' /\ AsB H' g (needsAll T high) B') \/ (b = false /\ fillF T (needsAll T high) n p c B = none)) /\ Mods [g] H H') := by
 have hok := needs_ok hv ho
 have hbi := belF_idx' hv hok hp (c : Int)
 have hset := fun bs => setB_setI (T := T) (high := high) (freshI T (needsAll T high) n p c (needsAll T high).length) bs B (fun i hi => (freshI_mem.1 hi).1)
 generalize needsAll T high = N at *
 refine F_78_ok s sa ⟨some ⟨g, 0, none⟩, N.length, N.length⟩ ns (n : Int) (p : Int) (c : Int) ?_
 unfold F_78
 have hgl : g < H.size := RB.lt ab.rb
 have hbo : freshI T N n p c N.length ≠ [] -> BelOk T (p : Int) := fun hne => by
  cases hl : freshI T N n p c N.length with
  | nil => exact absurd hl hne
  | cons i l =>
   have hi : i ∈ freshI T N n p c N.length := by rw [hl]; simp
   obtain ⟨h1, h2, _⟩ := freshI_mem.1 hi
   have hfn := (hok _ (getD_mem' (l := N) zN h1)).fn
   have hpar := ((belQ_par hok h1).1 h2).2
   have hbr := (hv.2 (N.getD i zN).1.toNat (by omega)).br
   unfold parN at hpar
   rw [hpar, Int.toNat_natCast] at hbr
   exact ⟨by omega, fun _ => by rw [Int.toNat_natCast]; exact hbr (by omega)⟩
 refine (rBelow_spec T s ns N p c H hT hN (by omega)).mono ?_
 rintro v H1 ⟨bl, rfl, ob, nb, e1⟩
 rw [hbi] at ob nb
 have isb := Own.is rkNeed ob
 have hIl := idxF_len T N p c N.length
 have hIm : ∀ i ∈ idxF T N p c N.length, i < N.length /\ belQ T p c (N.getD i zN) = true := fun i hi => idxF_mem.1 hi
 refine ⟨bl, rfl, ?_⟩
 have hfr : freshI T N n p c N.length = (idxF T N p c N.length).filter (freshQ N n) := rfl
 have hkp : keptI T N n p c N.length = (idxF T N p c N.length).filter (fun i => !freshQ N n i) := rfl
 generalize hI : idxF T N p c N.length = I at *
 have hbn := isb.len
 rw [List.length_map] at hbn
 have hgI : ∀ k, k < I.length -> (I.map (fun i => N.getD i (0, 0, 0, 0))).getD k zN = N.getD (I.getD k 0) zN := fun k hk => by simp [List.getD, hk, zN]
 refine loop3 I.length (fun k f t H' => Own H1.size t_29 4 H' f ((((I.take k).filter (freshQ N n)).map (fun i => N.getD i zN)).flatMap encN) /\ Own H1.size t_95 2 H' t ((((I.take k).filter (fun i => !freshQ N n i)).map (winF N B)).flatMap encR) /\ Ext H1 H') ⟨Own.nil _ _ _ _, Own.nil _ _ _ _, .refl _⟩ ?_
 rintro k f t H2 hk2 ⟨of, ot, e2⟩
 unfold F_78_r1
 have x2 := e1.trans e2
 have fn' := Own.len rkNeed of
 have tn' := Own.len rkRange ot
 rw [List.length_map] at fn' tn'
 have fl := filter_take_len I k (freshQ N n)
 have tl := filter_take_len I k (fun i => !freshQ N n i)
 refine iteB_dec (fun d => ?_) (fun d => ?_)
 ·have hkI : k < I.length := by omega
  obtain ⟨a, hpa, hr⟩ := IsS.atN (isb.ext e2) zN (k := k) (by rw [List.length_map]; exact hkI)
  rw [hgI k hkI] at hr
  have r0 : rd H2 (a.add ((k : Int).toNat * 4)) = some (.int .i64 (N.getD (I.getD k 0) zN).1) := by have := hr 0 _ rfl; rwa [add_zero'] at this
  have him := hIm _ (getD_mem' (l := I) (k := k) 0 hkI)
  have fs := filter_succ 0 (freshQ N n) hkI
  have ts := filter_succ 0 (fun i => !freshQ N n i) hkI
  generalize hi : I.getD k 0 = i at *
  refine ⟨by omega, by omega, unSome_mk hpa ⟨_, r0, iteB_dec (fun q => ?_) (fun q => ?_)⟩⟩
  ·have hq : freshQ N n i = true := by unfold freshQ; exact decide_eq_true q
   rw [hq] at fs ts
   rw [if_pos rfl] at fs
   rw [if_neg (by decide), List.append_nil] at ts
   refine ⟨by omega, by omega, unSome_mk hpa ⟨_, r0, _, hr 1 _ rfl, _, hr 2 _ rfl, _, hr 3 _ rfl, ?_⟩⟩
   refine apR rkNeed (N.getD i zN) (lo := H1.size) of (by omega) e2.size ?_
   intro f' H4 o4 n4 m4
   exact letV_mk _ rfl (next3 hkI (by omega) ⟨by rw [fs, List.map_append]; exact o4, by rw [ts]; exact ot.mods m4 (ty_ne (own_ty ot) (own_ty of) (by decide)), Mods.ext e2 m4 (blkOf_new of.new)⟩)
  ·have hq : freshQ N n i = false := by unfold freshQ; exact decide_eq_false q
   rw [hq] at fs ts
   rw [if_neg Bool.false_ne_true, List.append_nil] at fs
   rw [if_pos (by decide)] at ts
   obtain ⟨kk, hat, hkk, hke, hkb⟩ := hk i him.1 (by unfold freshQ at hq; rw [decide_eq_false_iff_not] at hq; omega)
   refine ⟨by omega, by omega, unSome_mk hpa ⟨_, r0, by omega, by omega, unSome_mk hpa ⟨_, hr 1 _ rfl, (rat_spec H2 sa A _ _ (hA.ext x2) (by omega)).mono ?_⟩⟩⟩
   rintro v H5 ⟨rfl, rfl⟩
   unfold atI
   rw [hat]
   have hsn := hA.len
   obtain ⟨a5, hp5, q0, hr5⟩ := asg_rd (hA.ext x2) hkk
   have hsz : 0 <= (A.getD kk zA).1.2.2.2 /\ (A.getD kk zA).1.2.2.2 <= 44 := by rw [hke]; exact (hok _ (getD_mem' (l := N) zN him.1)).sz
   dsimp only
   refine ⟨_, rfl, by omega, by omega, unSome_mk hp5 ⟨_, q0, _, hr5 1 _ rfl, _, hr5 2 _ rfl, _, hr5 3 _ rfl, _, hr5 4 _ rfl, (rspan_spec (A.getD kk zA) H5 hsz).mono ?_⟩⟩
   rintro v H6 ⟨rfl, e6⟩
   refine ⟨_, _, rfl, ?_⟩
   have hw : ((A.getD kk zA).2, (2 : Int) ^ szA (A.getD kk zA)) = winF N B i := by
    unfold winF szA
    rw [hkb, hke]
    rfl
   have hw1 : (A.getD kk zA).2 = (winF N B i).1 := by rw [<- hw]
   have hw2 : (2 : Int) ^ szA (A.getD kk zA) = (winF N B i).2 := by rw [<- hw]
   rw [hw1, hw2]
   have ot6 := ot.ext e6
   refine apR rkRange (winF N B i) (lo := H1.size) ot6 (by omega) (e2.trans e6).size ?_
   intro t' H8 o8 n8 m8
   exact letV_mk _ rfl (next3 hkI (by omega) ⟨by rw [fs]; exact (of.ext e6).mods m8 (ty_ne (own_ty (of.ext e6)) (own_ty ot6) (by decide)), by rw [ts, List.map_append]; exact o8, Mods.ext (e2.trans e6) m8 (blkOf_new ot6.new)⟩)
 obtain rfl : k = I.length := by omega
 rw [List.take_length] at of ot fn' tn'
 rw [<- hfr] at of fn'
 rw [<- hkp] at ot tn'
 refine iteB_beq (fun q => ?_) (fun q => ?_)
 ·have hnil : freshI T N n p c N.length = [] := List.eq_nil_of_length_eq_zero (by omega)
  exact ⟨true, rfl, .inl ⟨rfl, B, by unfold fillF; rw [if_pos hnil], ab.ext x2⟩, x2.mods⟩
 have hne : freshI T N n p c N.length ≠ [] := fun e => q (by rw [fn', e]; rfl)
 have hzl := zip_len hBl
 have isO : IsS 5 encA H2 ⟨some ⟨g, 0, none⟩, N.length, N.length⟩ (N.zip B) := RB.isS (RB.ext ab.rb x2) _ _ hzl.symm
 rw [i64_in (n := -1 - (c : Int)) (by omega)]
 refine (rat_spec H2 ⟨some ⟨g, 0, none⟩, N.length, N.length⟩ _ (p : Int) (-1 - (c : Int)) isO (by rw [hzl]; omega)).mono ?_
 rintro v H9 ⟨rfl, rfl⟩
 rw [zip_fst hBl]
 cases hw : atN N p (-1 - (c : Int)) with
 | none =>
  have : atI N p (-1 - (c : Int)) = -1 := by unfold atI; rw [hw]
  rw [this]
  exact ⟨_, rfl, iteB_pos (by decide) ⟨false, rfl, .inr ⟨rfl, by unfold fillF; rw [if_neg hne, hw]⟩, x2.mods⟩⟩
 | some w =>
  have : atI N p (-1 - (c : Int)) = (w : Int) := by unfold atI; rw [hw]
  rw [this]
  obtain ⟨hwl, _, _⟩ := atN_spec hw
  have hzw : (N.zip B).getD w zA = (N.getD w zN, B.getD w 0) := by
   have := zip_getD hBl hwl
   unfold List.getD
   rw [this]
   rfl
  obtain ⟨a6, hp6, q0, hr6⟩ := asg_rd isO (k := w) (by rw [hzl]; exact hwl)
  rw [hzw] at q0 hr6
  have hsw := (hok _ (getD_mem' (l := N) zN hwl)).sz
  refine ⟨_, rfl, iteB_dec (fun hh => by omega) (fun _ => ⟨by omega, by dsimp only; omega, unSome_mk hp6 ⟨_, q0, _, hr6 1 _ rfl, _, hr6 2 _ rfl, _, hr6 3 _ rfl, _, hr6 4 _ rfl, (rspan_spec (N.getD w zN, B.getD w 0) H9 hsw).mono ?_⟩⟩)⟩
  rintro v H10 ⟨rfl, e10⟩
  refine ⟨_, _, rfl, push_mk (vs := encR (winF N B w)) fun H11 e11 z11 b11 => ?_⟩
  have x11 := e10.trans e11
  have hwu : ∀ i, i < N.length -> U64 (winF N B i).1 /\ U64 (winF N B i).2 := fun i hi => by
   have h1 := hu.at (i := i) (by rw [hBl]; exact hi)
   have h2 := pow44 (hok _ (getD_mem' (l := N) zN hi)).sz
   unfold winF U64 at *
   dsimp only
   exact ⟨h1, by show 0 <= (2 : Int) ^ (N.getD i zN).2.2.2.toNat /\ (2 : Int) ^ (N.getD i zN).2.2.2.toNat <= 18446744073709551615; omega⟩
  have hu1 : U64L [winF N B w] := fun r hr => by simp at hr; subst hr; exact hwu w hwl
  have hu2 : U64L ((keptI T N n p c N.length).map (winF N B)) := fun r hr => by
   obtain ⟨i, hi, rfl⟩ := List.mem_map.1 hr
   exact hwu i (keptI_mem.1 hi).1
  have i11 : Rgs H11 ⟨some ⟨H10.size, 0, none⟩, 1, 1⟩ [winF N B w] := IsS.of_blk encR_len b11 rfl (fun j v hv => by simpa using hv)
  refine (rFree_spec H11 ⟨some ⟨H10.size, 0, none⟩, 1, 1⟩ t [winF N B w] _ i11 ((Own.is rkRange ot).ext x11) hu1 hu2).mono ?_
  rintro v H12 ⟨fr, rfl, ofr, e12⟩
  have hfv : (if ValidR [winF N B w] /\ ValidR ((keptI T N n p c N.length).map (winF N B)) then freeF [winF N B w] ((keptI T N n p c N.length).map (winF N B)) else []) = frW T N n p c B w := rfl
  rw [hfv] at ofr
  have x12 := x11.trans e12
  have y12 := x2.trans x12
  have hfl := freshI_len T N n p c N.length
  have hbf : belF T ((freshI T N n p c N.length).map (fun i => N.getD i zN)) p c = (freshI T N n p c N.length).map (fun i => N.getD i zN) := by
   unfold belF
   rw [if_pos (hbo hne), List.filter_eq_self.2]
   intro x hx
   obtain ⟨i, hi, rfl⟩ := List.mem_map.1 hx
   exact (freshI_mem.1 hi).2.1
  refine ⟨fr, rfl, (rplaceG_spec T s f fr N ((freshI T N n p c N.length).map (fun i => N.getD i zN)) B p c (frW T N n p c B w) g N.length H12 rfl (hT.ext y12) ((Own.is rkNeed of).ext x12) (fun x hx => ?_) (by rw [List.length_map]; omega) (ab.ext y12) hBl hNl (Own.is rkRange ofr) freeV_u64).mono ?_⟩
  ·rw [hbf] at hx
   obtain ⟨i, hi, rfl⟩ := List.mem_map.1 hx
   exact getD_mem' zN (freshI_mem.1 hi).1
  rintro v H13 ⟨rfl, a13, m13⟩
  have hsz : sizesOf ((freshI T N n p c N.length).map (fun i => N.getD i zN)) = szI N (freshI T N n p c N.length) := by unfold sizesOf szI; rw [List.map_map]; rfl
  have hplG1 : (plG T N ((freshI T N n p c N.length).map (fun i => N.getD i zN)) B p c (frW T N n p c B w)).1 = (plW T N n p c B w).1 := by unfold plG plW; rw [hbf, hsz]
  have hplG2 : (plG T N ((freshI T N n p c N.length).map (fun i => N.getD i zN)) B p c (frW T N n p c B w)).2.2 = setI B ((freshI T N n p c N.length).zip (plW T N n p c B w).2.1) := by
   unfold plG plW
   rw [hbf, hsz]
   exact hset _
  refine ⟨_, _, _, _, _, rfl, local_mk (vs := encC (plG T N ((freshI T N n p c N.length).map (fun i => N.getD i zN)) B p c (frW T N n p c B w)).2.1) rfl rfl fun H15 e15 z15 b15 => ?_⟩
  rw [hplG2] at a13
  rw [hplG1]
  refine ⟨_, rfl, ?_, (y12.mods.trans m13).trans e15.mods⟩
  by_cases h0 : (plW T N n p c B w).1 = 0
  ·refine .inl ⟨by simpa using h0, _, ?_, a13.ext e15⟩
   unfold fillF
   rw [if_neg hne, hw]
   dsimp only
   rw [if_pos h0]
  ·refine .inr ⟨by simpa using h0, ?_⟩
   unfold fillF
   rw [if_neg hne, hw]
   dsimp only
   rw [if_neg h0]

end Go.Proofs.YtnhhncjflnlfaaaGreat
end

section
/-
 The reference's extend; what an extension leaves as it was.
-/
namespace Go.Proofs.YtnhhncjflnlfaaaGreat
open Go.Eng
set_option linter.unusedVariables false

section
variable {T : List FS} {high : Bool} {n : Nat} {A : List Asg}

theorem Old.at' (od : Old T high n A) {j : Nat} (hj : j < A.length) : atN (A.map Prod.fst) (A.getD j zA).1.1 (A.getD j zA).1.2.1 = some j := by
 have e := od.a
 have hl : (A.map Prod.fst).length = A.length := by simp
 have h1 : (A.getD j zA).1 = (needsAll (T.take n) high).getD j (0, 0, 0, 0) := by
  rw [<- e]; exact (map_getD1 hj).symm
 rw [e, h1]
 exact atN_self (by rw [<- e]; simpa using hj)
theorem Old.kept (od : Old T high n A) (hs : SubN A (needsAll T high)) {B : List Int} (hB : ∀ i, i < (needsAll T high).length -> ((needsAll T high).getD i zN).1 < n -> B.getD i 0 = (B0F (needsAll T high) A n).getD i 0) : KeptA (needsAll T high) n A B := fun i hi hf => by
 obtain ⟨j, hj, e⟩ := od.all hs (getD_mem' zN hi) hf
 have hat := od.at' hj
 rw [e] at hat
 refine ⟨j, hat, hj, e, ?_⟩
 rw [hB i hi hf, B0F_at hi, if_pos hf, bas_at od.nodup hj e]

theorem ext_old (od : Old T high n A) (hs : SubN A (needsAll T high)) {B : List Int} (hl : B.length = (needsAll T high).length) (hB : ∀ i, i < (needsAll T high).length -> ((needsAll T high).getD i zN).1 < n -> B.getD i 0 = (B0F (needsAll T high) A n).getD i 0) : ((needsAll T high).zip B).filter (fun x => decide (x.1.1 < (n : Int))) = A := by
 have hkap : ((needsAll T high).zip B).Pairwise (fun a b => kapA a < kapA b) := by
  have h1 := needs_kap (high := high) od.v
  rw [<- zip_fst hl, List.pairwise_map] at h1
  exact h1
 have hkA : A.Pairwise (fun a b => kapA a < kapA b) := by
  have h1 := needs_kap (high := high) (ValidT_take od.v n)
  rw [<- od.a, List.pairwise_map] at h1
  exact h1
 have kep := od.kept hs hB
 refine sorted_ext kapA _ _ (List.Pairwise.filter _ hkap) hkA (fun x => ⟨fun hx => ?_, fun hx => ?_⟩)
 ·obtain ⟨h1, h2⟩ := List.mem_filter.1 hx
  rw [decide_eq_true_eq] at h2
  obtain ⟨i, hi, rfl⟩ := List.getElem_of_mem h1
  rw [zip_len hl] at hi
  have e : ((needsAll T high).zip B)[i]'(by rw [zip_len hl]; exact hi) = ((needsAll T high).getD i zN, B.getD i 0) := by
   have := zip_getD hl hi
   rw [List.getElem?_eq_getElem (by rw [zip_len hl]; exact hi)] at this
   exact Option.some.inj this
  rw [e] at h2 ⊢
  obtain ⟨k, _, hk, e1, e2⟩ := kep i hi h2
  have : ((needsAll T high).getD i zN, B.getD i 0) = A.getD k zA := Prod.ext e1.symm e2.symm
  rw [this]
  exact getD_mem' zA hk
 ·have hm := hs x hx
  have hfn := (od.fn x hx).2
  obtain ⟨i, hi, e⟩ := List.getElem_of_mem hm
  have eN : (needsAll T high).getD i zN = x.1 := by rw [<- e]; simp [List.getD, hi]
  obtain ⟨k, hat, hk, e1, e2⟩ := kep i hi (by rw [eN]; exact hfn)
  obtain ⟨j, hj, rfl⟩ := List.getElem_of_mem hx
  have eA : A.getD j zA = A[j] := by simp [List.getD, hj]
  have hat2 := od.at' hj
  rw [eA, <- eN, hat] at hat2
  cases hat2
  refine List.mem_filter.2 ⟨?_, by rw [decide_eq_true_eq]; exact hfn⟩
  have : A[k] = ((needsAll T high).getD i zN, B.getD i 0) := by rw [<- eA]; exact Prod.ext e1 e2
  rw [this]
  have hz := zip_getD hl hi
  exact List.mem_of_getElem? hz

theorem ofL_part {B : List Asg} {n : Nat} {f : Int} (hf : f < n) : ofL (B.filter (fun x => decide (x.1.1 < (n : Int)))) f = ofL B f := by
 unfold ofL
 rw [List.filter_filter]
 apply List.filter_congr
 intro x _
 by_cases e : x.1.1 = f
 ·rw [decide_eq_true e, decide_eq_true (by omega)]
  rfl
 ·rw [decide_eq_false e]
  rfl
theorem ext_aff (od : Old T high n A) (hs : SubN A (needsAll T high)) {B : List Int} (hl : B.length = (needsAll T high).length) (hB : ∀ i, i < (needsAll T high).length -> ((needsAll T high).getD i zN).1 < n -> B.getD i 0 = (B0F (needsAll T high) A n).getD i 0) : ∀ f : Int, f < n -> affB A ((needsAll T high).zip B) f = false := fun f hf => by
 unfold affB
 rw [<- ofL_part (B := (needsAll T high).zip B) hf, ext_old od hs hl hB, decide_eq_true rfl]
 rfl

theorem cnt_succ {N : List Need} {n k : Nat} (hk : k < N.length) : ((N.take (k + 1)).filter (fun x : Need => decide (x.1 < (n : Int)))).length = ((N.take k).filter (fun x : Need => decide (x.1 < (n : Int)))).length + (if (N.getD k zN).1 < (n : Int) then 1 else 0) := by
 rw [filter_succ zN _ hk, List.length_append]
 congr 1
 by_cases c : (N.getD k zN).1 < (n : Int)
 ·rw [if_pos c, if_pos (by simpa using c)]; rfl
 ·rw [if_neg c, if_neg (by simpa using c)]; rfl

def ExtP (T : List FS) (N : List Need) (n : Nat) (A : List Asg) (H : Heap) (v : Value) (H' : Heap) : Prop :=
 ∃ (out : Sl) (b : Bool), v = .tuple #[.slice out.p out.n out.c, .bool b] /\ ((b = true /\ ∃ B, extF T N n A = some B /\ Own H.size t_32 5 H' out ((N.zip B).flatMap encA)) \/ (b = false /\ extF T N n A = none)) /\ Ext H H'
theorem ExtP.no {N : List Need} {H H' : Heap} (h : extF T N n A = none) (e : Ext H H') : ExtP T N n A H (.tuple #[.slice none 0 0, .bool false]) H' := ⟨⟨none, 0, 0⟩, false, rfl, .inr ⟨rfl, h⟩, e⟩

theorem rext_fits (od : Old T high n A) (hs : SubN A (needsAll T high)) (s sa ns : Sl) (H H2 : Heap) (hna : ns.n = (needsAll T high).length) (hT : Topo H s T) (hA : IsS 5 encA H sa A) (hAl : A.length <= 1000) (hN : IsS 4 encN H ns (needsAll T high)) (hNl : (needsAll T high).length <= 1000) (hAu : ∀ i, i < A.length -> U64 (A.getD i zA).2)
  (ab : AsB H2 H.size (needsAll T high) (B0F (needsAll T high) A n)) (e2 : Ext H H2) :
  ∃ I_1 : Int -> Heap -> Prop, ∃ M_1 : Int -> Heap -> Nat, I_1 0 H2 /\ (∀ p : Int, ∀ H6 : Heap, I_1 p H6 -> F_38_r2 (ExtP T (needsAll T high) n A H) H s sa ns n I_1 M_1 p H6) := by
 have hTn := hT.len
 have hv64 := od.v.1
 obtain ⟨np, nn, nc⟩ := ns
 dsimp only at hna
 subst hna
 have hu0 : AllU (B0F (needsAll T high) A n) := fun x hx => by
  obtain ⟨i, hi, rfl⟩ := List.getElem_of_mem hx
  have hi' : i < (needsAll T high).length := by rw [B0F_len] at hi; exact hi
  have e : (B0F (needsAll T high) A n)[i] = (B0F (needsAll T high) A n).getD i 0 := by simp [List.getD, hi]
  rw [e, B0F_at hi']
  split
  ·rename_i hf
   obtain ⟨j, hj, he⟩ := od.all hs (getD_mem' zN hi') hf
   rw [bas_at od.nodup hj he]
   exact hAu j hj
  ·unfold U64; omega
 refine loop1 T.length (fun k H' => ∃ B, fitsF T (needsAll T high) n (B0F (needsAll T high) A n) (3 * k) = some B /\ AllU B /\ AsB H' H.size (needsAll T high) B /\ Ext H H') ⟨_, rfl, hu0, ab, e2⟩ ?_
 rintro k H6 hk ⟨B, hf, hu, ab6, e6⟩
 unfold F_38_r2
 dsimp only
 rw [Int.toNat_natCast (needsAll T high).length]
 refine iteB_dec (fun c => ?_) (fun c => ?_)
 ·have hkT : k < T.length := by omega
  refine loop1 3 (fun c H' => ∃ B, fitsF T (needsAll T high) n (B0F (needsAll T high) A n) (3 * k + c) = some B /\ AllU B /\ AsB H' H.size (needsAll T high) B /\ Ext H H') ⟨B, hf, hu, ab6, e6⟩ ?_
  rintro c3 H7 hc3 ⟨B, hf, hu, ab7, e7⟩
  unfold F_38_r1
  dsimp only
  rw [Int.toNat_natCast (needsAll T high).length]
  refine iteB_dec (fun d => ?_) (fun d => ?_)
  ·have hc : c3 < 3 := by omega
   obtain ⟨o1, o2⟩ := fitsF_old hf
   refine (rfit_spec (n := n) od.v od.o s sa ⟨np, (needsAll T high).length, nc⟩ A B k c3 H.size H7 hkT hc (hT.ext e7) (hA.ext e7) hAl (hN.ext e7) ab7 (by rw [o1, B0F_len]) hu hNl (od.kept hs o2)).mono ?_
   rintro v H8 ⟨b, rfl, h, m8⟩
   have e8 : Ext H H8 := Mods.ext e7 m8 (by simp)
   have hss := fitsF_succ T (needsAll T high) n (B0F (needsAll T high) A n) (p := k) hc
   rw [hf] at hss
   rcases h with ⟨rfl, B', hB', ab8⟩ | ⟨rfl, hB'⟩
   ·exact ⟨_, rfl, iteB_neg rfl (letV_mk _ rfl (next1 hc (by omega) ⟨B', hss.trans hB', fillF_all hB' hu, ab8, e8⟩))⟩
   ·refine ⟨_, rfl, iteB_pos rfl (ExtP.no ?_ e8)⟩
    unfold extF
    rw [if_pos hs]
    exact fitsF_none' (hss.trans hB') (by omega)
  ·obtain rfl : c3 = 3 := by omega
   exact letV_mk _ rfl (next1 hkT (by omega) ⟨B, by rw [show 3 * (k + 1) = 3 * k + 3 by omega]; exact hf, hu, ab7, e7⟩)
 ·obtain rfl : k = T.length := by omega
  obtain ⟨o1, _⟩ := fitsF_old hf
  have hl : B.length = (needsAll T high).length := by rw [o1, B0F_len]
  have hzl := zip_len hl
  exact ⟨⟨some ⟨H.size, 0, none⟩, (needsAll T high).length, (needsAll T high).length⟩, true, rfl, .inl ⟨rfl, B, by unfold extF; rw [if_pos hs]; exact hf, RB.own ab6.rb (by rw [hzl]; exact ab6.cs) (Nat.le_refl _) hzl.symm (by simp [maxLen]; omega)⟩, e6⟩

theorem rextend_spec (od : Old T high n A) (s sa ns : Sl) (H : Heap) (hT : Topo H s T) (hA : IsS 5 encA H sa A) (hN : IsS 4 encN H ns (needsAll T high)) (hNl : (needsAll T high).length <= 1000) (hAu : ∀ i, i < A.length -> U64 (A.getD i zA).2) :
  CallsH Tryz.prog n_38 #[.slice s.p s.n s.c, .slice sa.p sa.n sa.c, .slice ns.p ns.n ns.c, .int .i64 (n : Int)] H (ExtP T (needsAll T high) n A H) := by
 refine F_38_ok _ _ _ _ ?_
 unfold F_38
 have hnn := hN.len
 have hsn := hA.len
 have hAl : A.length <= 1000 := by
  have h1 := congrArg List.length od.a
  have h2 : (needsAll (T.take n) high).length <= 1000 := NeedsIs.len (.inr (.inr ⟨ValidT_take od.v n, od.o', rfl, rfl⟩))
  rw [List.length_map] at h1
  omega
 have hinj : ∀ {x y : Need}, x ∈ needsAll (T.take n) high -> y ∈ needsAll (T.take n) high -> x.1 = y.1 -> x.2.1 = y.2.1 -> x = y := fun h1 h2 => kap_inj (ValidT_take od.v n) h1 h2
 have hfits := fun hs H2 ab e2 => rext_fits od hs s sa ns H H2 hnn hT hA hAl hN hNl hAu ab e2
 have hno : ¬ SubN A (needsAll T high) -> extF T (needsAll T high) n A = none := fun h => by unfold extF; rw [if_neg h]
 have hlist : SubN A (needsAll T high) -> (needsAll T high).filter (fun x => decide (x.1 < (n : Int))) = A.map Prod.fst := fun hs => od.list hs
 have hall : SubN A (needsAll T high) -> ∀ {x : Need}, x ∈ needsAll T high -> x.1 < n -> ∃ j, j < A.length /\ (A.getD j zA).1 = x := fun hs => od.all hs
 have hNd : (needsAll T high).Nodup := sorted_nodup (needs_kap od.v)
 have hAn := od.nodup
 have hat' : ∀ {j : Nat}, j < A.length -> atN (A.map Prod.fst) (A.getD j zA).1.1 (A.getD j zA).1.2.1 = some j := fun hj => od.at' hj
 generalize needsAll T high = N at *
 refine ⟨by omega, by omega, by omega, letH_mk ?_⟩
 rw [hnn, Int.toNat_natCast]
 intro H1 h1
 have e1 : Ext H H1 := by rw [h1]; exact Ext.push _ _
 have a1 : RB H1 H.size t_32 5 encA (List.replicate N.length zA) := by
  rw [h1]
  exact RB.zero H t_32 encA_len N.length (.agg #[.int .i64 0, .int .i64 0, .int .i64 0, .int .i64 0, .int .u64 0]) zA rfl
 have cs1 : CS H1 H.size (N.length * 5) := by
  rw [h1]
  exact ⟨_, _, push_new _ _, by rw [zeroRow_size]; rfl⟩
 clear h1
 have hbl := B0F_len N A n
 have hzl : (N.zip (B0F N A n)).length = N.length := zip_len hbl
 refine ⟨fun kept x H' => ∃ k : Nat, x = k /\ k <= N.length /\ kept = (((N.take k).filter (fun x : Need => decide (x.1 < (n : Int)))).length : Int) /\ (∀ i, i < k -> (N.getD i zN).1 < n -> N.getD i zN ∈ A.map Prod.fst) /\ RB H' H.size t_32 5 encA ((N.zip (B0F N A n)).take k ++ List.replicate (N.length - k) zA) /\ CS H' H.size (N.length * 5) /\ Ext H H', fun _ x _ => (N.length - x).toNat, ⟨0, rfl, by omega, by simp, fun i hi => by omega, by simpa using a1, cs1, e1⟩, ?_⟩
 rintro kept x H2 ⟨k, rfl, hk, rfl, hin, a2, cs2, e2⟩
 unfold F_38_r3
 rw [hnn, Int.toNat_natCast N.length]
 have hcl := List.length_filter_le (fun x : Need => decide (x.1 < (n : Int))) (N.take k)
 have htl : (N.take k).length <= k := by rw [List.length_take]; omega
 refine iteB_dec (fun c => ?_) (fun c => ?_)
 ·have hkn : k < N.length := by omega
  obtain ⟨a, hp, hr⟩ := IsS.atN (hN.ext e2) zN hkn
  have r0 : rd H2 (a.add ((k : Int).toNat * 4)) = some (.int .i64 (N.getD k zN).1) := by have := hr 0 _ rfl; rwa [add_zero'] at this
  obtain ⟨m, hmm⟩ : ∃ m, N.length - k = m + 1 := ⟨N.length - k - 1, by omega⟩
  have hmk : N.length - (k + 1) = m := by omega
  have hlk : ((N.zip (B0F N A n)).take k).length = k := by rw [List.length_take, hzl]; omega
  rw [hmm, List.replicate_succ] at a2
  have hget : ((N.zip (B0F N A n)).take k ++ zA :: List.replicate m zA)[k]? = some zA := by
   rw [List.getElem?_append_right (by omega), hlk, Nat.sub_self]; rfl
  have hw := RB.wrSub a2 (i := k) (j := 0) (x := zA) (y := (N.getD k zN, 0)) (ws := [.int .i64 (N.getD k zN).1, .int .i64 (N.getD k zN).2.1, .int .i64 (N.getD k zN).2.2.1, .int .i64 (N.getD k zN).2.2.2]) hget (by simp) rfl
  rw [List.set_append_right _ _ (by omega), hlk, Nat.sub_self, List.set_cons_zero, add_zero'] at hw
  have hct := cnt_succ (n := n) hkn
  have hst := take_succ_d (l := N.zip (B0F N A n)) (k := k) zA (by omega)
  have hzk : (N.zip (B0F N A n)).getD k zA = (N.getD k zN, (B0F N A n).getD k 0) := by
   have := zip_getD hbl hkn
   unfold List.getD
   rw [this]
   rfl
  rw [hzk, B0F_at hkn] at hst
  refine ⟨by omega, by omega, unSome_mk hp ⟨_, r0, _, hr 1 _ rfl, _, hr 2 _ rfl, _, hr 3 _ rfl, by omega, by omega, ?_, letH_mk ?_⟩⟩
  ·rw [Int.toNat_natCast]
   exact RB.ok0 a2 (by simp; omega) (by omega)
  intro H3 h3
  rw [Int.toNat_natCast] at h3
  rw [<- h3] at hw
  have cs3 : CS H3 H.size (N.length * 5) := by rw [h3]; exact cs2.wrs _ _
  have e3 : Ext H H3 := by rw [h3]; exact Mods.ext e2 (mods_wr_add (S := [H.size]) (by simp)) (by simp)
  clear h3
  obtain ⟨a', hp', hr'⟩ := IsS.atN (hN.ext e3) zN hkn
  have r0' : rd H3 (a'.add ((k : Int).toNat * 4)) = some (.int .i64 (N.getD k zN).1) := by have := hr' 0 _ rfl; rwa [add_zero'] at this
  refine ⟨by omega, by omega, unSome_mk hp' ⟨_, r0', iteB_dec (fun q => ?_) (fun q => ?_)⟩⟩
  ·rw [if_pos q] at hst hct
   refine ⟨by omega, by omega, unSome_mk hp' ⟨_, r0', by omega, by omega, unSome_mk hp' ⟨_, hr' 1 _ rfl, (rat_spec H3 sa A _ _ (hA.ext e3) (by omega)).mono ?_⟩⟩⟩
   rintro v H4 ⟨rfl, rfl⟩
   cases hw2 : atN (A.map Prod.fst) (N.getD k zN).1 (N.getD k zN).2.1 with
   | none =>
    have : atI (A.map Prod.fst) (N.getD k zN).1 (N.getD k zN).2.1 = -1 := by unfold atI; rw [hw2]
    rw [this]
    refine ⟨_, rfl, iteB_pos (by decide) (ExtP.no (hno (fun hs => ?_)) e3)⟩
    obtain ⟨j, hj, he⟩ := hall hs (getD_mem' zN hkn) q
    have := hat' hj
    rw [he, hw2] at this
    cases this
   | some j =>
    have : atI (A.map Prod.fst) (N.getD k zN).1 (N.getD k zN).2.1 = (j : Int) := by unfold atI; rw [hw2]
    rw [this]
    obtain ⟨hjl, hj1, hj2⟩ := atN_spec hw2
    have hjA : j < A.length := by simpa using hjl
    obtain ⟨a5, hp5, q0, hr5⟩ := asg_rd (hA.ext e3) hjA
    refine ⟨_, rfl, iteB_dec (fun hh => by omega) (fun _ => ⟨by omega, by omega, unSome_mk hp5 ⟨_, q0, _, hr5 1 _ rfl, _, hr5 2 _ rfl, _, hr5 3 _ rfl, by omega, by omega, unSome_mk hp' ⟨_, r0', _, hr' 1 _ rfl, _, hr' 2 _ rfl, _, hr' 3 _ rfl, ?_⟩⟩⟩)⟩
    refine iteB_not (fun g => ExtP.no (hno (fun hs => ?_)) e3) (fun g => ?_)
    ·obtain ⟨i, hi, he⟩ := hall hs (getD_mem' zN hkn) q
     have := hat' hi
     rw [he, hw2] at this
     cases this
     rw [he] at g
     simp at g
    ·have heq : (A.getD j zA).1 = N.getD k zN := by
      simp only [Bool.and_eq_true, beq_iff_eq, Bool.and_true] at g
      obtain ⟨g0, g1, g2, g3⟩ := g
      exact Prod.ext g0 (Prod.ext g1 (Prod.ext g2 g3))
     refine ⟨by omega, by omega, unSome_mk hp5 ⟨_, hr5 4 _ rfl, by omega, by omega, ?_, letH_mk ?_⟩⟩
     ·rw [Int.toNat_natCast]
      exact RB.ok hw (by simp; omega) (by omega)
     ·intro H5 h5
      rw [Int.toNat_natCast] at h5
      have hget2 : ((N.zip (B0F N A n)).take k ++ (N.getD k zN, 0) :: List.replicate m zA)[k]? = some (N.getD k zN, 0) := by
       rw [List.getElem?_append_right (by omega), hlk, Nat.sub_self]; rfl
      have hw5 := RB.wr hw (i := k) (j := 4) (x := (N.getD k zN, 0)) (y := (N.getD k zN, (A.getD j zA).2)) (v := .int .u64 (A.getD j zA).2) hget2 (by omega) rfl
      rw [List.set_append_right _ _ (by omega), hlk, Nat.sub_self, List.set_cons_zero, <- h5] at hw5
      refine letV_mk ((((N.take (k + 1)).filter (fun x : Need => decide (x.1 < (n : Int)))).length : Nat) : Int) (by rw [hct, i64_in (by omega)]; omega) (letV_mk ((k + 1 : Nat) : Int) (by rw [i64_in (by omega)]; omega) ⟨⟨k + 1, rfl, by omega, rfl, fun i hi hf => ?_, ?_, by rw [h5]; exact cs3.wrs _ _, by rw [h5]; exact Mods.ext e3 (by rw [add_add']; exact mods_wr_add (S := [H.size]) (by simp)) (by simp)⟩, by dsimp only; omega⟩)
      ·by_cases e : i = k
       ·rw [e, <- heq]
        exact List.mem_map.2 ⟨_, getD_mem' zA hjA, rfl⟩
       ·exact hin i (by omega) hf
      ·rw [hst, hmk, List.append_assoc, bas_at hAn hjA heq]
       exact hw5
  ·rw [if_neg q] at hst hct
   refine letV_mk ((k + 1 : Nat) : Int) (by rw [i64_in (by omega)]; omega) ⟨⟨k + 1, rfl, by omega, by rw [hct, Nat.add_zero], fun i hi hf => ?_, by rw [hst, hmk, List.append_assoc]; exact hw, cs3, e3⟩, by dsimp only; omega⟩
   by_cases e : i = k
   ·rw [e] at hf; exact absurd hf q
   ·exact hin i (by omega) hf
 ·obtain rfl : k = N.length := by omega
  rw [List.take_length]
  rw [Nat.sub_self, List.replicate_zero, List.append_nil, List.take_of_length_le (by omega)] at a2
  have hsub : ∀ x ∈ N.filter (fun x : Need => decide (x.1 < (n : Int))), x ∈ A.map Prod.fst := fun x hx => by
   obtain ⟨h1, h2⟩ := List.mem_filter.1 hx
   rw [decide_eq_true_eq] at h2
   obtain ⟨i, hi, rfl⟩ := List.getElem_of_mem h1
   have e : N.getD i zN = N[i] := by simp [List.getD, hi]
   rw [<- e] at h2 ⊢
   exact hin i hi h2
  refine iteB_bne (fun q => ExtP.no (hno (fun hs => q ?_)) e2) (fun q => hfits ?_ H2 ⟨a2, cs2⟩ e2)
  ·rw [hlist hs, List.length_map, hsn]
  ·intro x hx
   apply Classical.byContradiction
   intro hn
   have hxm : x.1 ∈ A.map Prod.fst := List.mem_map.2 ⟨x, hx, rfl⟩
   have hlen := nodup_len (N.filter (fun x : Need => decide (x.1 < (n : Int)))) ((A.map Prod.fst).erase x.1) (List.Pairwise.filter _ hNd) (fun y hy => (List.mem_erase_of_ne (by intro e; subst e; exact hn (List.mem_filter.1 hy).1)).2 (hsub y hy))
   rw [List.length_erase_of_mem hxm, List.length_map] at hlen
   have hpos : 0 < A.length := List.length_pos_of_mem hx
   omega
end

end Go.Proofs.YtnhhncjflnlfaaaGreat
end

section
/-
 Plans: what a plan is; the contracts of both.
-/
namespace Go.Proofs.YtnhhncjflnlfaaaGreat
open Go.Eng
set_option linter.unusedVariables false

def AccOk (T : List FS) (h : Host) (n : Int) : Prop := (ValidT T /\ ValidH h) /\ (0 <= n /\ n <= T.length) /\ NewOk T n.toNat

theorem racc_spec (T : List FS) (s : Sl) (h : Host) (hs : HostS) (n : Int) (H : Heap) (hT : Topo H s T) (hm : HostM H h hs) :
  CallsH Tryz.prog n_36 #[.slice s.p s.n s.c, hostV h hs, .int .i64 n] H (fun v H' => ∃ b : Bool, v = .bool b /\ (b = true ↔ AccOk T h n) /\ Ext H H') := by
 refine F_36_ok _ _ _ _ _ _ _ _ _ _ ?_
 unfold F_36
 have no : ∀ {H'}, Ext H H' -> ¬ AccOk T h n -> ∃ b : Bool, (.bool false : Value) = .bool b /\ (b = true ↔ AccOk T h n) /\ Ext H H' := fun e hn => ⟨false, rfl, ⟨fun h => (by cases h), fun h => absurd h hn⟩, e⟩
 have hTn := hT.len
 refine push_mk (vs := hostL h hs) fun H1 e1 z1 b1 => (rVal_spec T s H1 (hT.ext e1)).mono ?_
 rintro v H2 ⟨rfl, e2⟩
 have x2 := e1.trans e2
 refine ⟨_, rfl, iteB_not (fun c => no x2 (fun hh => by simp at c; exact c hh.1.1)) (fun c => ?_)⟩
 have hv : ValidT T := by simpa using c
 have hv64 := hv.1
 obtain ⟨p0, p1, p2, p3, p4, p5, p6, p7⟩ := Blk.host (b1.ext e2)
 refine ⟨_, p0, _, p1, _, p2, _, p3, _, p4, _, p5, _, p6, _, p7, (rValidHost_spec h hs H2 (hm.ext x2)).mono ?_⟩
 rintro v H3 ⟨rfl, e3⟩
 have x3 := x2.trans e3
 refine ⟨_, rfl, iteB_not (fun c => no x3 (fun hh => by simp at c; exact c hh.1.2)) (fun c => ?_)⟩
 have hvh : ValidH h := by simpa using c
 refine iteB_dec (fun c => no x3 (fun hh => by have := hh.2.1; omega)) (fun c1 => iteB_dec (fun c => no x3 (fun hh => by have := hh.2.1; omega)) (fun c2 => ?_))
 obtain ⟨m, rfl⟩ : ∃ m : Nat, n = m := ⟨n.toNat, by omega⟩
 refine ⟨fun x H' => ∃ k : Nat, x = k /\ m <= k /\ k <= T.length /\ H' = H3 /\ ∀ i, m <= i -> i < k -> 0 <= (fnAt T i).parent /\ ((fnAt T i).parent < m -> (fnAt T (fnAt T i).parent.toNat).hot = true), fun x _ => (T.length - x).toNat, ⟨m, rfl, Nat.le_refl _, by omega, rfl, fun i h1 h2 => by omega⟩, ?_⟩
 rintro x H4 ⟨k, rfl, hmk, hkT, rfl, hall⟩
 unfold F_36_r1
 refine iteB_dec (fun d => ?_) (fun d => ?_)
 ·have hkT' : k < T.length := by omega
  have hno : ¬ (0 <= (fnAt T k).parent /\ ((fnAt T k).parent < m -> (fnAt T (fnAt T k).parent.toNat).hot = true)) -> ¬ AccOk T h m := fun hn hh => hn (hh.2.2 k (by rw [Int.toNat_natCast]; exact hmk) hkT')
  have hpa := (hv.2 k hkT').pa
  obtain ⟨a, hp, hr⟩ := (hT.ext x3).at hkT'
  have p0 := (rdFn hr).1
  have hnx : (0 <= (fnAt T k).parent /\ ((fnAt T k).parent < m -> (fnAt T (fnAt T k).parent.toNat).hot = true)) -> ∀ i, m <= i -> i < k + 1 -> 0 <= (fnAt T i).parent /\ ((fnAt T i).parent < m -> (fnAt T (fnAt T i).parent.toNat).hot = true) := fun hh i h1 h2 => by
   by_cases e : i = k
   ·rw [e]; exact hh
   ·exact hall i h1 (by omega)
  refine ⟨by omega, by omega, unSome_mk hp ⟨_, p0, iteB_dec (fun q => no x3 (hno (fun hh => by omega))) (fun q => iteB_dec (fun q1 => ?_) (fun q1 => letV_mk ((k + 1 : Nat) : Int) (by rw [i64_in (by omega)]; omega) ⟨⟨k + 1, rfl, by omega, by omega, rfl, hnx ⟨by omega, fun hh => absurd hh q1⟩⟩, by dsimp only; omega⟩))⟩⟩
  obtain ⟨pn, hpn⟩ : ∃ pn : Nat, (fnAt T k).parent = pn := ⟨(fnAt T k).parent.toNat, by omega⟩
  obtain ⟨a1, hp1, hr1⟩ := (hT.ext x3).at (i := pn) (by omega)
  have p6 := (rdFn hr1).2.2.2.2.2.2.1
  rw [hpn] at hno hnx q1 hpa ⊢
  rw [Int.toNat_natCast] at hno hnx
  refine ⟨by omega, by omega, unSome_mk hp1 ⟨_, p6, iteB_not (fun q2 => no x3 (hno (fun hh => by have := hh.2 q1; rw [q2] at this; cases this))) (fun q2 => letV_mk ((k + 1 : Nat) : Int) (by rw [i64_in (by omega)]; omega) ⟨⟨k + 1, rfl, by omega, by omega, rfl, hnx ⟨by omega, fun _ => q2⟩⟩, by dsimp only; omega⟩)⟩⟩
 ·obtain rfl : k = T.length := by omega
  exact ⟨true, rfl, ⟨fun _ => ⟨⟨hv, hvh⟩, ⟨by omega, by omega⟩, fun i h1 h2 => by rw [Int.toNat_natCast] at h1 ⊢; exact hall i h1 h2⟩, fun _ => rfl⟩, x3⟩

theorem vp_spec (T : List FS) (s : Sl) (h : Host) (hs : HostS) (n : Int) (H : Heap) (hT : Topo H s T) (hcap : s.n <= s.c) (hm : HostM H h hs) :
  CallsH Tryz.prog n_26 #[.slice s.p s.n s.c, hostV h hs, .int .i64 n] H (fun v H' => ∃ b : Bool, v = .bool b /\ (b = true ↔ AccOk T h n) /\ Ext H H') := by
 refine F_26_ok _ _ _ _ _ _ _ _ _ _ ?_
 unfold F_26
 have no : ∀ {H'}, Ext H H' -> ¬ AccOk T h n -> ∃ b : Bool, (.bool false : Value) = .bool b /\ (b = true ↔ AccOk T h n) /\ Ext H H' := fun e hn => ⟨false, rfl, ⟨fun h => (by cases h), fun h => absurd h hn⟩, e⟩
 have hTn := hT.len
 refine push_mk (vs := hostL h hs) fun H1 e1 z1 b1 => (eValid_spec T s H1 (hT.ext e1)).mono ?_
 rintro v H2 ⟨rfl, e2⟩
 have x2 := e1.trans e2
 refine ⟨_, rfl, iteB_not (fun c => no x2 (fun hh => by simp at c; exact c hh.1.1)) (fun c => ?_)⟩
 have hv : ValidT T := by simpa using c
 have hv64 := hv.1
 obtain ⟨p0, p1, p2, p3, p4, p5, p6, p7⟩ := Blk.host (b1.ext e2)
 refine ⟨_, p0, _, p1, _, p2, _, p3, _, p4, _, p5, _, p6, _, p7, (ValidHost_spec h hs H2 (hm.ext x2)).mono ?_⟩
 rintro v H3 ⟨rfl, e3⟩
 have x3 := x2.trans e3
 refine ⟨_, rfl, iteB_not (fun c => no x3 (fun hh => by simp at c; exact c hh.1.2)) (fun c => ?_)⟩
 have hvh : ValidH h := by simpa using c
 refine iteB_dec (fun c => no x3 (fun hh => by have := hh.2.1; omega)) (fun c1 => iteB_dec (fun c => no x3 (fun hh => by have := hh.2.1; omega)) (fun c2 => ?_))
 obtain ⟨m, rfl⟩ : ∃ m : Nat, n = m := ⟨n.toNat, by omega⟩
 have hmT : m <= T.length := by omega
 refine ⟨by omega, by omega, ?_⟩
 refine loop1 (T.length - m) (fun k H' => Ext H3 H' /\ ∀ i, m <= i -> i < m + k -> 0 <= (fnAt T i).parent /\ ((fnAt T i).parent < m -> (fnAt T (fnAt T i).parent.toNat).hot = true)) ⟨.refl _, fun i h1 h2 => by omega⟩ ?_
 rintro k H4 hk ⟨e4, hall⟩
 unfold F_26_r1
 rw [Int.toNat_natCast m]
 have x4 := x3.trans e4
 refine iteB_dec (fun d => ?_) (fun d => ?_)
 ·have hkT : m + k < T.length := by omega
  have hno : ¬ (0 <= (fnAt T (m + k)).parent /\ ((fnAt T (m + k)).parent < m -> (fnAt T (fnAt T (m + k)).parent.toNat).hot = true)) -> ¬ AccOk T h m := fun hn hh => hn (hh.2.2 (m + k) (by rw [Int.toNat_natCast]; omega) hkT)
  have hpa := (hv.2 (m + k) hkT).pa
  have hdr := IsS.dropS (hT.ext x4).is hcap m hmT
  obtain ⟨a, hp, hr⟩ := IsS.atN hdr zF (k := k) (by rw [List.length_drop]; omega)
  have hg : (T.drop m).getD k zF = (fnAt T (m + k), slAt T (m + k)) := by
   unfold fnAt slAt
   simp [List.getD, List.getElem?_drop]
  rw [hg] at hr
  obtain ⟨q0, q1, q2, q3, q4, q5, q6, q7, q8, q9, q10⟩ := rdFn hr
  have hnx : (0 <= (fnAt T (m + k)).parent /\ ((fnAt T (m + k)).parent < m -> (fnAt T (fnAt T (m + k)).parent.toNat).hot = true)) -> ∀ i, m <= i -> i < m + (k + 1) -> 0 <= (fnAt T i).parent /\ ((fnAt T i).parent < m -> (fnAt T (fnAt T i).parent.toNat).hot = true) := fun hh i h1 h2 => by
   by_cases e : i = m + k
   ·rw [e]; exact hh
   ·exact hall i h1 (by omega)
  refine ⟨by omega, by omega, unSome_mk hp ⟨_, q0, _, q1, _, q2, _, q3, _, q4, _, q5, _, q6, _, q7, _, q8, _, q9, _, q10, local_mk (vs := fnL (fnAt T (m + k)) (slAt T (m + k))) rfl rfl fun H6 e6 z6 b6 => ?_⟩⟩
  have x6 := x4.trans e6
  have r0 := (Blk.fn b6).1
  refine ⟨_, r0, iteB_dec (fun q => ⟨_, r0, (isPort_spec T s _ H6 (hT.ext x6) hv).mono ?_⟩) (fun q => next1 (by omega) (by omega) ⟨e4.trans e6, hnx ⟨by omega, fun hh => absurd hh q⟩⟩)⟩
  rintro v H7 ⟨rfl, rfl⟩
  refine ⟨_, rfl, iteB_not (fun g => no x6 (hno (fun hh => ?_))) (fun g => ?_)⟩
  ·simp at g
   exact g ⟨⟨hh.1, by omega⟩, hh.2 q⟩
  ·have hip : IsPort T (fnAt T (m + k)).parent := by simpa using g
   exact next1 (by omega) (by omega) ⟨e4.trans e6, hnx ⟨hip.1.1, fun _ => hip.2⟩⟩
 ·refine ⟨true, rfl, ⟨fun _ => ⟨⟨hv, hvh⟩, ⟨by omega, by omega⟩, fun i h1 h2 => by rw [Int.toNat_natCast] at h1 ⊢; exact hall i h1 (by omega)⟩, fun _ => rfl⟩, x4⟩

def PlanIs (T : List FS) (h : Host) (A : List Asg) (n : Int) (e : Int) (Bs : List Asg) (M : List Mv) (c : Cert) : Prop :=
 (¬ AccOk T h n /\ e = 1 /\ Bs = [] /\ M = [] /\ c = noCert) \/
 (AccOk T h n /\ ∃ e0 N, NeedsIs T (hiF h) e0 N /\ ((e0 ≠ 0 /\ e = e0 /\ Bs = [] /\ M = [] /\ c = noCert) \/
  (e0 = 0 /\ ChkIs (T.take n.toNat) h A /\ ∃ B, extF T N n.toNat A = some B /\ e = 0 /\ Bs = N.zip B /\ M = movesF A (N.zip B) n.toNat T.length /\ c = noCert) \/
  (e0 = 0 /\ ¬ (ChkIs (T.take n.toNat) h A /\ ∃ B, extF T N n.toNat A = some B) /\ ∃ e1 B1 c1, AssignIs T h e1 B1 c1 /\ ((e1 ≠ 0 /\ e = e1 /\ Bs = [] /\ M = [] /\ c = c1) \/ (e1 = 0 /\ e = 0 /\ Bs = B1 /\ M = movesF A B1 n.toNat T.length /\ c = noCert)))))

theorem PlanIs.uni {T : List FS} {h : Host} {A : List Asg} {n e e' : Int} {Bs Bs' : List Asg} {M M' : List Mv} {c c' : Cert} (p : PlanIs T h A n e Bs M c) (q : PlanIs T h A n e' Bs' M' c') : e = e' /\ Bs = Bs' /\ M = M' /\ c = c' := by
 rcases p with ⟨p0, rfl, rfl, rfl, rfl⟩ | ⟨p0, e0, N, hN, p1⟩ <;> rcases q with ⟨q0, rfl, rfl, rfl, rfl⟩ | ⟨q0, e1, N1, hN1, q1⟩
 ·exact ⟨rfl, rfl, rfl, rfl⟩
 ·exact absurd q0 p0
 ·exact absurd p0 q0
 ·obtain ⟨rfl, rfl⟩ := hN.uni hN1
  rcases p1 with ⟨u, rfl, rfl, rfl, rfl⟩ | ⟨u, u1, B, hB, rfl, rfl, rfl, rfl⟩ | ⟨u, u1, e1, B1, c1, hA, p2⟩ <;> rcases q1 with ⟨w, rfl, rfl, rfl, rfl⟩ | ⟨w, w1, B', hB', rfl, rfl, rfl, rfl⟩ | ⟨w, w1, e1', B1', c1', hA', q2⟩ <;> try contradiction
  ·exact ⟨rfl, rfl, rfl, rfl⟩
  ·rw [hB] at hB'
   cases hB'
   exact ⟨rfl, rfl, rfl, rfl⟩
  ·exact absurd ⟨u1, B, hB⟩ w1
  ·exact absurd ⟨w1, B', hB'⟩ u1
  ·obtain ⟨rfl, rfl, rfl⟩ := hA.uni hA'
   rcases p2 with ⟨u2, rfl, rfl, rfl, rfl⟩ | ⟨u2, rfl, rfl, rfl, rfl⟩ <;> rcases q2 with ⟨w2, rfl, rfl, rfl, rfl⟩ | ⟨w2, rfl, rfl, rfl, rfl⟩ <;> first | exact ⟨rfl, rfl, rfl, rfl⟩ | contradiction

def PlanP (T : List FS) (h : Host) (A : List Asg) (n : Int) (H : Heap) (v : Value) (H' : Heap) : Prop :=
 ∃ (out ms : Sl) (e : Int) (Bs : List Asg) (M : List Mv) (c : Cert), v = .tuple #[.slice out.p out.n out.c, .slice ms.p ms.n ms.c, certV c, .int .i64 e] /\ PlanIs T h A n e Bs M c /\ (IsS 5 encA H' out Bs /\ out.n <= out.c) /\ IsS 4 encMv H' ms M /\ Ext H H'
theorem PlanP.no {T : List FS} {h : Host} {A : List Asg} {n e : Int} {c : Cert} {H H' : Heap} (hp : PlanIs T h A n e [] [] c) (he : Ext H H') : PlanP T h A n H (.tuple #[.slice none 0 0, .slice none 0 0, certV c, .int .i64 e]) H' :=
 ⟨⟨none, 0, 0⟩, ⟨none, 0, 0⟩, e, [], [], c, rfl, hp, ⟨IsS.nil _ _ _, Nat.le_refl _⟩, IsS.nil _ _ _, he⟩

structure PE (T : List FS) (s : Sl) (h : Host) (hs : HostS) (A : List Asg) (sa : Sl) (H H1 H' : Heap) : Prop where
 topo : Topo H' s T
 m : HostM H' h hs
 isA : IsS 5 encA H' sa A
 blk : Blk H' H.size t_27 (hostL h hs)
 cert : Blk H' H1.size t_39 (encC noCert)
 z : H.size <= H1.size
 ext : Ext H H'
theorem PE.go {T : List FS} {s : Sl} {h : Host} {hs : HostS} {A : List Asg} {sa : Sl} {H H1 H' H'' : Heap} (p : PE T s h hs A sa H H1 H') (e : Ext H' H'') : PE T s h hs A sa H H1 H'' := ⟨p.topo.ext e, p.m.ext e, p.isA.ext e, p.blk.ext e, p.cert.ext e, p.z, p.ext.trans e⟩

theorem AssignIs.fns {T : List FS} {h : Host} {e : Int} {A : List Asg} {c : Cert} (ha : AssignIs T h e A c) : ∀ x ∈ A, 0 <= x.1.1 /\ x.1.1 < T.length := by
 rcases ha with ⟨_, _, rfl, _⟩ | ⟨⟨hv, _⟩, e0, N, hN, ⟨_, _, rfl, _⟩ | ⟨_, _, _, rfl, _⟩ | ⟨rfl, _, _, rfl, _⟩⟩
 ·intro x hx; cases hx
 ·intro x hx; cases hx
 ·intro x hx; cases hx
 ·intro x hx
  obtain ⟨_, ho, rfl⟩ := hN.all
  exact (needs_ok hv ho x.1 (List.of_mem_zip (show (x.1, x.2) ∈ _ from hx)).1).fn
theorem AssignIs.len1 {T : List FS} {h : Host} {e : Int} {A : List Asg} {c : Cert} (ha : AssignIs T h e A c) : A.length <= 1000 := by
 rcases ha with ⟨_, _, rfl, _⟩ | ⟨_, e0, N, hN, ⟨_, _, rfl, _⟩ | ⟨_, _, _, rfl, _⟩ | ⟨_, _, _, rfl, _⟩⟩
 ·simp
 ·simp
 ·simp
 ·have := hN.len
  rw [List.length_zip]
  omega

theorem old_of {T : List FS} {h : Host} {A : List Asg} {n : Int} (ha : AccOk T h n) {N : List Need} (hN : NeedsIs T (hiF h) 0 N) (hc : ChkIs (T.take n.toNat) h A) : Old T (hiF h) n.toNat A := by
 obtain ⟨hv, ho, _⟩ := hN.all
 obtain ⟨_, ho', hA⟩ := hc.nd.all
 exact ⟨hv, ho, ho', by have := ha.2.1; omega, ha.2.2, hA⟩

theorem hi_of {h : Host} {hs : HostS} {H : Heap} (m : HostM H h hs) : decide ((hs.high.n : Int) > 0) = hiF h := by
 have := m.high.len
 unfold hiF
 rw [this]
 simp

theorem plan_k2 {T : List FS} {s : Sl} {h : Host} {hs : HostS} {A : List Asg} {sa : Sl} {H H1 H16 : Heap} (p : PE T s h hs A sa H H1 H16) (n : Nat) (ha : AccOk T h n) {N : List Need} (hN : NeedsIs T (hiF h) 0 N) (hno : ¬ (ChkIs (T.take n) h A /\ ∃ B, extF T N n A = some B)) (hAl : A.length <= 1001) :
  F_10_k2 (PlanP T h A n H) H s sa n H1 H16 := by
 unfold F_10_k2
 have hTn := p.topo.len
 have hv64 := ha.1.1.1
 have hnT := ha.2.1
 obtain ⟨p0, p1, p2, p3, p4, p5, p6, p7⟩ := Blk.host p.blk
 refine ⟨_, p0, _, p1, _, p2, _, p3, _, p4, _, p5, _, p6, _, p7, (Assign_spec T s h hs H16 p.topo p.m).mono ?_⟩
 rintro v H17 ⟨o, e1, B1, c1, rfl, hA, is1, ow1, e17⟩
 refine ⟨o, _, _, _, _, _, rfl, local_mk (vs := encC c1) rfl rfl fun H19 e19 z19 b19 => ?_⟩
 have q19 := p.go (e17.trans e19)
 have hBl := hA.len1
 have hBf := hA.fns
 refine iteB_bne (fun d => ⟨_, b19.rd0 rfl, _, b19.rd (i := 1) rfl, _, b19.rd (i := 2) rfl, _, b19.rd (i := 3) rfl, ?_⟩) (fun d => ?_)
 ·refine cert_wr (c := c1) (K := fun v H' => PlanP T h A n H (.tuple #[.slice none 0 0, .slice none 0 0, v, .int .i64 e1]) H') q19.cert (fun H' m' _ => ?_)
  exact PlanP.no (.inr ⟨ha, 0, N, hN, .inr (.inr ⟨rfl, by rw [Int.toNat_natCast]; exact hno, e1, B1, c1, hA, .inl ⟨d, rfl, rfl, rfl, rfl⟩⟩)⟩) (Mods.ext q19.ext m' (by simpa using p.z))
 ·rw [hTn]
  refine (reassignmentMoves_spec H19 sa o A B1 n T.length q19.isA (is1.ext e19) hAl (by omega) (by omega) (by omega) hBf).mono ?_
  rintro v H21 ⟨ms, rfl, om, e21⟩
  have q21 := q19.go e21
  refine ⟨ms, rfl, ?_⟩
  refine cert_wr (c := noCert) (K := fun v H' => PlanP T h A n H (.tuple #[.slice o.p o.n o.c, .slice ms.p ms.n ms.c, v, .int .i64 0]) H') q21.cert (fun H' m' _ => ?_)
  subst d
  have ne1 : ∀ a, o.p = some a -> a.block ∉ [H1.size] := fun a ha2 => by have := ow1.new a ha2; have := p.cert.lt; simp; omega
  have ne2 : ∀ a, ms.p = some a -> a.block ∉ [H1.size] := fun a ha2 => by have := om.new a ha2; have := q19.cert.lt; simp; omega
  exact ⟨o, ms, 0, B1, _, noCert, rfl, .inr ⟨ha, 0, N, hN, .inr (.inr ⟨rfl, by rw [Int.toNat_natCast]; exact hno, 0, B1, c1, hA, .inr ⟨rfl, rfl, rfl, by rw [Int.toNat_natCast], rfl⟩⟩)⟩, ⟨(is1.ext (e19.trans e21)).mods m' ne1, ow1.cap⟩, (Own.is rkMv om).mods m' ne2, Mods.ext q21.ext m' (by simpa using p.z)⟩

theorem Plan_spec (T : List FS) (s : Sl) (h : Host) (hs : HostS) (A : List Asg) (sa : Sl) (n : Int) (H : Heap) (hT : Topo H s T) (hcap : s.n <= s.c) (hm : HostM H h hs) (hA : IsS 5 encA H sa A) (hac : sa.n <= sa.c) (hAl : A.length <= 1001) (hAu : ∀ i, i < A.length -> U64 (A.getD i zA).2) :
  CallsH Tryz.prog n_10 #[.slice s.p s.n s.c, hostV h hs, .slice sa.p sa.n sa.c, .int .i64 n] H (PlanP T h A n H) := by
 refine F_10_ok _ _ _ _ _ _ _ _ _ _ _ ?_
 unfold F_10
 have hTn := hT.len
 refine push_mk (vs := hostL h hs) fun H1 e1 z1 b1 => push_mk (vs := encC noCert) fun H2 e2 z2 b2 => ?_
 have p2 : PE T s h hs A sa H H1 H2 := ⟨hT.ext (e1.trans e2), hm.ext (e1.trans e2), hA.ext (e1.trans e2), b1.ext e2, b2, e1.size, e1.trans e2⟩
 obtain ⟨r0, r1, r2, r3, r4, r5, r6, r7⟩ := Blk.host p2.blk
 refine ⟨_, r0, _, r1, _, r2, _, r3, _, r4, _, r5, _, r6, _, r7, (vp_spec T s h hs n H2 p2.topo hcap p2.m).mono ?_⟩
 rintro v H3 ⟨b, rfl, hb, e3⟩
 have p3 := p2.go e3
 refine ⟨_, rfl, iteB_not (fun c => ?_) (fun c => ?_)⟩
 ·refine cert_wr (c := noCert) (K := fun v H' => PlanP T h A n H (.tuple #[.slice none 0 0, .slice none 0 0, v, .int .i64 1]) H') p3.cert (fun H' m' _ => ?_)
  exact PlanP.no (.inl ⟨(fun hh => by have := hb.2 hh; rw [c] at this; cases this), rfl, rfl, rfl, rfl⟩) (Mods.ext p3.ext m' (by simpa using p3.z))
 have ha := hb.1 c
 have hnT := ha.2.1
 have hv64 := ha.1.1.1
 obtain ⟨m, rfl⟩ : ∃ m : Nat, n = m := ⟨n.toNat, by omega⟩
 have g3 := (Blk.host p3.blk).2.2.2.1
 refine ⟨_, g3, ?_⟩
 rw [hi_of hm]
 refine (Needs_spec T s (hiF h) H3 p3.topo).mono ?_
 intro v H5 h5
 obtain ⟨ns, e0, N, rfl, isN, hNI, e5⟩ := h5.outI
 have p5 := p3.go e5
 refine ⟨ns, e0, rfl, iteB_bne (fun d => ?_) (fun d => ?_)⟩
 ·refine cert_wr (c := noCert) (K := fun v H' => PlanP T h A m H (.tuple #[.slice none 0 0, .slice none 0 0, v, .int .i64 e0]) H') p5.cert (fun H' m' _ => ?_)
  exact PlanP.no (.inr ⟨ha, e0, N, hNI, .inl ⟨d, rfl, rfl, rfl, rfl⟩⟩) (Mods.ext p5.ext m' (by simpa using p5.z))
 subst d
 obtain ⟨hv, ho, rfl⟩ := hNI.all
 have hNl := hNI.len
 have hok := needs_ok hv ho
 refine ⟨fun H' => PE T s h hs A sa H H1 H' /\ ¬ (ChkIs (T.take m) h A /\ ∃ B, extF T (needsAll T (hiF h)) m A = some B), ⟨by omega, by omega, ?_⟩, fun H16 h16 => plan_k2 h16.1 m ha hNI h16.2 hAl⟩
 obtain ⟨r0, r1, r2, r3, r4, r5, r6, r7⟩ := Blk.host p5.blk
 refine ⟨_, r0, _, r1, _, r2, _, r3, _, r4, _, r5, _, r6, _, r7, ?_⟩
 rw [slP0, Int.toNat_natCast, Nat.sub_zero, Nat.sub_zero]
 refine (Check_spec (T.take m) ⟨s.p, m, s.c⟩ h hs A sa H5 (p5.topo.takeS m s.c (by omega)) p5.m p5.isA hac hAu).mono ?_
 rintro v H7 ⟨bc, rfl, hbc, e7⟩
 have p7 := p5.go e7
 refine ⟨_, rfl, iteB_intro (fun q => ?_) (fun q => ⟨p7, fun hh => by have := hbc.2 hh.1; rw [q] at this; cases this⟩)⟩
 have hchk := hbc.1 q
 have od := old_of (n := (m : Int)) ha hNI (by rw [Int.toNat_natCast]; exact hchk)
 rw [Int.toNat_natCast] at od
 refine (newExtension_spec H7 p7.topo (isN.ext e7) hv hok hNl (by omega)).mono ?_
 rintro v H8 ⟨xb, b1, b2, rfl, en, s8⟩
 have p8 := p7.go s8.ext
 have ks0 : KS (needsAll T (hiF h)) A 0 (List.replicate (needsAll T (hiF h)).length 0) (fun _ => false) := ⟨fun j hj => by omega, fun i hi => ⟨fun h => (by cases h), fun ⟨j, hj, _⟩ => by omega⟩, fun i hi j hj => by omega, fun i hi _ => by simp [List.getD, hi]⟩
 refine ⟨_, rfl, fun b H' => Ext H7 H' /\ ((b = true /\ ∃ B P, extF T (needsAll T (hiF h)) m A = some B /\ SubN A (needsAll T (hiF h)) /\ XS (needsAll T (hiF h)) m s ns H7 xb b1 b2 B P H') \/ (b = false /\ extF T (needsAll T (hiF h)) m A = none)), (keep_spec od en H8 _ _ s8 ks0 sa p7.isA hAu).mono ?_, ?_⟩
 ·rintro v H9 ⟨b, rfl, hk⟩
  rcases hk with ⟨rfl, hs, B, P, s9, k9⟩ | ⟨rfl, hs, e9⟩
  ·obtain ⟨rfl, hold⟩ := k9.done od s9.bl hs
   have hext : extF T (needsAll T (hiF h)) m A = fitsF T (needsAll T (hiF h)) m (B0F (needsAll T (hiF h)) A m) (3 * T.length) := by unfold extF; rw [if_pos hs]
   refine ⟨_, rfl, iteB_pos rfl ((fillPorts_spec en od.nw H9 s9 hold).mono ?_)⟩
   rintro v H10 ⟨b, rfl, hp⟩
   rcases hp with ⟨rfl, B', P', hf, s10, p10⟩ | ⟨rfl, hf, e10⟩
   ·refine ⟨_, rfl, iteB_pos rfl ((fillBridges_spec en od.nw H10 hf s10 p10).mono ?_)⟩
    rintro v H11 ⟨b, rfl, hq⟩
    rcases hq with ⟨rfl, B2, P2, hf2, s11⟩ | ⟨rfl, hf2, e11⟩
    ·exact ⟨_, rfl, s11.ext, .inl ⟨rfl, B2, P2, by rw [hext]; exact hf2, hs, s11⟩⟩
    ·exact ⟨_, rfl, e11, .inr ⟨rfl, by rw [hext]; exact hf2⟩⟩
   ·exact ⟨_, rfl, iteB_neg rfl ⟨e10, .inr ⟨rfl, by rw [hext]; exact hf⟩⟩⟩
  ·exact ⟨_, rfl, iteB_neg rfl ⟨e9, .inr ⟨rfl, by unfold extF; rw [if_neg hs]⟩⟩⟩
 ·rintro b H12 ⟨e12, hb12⟩
  unfold F_10_k1
  have p12 := p7.go e12
  rcases hb12 with ⟨rfl, B, P, hext, hs, s12⟩ | ⟨rfl, hext⟩
  ·refine iteB_pos rfl ((assignments_spec en H12 s12).mono ?_)
   rintro v H13 ⟨out, rfl, ow, e13⟩
   have isO := Own.is rkAsg ow
   have hbl := s12.bl
   have hzl := zip_len hbl
   rw [hTn]
   refine ⟨out, rfl, (extensionMoves_spec H13 out _ m T.length isO (by rw [hzl]; omega) (by omega) (by omega)).mono ?_⟩
   rintro v H14 ⟨ms, rfl, om, e14⟩
   have p14 := (p12.go e13).go e14
   refine ⟨ms, rfl, ?_⟩
   refine cert_wr (c := noCert) (K := fun v H' => PlanP T h A m H (.tuple #[.slice out.p out.n out.c, .slice ms.p ms.n ms.c, v, .int .i64 0]) H') p14.cert (fun H' m' _ => ?_)
   have ne1 : ∀ a, out.p = some a -> a.block ∉ [H1.size] := fun a ha2 => by have := ow.new a ha2; have := p12.cert.lt; simp; omega
   have ne2 : ∀ a, ms.p = some a -> a.block ∉ [H1.size] := fun a ha2 => by have := om.new a ha2; have := (p12.go e13).cert.lt; simp; omega
   have hfit : fitsF T (needsAll T (hiF h)) m (B0F (needsAll T (hiF h)) A m) (3 * T.length) = some B := by unfold extF at hext; rw [if_pos hs] at hext; exact hext
   have hmv : extM ((needsAll T (hiF h)).zip B) m T.length = movesF A ((needsAll T (hiF h)).zip B) m T.length := (moves_ext (ext_aff od hs hbl (fitsF_old hfit).2)).symm
   rw [hmv] at om
   exact ⟨out, ms, 0, _, _, noCert, rfl, .inr ⟨ha, 0, _, hNI, .inr (.inl ⟨rfl, by rw [Int.toNat_natCast]; exact hchk, B, by rw [Int.toNat_natCast]; exact hext, rfl, rfl, by rw [Int.toNat_natCast], rfl⟩)⟩, ⟨(isO.ext e14).mods m' ne1, ow.cap⟩, (Own.is rkMv om).mods m' ne2, Mods.ext p14.ext m' (by simpa using p14.z)⟩
  ·exact iteB_neg rfl ⟨p12, fun hh => by obtain ⟨_, B, hB⟩ := hh; rw [hext] at hB; cases hB⟩

theorem rplan_k1 {T : List FS} {s : Sl} {h : Host} {hs : HostS} {A : List Asg} {sa : Sl} {H H1 H16 : Heap} (p : PE T s h hs A sa H H1 H16) (n : Nat) (ha : AccOk T h n) {N : List Need} (hN : NeedsIs T (hiF h) 0 N) (hno : ¬ (ChkIs (T.take n) h A /\ ∃ B, extF T N n A = some B)) (hAl : A.length <= 1001) :
  F_11_k1 (PlanP T h A n H) H s sa n H1 H16 := by
 unfold F_11_k1
 have hTn := p.topo.len
 have hv64 := ha.1.1.1
 have hnT := ha.2.1
 obtain ⟨p0, p1, p2, p3, p4, p5, p6, p7⟩ := Blk.host p.blk
 refine ⟨_, p0, _, p1, _, p2, _, p3, _, p4, _, p5, _, p6, _, p7, (rAssign_spec T s h hs H16 p.topo p.m).mono ?_⟩
 rintro v H17 ⟨o, e1, B1, c1, rfl, hA, is1, ow1, e17⟩
 refine ⟨o, _, _, _, _, _, rfl, local_mk (vs := encC c1) rfl rfl fun H19 e19 z19 b19 => ?_⟩
 have q19 := p.go (e17.trans e19)
 have hBl := hA.len1
 refine iteB_bne (fun d => ⟨_, b19.rd0 rfl, _, b19.rd (i := 1) rfl, _, b19.rd (i := 2) rfl, _, b19.rd (i := 3) rfl, ?_⟩) (fun d => ?_)
 ·refine cert_wr (c := c1) (K := fun v H' => PlanP T h A n H (.tuple #[.slice none 0 0, .slice none 0 0, v, .int .i64 e1]) H') q19.cert (fun H' m' _ => ?_)
  exact PlanP.no (.inr ⟨ha, 0, N, hN, .inr (.inr ⟨rfl, by rw [Int.toNat_natCast]; exact hno, e1, B1, c1, hA, .inl ⟨d, rfl, rfl, rfl, rfl⟩⟩)⟩) (Mods.ext q19.ext m' (by simpa using p.z))
 ·rw [hTn]
  refine (rmoves_spec H19 sa o A B1 n T.length q19.isA (is1.ext e19) hAl (by omega) (by omega) (by omega)).mono ?_
  rintro v H21 ⟨ms, rfl, om, e21⟩
  have q21 := q19.go e21
  refine ⟨ms, rfl, ?_⟩
  refine cert_wr (c := noCert) (K := fun v H' => PlanP T h A n H (.tuple #[.slice o.p o.n o.c, .slice ms.p ms.n ms.c, v, .int .i64 0]) H') q21.cert (fun H' m' _ => ?_)
  subst d
  have ne1 : ∀ a, o.p = some a -> a.block ∉ [H1.size] := fun a ha2 => by have := ow1.new a ha2; have := p.cert.lt; simp; omega
  have ne2 : ∀ a, ms.p = some a -> a.block ∉ [H1.size] := fun a ha2 => by have := om.new a ha2; have := q19.cert.lt; simp; omega
  exact ⟨o, ms, 0, B1, _, noCert, rfl, .inr ⟨ha, 0, N, hN, .inr (.inr ⟨rfl, by rw [Int.toNat_natCast]; exact hno, 0, B1, c1, hA, .inr ⟨rfl, rfl, rfl, by rw [Int.toNat_natCast], rfl⟩⟩)⟩, ⟨(is1.ext (e19.trans e21)).mods m' ne1, ow1.cap⟩, (Own.is rkMv om).mods m' ne2, Mods.ext q21.ext m' (by simpa using p.z)⟩

theorem rPlan_spec (T : List FS) (s : Sl) (h : Host) (hs : HostS) (A : List Asg) (sa : Sl) (n : Int) (H : Heap) (hT : Topo H s T) (hcap : s.n <= s.c) (hm : HostM H h hs) (hA : IsS 5 encA H sa A) (hac : sa.n <= sa.c) (hAl : A.length <= 1001) (hAu : ∀ i, i < A.length -> U64 (A.getD i zA).2) :
  CallsH Tryz.prog n_11 #[.slice s.p s.n s.c, hostV h hs, .slice sa.p sa.n sa.c, .int .i64 n] H (PlanP T h A n H) := by
 refine F_11_ok _ _ _ _ _ _ _ _ _ _ _ ?_
 unfold F_11
 have hTn := hT.len
 refine push_mk (vs := hostL h hs) fun H1 e1 z1 b1 => push_mk (vs := encC noCert) fun H2 e2 z2 b2 => ?_
 have p2 : PE T s h hs A sa H H1 H2 := ⟨hT.ext (e1.trans e2), hm.ext (e1.trans e2), hA.ext (e1.trans e2), b1.ext e2, b2, e1.size, e1.trans e2⟩
 obtain ⟨r0, r1, r2, r3, r4, r5, r6, r7⟩ := Blk.host p2.blk
 refine ⟨_, r0, _, r1, _, r2, _, r3, _, r4, _, r5, _, r6, _, r7, (racc_spec T s h hs n H2 p2.topo p2.m).mono ?_⟩
 rintro v H3 ⟨b, rfl, hb, e3⟩
 have p3 := p2.go e3
 refine ⟨_, rfl, iteB_not (fun c => ?_) (fun c => ?_)⟩
 ·refine cert_wr (c := noCert) (K := fun v H' => PlanP T h A n H (.tuple #[.slice none 0 0, .slice none 0 0, v, .int .i64 1]) H') p3.cert (fun H' m' _ => ?_)
  exact PlanP.no (.inl ⟨(fun hh => by have := hb.2 hh; rw [c] at this; cases this), rfl, rfl, rfl, rfl⟩) (Mods.ext p3.ext m' (by simpa using p3.z))
 have ha := hb.1 c
 have hnT := ha.2.1
 have hv64 := ha.1.1.1
 obtain ⟨m, rfl⟩ : ∃ m : Nat, n = m := ⟨n.toNat, by omega⟩
 have g3 := (Blk.host p3.blk).2.2.2.1
 refine ⟨_, g3, ?_⟩
 rw [hi_of hm]
 refine (rNeeds_spec T s (hiF h) H3 p3.topo).mono ?_
 intro v H5 h5
 obtain ⟨ns, e0, N, rfl, isN, hNI, e5⟩ := h5.outI
 have p5 := p3.go e5
 refine ⟨ns, e0, rfl, iteB_bne (fun d => ?_) (fun d => ?_)⟩
 ·refine cert_wr (c := noCert) (K := fun v H' => PlanP T h A m H (.tuple #[.slice none 0 0, .slice none 0 0, v, .int .i64 e0]) H') p5.cert (fun H' m' _ => ?_)
  exact PlanP.no (.inr ⟨ha, e0, N, hNI, .inl ⟨d, rfl, rfl, rfl, rfl⟩⟩) (Mods.ext p5.ext m' (by simpa using p5.z))
 subst d
 obtain ⟨hv, ho, rfl⟩ := hNI.all
 have hNl := hNI.len
 refine ⟨fun H' => PE T s h hs A sa H H1 H' /\ ¬ (ChkIs (T.take m) h A /\ ∃ B, extF T (needsAll T (hiF h)) m A = some B), ⟨by omega, by omega, ?_⟩, fun H16 h16 => rplan_k1 h16.1 m ha hNI h16.2 hAl⟩
 obtain ⟨r0, r1, r2, r3, r4, r5, r6, r7⟩ := Blk.host p5.blk
 refine ⟨_, r0, _, r1, _, r2, _, r3, _, r4, _, r5, _, r6, _, r7, ?_⟩
 rw [slP0, Int.toNat_natCast, Nat.sub_zero, Nat.sub_zero]
 refine (rCheck_spec (T.take m) ⟨s.p, m, s.c⟩ h hs A sa H5 (p5.topo.takeS m s.c (by omega)) p5.m p5.isA hac hAu).mono ?_
 rintro v H7 ⟨bc, rfl, hbc, e7⟩
 have p7 := p5.go e7
 refine ⟨_, rfl, iteB_intro (fun q => ?_) (fun q => ⟨p7, fun hh => by have := hbc.2 hh.1; rw [q] at this; cases this⟩)⟩
 have hchk := hbc.1 q
 have od := old_of (n := (m : Int)) ha hNI (by rw [Int.toNat_natCast]; exact hchk)
 rw [Int.toNat_natCast] at od
 refine (rextend_spec od s sa ns H7 p7.topo p7.isA (isN.ext e7) hNl hAu).mono ?_
 rintro v H8 ⟨out, b, rfl, hx, e8⟩
 have p8 := p7.go e8
 refine ⟨out, _, rfl, ?_⟩
 rcases hx with ⟨rfl, B, hB, ow⟩ | ⟨rfl, hB⟩
 ·have hBl : B.length = (needsAll T (hiF h)).length := by
   unfold extF at hB
   split at hB
   ·rw [(fitsF_old hB).1, B0F_len]
   ·cases hB
  have hzl := zip_len hBl
  rw [hTn]
  refine iteB_pos rfl ((rmoves_spec H8 sa out A _ m T.length p8.isA (Own.is rkAsg ow) hAl (by rw [hzl]; omega) (by omega) (by omega)).mono ?_)
  rintro v H9 ⟨ms, rfl, om, e9⟩
  have p9 := p8.go e9
  refine ⟨ms, rfl, ?_⟩
  refine cert_wr (c := noCert) (K := fun v H' => PlanP T h A m H (.tuple #[.slice out.p out.n out.c, .slice ms.p ms.n ms.c, v, .int .i64 0]) H') p9.cert (fun H' m' _ => ?_)
  have ne1 : ∀ a, out.p = some a -> a.block ∉ [H1.size] := fun a ha2 => by have := ow.new a ha2; have := p7.cert.lt; simp; omega
  have ne2 : ∀ a, ms.p = some a -> a.block ∉ [H1.size] := fun a ha2 => by have := om.new a ha2; have := p8.cert.lt; simp; omega
  exact ⟨out, ms, 0, _, _, noCert, rfl, .inr ⟨ha, 0, _, hNI, .inr (.inl ⟨rfl, by rw [Int.toNat_natCast]; exact hchk, B, by rw [Int.toNat_natCast]; exact hB, rfl, rfl, by rw [Int.toNat_natCast], rfl⟩)⟩, ⟨((Own.is rkAsg ow).ext e9).mods m' ne1, ow.cap⟩, (Own.is rkMv om).mods m' ne2, Mods.ext p9.ext m' (by simpa using p9.z)⟩
 ·exact iteB_neg rfl ⟨p8, fun hh => by obtain ⟨_, B, hB2⟩ := hh; rw [hB] at hB2; cases hB2⟩

end Go.Proofs.YtnhhncjflnlfaaaGreat
end

section
/-
 Plans: a system with a card plugged into it.
-/
namespace Go.Proofs.YtnhhncjflnlfaaaGreat
open Go.Eng
set_option linter.unusedVariables false

theorem AssignIs.u64 {T : List FS} {h : Host} {e : Int} {A : List Asg} {c : Cert} (ha : AssignIs T h e A c) : A.length <= 1000 /\ ∀ i, i < A.length -> U64 (A.getD i zA).2 := by
 rcases ha with ⟨_, _, rfl, _⟩ | ⟨_, e0, N, hN, ⟨_, _, rfl, _⟩ | ⟨_, _, _, rfl, _⟩ | ⟨_, _, _, rfl, _⟩⟩
 ·exact ⟨by simp, fun i hi => by simp at hi⟩
 ·exact ⟨by simp, fun i hi => by simp at hi⟩
 ·exact ⟨by simp, fun i hi => by simp at hi⟩
 ·have h1 := hN.len
  have h0 := rootR_ok T N h 3
  have h2 := brR_ok T N (rootR T N h 3).2.2 h0.1 (3 * T.length)
  have hl : (brR T N (rootR T N h 3).2.2 (3 * T.length)).length = N.length := by rw [h2.2, h0.2]
  refine ⟨by rw [zip_len hl]; exact h1, fun i hi => ?_⟩
  rw [zip_len hl] at hi
  have e : (N.zip (brR T N (rootR T N h 3).2.2 (3 * T.length))).getD i zA = (N.getD i (0, 0, 0, 0), (brR T N (rootR T N h 3).2.2 (3 * T.length)).getD i 0) := by
   have := zip_getD hl hi
   unfold List.getD
   rw [this]
   rfl
  rw [e]
  have := h2.1 _ (getD_mem' (k := i) 0 (show i < (brR T N (rootR T N h 3).2.2 (3 * T.length)).length by omega))
  unfold U64
  dsimp only
  omega

theorem TyB.ext {H H' : Heap} {p : Option Addr} {e : TypeId} (h : TyB H p e) (he : Ext H H') : TyB H' p e := h.mods (S := []) he.mods (fun _ _ => by simp)
theorem HostTy.ext {H H' : Heap} {gs : HostS} (h : HostTy H gs) (e : Ext H H') : HostTy H' gs :=
 ⟨h.io.ext e, h.mem.ext e, h.high.ext e, h.fio.ext e, h.fix.ext e, h.links.ext e, h.routes.ext e⟩
theorem ty_off {H : Heap} {b : Nat} {e : TypeId} {vs : List Value} (hb : Blk H b e vs) {q : Option Addr} {e' : TypeId} (he : e' ≠ e) (hq : TyB H q e') : ∀ a, q = some a -> a.block ∉ [b] := fun a ha => by
 have t1 : TyB H (some ⟨b, 0, none⟩) e := fun a ha => by cases ha; exact ⟨_, _, hb⟩
 have := ty_ne hq t1 he a ha
 simpa [blkOf] using this
theorem HostTy.mods {H H' : Heap} {gs : HostS} {b : Nat} {e : TypeId} {vs : List Value} (h : HostTy H gs) (hb : Blk H b e vs) (m : Mods [b] H H') (h1 : t_95 ≠ e) (h2 : t_114 ≠ e) (h3 : t_116 ≠ e) : HostTy H' gs :=
 ⟨h.io.mods m (ty_off hb h1 h.io), h.mem.mods m (ty_off hb h1 h.mem), h.high.mods m (ty_off hb h1 h.high), h.fio.mods m (ty_off hb h1 h.fio), h.fix.mods m (ty_off hb h1 h.fix), h.links.mods m (ty_off hb h2 h.links), h.routes.mods m (ty_off hb h3 h.routes)⟩
theorem HostM.modsE {H H' : Heap} {g : Host} {gs : HostS} {b : Nat} {e : TypeId} {vs : List Value} (m : HostM H g gs) (h : HostTy H gs) (hb : Blk H b e vs) (md : Mods [b] H H') (h1 : t_95 ≠ e) (h2 : t_114 ≠ e) (h3 : t_116 ≠ e) : HostM H' g gs :=
 ⟨m.io.mods md (ty_off hb h1 h.io), m.mem.mods md (ty_off hb h1 h.mem), m.high.mods md (ty_off hb h1 h.high), m.fio.mods md (ty_off hb h1 h.fio), m.fix.mods md (ty_off hb h1 h.fix), m.links.mods md (ty_off hb h2 h.links), m.routes.mods md (ty_off hb h3 h.routes), m.uio, m.umem, m.uhigh, m.ufio, m.ufix⟩
theorem topo_mods {H H' : Heap} {b : Nat} {e : TypeId} {t : Sl} {T : List FS} {vs : List Value} (hb : Blk H b e vs) (m : Mods [b] H H') (hT : Topo H t T) (ty : TyB H t.p t_58) (gt : GT H T) (h1 : t_58 ≠ e) (h2 : t_101 ≠ e) : Topo H' t T :=
 ⟨hT.1.mods m (ty_off hb h1 ty), fun x hx => (gt.mods m (fun p hp => ty_off hb h2 hp) x hx).1⟩
theorem own_lo {lo lo' : Nat} {e : TypeId} {sz : Nat} {H : Heap} {s : Sl} {xs : List Value} (h : Own lo e sz H s xs) (hl : lo' <= lo) : Own lo' e sz H s xs := by
 obtain ⟨a, b⟩ := h
 refine ⟨a, ?_⟩
 rcases b with b | ⟨g, cap, cur, u, v, w⟩
 ·exact .inl b
 ·exact .inr ⟨g, cap, cur, u, Nat.le_trans hl v, w⟩

abbrev zH : Host := ⟨0, [], [], [], [], [], [], []⟩
abbrev zHs : HostS := ⟨⟨none, 0, 0⟩, ⟨none, 0, 0⟩, ⟨none, 0, 0⟩, ⟨none, 0, 0⟩, ⟨none, 0, 0⟩, ⟨none, 0, 0⟩, ⟨none, 0, 0⟩⟩

structure PlG (out sa : Sl) (T' : List FS) (g : Host) (gs : HostS) (A : List Asg) (n : Nat) (ok : Bool) (H0 H' : Heap) : Prop where
 topo : Topo H' out T'
 cap : out.n <= out.c
 ty : TyB H' out.p t_58
 gt : GT H' T'
 m : HostM H' g gs
 hty : HostTy H' gs
 own : Own H0.size t_32 5 H' sa (A.flatMap encA)
 len : A.length <= 1000
 u64 : ∀ i, i < A.length -> U64 (A.getD i zA).2
 nl : n <= 16
 yes : ok = true -> ∃ (T C C1 : List FS) (p : Int) (ca : Cert), AssignIs T g 0 A ca /\ AddIs T C p 0 (fns T') /\ T' = T ++ C1 /\ n = T.length
 no : ok = false -> T' = []
 ext : Ext H0 H'
def PlugP (H : Heap) (v : Value) (H' : Heap) : Prop :=
 ∃ (out sa : Sl) (g : Host) (gs : HostS) (A : List Asg) (n : Nat) (ok : Bool) (T' : List FS), v = .tuple #[.slice out.p out.n out.c, hostV g gs, .slice sa.p sa.n sa.c, .int .i64 n, .bool ok] /\ PlG out sa T' g gs A n ok H H'

structure PlE (H0 : Heap) (rb gb : Nat) (t c : Sl) (T C0 : List FS) (g : Host) (gs : HostS) (H : Heap) : Prop where
 topo : Topo H t T
 hv : ValidT T
 l16 : T.length <= 16
 ty : TyB H t.p t_58
 gt : GT H T
 hC : Topo H c C0
 m : HostM H g gs
 hty : HostTy H gs
 blk : Blk H gb t_27 (hostL g gs)
 res : Blk H rb t_27 (hostL zH zHs)
 z : H0.size <= rb
 z2 : H0.size <= gb
 ext : Ext H0 H
theorem PlE.go {H0 : Heap} {rb gb : Nat} {t c : Sl} {T C0 : List FS} {g : Host} {gs : HostS} {H H' : Heap} (p : PlE H0 rb gb t c T C0 g gs H) (e : Ext H H') : PlE H0 rb gb t c T C0 g gs H' :=
 ⟨p.topo.ext e, p.hv, p.l16, p.ty.ext e, p.gt.ext e, p.hC.ext e, p.m.ext e, p.hty.ext e, p.blk.ext e, p.res.ext e, p.z, p.z2, p.ext.trans e⟩

theorem plug_tail {H0 : Heap} {R : Value -> Heap -> Prop} {rb gb : Nat} {t c : Sl} {T C0 : List FS} {g : Host} {gs : HostS} {H6 : Heap} (atv : Int) (p6 : PlE H0 rb gb t c T C0 g gs H6) (hcl : C0.length <= 9223372036854775807) (hcb : ∀ x ∈ C0, x.1.bars.length <= 9223372036854775807) (hR : ∀ v H', PlugP H0 v H' -> R v H') :
 ∃ x16 : Int, rd H6 (⟨gb, 0, none⟩ : Addr) = some (.int .i64 x16) /\ ∃ x17 : Sl, rd H6 ((⟨gb, 0, none⟩ : Addr).add 1) = some (.slice x17.p x17.n x17.c) /\ ∃ x18 : Sl, rd H6 ((⟨gb, 0, none⟩ : Addr).add 2) = some (.slice x18.p x18.n x18.c) /\ ∃ x19 : Sl, rd H6 ((⟨gb, 0, none⟩ : Addr).add 3) = some (.slice x19.p x19.n x19.c) /\ ∃ x20 : Sl, rd H6 ((⟨gb, 0, none⟩ : Addr).add 4) = some (.slice x20.p x20.n x20.c) /\ ∃ x21 : Sl, rd H6 ((⟨gb, 0, none⟩ : Addr).add 5) = some (.slice x21.p x21.n x21.c) /\ ∃ x22 : Sl, rd H6 ((⟨gb, 0, none⟩ : Addr).add 6) = some (.slice x22.p x22.n x22.c) /\ ∃ x23 : Sl, rd H6 ((⟨gb, 0, none⟩ : Addr).add 7) = some (.slice x23.p x23.n x23.c) /\ (
 CallsH Tryz.prog n_22 #[.slice t.p t.n t.c, .agg #[.int .i64 x16, .slice x17.p x17.n x17.c, .slice x18.p x18.n x18.c, .slice x19.p x19.n x19.c, .slice x20.p x20.n x20.c, .slice x21.p x21.n x21.c, .slice x22.p x22.n x22.c, .slice x23.p x23.n x23.c]] H6 (fun v2 H7 =>
 ∃ x24 : Sl, ∃ x25 : Int, ∃ x26 : Int, ∃ x27 : Int, ∃ x28 : Int, ∃ x29 : Int, v2 = .tuple #[.slice x24.p x24.n x24.c, .agg #[.int .i64 x25, .int .i64 x26, .int .u64 x27, .int .u64 x28], .int .i64 x29] /\ (
 letH (H7.push (.cells #[.int .i64 (0 : Int), .int .i64 (0 : Int), .int .u64 (0 : Int), .int .u64 (0 : Int)] t_39 (0, 0))) (fun H8 : Heap =>
 okRow H8 (⟨H7.size, 0, none⟩ : Addr) 4 /\ (
 letH (wrs H8 (⟨H7.size, 0, none⟩ : Addr) [.int .i64 x25, .int .i64 x26, .int .u64 x27, .int .u64 x28]) (fun H9 : Heap =>
 iteB (x29 != (0 : Int)) (
 ∃ x30 : Int, rd H9 (⟨gb, 0, none⟩ : Addr) = some (.int .i64 x30) /\ ∃ x31 : Sl, rd H9 ((⟨gb, 0, none⟩ : Addr).add 1) = some (.slice x31.p x31.n x31.c) /\ ∃ x32 : Sl, rd H9 ((⟨gb, 0, none⟩ : Addr).add 2) = some (.slice x32.p x32.n x32.c) /\ ∃ x33 : Sl, rd H9 ((⟨gb, 0, none⟩ : Addr).add 3) = some (.slice x33.p x33.n x33.c) /\ ∃ x34 : Sl, rd H9 ((⟨gb, 0, none⟩ : Addr).add 4) = some (.slice x34.p x34.n x34.c) /\ ∃ x35 : Sl, rd H9 ((⟨gb, 0, none⟩ : Addr).add 5) = some (.slice x35.p x35.n x35.c) /\ ∃ x36 : Sl, rd H9 ((⟨gb, 0, none⟩ : Addr).add 6) = some (.slice x36.p x36.n x36.c) /\ ∃ x37 : Sl, rd H9 ((⟨gb, 0, none⟩ : Addr).add 7) = some (.slice x37.p x37.n x37.c) /\ (
 okRow H9 (⟨rb, 0, none⟩ : Addr) 8 /\ (
 letH (wrs H9 (⟨rb, 0, none⟩ : Addr) [.int .i64 x30, .slice x31.p x31.n x31.c, .slice x32.p x32.n x32.c, .slice x33.p x33.n x33.c, .slice x34.p x34.n x34.c, .slice x35.p x35.n x35.c, .slice x36.p x36.n x36.c, .slice x37.p x37.n x37.c]) (fun H10 : Heap =>
 ∃ r : Int, rd H10 (⟨rb, 0, none⟩ : Addr) = some (.int .i64 r) /\ ∃ r1 : Sl, rd H10 ((⟨rb, 0, none⟩ : Addr).add 1) = some (.slice r1.p r1.n r1.c) /\ ∃ r2 : Sl, rd H10 ((⟨rb, 0, none⟩ : Addr).add 2) = some (.slice r2.p r2.n r2.c) /\ ∃ r3 : Sl, rd H10 ((⟨rb, 0, none⟩ : Addr).add 3) = some (.slice r3.p r3.n r3.c) /\ ∃ r4 : Sl, rd H10 ((⟨rb, 0, none⟩ : Addr).add 4) = some (.slice r4.p r4.n r4.c) /\ ∃ r5 : Sl, rd H10 ((⟨rb, 0, none⟩ : Addr).add 5) = some (.slice r5.p r5.n r5.c) /\ ∃ r6 : Sl, rd H10 ((⟨rb, 0, none⟩ : Addr).add 6) = some (.slice r6.p r6.n r6.c) /\ ∃ r7 : Sl, rd H10 ((⟨rb, 0, none⟩ : Addr).add 7) = some (.slice r7.p r7.n r7.c) /\ (
 R (.tuple #[.slice none 0 0, .agg #[.int .i64 r, .slice r1.p r1.n r1.c, .slice r2.p r2.n r2.c, .slice r3.p r3.n r3.c, .slice r4.p r4.n r4.c, .slice r5.p r5.n r5.c, .slice r6.p r6.n r6.c, .slice r7.p r7.n r7.c], .slice none 0 0, .int .i64 (0 : Int), .bool false]) H10))))) (
 CallsH Tryz.prog n_24 #[.slice t.p t.n t.c, .int .i64 atv] H9 (fun v3 H11 =>
 ∃ x38 : Int, v3 = .int .i64 x38 /\ (
 CallsH Tryz.prog n_25 #[.slice c.p c.n c.c] H11 (fun v4 H12 =>
 ∃ x39 : Sl, v4 = .slice x39.p x39.n x39.c /\ (
 CallsH Tryz.prog n_23 #[.slice t.p t.n t.c, .int .i64 x38, .slice x39.p x39.n x39.c] H12 (fun v5 H13 =>
 ∃ x40 : Sl, ∃ x41 : Int, v5 = .tuple #[.slice x40.p x40.n x40.c, .int .i64 x41] /\ (
 ∃ x42 : Int, rd H13 (⟨gb, 0, none⟩ : Addr) = some (.int .i64 x42) /\ ∃ x43 : Sl, rd H13 ((⟨gb, 0, none⟩ : Addr).add 1) = some (.slice x43.p x43.n x43.c) /\ ∃ x44 : Sl, rd H13 ((⟨gb, 0, none⟩ : Addr).add 2) = some (.slice x44.p x44.n x44.c) /\ ∃ x45 : Sl, rd H13 ((⟨gb, 0, none⟩ : Addr).add 3) = some (.slice x45.p x45.n x45.c) /\ ∃ x46 : Sl, rd H13 ((⟨gb, 0, none⟩ : Addr).add 4) = some (.slice x46.p x46.n x46.c) /\ ∃ x47 : Sl, rd H13 ((⟨gb, 0, none⟩ : Addr).add 5) = some (.slice x47.p x47.n x47.c) /\ ∃ x48 : Sl, rd H13 ((⟨gb, 0, none⟩ : Addr).add 6) = some (.slice x48.p x48.n x48.c) /\ ∃ x49 : Sl, rd H13 ((⟨gb, 0, none⟩ : Addr).add 7) = some (.slice x49.p x49.n x49.c) /\ (
 okRow H13 (⟨rb, 0, none⟩ : Addr) 8 /\ (
 letH (wrs H13 (⟨rb, 0, none⟩ : Addr) [.int .i64 x42, .slice x43.p x43.n x43.c, .slice x44.p x44.n x44.c, .slice x45.p x45.n x45.c, .slice x46.p x46.n x46.c, .slice x47.p x47.n x47.c, .slice x48.p x48.n x48.c, .slice x49.p x49.n x49.c]) (fun H14 : Heap =>
 ∃ r8 : Int, rd H14 (⟨rb, 0, none⟩ : Addr) = some (.int .i64 r8) /\ ∃ r9 : Sl, rd H14 ((⟨rb, 0, none⟩ : Addr).add 1) = some (.slice r9.p r9.n r9.c) /\ ∃ r10 : Sl, rd H14 ((⟨rb, 0, none⟩ : Addr).add 2) = some (.slice r10.p r10.n r10.c) /\ ∃ r11 : Sl, rd H14 ((⟨rb, 0, none⟩ : Addr).add 3) = some (.slice r11.p r11.n r11.c) /\ ∃ r12 : Sl, rd H14 ((⟨rb, 0, none⟩ : Addr).add 4) = some (.slice r12.p r12.n r12.c) /\ ∃ r13 : Sl, rd H14 ((⟨rb, 0, none⟩ : Addr).add 5) = some (.slice r13.p r13.n r13.c) /\ ∃ r14 : Sl, rd H14 ((⟨rb, 0, none⟩ : Addr).add 6) = some (.slice r14.p r14.n r14.c) /\ ∃ r15 : Sl, rd H14 ((⟨rb, 0, none⟩ : Addr).add 7) = some (.slice r15.p r15.n r15.c) /\ (
 R (.tuple #[.slice x40.p x40.n x40.c, .agg #[.int .i64 r8, .slice r9.p r9.n r9.c, .slice r10.p r10.n r10.c, .slice r11.p r11.n r11.c, .slice r12.p r12.n r12.c, .slice r13.p r13.n r13.c, .slice r14.p r14.n r14.c, .slice r15.p r15.n r15.c], .slice x24.p x24.n x24.c, .int .i64 (t.n : Int), .bool (x41 == (0 : Int))]) H14))))))))))))))))) := by
 obtain ⟨q0, q1, q2, q3, q4, q5, q6, q7⟩ := Blk.host p6.blk
 have htn := p6.topo.len
 have h16 := p6.l16
 refine ⟨_, q0, _, q1, _, q2, _, q3, _, q4, _, q5, _, q6, _, q7, (rAssign_spec T t g gs H6 p6.topo p6.m).mono ?_⟩
 rintro v H7 ⟨sa, ea, A, ca, rfl, hA, is7, own7, e7⟩
 refine ⟨sa, _, _, _, _, _, rfl, local_mk (vs := encC ca) rfl rfl fun H9 e9 z9 b9 => ?_⟩
 have p9 := p6.go (e7.trans e9)
 have hAl := hA.u64
 refine iteB_bne (fun d => ?_) (fun d => ?_)
 ·obtain ⟨q0, q1, q2, q3, q4, q5, q6, q7⟩ := Blk.host p9.blk
  refine ⟨_, q0, _, q1, _, q2, _, q3, _, q4, _, q5, _, q6, _, q7, p9.res.ok0 (Nat.le_refl 8), letH_mk ?_⟩
  intro H10 h10
  have b10 : Blk H10 rb t_27 (hostL g gs) := by rw [h10]; exact p9.res.wr
  have m10 : Mods [rb] H9 H10 := by rw [h10]; exact Mods.wrs (by simp)
  clear h10
  obtain ⟨q0, q1, q2, q3, q4, q5, q6, q7⟩ := Blk.host b10
  refine ⟨_, q0, _, q1, _, q2, _, q3, _, q4, _, q5, _, q6, _, q7, hR _ _ ⟨⟨none, 0, 0⟩, ⟨none, 0, 0⟩, g, gs, [], 0, false, [], rfl, ⟨Topo.nil _, Nat.le_refl _, (fun a h => by cases h), (fun x hx => by cases hx), p9.m.modsT p9.hty p9.res m10, p9.hty.mods p9.res m10 (by decide) (by decide) (by decide), Own.nil _ _ _ _, by simp, (fun i hi => by simp at hi), by omega, (fun h => by cases h), fun _ => rfl, Mods.ext p9.ext m10 (by simpa using p9.z)⟩⟩⟩
 subst d
 refine (lport_spec T t atv H9 p9.topo (by omega)).mono ?_
 rintro v H11 ⟨p, rfl, hp, e11⟩
 have p11 := p9.go e11
 refine ⟨p, rfl, F_25_ok _ ?_⟩
 unfold F_25
 refine (gTopo_spec H11 c C0 5 (by omega) p11.hC hcl hcb).mono ?_
 intro v H12 h12
 obtain ⟨k, K, rfl, hK, hKv, hK5, e12, hKb⟩ := gtopo_len h12 (by omega)
 have p12 := p11.go e12
 refine ⟨k, rfl, k, rfl, (rAddC_spec T K t k p H12 p12.topo hK (by omega) (fun x hx => by have := hKb x hx; omega)).mono ?_⟩
 rintro v H13 ⟨out, e, L, T', rfl, hadd, hL, hT', e13, hcap, hpre, htyp⟩
 have p13 := p12.go e13
 obtain ⟨ty13, gt13⟩ := htyp p12.gt
 obtain ⟨q0, q1, q2, q3, q4, q5, q6, q7⟩ := Blk.host p13.blk
 refine ⟨out, e, rfl, _, q0, _, q1, _, q2, _, q3, _, q4, _, q5, _, q6, _, q7, p13.res.ok0 (Nat.le_refl 8), letH_mk ?_⟩
 intro H14 h14
 have b14 : Blk H14 rb t_27 (hostL g gs) := by rw [h14]; exact p13.res.wr
 have m14 : Mods [rb] H13 H14 := by rw [h14]; exact Mods.wrs (by simp)
 clear h14
 obtain ⟨q0, q1, q2, q3, q4, q5, q6, q7⟩ := Blk.host b14
 have own13 : Own H0.size t_32 5 H13 sa (A.flatMap encA) := own_lo (own7.ext (((e9.trans e11).trans e12).trans e13)) p6.ext.size
 have own14 := own13.mods m14 (ty_off p13.res (by decide) (own_ty own13))
 have ho : ∀ {q : Option Addr} {e' : TypeId}, e' ≠ t_27 -> TyB H13 q e' -> ∀ a, q = some a -> a.block ∉ [rb] := fun he hq => ty_off p13.res he hq
 rw [show (t.n : Int) = ((T.length : Nat) : Int) by rw [htn]]
 refine ⟨_, q0, _, q1, _, q2, _, q3, _, q4, _, q5, _, q6, _, q7, hR _ _ ⟨out, sa, g, gs, A, T.length, e == 0, T', rfl, ⟨topo_mods p13.res m14 hT' ty13 gt13 (by decide) (by decide), hcap, ty13.mods m14 (ho (by decide) ty13), gt13.mods m14 (fun q hq => ho (by decide) hq), p13.m.modsT p13.hty p13.res m14, p13.hty.mods p13.res m14 (by decide) (by decide) (by decide), own14, hAl.1, hAl.2, h16, ?_, ?_, Mods.ext p13.ext m14 (by simpa using p13.z)⟩⟩⟩
 ·intro h
  have he : e = 0 := by simpa using h
  subst he
  obtain ⟨C1, h1⟩ := hpre rfl
  exact ⟨T, K, C1, p, ca, hA, by rw [hL]; exact hadd, h1, rfl⟩
 ·intro h
  have he : e ≠ 0 := by simpa using h
  have : L = [] := by
   rcases hadd with ⟨_, _, h⟩ | ⟨_, _, _, h⟩ | ⟨_, _, _, _, h⟩ | ⟨_, _, _, _, _, h⟩ | ⟨_, _, _, _, h, _⟩
   ·exact h
   ·exact h
   ·exact h
   ·exact h
   ·exact absurd h he
  rw [this] at hL
  exact List.map_eq_nil_iff.1 hL

theorem plugged_spec (l c : Sl) (L C0 : List FS) (h : Host) (hs : HostS) (atv : Int) (H : Heap) (hL : Topo H l L) (hl : L.length <= 9223372036854775807) (hb : ∀ x ∈ L, x.1.bars.length <= 9223372036854775807) (hC : Topo H c C0) (hcl : C0.length <= 9223372036854775807) (hcb : ∀ x ∈ C0, x.1.bars.length <= 9223372036854775807) (hm : HostM H h hs) :
  CallsH Tryz.prog n_8 #[.slice l.p l.n l.c, .slice c.p c.n c.c, hostV h hs, .int .i64 atv] H (PlugP H) := by
 refine F_8_ok _ _ _ _ _ _ _ _ _ _ _ ?_
 unfold F_8
 refine push_mk (vs := hostL h hs) fun H1 e1 z1 b1 => push_mk (vs := hostL zH zHs) fun H2 e2 z2 b2 => ?_
 have x2 := e1.trans e2
 obtain ⟨p0, p1, p2, p3, p4, p5, p6, p7⟩ := Blk.host (b1.ext e2)
 refine ⟨_, p0, _, p1, _, p2, _, p3, _, p4, _, p5, _, p6, _, p7, ⟨?_, ?_⟩⟩
 ·refine (gTopoT_spec H2 l L 16 (by omega) (hL.ext x2) hl hb).mono ?_
  rintro v H3 ⟨t, T, rfl, hT, hv, hT16, e3, ty3, gt3⟩
  refine ⟨t, rfl, e3.keeps, ⟨?_, ?_⟩⟩
  ·refine (gHostV_spec h hs H3 (hm.ext (x2.trans e3))).mono ?_
   rintro v H4 ⟨g, gs, rfl, mg, tyg, _, _, _, e4⟩
   refine ⟨_, _, _, _, _, _, _, _, rfl, push_mk (vs := hostL zH zHs) fun H5 e5 z5 b5 => ⟨e5.keeps, b5.ok0 (Nat.le_refl 8), letH_mk ?_⟩⟩
   intro H6 h6
   have b6 : Blk H6 H4.size t_27 (hostL g gs) := by rw [h6]; exact b5.wr
   have m6 : Mods [H4.size] H5 H6 := by rw [h6]; exact Mods.wrs (by simp)
   clear h6
   have e46 : Ext H4 H6 := Mods.ext e5 m6 (by simp)
   have x6 := (e3.trans e4).trans e46
   have s1 := e1.size
   exact plug_tail atv (PlE.mk (H0 := H) (hT.ext (e4.trans e46)) hv (by omega) (ty3.ext (e4.trans e46)) (gt3.ext (e4.trans e46)) (hC.ext (x2.trans x6)) (mg.ext e46) (tyg.ext e46) b6 (b2.ext x6) s1 ((x2.trans (e3.trans e4)).size) (x2.trans x6)) hcl hcb (fun _ _ h => h)
  ·refine push_mk (vs := hostL zH zHs) fun H15 e15 z15 b15 => ⟨e15.keeps, (gHostV_spec h hs H15 (hm.ext ((x2.trans e3).trans e15))).mono ?_⟩
   rintro v H16 ⟨g, gs, rfl, mg, tyg, _, _, _, e16⟩
   refine ⟨_, _, _, _, _, _, _, _, rfl, (b15.ext e16).ok0 (Nat.le_refl 8), letH_mk ?_⟩
   intro H17 h17
   have b17 : Blk H17 H3.size t_27 (hostL g gs) := by rw [h17]; exact (b15.ext e16).wr
   have m17 : Mods [H3.size] H16 H17 := by rw [h17]; exact Mods.wrs (by simp)
   clear h17
   have e317 : Ext H3 H17 := Mods.ext (e15.trans e16) m17 (by simp)
   have x17 := x2.trans (e3.trans e317)
   have s1 := e1.size
   exact plug_tail atv (PlE.mk (H0 := H) (hT.ext e317) hv (by omega) (ty3.ext e317) (gt3.ext e317) (hC.ext x17) (mg.modsT tyg (b15.ext e16) m17) (tyg.mods (b15.ext e16) m17 (by decide) (by decide) (by decide)) b17 (b2.ext (e3.trans e317)) s1 ((x2.trans e3).size) x17) hcl hcb (fun _ _ h => h)
 ·refine push_mk (vs := hostL zH zHs) fun H26 e26 z26 b26 => ⟨e26.keeps, (gTopoT_spec H26 l L 16 (by omega) (hL.ext (x2.trans e26)) hl hb).mono ?_⟩
  rintro v H27 ⟨t, T, rfl, hT, hv, hT16, e27, ty27, gt27⟩
  refine ⟨t, rfl, e27.keeps, (gHostV_spec h hs H27 (hm.ext ((x2.trans e26).trans e27))).mono ?_⟩
  rintro v H28 ⟨g, gs, rfl, mg, tyg, _, _, _, e28⟩
  have b28 := b26.ext (e27.trans e28)
  refine ⟨_, _, _, _, _, _, _, _, rfl, b28.ok0 (Nat.le_refl 8), letH_mk ?_⟩
  intro H29 h29
  have b29 : Blk H29 H2.size t_27 (hostL g gs) := by rw [h29]; exact b28.wr
  have m29 : Mods [H2.size] H28 H29 := by rw [h29]; exact Mods.wrs (by simp)
  clear h29
  have e229 : Ext H2 H29 := Mods.ext (e26.trans (e27.trans e28)) m29 (by simp)
  have ty28 := ty27.ext e28
  have gt28 := gt27.ext e28
  have s1 := e1.size
  exact plug_tail atv (PlE.mk (H0 := H) (topo_mods b28 m29 (hT.ext e28) ty28 gt28 (by decide) (by decide)) hv (by omega) (ty28.mods m29 (ty_off b28 (by decide) ty28)) (gt28.mods m29 (fun q hq => ty_off b28 (by decide) hq)) (hC.ext (x2.trans e229)) (mg.modsT tyg b28 m29) (tyg.mods b28 m29 (by decide) (by decide) (by decide)) b29 (b2.ext e229) s1 x2.size (x2.trans e229)) hcl hcb (fun _ _ h => h)

structure PlS (H0 : Heap) (gb : Nat) (out sa : Sl) (T' : List FS) (g : Host) (gs : HostS) (A : List Asg) (H : Heap) : Prop where
 topo : Topo H out T'
 cap : out.n <= out.c
 m : HostM H g gs
 isA : IsS 5 encA H sa A
 acap : sa.n <= sa.c
 len : A.length <= 1000
 u64 : ∀ i, i < A.length -> U64 (A.getD i zA).2
 blk : Blk H gb t_27 (hostL g gs)
 ext : Ext H0 H
theorem PlS.go {H0 : Heap} {gb : Nat} {out sa : Sl} {T' : List FS} {g : Host} {gs : HostS} {A : List Asg} {H H' : Heap} (p : PlS H0 gb out sa T' g gs A H) (e : Ext H H') : PlS H0 gb out sa T' g gs A H' :=
 ⟨p.topo.ext e, p.cap, p.m.ext e, p.isA.ext e, p.acap, p.len, p.u64, p.blk.ext e, p.ext.trans e⟩
theorem PlanIs.bounds {T : List FS} {h : Host} {A : List Asg} {n e : Int} {Bs : List Asg} {M : List Mv} {c : Cert} (p : PlanIs T h A n e Bs M c) : Bs.length <= 1000 /\ M.length <= 10000 := by
 have mv : ∀ B : List Asg, T.length <= 64 -> 0 <= n -> n <= T.length -> B.length <= 1000 -> (movesF A B n.toNat T.length).length <= 10000 := fun B h1 h2 h3 h4 => by
  unfold movesF
  rw [List.length_append, List.length_append]
  have := stopL_len A B n.toNat n.toNat
  have := writeL_len A B n.toNat B.length
  have := startL_len A B n.toNat T.length
  omega
 rcases p with ⟨_, _, rfl, rfl, _⟩ | ⟨ha, e0, N, hN, ⟨_, _, rfl, rfl, _⟩ | ⟨rfl, _, B, _, _, rfl, rfl, _⟩ | ⟨rfl, _, e1, B1, c1, hA, ⟨_, _, rfl, rfl, _⟩ | ⟨_, _, rfl, rfl, _⟩⟩⟩
 ·exact ⟨by simp, by simp⟩
 ·exact ⟨by simp, by simp⟩
 ·have := hN.len
  have hz : (N.zip B).length <= 1000 := by rw [List.length_zip]; omega
  exact ⟨hz, mv _ ha.1.1.1 ha.2.1.1 ha.2.1.2 hz⟩
 ·exact ⟨by simp, by simp⟩
 ·have := hA.len1
  exact ⟨this, mv _ ha.1.1.1 ha.2.1.1 ha.2.1.2 this⟩

end Go.Proofs.YtnhhncjflnlfaaaGreat
end
