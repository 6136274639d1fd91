import Derived.Test.YtigcheamheiopaaGreatP1

section
/-
 Sorting the items stably by size: the comparison, exchanges, insertion sort.
-/
namespace Go.Proofs.YtigcheamheiopaaGreat
open Go.Eng
set_option linter.unusedVariables false

def key (S : List Int) (x : Int) : Int := S.getD x.toNat 0
abbrev ky (S D : List Int) (p : Nat) : Int := key S (D.getD p 0)
def St (S D : List Int) : Prop := ∀ p q, p < q → q < D.length → ky S D p = ky S D q → D.getD p 0 < D.getD q 0
def SrtK (S D : List Int) (a b : Nat) : Prop := ∀ p q, a ≤ p → p < q → q < b → ky S D q ≤ ky S D p

structure Rw (a b : Nat) (D D' : List Int) : Prop where
 len : D'.length = D.length
 perm : D'.Perm D
 out : ∀ p, p < a ∨ b ≤ p → D'.getD p 0 = D.getD p 0
 seg : ∀ p, a ≤ p → p < b → ∃ q, a ≤ q ∧ q < b ∧ D'.getD p 0 = D.getD q 0
theorem Rw.refl (a b : Nat) (D : List Int) : Rw a b D D := ⟨rfl, .refl _, fun _ _ => rfl, fun p h1 h2 => ⟨p, h1, h2, rfl⟩⟩
theorem Rw.trans {a b : Nat} {D E F : List Int} (h : Rw a b D E) (k : Rw a b E F) : Rw a b D F :=
 ⟨k.len.trans h.len, k.perm.trans h.perm, fun p hp => (k.out p hp).trans (h.out p hp), fun p h1 h2 => by
  obtain ⟨q, q1, q2, q3⟩ := k.seg p h1 h2
  obtain ⟨r, r1, r2, r3⟩ := h.seg q q1 q2
  exact ⟨r, r1, r2, q3.trans r3⟩⟩
theorem Rw.mono {a b a' b' : Nat} {D E : List Int} (h : Rw a b D E) (ha : a' ≤ a) (hb : b ≤ b') : Rw a' b' D E :=
 ⟨h.len, h.perm, fun p hp => h.out p (by omega), fun p h1 h2 => by
  by_cases hin : a ≤ p ∧ p < b
  ·obtain ⟨q, q1, q2, q3⟩ := h.seg p hin.1 hin.2
   exact ⟨q, by omega, by omega, q3⟩
  ·exact ⟨p, h1, h2, h.out p (by omega)⟩⟩
theorem Rw.mem {a b : Nat} {D E : List Int} (h : Rw a b D E) {Q : Int → Prop} (hq : ∀ x ∈ D, Q x) : ∀ x ∈ E, Q x := fun x hx => hq x (h.perm.mem_iff.1 hx)

def sw (D : List Int) (p q : Nat) : List Int := (D.set p (D.getD q 0)).set q (D.getD p 0)
theorem sw_len (D : List Int) (p q : Nat) : (sw D p q).length = D.length := by simp [sw]
theorem getD_set (D : List Int) (p r : Nat) (x : Int) (hp : p < D.length) : (D.set p x).getD r 0 = if r = p then x else D.getD r 0 := by
 simp only [List.getD, List.getElem?_set]
 by_cases h : p = r
 ·subst h; simp [hp]
 ·rw [if_neg h, if_neg (fun e => h e.symm)]
theorem sw_get (D : List Int) (p q r : Nat) (hp : p < D.length) (hq : q < D.length) : (sw D p q).getD r 0 = if r = q then D.getD p 0 else if r = p then D.getD q 0 else D.getD r 0 := by
 unfold sw
 rw [getD_set _ _ _ _ (by simpa using hq), getD_set _ _ _ _ hp]
theorem sw_perm (D : List Int) (p q : Nat) (hp : p < D.length) (hq : q < D.length) : (sw D p q).Perm D := by
 rw [List.perm_iff_count]
 intro x
 unfold sw
 have h2 : q < (D.set p (D.getD q 0)).length := by simpa using hq
 rw [List.count_set h2, List.count_set hp]
 have e1 : D.getD p 0 = D[p] := by simp [List.getD, hp]
 have e2 : D.getD q 0 = D[q] := by simp [List.getD, hq]
 have e3 : (D.set p (D.getD q 0))[q] = D[q] := by
  rw [List.getElem_set]
  split
  ·exact e2
  ·rfl
 rw [e3, e1, e2]
 have c1 : D[p] == x → 1 ≤ D.count x := fun h => by
  have : D[p] = x := by simpa using h
  exact List.count_pos_iff.2 (this ▸ List.getElem_mem hp)
 by_cases h1 : (D[p] == x) = true <;> by_cases h2 : (D[q] == x) = true <;> simp only [h1, h2, if_true, if_false, Bool.false_eq_true] <;> first | omega | (have := c1 h1; omega)
theorem sw_rw {a b p q : Nat} (D : List Int) (h1 : a ≤ p ∧ p < b) (h2 : a ≤ q ∧ q < b) (hb : b ≤ D.length) : Rw a b D (sw D p q) := by
 refine ⟨sw_len _ _ _, sw_perm _ _ _ (by omega) (by omega), fun r hr => ?_, fun r r1 r2 => ?_⟩
 ·rw [sw_get _ _ _ _ (by omega) (by omega), if_neg (by omega), if_neg (by omega)]
 ·rw [sw_get _ _ _ _ (by omega) (by omega)]
  by_cases e1 : r = q
  ·exact ⟨p, h1.1, h1.2, by rw [if_pos e1]⟩
  ·by_cases e2 : r = p
   ·exact ⟨q, h2.1, h2.2, by rw [if_neg e1, if_pos e2]⟩
   ·exact ⟨r, r1, r2, by rw [if_neg e1, if_neg e2]⟩

theorem sw_st {S D : List Int} {j : Nat} (hj : j + 1 < D.length) (hk : ky S D j ≠ ky S D (j + 1)) (h : St S D) : St S (sw D (j + 1) j) := by
 intro p q hpq hq hkk
 rw [sw_len] at hq
 have g := fun r => sw_get D (j + 1) j r hj (by omega)
 unfold ky at hkk
 rw [g p, g q] at hkk ⊢
 by_cases p1 : p = j
 ·subst p1
  rw [if_pos rfl] at hkk ⊢
  by_cases q1 : q = p + 1
  ·subst q1
   rw [if_neg (by omega), if_pos rfl] at hkk
   exact absurd hkk.symm hk
  ·rw [if_neg (by omega), if_neg q1] at hkk ⊢
   exact h (p + 1) q (by omega) hq hkk
 ·by_cases p2 : p = j + 1
  ·subst p2
   rw [if_neg p1, if_pos rfl, if_neg (by omega), if_neg (by omega)] at hkk ⊢
   exact h j q (by omega) hq hkk
  ·rw [if_neg p1, if_neg p2] at hkk ⊢
   by_cases q1 : q = j
   ·rw [if_pos q1] at hkk ⊢
    exact h p (j + 1) (by omega) hj hkk
   ·by_cases q2 : q = j + 1
    ·rw [if_neg q1, if_pos q2] at hkk ⊢
     exact h p j (by omega) (by omega) hkk
    ·rw [if_neg q1, if_neg q2] at hkk ⊢
     exact h p q hpq hq hkk

/-! ### in memory -/

structure SC (H : Heap) (ob cb : Nat) (z : Sl) (S : List Int) : Prop where
 ints : Ints .i64 H z S
 box : Blk H cb t_sl_int [.slice z.p z.n z.c]
 ne : cb ≠ ob
 nz : S ≠ [] → ∀ a, z.p = some a → a.block ≠ ob
theorem SC.mods {H H' : Heap} {ob cb : Nat} {z : Sl} {S : List Int} (h : SC H ob cb z S) (m : Mods [ob] H H') : SC H' ob cb z S :=
 ⟨if e : S = [] then ⟨h.ints.len, .inl e⟩ else h.ints.mods m (fun a ha => by simpa using h.nz e a ha), h.box.mods m (by simpa using h.ne), h.ne, h.nz⟩
abbrev OB (H : Heap) (ob : Nat) (D : List Int) : Prop := RB H ob t_int 1 (encI .i64) D
theorem OB.at {H : Heap} {ob : Nat} {D : List Int} (h : OB H ob D) {p : Nat} (hp : p < D.length) : rd H ((⟨ob, 0, none⟩ : Addr).add ((p : Int).toNat * 1)) = some (.int .i64 (D.getD p 0)) := by
 rw [Int.toNat_natCast]
 exact h.rd0 (getD_get 0 hp) rfl
theorem OB.ok {H : Heap} {ob : Nat} {D : List Int} (h : OB H ob D) {p : Nat} (hp : p < D.length) : okRow H ((⟨ob, 0, none⟩ : Addr).add ((p : Int).toNat * 1)) 1 := by
 rw [Int.toNat_natCast]
 exact RB.ok0 h hp (by omega)
theorem OB.set {H : Heap} {ob : Nat} {D : List Int} (h : OB H ob D) {p : Nat} (hp : p < D.length) (x : Int) : OB (wrs H ((⟨ob, 0, none⟩ : Addr).add ((p : Int).toNat * 1)) [.int .i64 x]) ob (D.set p x) := by
 rw [Int.toNat_natCast]
 exact RB.wr0 h (x := D.getD p 0) (getD_get 0 hp) (by omega) rfl

def SP (ob : Nat) (H : Heap) (f : List Int → Prop) (v : Value) (H' : Heap) : Prop := v = .tuple #[] ∧ ∃ D', OB H' ob D' ∧ Mods [ob] H H' ∧ f D'

theorem isNaN_spec (x : Int) (H : Heap) : CallsH Tryz.prog n_cmp_isNaN_int #[.int .i64 x] H (fun v H' => v = .bool false ∧ H' = H) := by
 refine F_cmp_isNaN_int_ok _ ?_
 unfold F_cmp_isNaN_int
 exact ⟨by simp, rfl⟩
theorem Compare_spec (x y : Int) (H : Heap) : CallsH Tryz.prog n_cmp_Compare_int #[.int .i64 x, .int .i64 y] H (fun v H' => (∃ r : Int, v = .int .i64 r ∧ (r < 0 ↔ x < y)) ∧ H' = H) := by
 refine F_cmp_Compare_int_ok _ _ ?_
 unfold F_cmp_Compare_int
 refine (isNaN_spec x H).mono ?_
 rintro v H1 ⟨rfl, rfl⟩
 refine ⟨_, rfl, (isNaN_spec y H1).mono ?_⟩
 rintro v H2 ⟨rfl, rfl⟩
 refine ⟨_, rfl, iteB_neg rfl (iteB_neg rfl (iteB_dec (fun d => ⟨⟨_, rfl, by omega⟩, rfl⟩) (fun d => iteB_dec (fun d1 => ⟨⟨_, rfl, by omega⟩, rfl⟩) (fun d1 => ⟨⟨_, rfl, by omega⟩, rfl⟩))))⟩

theorem cmp_spec {H : Heap} {ob cb : Nat} {z : Sl} {S : List Int} (c : SC H ob cb z S) (a b : Int) (ha : 0 ≤ a ∧ a < S.length) (hb : 0 ≤ b ∧ b < S.length) :
  CallsH Tryz.prog n_allocate_Place_1 #[.int .i64 a, .int .i64 b, .pointer (some ⟨cb, 0, none⟩)] H (fun v H' => (∃ r : Int, v = .int .i64 r ∧ (r < 0 ↔ key S b < key S a)) ∧ H' = H) := by
 refine F_allocate_Place_1_ok _ _ _ ?_
 unfold F_allocate_Place_1
 have hn := c.ints.len
 have hbx := c.box.rd0 (v := .slice z.p z.n z.c) rfl
 obtain ⟨a', rfl⟩ : ∃ n : Nat, a = n := ⟨a.toNat, by omega⟩
 obtain ⟨b', rfl⟩ : ∃ n : Nat, b = n := ⟨b.toNat, by omega⟩
 obtain ⟨p, hp, hr⟩ := Ints.atN c.ints (i := b') (by omega)
 obtain ⟨p2, hp2, hr2⟩ := Ints.atN c.ints (i := a') (by omega)
 refine ⟨z, hbx, by omega, by omega, unSome_mk hp ⟨_, hr, z, hbx, by omega, by omega, unSome_mk hp2 ⟨_, hr2, (Compare_spec _ _ H).mono ?_⟩⟩⟩
 rintro v H1 ⟨⟨r, rfl, hrr⟩, rfl⟩
 refine ⟨r, rfl, ⟨r, rfl, ?_⟩, rfl⟩
 unfold key
 simp only [Int.toNat_natCast]
 exact hrr

def InsI (S D : List Int) (a i j : Nat) : Prop := (∀ p q, a ≤ p → p < q → q ≤ i → p ≠ j → q ≠ j → ky S D q ≤ ky S D p) ∧ (∀ q, j < q → q ≤ i → ky S D q < ky S D j)

theorem insI_step {S D : List Int} {a i j : Nat} (h : InsI S D a i (j + 1)) (ha : a ≤ j) (hi : i < D.length) (hj : j + 1 ≤ i) (hk : ky S D j < ky S D (j + 1)) : InsI S (sw D (j + 1) j) a i j := by
 have g := fun r => sw_get D (j + 1) j r (by omega) (by omega)
 refine ⟨fun p q h1 h2 h3 h4 h5 => ?_, fun q h1 h2 => ?_⟩
 ·unfold ky
  rw [g p, g q, if_neg h4, if_neg h5]
  by_cases p1 : p = j + 1
  ·rw [if_pos p1, if_neg (by omega)]
   exact h.1 j q ha (by omega) h3 (by omega) (by omega)
  ·rw [if_neg p1]
   by_cases q1 : q = j + 1
   ·rw [if_pos q1]
    exact h.1 p j h1 (by omega) (by omega) p1 (by omega)
   ·rw [if_neg q1]
    exact h.1 p q h1 h2 h3 p1 q1
 ·unfold ky
  rw [g q, g j, if_pos rfl, if_neg (by omega)]
  by_cases q1 : q = j + 1
  ·rw [if_pos q1]; exact hk
  ·rw [if_neg q1]; exact h.2 q (by omega) h2

theorem insI_end {S D : List Int} {a i j : Nat} (h : InsI S D a i j) (ha : a ≤ j) (hj : j ≤ i) (hk : j = a ∨ ky S D j ≤ ky S D (j - 1)) : SrtK S D a (i + 1) := by
 intro p q h1 h2 h3
 by_cases p1 : p = j
 ·subst p1
  exact Int.le_of_lt (h.2 q h2 (by omega))
 ·by_cases q1 : q = j
  ·subst q1
   rcases hk with e | e
   ·omega
   ·by_cases p2 : p = q - 1
    ·rw [p2]; exact e
    ·exact Int.le_trans e (h.1 p (q - 1) h1 (by omega) (by omega) p1 (by omega))
  ·exact h.1 p q h1 h2 (by omega) p1 q1

theorem insertion_spec (H0 : Heap) {ob cb : Nat} {z : Sl} {S D : List Int} (c : SC H0 ob cb z S) (hD : OB H0 ob D) (hr : ∀ x ∈ D, 0 ≤ x ∧ x < S.length) (a b : Nat) (hab : a ≤ b) (hb : b ≤ D.length) (hn : D.length ≤ 100000) :
  CallsH Tryz.prog n_slices_insertionSortCmpFunc_int #[.slice (some ⟨ob, 0, none⟩) D.length D.length, .int .i64 (a : Int), .int .i64 (b : Int), .func (.func 68) #[] #[.pointer (some ⟨cb, 0, none⟩)]] H0
   (SP ob H0 (fun D' => Rw a b D D' ∧ (St S D → St S D') ∧ SrtK S D' a b)) := by
 refine F_slices_insertionSortCmpFunc_int_ok ⟨some ⟨ob, 0, none⟩, D.length, D.length⟩ _ _ _ ?_
 unfold F_slices_insertionSortCmpFunc_int
 refine letV_mk ((a + 1 : Nat) : Int) (by rw [i64_in (by omega)]; omega) ?_
 refine ⟨fun x H' => ∃ i : Nat, x = i ∧ a + 1 ≤ i ∧ (i ≤ b ∨ i = a + 1) ∧ ∃ D1, OB H' ob D1 ∧ Mods [ob] H0 H' ∧ Rw a b D D1 ∧ (St S D → St S D1) ∧ SrtK S D1 a i, fun x _ => (b - x).toNat, ⟨a + 1, rfl, by omega, by omega, D, hD, .refl _ _, .refl _ _ _, id, fun p q h1 h2 h3 => by omega⟩, ?_⟩
 rintro x H1 ⟨i, rfl, hi1, hi2, D1, o1, m1, r1, s1, k1⟩
 unfold F_slices_insertionSortCmpFunc_int_r2
 refine iteB_dec (fun d => ?_) (fun d => ⟨rfl, D1, o1, m1, r1, s1, fun p q h1 h2 h3 => k1 p q h1 h2 (by omega)⟩)
 have hib : i < b := by omega
 refine ⟨fun y H' => ∃ j : Nat, y = j ∧ a ≤ j ∧ j ≤ i ∧ ∃ D2, OB H' ob D2 ∧ Mods [ob] H0 H' ∧ Rw a b D D2 ∧ (St S D → St S D2) ∧ InsI S D2 a i j, fun y _ => y.toNat, ⟨i, rfl, by omega, Nat.le_refl _, D1, o1, m1, r1, s1, fun p q h1 h2 h3 h4 h5 => k1 p q h1 h2 (by omega), fun q h1 h2 => by omega⟩, ?_⟩
 rintro y H2 ⟨j, rfl, hj1, hj2, D2, o2, m2, r2, s2, k2⟩
 unfold F_slices_insertionSortCmpFunc_int_r1
 have l2 := r2.len
 have w2 := r2.mem hr
 have fin : SrtK S D2 a (i + 1) → (∃ i' : Nat, ((i + 1 : Nat) : Int) = i' ∧ a + 1 ≤ i' ∧ (i' ≤ b ∨ i' = a + 1) ∧ ∃ D1, OB H2 ob D1 ∧ Mods [ob] H0 H2 ∧ Rw a b D D1 ∧ (St S D → St S D1) ∧ SrtK S D1 a i') := fun hk => ⟨i + 1, rfl, by omega, by omega, D2, o2, m2, r2, s2, hk⟩
 have hsucc : IntKind.i64.wrap ((i : Int) + 1) = ((i + 1 : Nat) : Int) := by rw [i64_in (by omega)]; omega
 refine iteB_dec (fun d1 => ?_) (fun d1 => letV_mk _ hsucc ⟨fin (insI_end k2 hj1 hj2 (by omega)), by dsimp only; omega⟩)
 obtain ⟨m, rfl⟩ : ∃ m, j = m + 1 := ⟨j - 1, by omega⟩
 have hw : IntKind.i64.wrap (((m + 1 : Nat) : Int) - 1) = (m : Int) := by rw [i64_in (by omega)]; omega
 simp only [hw]
 have hx := w2 _ (getD_mem' (l := D2) (k := m + 1) 0 (by omega))
 have hx1 := w2 _ (getD_mem' (l := D2) (k := m) 0 (by omega))
 refine ⟨by omega, by omega, unSome_mk rfl ⟨_, o2.at (by omega), by omega, by omega, unSome_mk rfl ⟨_, o2.at (by omega), (cmp_spec (c.mods m2) _ _ hx hx1).mono ?_⟩⟩⟩
 rintro v H3 ⟨⟨r, rfl, hrr⟩, rfl⟩
 refine ⟨r, rfl, iteB_dec (fun d2 => ?_) (fun d2 => letV_mk _ hsucc ⟨fin (insI_end k2 hj1 hj2 (.inr ?_)), by omega⟩)⟩
 ·have hlt : ky S D2 m < ky S D2 (m + 1) := hrr.1 d2
  refine ⟨by omega, by omega, unSome_mk rfl ⟨_, o2.at (by omega), by omega, by omega, unSome_mk rfl ⟨_, o2.at (by omega), by omega, by omega, unSome_mk rfl ⟨o2.ok (by omega), letH_mk ?_⟩⟩⟩⟩
  intro H4 h4
  have o4 : OB H4 ob (D2.set (m + 1) (D2.getD m 0)) := by rw [h4]; exact o2.set (by omega) _
  have m4 : Mods [ob] H3 H4 := by rw [h4]; exact mods_wr_add (by simp)
  clear h4
  refine ⟨by omega, by omega, unSome_mk rfl ⟨o4.ok (by simp; omega), letH_mk ?_⟩⟩
  intro H5 h5
  have o5 : OB H5 ob (sw D2 (m + 1) m) := by rw [h5]; exact o4.set (by simp; omega) _
  have m5 : Mods [ob] H4 H5 := by rw [h5]; exact mods_wr_add (by simp)
  clear h5
  exact letV_mk _ rfl ⟨⟨m, rfl, by omega, by omega, _, o5, (m2.trans m4).trans m5, r2.trans (sw_rw D2 (by omega) (by omega) (by omega)), fun hs => sw_st (by omega) (Int.ne_of_lt hlt) (s2 hs), insI_step k2 (by omega) (by omega) (by omega) hlt⟩, by omega⟩
 ·have : ¬ (ky S D2 m < ky S D2 (m + 1)) := fun hh => d2 (hrr.2 hh)
  simp only [Nat.add_sub_cancel]
  omega

end Go.Proofs.YtigcheamheiopaaGreat
end

section
/-
 The order of the items: what a stable sort leaves is ordF. The stable sort of at most 20 items.
-/
namespace Go.Proofs.YtigcheamheiopaaGreat
open Go.Eng
set_option linter.unusedVariables false

theorem filter_split {l : List Nat} {p q r : Nat → Bool} (h : ∀ x ∈ l, r x = (p x || q x)) (hd : ∀ x ∈ l, ¬ (p x = true ∧ q x = true)) : (l.filter p ++ l.filter q).Perm (l.filter r) := by
 induction l with
 | nil => simp
 | cons x l ih =>
  have ih' := ih (fun y hy => h y (by simp [hy])) (fun y hy => hd y (by simp [hy]))
  have hx := h x (by simp)
  have hxd := hd x (by simp)
  cases hp : p x with
  | true =>
   have hq : q x = false := by cases hq : q x with | true => exact absurd ⟨hp, hq⟩ hxd | false => rfl
   rw [List.filter_cons_of_pos hp, List.filter_cons_of_neg (by simp [hq]), List.filter_cons_of_pos (by rw [hx, hp]; rfl)]
   exact ih'.cons x
  | false =>
   cases hq : q x with
   | true =>
    rw [List.filter_cons_of_neg (by simp [hp]), List.filter_cons_of_pos hq, List.filter_cons_of_pos (by rw [hx, hp, hq]; rfl)]
    exact List.perm_middle.trans (ih'.cons x)
   | false =>
    rw [List.filter_cons_of_neg (by simp [hp]), List.filter_cons_of_neg (by simp [hq]), List.filter_cons_of_neg (by rw [hx, hp, hq]; simp)]
    exact ih'

def Bef (S : List Int) (i j : Nat) : Prop := S.getD j 0 < S.getD i 0 ∨ (S.getD i 0 = S.getD j 0 ∧ i < j)

theorem ordN_spec {S : List Int} (hI : ItemsOk S) : ∀ m, m ≤ 45 → (ordN S m).Perm ((List.range S.length).filter (fun j => decide (S.getD j 0 > 44 - (m : Int)))) ∧ (ordN S m).Pairwise (Bef S) := by
 intro m
 induction m with
 | zero =>
  intro _
  have h0 : (List.range S.length).filter (fun j => decide (S.getD j 0 > 44 - ((0 : Nat) : Int))) = [] := by
   rw [List.filter_eq_nil_iff]
   intro j hj
   have := hI.2 _ (getD_mem' (l := S) (k := j) 0 (by simpa using hj))
   rw [decide_eq_true_eq]
   omega
  rw [h0]
  exact ⟨.refl _, List.Pairwise.nil⟩
 | succ m ih =>
  intro hm
  obtain ⟨h1, h2⟩ := ih (by omega)
  rw [ordN_succ]
  refine ⟨?_, ?_⟩
  ·refine (h1.append_right _).trans (filter_split (fun x hx => ?_) (fun x hx => ?_))
   ·rw [Bool.eq_iff_iff]
    simp only [Bool.or_eq_true, decide_eq_true_eq]
    omega
   ·simp only [decide_eq_true_eq]
    omega
  ·rw [List.pairwise_append]
   refine ⟨h2, ?_, fun a ha b hb => ?_⟩
   ·refine List.Pairwise.imp_of_mem (R := fun i j => i < j) (fun {i j} hi hj hij => ?_) (List.Pairwise.filter _ (List.pairwise_lt_range))
    have e1 : S.getD i 0 = ((44 - m : Nat) : Int) := by simpa using (List.mem_filter.1 hi).2
    have e2 : S.getD j 0 = ((44 - m : Nat) : Int) := by simpa using (List.mem_filter.1 hj).2
    exact .inr ⟨by omega, hij⟩
   ·have e1 : S.getD a 0 > 44 - (m : Int) := by simpa using (List.mem_filter.1 (h1.mem_iff.1 ha)).2
    have e2 : S.getD b 0 = ((44 - m : Nat) : Int) := by simpa using (List.mem_filter.1 hb).2
    exact .inl (by omega)

theorem ordF_perm {S : List Int} (hI : ItemsOk S) : (ordF S).Perm (List.range S.length) := by
 have h := (ordN_spec hI 45 (Nat.le_refl _)).1
 have e : (List.range S.length).filter (fun j => decide (S.getD j 0 > 44 - ((45 : Nat) : Int))) = List.range S.length := by
  rw [List.filter_eq_self]
  intro j hj
  have := hI.2 _ (getD_mem' (l := S) (k := j) 0 (by simpa using hj))
  rw [decide_eq_true_eq]
  omega
 rw [e] at h
 exact h

theorem ord_unique {S D : List Int} (hI : ItemsOk S) (hp : D.Perm ((List.range S.length).map (fun n : Nat => (n : Int)))) (hs : St S D) (hk : SrtK S D 0 D.length) : D = (ordF S).map (fun n : Nat => (n : Int)) := by
 refine List.Perm.eq_of_pairwise (le := fun x y => key S y < key S x ∨ (key S x = key S y ∧ x < y)) (fun a b _ _ h1 h2 => by omega) ?_ ?_ (hp.trans ((ordF_perm hI).map _).symm)
 ·refine List.pairwise_iff_getElem.2 (fun i j hi hj hij => ?_)
  have e1 : D.getD i 0 = D[i] := by simp [List.getD, hi]
  have e2 : D.getD j 0 = D[j] := by simp [List.getD, hj]
  have h1 := hk i j (Nat.zero_le _) hij hj
  have h2 := hs i j hij hj
  unfold ky at h1 h2
  rw [e1, e2] at h1 h2
  by_cases e : key S D[i] = key S D[j]
  ·exact .inr ⟨e, h2 e⟩
  ·exact .inl (by omega)
 ·rw [List.pairwise_map]
  refine List.Pairwise.imp (fun {i j} h => ?_) (ordN_spec hI 45 (Nat.le_refl _)).2
  unfold key
  simp only [Int.toNat_natCast]
  unfold Bef at h
  omega

def Rws (S D : List Int) (w n : Nat) : Prop := ∀ u, SrtK S D (w * u) (min (w * u + w) n)

theorem srtK_out {S D E : List Int} {a b p q : Nat} (h : SrtK S D p q) (r : Rw a b D E) (ho : q ≤ a ∨ b ≤ p) : SrtK S E p q := fun i j h1 h2 h3 => by
 unfold ky
 rw [r.out i (by omega), r.out j (by omega)]
 exact h i j h1 h2 h3

end Go.Proofs.YtigcheamheiopaaGreat
end

section
/-
 The stable sort of any number of items: exchanging ranges, rotating, merging.
-/
namespace Go.Proofs.YtigcheamheiopaaGreat
open Go.Eng
set_option linter.unusedVariables false

structure Pm (f : Nat → Nat) (D E : List Int) : Prop where
 len : E.length = D.length
 at_ : ∀ p, E.getD p 0 = D.getD (f p) 0
theorem Pm.comp {f g h : Nat → Nat} {D E F : List Int} (a : Pm f D E) (b : Pm g E F) (hh : ∀ p, h p = f (g p)) : Pm h D F :=
 ⟨b.len.trans a.len, fun p => by rw [b.at_, a.at_, hh]⟩

def swI (a b n p : Nat) : Nat := if a ≤ p ∧ p < a + n then b + (p - a) else if b ≤ p ∧ p < b + n then a + (p - b) else p
def rotI (a m b p : Nat) : Nat := if a ≤ p ∧ p < b then (if p < a + (b - m) then m + (p - a) else p - (b - m)) else p

theorem swI_succ {D E : List Int} {a b i : Nat} (h : Pm (swI a b i) D E) (hab : a + i < b) (hb : b + i < D.length) : Pm (swI a b (i + 1)) D (sw E (a + i) (b + i)) := by
 have l := h.len
 refine ⟨by rw [sw_len, l], fun p => ?_⟩
 rw [sw_get _ _ _ _ (by omega) (by omega), h.at_, h.at_, h.at_]
 by_cases h1 : p = b + i
 ·rw [if_pos h1]
  congr 1
  unfold swI
  rw [if_neg (by omega), if_neg (by omega), if_neg (by omega), if_pos (by omega)]
  omega
 ·rw [if_neg h1]
  by_cases h2 : p = a + i
  ·rw [if_pos h2]
   congr 1
   unfold swI
   rw [if_neg (by omega), if_neg (by omega), if_pos (by omega)]
   omega
  ·rw [if_neg h2]
   congr 1
   unfold swI
   split <;> (try split) <;> (try split) <;> (try split) <;> omega

theorem swapRange_spec (H0 : Heap) {ob : Nat} {cap : Addr} {D : List Int} (hD : OB H0 ob D) (hn : D.length ≤ 100000) (lo hi a b n : Nat) (h0 : lo ≤ a) (h1 : a + n ≤ b) (h2 : b + n ≤ hi) (h3 : hi ≤ D.length) :
  CallsH Tryz.prog n_slices_swapRangeCmpFunc_int #[.slice (some ⟨ob, 0, none⟩) D.length D.length, .int .i64 (a : Int), .int .i64 (b : Int), .int .i64 (n : Int), .func (.func 68) #[] #[.pointer (some cap)]] H0
   (SP ob H0 (fun D' => Rw lo hi D D' ∧ Pm (swI a b n) D D')) := by
 refine F_slices_swapRangeCmpFunc_int_ok ⟨some ⟨ob, 0, none⟩, D.length, D.length⟩ _ _ _ _ ?_
 unfold F_slices_swapRangeCmpFunc_int
 refine ⟨fun x H' => ∃ i : Nat, x = i ∧ i ≤ n ∧ ∃ D1, OB H' ob D1 ∧ Mods [ob] H0 H' ∧ Rw lo hi D D1 ∧ Pm (swI a b i) D D1, fun x _ => (n - x).toNat, ⟨0, rfl, by omega, D, hD, .refl _ _, .refl _ _ _, rfl, fun p => by unfold swI; rw [if_neg (by omega), if_neg (by omega)]⟩, ?_⟩
 rintro x H1 ⟨i, rfl, hi', D1, o1, m1, r1, p1⟩
 unfold F_slices_swapRangeCmpFunc_int_r1
 have l1 := r1.len
 refine iteB_dec (fun d => ?_) (fun d => ⟨rfl, D1, o1, m1, r1, by rwa [show n = i by omega]⟩)
 have e1 : IntKind.i64.wrap ((b : Int) + i) = ((b + i : Nat) : Int) := by rw [i64_in (by omega)]; omega
 have e2 : IntKind.i64.wrap ((a : Int) + i) = ((a + i : Nat) : Int) := by rw [i64_in (by omega)]; omega
 simp only [e1, e2]
 refine ⟨by omega, by omega, unSome_mk rfl ⟨_, o1.at (by omega), by omega, by omega, unSome_mk rfl ⟨_, o1.at (by omega), by omega, by omega, unSome_mk rfl ⟨o1.ok (by omega), letH_mk ?_⟩⟩⟩⟩
 intro H4 h4
 have o4 : OB H4 ob (D1.set (a + i) (D1.getD (b + i) 0)) := by rw [h4]; exact o1.set (by omega) _
 have m4 : Mods [ob] H1 H4 := by rw [h4]; exact mods_wr_add (by simp)
 clear h4
 refine ⟨by omega, by omega, unSome_mk rfl ⟨o4.ok (by simp; omega), letH_mk ?_⟩⟩
 intro H5 h5
 have o5 : OB H5 ob (sw D1 (a + i) (b + i)) := by rw [h5]; exact o4.set (by simp; omega) _
 have m5 : Mods [ob] H4 H5 := by rw [h5]; exact mods_wr_add (by simp)
 clear h5
 exact letV_mk ((i + 1 : Nat) : Int) (by rw [i64_in (by omega)]; omega) ⟨⟨i + 1, rfl, by omega, _, o5, (m1.trans m4).trans m5, r1.trans (sw_rw D1 (by omega) (by omega) (by omega)), swI_succ p1 (by omega) (by omega)⟩, by omega⟩

theorem rotI_gt {m i j p : Nat} (h : j < i) (hi : i ≤ m) : rotI (m - i) m (m + j) p = swI (m - i) m j (rotI (m - (i - j)) m (m + j) p) := by
 unfold rotI
 by_cases h1 : m - i ≤ p ∧ p < m + j
 ·rw [if_pos h1]
  by_cases h2 : m - (i - j) ≤ p
  ·rw [if_pos (show m - (i - j) ≤ p ∧ p < m + j by omega), if_neg (by omega)]
   by_cases h3 : p < m - (i - j) + (m + j - m)
   ·rw [if_pos h3]
    unfold swI
    rw [if_neg (by omega), if_pos (by omega)]
    omega
   ·rw [if_neg h3]
    unfold swI
    rw [if_neg (by omega), if_neg (by omega)]
  ·rw [if_neg (show ¬ (m - (i - j) ≤ p ∧ p < m + j) by omega), if_pos (by omega)]
   unfold swI
   rw [if_pos (by omega)]
 ·rw [if_neg h1, if_neg (show ¬ (m - (i - j) ≤ p ∧ p < m + j) by omega)]
  unfold swI
  rw [if_neg (by omega), if_neg (by omega)]

theorem rotI_lt {m i j p : Nat} (h : i < j) (hi : i ≤ m) : rotI (m - i) m (m + j) p = swI (m - i) (m + j - i) i (rotI (m - i) m (m + (j - i)) p) := by
 unfold rotI
 by_cases h1 : m - i ≤ p ∧ p < m + j
 ·rw [if_pos h1]
  by_cases h2 : p < m + (j - i)
  ·rw [if_pos (show m - i ≤ p ∧ p < m + (j - i) by omega)]
   by_cases h3 : p < m - i + (m + (j - i) - m)
   ·rw [if_pos h3, if_pos (by omega)]
    unfold swI
    rw [if_neg (by omega), if_neg (by omega)]
   ·rw [if_neg h3, if_pos (by omega)]
    unfold swI
    rw [if_pos (by omega)]
    omega
  ·rw [if_neg (show ¬ (m - i ≤ p ∧ p < m + (j - i)) by omega)]
   unfold swI
   rw [if_neg (show ¬ (m - i ≤ p ∧ p < m - i + i) by omega), if_pos (show m + j - i ≤ p ∧ p < m + j - i + i by omega)]
   by_cases h3 : p < m - i + (m + j - m)
   ·omega
   ·rw [if_neg h3]; omega
 ·rw [if_neg h1, if_neg (show ¬ (m - i ≤ p ∧ p < m + (j - i)) by omega)]
  unfold swI
  rw [if_neg (by omega), if_neg (by omega)]

theorem rotI_eq {m i p : Nat} (hi : i ≤ m) : rotI (m - i) m (m + i) p = swI (m - i) m i p := by
 unfold rotI swI
 by_cases h1 : m - i ≤ p ∧ p < m + i
 ·rw [if_pos h1]
  by_cases h2 : p < m
  ·rw [if_pos (by omega), if_pos (by omega)]
  ·rw [if_neg (by omega), if_neg (by omega), if_pos (by omega)]
   omega
 ·rw [if_neg h1, if_neg (by omega), if_neg (by omega)]

theorem rotate_spec (H0 : Heap) {ob : Nat} {cap : Addr} {D : List Int} (hD : OB H0 ob D) (hn : D.length ≤ 100000) (a m b : Nat) (h1 : a < m) (h2 : m < b) (h3 : b ≤ D.length) :
  CallsH Tryz.prog n_slices_rotateCmpFunc_int #[.slice (some ⟨ob, 0, none⟩) D.length D.length, .int .i64 (a : Int), .int .i64 (m : Int), .int .i64 (b : Int), .func (.func 68) #[] #[.pointer (some cap)]] H0
   (SP ob H0 (fun D' => Rw a b D D' ∧ Pm (rotI a m b) D D')) := by
 refine F_slices_rotateCmpFunc_int_ok ⟨some ⟨ob, 0, none⟩, D.length, D.length⟩ _ _ _ _ ?_
 unfold F_slices_rotateCmpFunc_int
 refine letV_mk ((m - a : Nat) : Int) (by rw [i64_in (by omega)]; omega) (letV_mk ((b - m : Nat) : Int) (by rw [i64_in (by omega)]; omega) ?_)
 refine ⟨fun x y H' => ∃ i j : Nat, x = i ∧ y = j ∧ 0 < i ∧ 0 < j ∧ i ≤ m - a ∧ j ≤ b - m ∧ ∃ D1 f, OB H' ob D1 ∧ Mods [ob] H0 H' ∧ Rw a b D D1 ∧ Pm f D D1 ∧ ∀ p, rotI a m b p = f (rotI (m - i) m (m + j) p), fun x y _ => (x + y).toNat,
  ⟨m - a, b - m, rfl, rfl, by omega, by omega, Nat.le_refl _, Nat.le_refl _, D, id, hD, .refl _ _, .refl _ _ _, ⟨rfl, fun _ => rfl⟩, fun p => by rw [show m - (m - a) = a by omega, show m + (b - m) = b by omega]; rfl⟩, ?_⟩
 rintro x y H1 ⟨i, j, rfl, rfl, hi0, hj0, hi, hj, D1, f, o1, m1, r1, p1, hf⟩
 unfold F_slices_rotateCmpFunc_int_r1
 have l1 := r1.len
 have e1 : IntKind.i64.wrap ((m : Int) - i) = ((m - i : Nat) : Int) := by rw [i64_in (by omega)]; omega
 have e2 : IntKind.i64.wrap (IntKind.i64.wrap ((m : Int) + j) - i) = ((m + j - i : Nat) : Int) := by rw [i64_in (n := (m : Int) + j) (by omega), i64_in (by omega)]; omega
 simp only [e1, e2]
 have hsw := fun (u w n : Nat) (q1 : a ≤ u) (q2 : u + n ≤ w) (q3 : w + n ≤ b) => swapRange_spec H1 (cap := cap) o1 (by omega) a b u w n q1 q2 q3 (by omega)
 rw [l1] at hsw
 refine iteB_bne (fun d => iteB_dec (fun d1 => (hsw (m - i) m j (by omega) (by omega) (by omega)).mono ?_) (fun d1 => (hsw (m - i) (m + j - i) i (by omega) (by omega) (by omega)).mono ?_)) (fun d => ?_)
 ·rintro v H2 ⟨rfl, D2, o2, m2, r2, p2⟩
  refine ⟨rfl, letV_mk ((i - j : Nat) : Int) (by rw [i64_in (by omega)]; omega) ⟨⟨i - j, j, rfl, rfl, by omega, by omega, by omega, by omega, D2, fun p => f (swI (m - i) m j p), o2, m1.trans m2, r1.trans r2, p1.comp p2 (fun _ => rfl), fun p => ?_⟩, by omega⟩⟩
  rw [hf, rotI_gt (by omega) (by omega)]
 ·rintro v H2 ⟨rfl, D2, o2, m2, r2, p2⟩
  refine ⟨rfl, letV_mk ((j - i : Nat) : Int) (by rw [i64_in (by omega)]; omega) ⟨⟨i, j - i, rfl, rfl, by omega, by omega, by omega, by omega, D2, fun p => f (swI (m - i) (m + j - i) i p), o2, m1.trans m2, r1.trans r2, p1.comp p2 (fun _ => rfl), fun p => ?_⟩, by omega⟩⟩
  rw [hf, rotI_lt (by omega) (by omega)]
 ·obtain rfl : i = j := by omega
  refine (hsw (m - i) m i (by omega) (by omega) (by omega)).mono ?_
  rintro v H2 ⟨rfl, D2, o2, m2, r2, p2⟩
  exact ⟨rfl, rfl, D2, o2, m1.trans m2, r1.trans r2, p1.comp p2 (fun p => by rw [hf, rotI_eq (by omega)])⟩

/-! ### what a rotation does to the order -/

theorem rot_st {S D E : List Int} {s m e : Nat} (h1 : s ≤ m) (h2 : m ≤ e) (h3 : e ≤ D.length) (p : Pm (rotI s m e) D E) (hk : ∀ x y, s ≤ x → x < m → m ≤ y → y < e → ky S D x < ky S D y) (h : St S D) : St S E := by
 intro u w huw hw hkk
 rw [p.len] at hw
 have gu := p.at_ u
 have gw := p.at_ w
 have kk : ky S D (rotI s m e u) = ky S D (rotI s m e w) := by unfold ky at hkk ⊢; rw [gu, gw] at hkk; exact hkk
 rw [gu, gw]
 have key1 : rotI s m e u < rotI s m e w ∨ (s ≤ rotI s m e w ∧ rotI s m e w < m ∧ m ≤ rotI s m e u ∧ rotI s m e u < e) := by
  unfold rotI
  split <;> split <;> (try split) <;> (try split) <;> omega
 have hlt : rotI s m e w < D.length := by
  unfold rotI
  split <;> (try split) <;> omega
 rcases key1 with hh | ⟨q1, q2, q3, q4⟩
 ·exact h _ _ hh hlt kk
 ·have := hk _ _ q1 q2 q3 q4
  omega

theorem rot_lo {D E : List Int} {s m e : Nat} (p : Pm (rotI s m e) D E) {x : Nat} (hx : x < s) : E.getD x 0 = D.getD x 0 := by
 rw [p.at_]; unfold rotI; rw [if_neg (by omega)]
theorem rot_hi {D E : List Int} {s m e : Nat} (p : Pm (rotI s m e) D E) {x : Nat} (hx : e ≤ x) : E.getD x 0 = D.getD x 0 := by
 rw [p.at_]; unfold rotI; rw [if_neg (by omega)]
theorem rot_1 {D E : List Int} {s m e : Nat} (p : Pm (rotI s m e) D E) (hsm : s ≤ m) (hme : m ≤ e) {x : Nat} (h1 : s ≤ x) (h2 : x < s + (e - m)) : E.getD x 0 = D.getD (m + (x - s)) 0 := by
 rw [p.at_]; unfold rotI; rw [if_pos (by omega), if_pos h2]
theorem rot_2 {D E : List Int} {s m e : Nat} (p : Pm (rotI s m e) D E) (hsm : s ≤ m) (hme : m ≤ e) {x : Nat} (h1 : s + (e - m) ≤ x) (h2 : x < e) : E.getD x 0 = D.getD (x - (e - m)) 0 := by
 rw [p.at_]; unfold rotI; rw [if_pos (by omega), if_neg (by omega)]

theorem rot_parts {S D E : List Int} {a s m e b mid : Nat} (has : a ≤ s) (hsm : s ≤ m) (hme : m ≤ e) (heb : e ≤ b) (hmid : mid = s + (e - m)) (p : Pm (rotI s m e) D E)
  (k1 : SrtK S D a m) (k2 : SrtK S D m b) (hx : ∀ x y, s ≤ x → x < m → m ≤ y → y < e → ky S D x < ky S D y) (ho : ∀ x y, a ≤ x → x < s → e ≤ y → y < b → ky S D y ≤ ky S D x) :
  SrtK S E a s ∧ SrtK S E s mid ∧ SrtK S E mid e ∧ SrtK S E e b ∧ ∀ x y, a ≤ x → x < mid → mid ≤ y → y < b → ky S E y ≤ ky S E x := by
 subst hmid
 have lo : ∀ x, x < s → ky S E x = ky S D x := fun x h => by unfold ky; rw [rot_lo p h]
 have hi : ∀ x, e ≤ x → ky S E x = ky S D x := fun x h => by unfold ky; rw [rot_hi p h]
 have g1 : ∀ x, s ≤ x → x < s + (e - m) → ky S E x = ky S D (m + (x - s)) := fun x h h' => by unfold ky; rw [rot_1 p hsm hme h h']
 have g2 : ∀ x, s + (e - m) ≤ x → x < e → ky S E x = ky S D (x - (e - m)) := fun x h h' => by unfold ky; rw [rot_2 p hsm hme h h']
 refine ⟨fun x y h1 h2 h3 => ?_, fun x y h1 h2 h3 => ?_, fun x y h1 h2 h3 => ?_, fun x y h1 h2 h3 => ?_, fun x y h1 h2 h3 h4 => ?_⟩
 ·rw [lo x (by omega), lo y (by omega)]; exact k1 x y h1 h2 (by omega)
 ·rw [g1 x (by omega) (by omega), g1 y (by omega) (by omega)]; exact k2 _ _ (by omega) (by omega) (by omega)
 ·rw [g2 x (by omega) (by omega), g2 y (by omega) (by omega)]; exact k1 _ _ (by omega) (by omega) (by omega)
 ·rw [hi x (by omega), hi y (by omega)]; exact k2 _ _ (by omega) (by omega) (by omega)
 ·by_cases x1 : x < s
  ·rw [lo x x1]
   by_cases y1 : y < e
   ·rw [g2 y h3 y1]; exact k1 _ _ (by omega) (by omega) (by omega)
   ·rw [hi y (by omega)]; exact ho _ _ h1 x1 (by omega) h4
  ·rw [g1 x (by omega) h2]
   by_cases y1 : y < e
   ·rw [g2 y h3 y1]; exact Int.le_of_lt (hx _ _ (by omega) (by omega) (by omega) (by omega))
   ·rw [hi y (by omega)]; exact k2 _ _ (by omega) (by omega) (by omega)

theorem srtK_join {S E : List Int} {a mid b : Nat} (h1 : SrtK S E a mid) (h2 : SrtK S E mid b) (h3 : ∀ x y, a ≤ x → x < mid → mid ≤ y → y < b → ky S E y ≤ ky S E x) : SrtK S E a b := fun p q hp hpq hq => by
 by_cases e1 : q < mid
 ·exact h1 p q hp hpq e1
 ·by_cases e2 : p < mid
  ·exact h3 p q hp e2 (by omega) hq
  ·exact h2 p q (by omega) hpq hq

theorem ky_in {S D E : List Int} {a b p : Nat} (r : Rw a b D E) (h1 : a ≤ p) (h2 : p < b) : ∃ q, a ≤ q ∧ q < b ∧ ky S E p = ky S D q := by
 obtain ⟨q, q1, q2, q3⟩ := r.seg p h1 h2
 exact ⟨q, q1, q2, by unfold ky; rw [q3]⟩
theorem ky_out {S D E : List Int} {a b p : Nat} (r : Rw a b D E) (h : p < a ∨ b ≤ p) : ky S E p = ky S D p := by unfold ky; rw [r.out p h]

theorem half_spec (x y : Nat) (h : x + y ≤ 1000000) : IntKind.i64.wrap ((IntKind.u64.wrap (IntKind.i64.wrap ((x : Int) + y))).fdiv (2 ^ (min (1 : Int).toNat IntKind.u64.bits))) = (((x + y) / 2 : Nat) : Int) := by
 have e : (2 : Int) ^ (min (1 : Int).toNat IntKind.u64.bits) = 2 := by decide
 rw [e, i64_in (n := (x : Int) + y) (by omega), u64_in (by omega), Int.fdiv_eq_ediv_of_nonneg _ (by omega), i64_in (by omega)]
 omega

end Go.Proofs.YtigcheamheiopaaGreat
end

section
/-
 Merging two sorted ranges (symMerge), and the stable sort of any number of items.
-/
namespace Go.Proofs.YtigcheamheiopaaGreat
open Go.Eng
set_option linter.unusedVariables false

theorem join4 {S E : List Int} {a s mid e b : Nat} (h1 : SrtK S E a s) (h2 : SrtK S E s mid) (h3 : SrtK S E mid e) (h4 : SrtK S E e b) (hc : ∀ x y, a ≤ x → x < mid → mid ≤ y → y < b → ky S E y ≤ ky S E x)
  (c1 : ∀ x y, a ≤ x → x < s → s ≤ y → y < mid → ky S E y ≤ ky S E x) (c2 : ∀ x y, mid ≤ x → x < e → e ≤ y → y < b → ky S E y ≤ ky S E x) : SrtK S E a b :=
 srtK_join (srtK_join h1 h2 c1) (srtK_join h3 h4 c2) hc

abbrev MP (S D : List Int) (a b : Nat) (D' : List Int) : Prop := Rw a b D D' ∧ (St S D → St S D') ∧ SrtK S D' a b

theorem rotI_step_up {D E : List Int} {a k : Nat} (h : Pm (rotI a (a + 1) (k + 1)) D E) (hk : a ≤ k) (hl : k + 1 < D.length) : Pm (rotI a (a + 1) (k + 2)) D (sw E k (k + 1)) := by
 have l := h.len
 refine ⟨by rw [sw_len, l], fun p => ?_⟩
 rw [sw_get _ _ _ _ (by (try dsimp only); omega) (by (try dsimp only); omega), h.at_, h.at_, h.at_]
 by_cases h1 : p = k + 1
 ·rw [if_pos h1]
  congr 1
  unfold rotI
  split <;> (try split) <;> (try split) <;> (try split) <;> omega
 ·rw [if_neg h1]
  by_cases h2 : p = k
  ·rw [if_pos h2]
   congr 1
   unfold rotI
   split <;> (try split) <;> (try split) <;> (try split) <;> omega
  ·rw [if_neg h2]
   congr 1
   unfold rotI
   split <;> (try split) <;> (try split) <;> (try split) <;> omega

theorem rotI_step_down {D E : List Int} {m k : Nat} (h : Pm (rotI (k + 1) m (m + 1)) D E) (hk : k + 1 ≤ m) (hl : m < D.length) : Pm (rotI k m (m + 1)) D (sw E (k + 1) k) := by
 have l := h.len
 refine ⟨by rw [sw_len, l], fun p => ?_⟩
 rw [sw_get _ _ _ _ (by (try dsimp only); omega) (by (try dsimp only); omega), h.at_, h.at_, h.at_]
 by_cases h1 : p = k
 ·rw [if_pos h1]
  congr 1
  unfold rotI
  split <;> (try split) <;> (try split) <;> (try split) <;> omega
 ·rw [if_neg h1]
  by_cases h2 : p = k + 1
  ·rw [if_pos h2]
   congr 1
   unfold rotI
   split <;> (try split) <;> (try split) <;> (try split) <;> omega
  ·rw [if_neg h2]
   congr 1
   unfold rotI
   split <;> (try split) <;> (try split) <;> (try split) <;> omega

section
variable {ob cb : Nat} {z : Sl} {S : List Int}

theorem sym1 (H0 : Heap) {D : List Int} (c : SC H0 ob cb z S) (hD : OB H0 ob D) (hr : ∀ x ∈ D, 0 ≤ x ∧ x < S.length) (hn : D.length ≤ 100000) (a m b : Nat) (hm : m = a + 1) (hmb : m < b) (hb : b ≤ D.length) (k2 : SrtK S D m b) :
  ∃ I_ : Int → Int → Heap → Prop, ∃ M_ : Int → Int → Heap → Nat, I_ m b H0 ∧ (∀ i : Int, ∀ j : Int, ∀ H1 : Heap, I_ i j H1 → F_slices_symMergeCmpFunc_int_r2 (SP ob H0 (MP S D a b)) ⟨some ⟨ob, 0, none⟩, D.length, D.length⟩ a ⟨cb, 0, none⟩ I_ M_ i j H1) := by
 refine ⟨fun x y H' => ∃ i j : Nat, x = i ∧ y = j ∧ m ≤ i ∧ i ≤ j ∧ j ≤ b ∧ H' = H0 ∧ (∀ x, m ≤ x → x < i → ky S D a < ky S D x) ∧ (∀ x, j ≤ x → x < b → ky S D x ≤ ky S D a), fun x y _ => (y - x).toNat, ⟨m, b, rfl, rfl, Nat.le_refl _, by (try dsimp only); omega, Nat.le_refl _, rfl, fun x h1 h2 => by (try dsimp only); omega, fun x h1 h2 => by (try dsimp only); omega⟩, ?_⟩
 rintro x y H1 ⟨i, j, rfl, rfl, hi, hij, hj, rfl, q1, q2⟩
 unfold F_slices_symMergeCmpFunc_int_r2
 refine iteB_dec (fun d => ⟨by (try dsimp only); omega, letV_mk _ (half_spec i j (by (try dsimp only); omega)) ?_⟩) (fun d => ?_)
 ·have hh : i ≤ (i + j) / 2 ∧ (i + j) / 2 < j := by (try dsimp only); omega
  generalize (i + j) / 2 = h at hh ⊢
  have hx := hr _ (getD_mem' (l := D) (k := h) 0 (by (try dsimp only); omega))
  have hx1 := hr _ (getD_mem' (l := D) (k := a) 0 (by (try dsimp only); omega))
  refine ⟨by (try dsimp only); omega, by (try dsimp only); omega, unSome_mk rfl ⟨_, hD.at (by (try dsimp only); omega), by (try dsimp only); omega, by (try dsimp only); omega, unSome_mk rfl ⟨_, hD.at (by (try dsimp only); omega), (cmp_spec c _ _ hx hx1).mono ?_⟩⟩⟩
  rintro v H3 ⟨⟨r, rfl, hrr⟩, rfl⟩
  refine ⟨r, rfl, iteB_dec (fun d2 => letV_mk ((h + 1 : Nat) : Int) (by rw [i64_in (by (try dsimp only); omega)]; omega) ⟨⟨h + 1, j, rfl, rfl, by (try dsimp only); omega, by (try dsimp only); omega, by (try dsimp only); omega, rfl, fun x h1 h2 => ?_, q2⟩, by (try dsimp only); omega⟩) (fun d2 => ⟨⟨i, h, rfl, rfl, by (try dsimp only); omega, by (try dsimp only); omega, by (try dsimp only); omega, rfl, q1, fun x h1 h2 => ?_⟩, by (try dsimp only); omega⟩)⟩
  ·have : ky S D a < ky S D h := hrr.1 d2
   by_cases e : x = h
   ·rw [e]; exact this
   ·have := k2 x h (by (try dsimp only); omega) (by (try dsimp only); omega) (by (try dsimp only); omega); omega
  ·have : ¬ ky S D a < ky S D h := fun t => d2 (hrr.2 t)
   by_cases e : x = h
   ·rw [e]; omega
   ·have := k2 h x (by (try dsimp only); omega) (by (try dsimp only); omega) (by (try dsimp only); omega); omega
 ·obtain rfl : i = j := by (try dsimp only); omega
  refine ⟨fun x H' => ∃ k : Nat, x = k ∧ a ≤ k ∧ k + 1 ≤ i ∧ ∃ D1, OB H' ob D1 ∧ Mods [ob] H1 H' ∧ Rw a b D D1 ∧ Pm (rotI a (a + 1) (k + 1)) D D1, fun x _ => (i - x).toNat, ⟨a, rfl, Nat.le_refl _, by (try dsimp only); omega, D, hD, .refl _ _, .refl _ _ _, rfl, fun p => by unfold rotI; congr 1; split <;> (try split) <;> omega⟩, ?_⟩
  rintro x H3 ⟨k, rfl, hk1, hk2, D1, o1, m1, r1, p1⟩
  unfold F_slices_symMergeCmpFunc_int_r1
  have l1 := r1.len
  have e0 : IntKind.i64.wrap ((i : Int) - 1) = ((i - 1 : Nat) : Int) := by rw [i64_in (by (try dsimp only); omega)]; omega
  have e1 : IntKind.i64.wrap ((k : Int) + 1) = ((k + 1 : Nat) : Int) := by rw [i64_in (by (try dsimp only); omega)]; omega
  simp only [e0, e1]
  refine iteB_dec (fun d3 => ?_) (fun d3 => ⟨rfl, D1, o1, m1, r1, ?_⟩)
  ·refine ⟨by (try dsimp only); omega, by (try dsimp only); omega, unSome_mk rfl ⟨_, o1.at (by (try dsimp only); omega), by (try dsimp only); omega, by (try dsimp only); omega, unSome_mk rfl ⟨_, o1.at (by (try dsimp only); omega), by (try dsimp only); omega, by (try dsimp only); omega, unSome_mk rfl ⟨o1.ok (by (try dsimp only); omega), letH_mk ?_⟩⟩⟩⟩
   intro H4 h4
   have o4 : OB H4 ob (D1.set k (D1.getD (k + 1) 0)) := by rw [h4]; exact o1.set (by (try dsimp only); omega) _
   have m4 : Mods [ob] H3 H4 := by rw [h4]; exact mods_wr_add (by simp)
   clear h4
   refine ⟨by (try dsimp only); omega, by (try dsimp only); omega, unSome_mk rfl ⟨o4.ok (by simp; omega), letH_mk ?_⟩⟩
   intro H5 h5
   have o5 : OB H5 ob (sw D1 k (k + 1)) := by rw [h5]; exact o4.set (by simp; omega) _
   have m5 : Mods [ob] H4 H5 := by rw [h5]; exact mods_wr_add (by simp)
   clear h5
   exact letV_mk _ rfl ⟨⟨k + 1, rfl, by (try dsimp only); omega, by (try dsimp only); omega, _, o5, (m1.trans m4).trans m5, r1.trans (sw_rw D1 (by (try dsimp only); omega) (by (try dsimp only); omega) (by (try dsimp only); omega)), rotI_step_up p1 (by (try dsimp only); omega) (by (try dsimp only); omega)⟩, by (try dsimp only); omega⟩
  ·obtain rfl : i = k + 1 := by (try dsimp only); omega
   subst hm
   have hx : ∀ x y, a ≤ x → x < a + 1 → a + 1 ≤ y → y < k + 1 → ky S D x < ky S D y := fun x y h1 h2 h3 h4 => by
    obtain rfl : x = a := by (try dsimp only); omega
    exact q1 y h3 h4
   obtain ⟨t1, t2, t3, t4, t5⟩ := rot_parts (S := S) (a := a) (s := a) (m := a + 1) (e := k + 1) (b := b) (mid := k) (Nat.le_refl _) (by (try dsimp only); omega) (by (try dsimp only); omega) (by (try dsimp only); omega) (by (try dsimp only); omega) p1 (fun p q h1 h2 h3 => by (try dsimp only); omega) k2 hx (fun x y h1 h2 h3 h4 => by (try dsimp only); omega)
   refine ⟨rot_st (by (try dsimp only); omega) (by (try dsimp only); omega) (by (try dsimp only); omega) p1 hx, join4 t1 t2 t3 t4 t5 (fun x y h1 h2 h3 h4 => by (try dsimp only); omega) (fun x y h1 h2 h3 h4 => ?_)⟩
   obtain rfl : x = k := by (try dsimp only); omega
   have e3 : ky S D1 y = ky S D y := by unfold ky; rw [rot_hi p1 (by (try dsimp only); omega)]
   have e4 : ky S D1 x = ky S D a := by unfold ky; rw [rot_2 p1 (by (try dsimp only); omega) (by (try dsimp only); omega) (by (try dsimp only); omega) (by (try dsimp only); omega)]; congr 2; omega
   rw [e3, e4]
   exact q2 y h3 h4

theorem sym2 (H0 : Heap) {D : List Int} (c : SC H0 ob cb z S) (hD : OB H0 ob D) (hr : ∀ x ∈ D, 0 ≤ x ∧ x < S.length) (hn : D.length ≤ 100000) (a m b : Nat) (hm : b = m + 1) (ham : a < m) (hb : b ≤ D.length) (k1 : SrtK S D a m) :
  ∃ I_ : Int → Int → Heap → Prop, ∃ M_ : Int → Int → Heap → Nat, I_ a m H0 ∧ (∀ i : Int, ∀ j : Int, ∀ H1 : Heap, I_ i j H1 → F_slices_symMergeCmpFunc_int_r4 (SP ob H0 (MP S D a b)) ⟨some ⟨ob, 0, none⟩, D.length, D.length⟩ m ⟨cb, 0, none⟩ I_ M_ i j H1) := by
 refine ⟨fun x y H' => ∃ i j : Nat, x = i ∧ y = j ∧ a ≤ i ∧ i ≤ j ∧ j ≤ m ∧ H' = H0 ∧ (∀ x, a ≤ x → x < i → ky S D m ≤ ky S D x) ∧ (∀ x, j ≤ x → x < m → ky S D x < ky S D m), fun x y _ => (y - x).toNat, ⟨a, m, rfl, rfl, Nat.le_refl _, by (try dsimp only); omega, Nat.le_refl _, rfl, fun x h1 h2 => by (try dsimp only); omega, fun x h1 h2 => by (try dsimp only); omega⟩, ?_⟩
 rintro x y H1 ⟨i, j, rfl, rfl, hi, hij, hj, rfl, q1, q2⟩
 unfold F_slices_symMergeCmpFunc_int_r4
 refine iteB_dec (fun d => ⟨by (try dsimp only); omega, letV_mk _ (half_spec i j (by (try dsimp only); omega)) ?_⟩) (fun d => ?_)
 ·have hh : i ≤ (i + j) / 2 ∧ (i + j) / 2 < j := by (try dsimp only); omega
  generalize (i + j) / 2 = h at hh ⊢
  have hx := hr _ (getD_mem' (l := D) (k := m) 0 (by (try dsimp only); omega))
  have hx1 := hr _ (getD_mem' (l := D) (k := h) 0 (by (try dsimp only); omega))
  refine ⟨by (try dsimp only); omega, by (try dsimp only); omega, unSome_mk rfl ⟨_, hD.at (by (try dsimp only); omega), by (try dsimp only); omega, by (try dsimp only); omega, unSome_mk rfl ⟨_, hD.at (by (try dsimp only); omega), (cmp_spec c _ _ hx hx1).mono ?_⟩⟩⟩
  rintro v H3 ⟨⟨r, rfl, hrr⟩, rfl⟩
  refine ⟨r, rfl, iteB_not (fun d2 => letV_mk ((h + 1 : Nat) : Int) (by rw [i64_in (by (try dsimp only); omega)]; omega) ⟨⟨h + 1, j, rfl, rfl, by (try dsimp only); omega, by (try dsimp only); omega, by (try dsimp only); omega, rfl, fun x h1 h2 => ?_, q2⟩, by (try dsimp only); omega⟩) (fun d2 => ⟨⟨i, h, rfl, rfl, by (try dsimp only); omega, by (try dsimp only); omega, by (try dsimp only); omega, rfl, q1, fun x h1 h2 => ?_⟩, by (try dsimp only); omega⟩)⟩
  ·have : ¬ ky S D h < ky S D m := fun t => by simp [hrr.2 t] at d2
   by_cases e : x = h
   ·rw [e]; omega
   ·have := k1 x h (by (try dsimp only); omega) (by (try dsimp only); omega) (by (try dsimp only); omega); omega
  ·have : ky S D h < ky S D m := hrr.1 (by simpa using d2)
   by_cases e : x = h
   ·rw [e]; exact this
   ·have := k1 h x (by (try dsimp only); omega) (by (try dsimp only); omega) (by (try dsimp only); omega); omega
 ·obtain rfl : i = j := by (try dsimp only); omega
  refine ⟨fun x H' => ∃ k : Nat, x = k ∧ i ≤ k ∧ k ≤ m ∧ ∃ D1, OB H' ob D1 ∧ Mods [ob] H1 H' ∧ Rw a b D D1 ∧ Pm (rotI k m (m + 1)) D D1, fun x _ => x.toNat, ⟨m, rfl, by (try dsimp only); omega, Nat.le_refl _, D, hD, .refl _ _, .refl _ _ _, rfl, fun p => by unfold rotI; congr 1; split <;> (try split) <;> omega⟩, ?_⟩
  rintro x H3 ⟨k, rfl, hk1, hk2, D1, o1, m1, r1, p1⟩
  unfold F_slices_symMergeCmpFunc_int_r3
  have l1 := r1.len
  refine iteB_dec (fun d3 => ?_) (fun d3 => ⟨rfl, D1, o1, m1, r1, ?_⟩)
  ·obtain ⟨k, rfl⟩ : ∃ u, k = u + 1 := ⟨k - 1, by (try dsimp only); omega⟩
   have e1 : IntKind.i64.wrap (((k + 1 : Nat) : Int) - 1) = (k : Int) := by rw [i64_in (by (try dsimp only); omega)]; omega
   simp only [e1]
   refine ⟨by (try dsimp only); omega, by (try dsimp only); omega, unSome_mk rfl ⟨_, o1.at (by (try dsimp only); omega), by (try dsimp only); omega, by (try dsimp only); omega, unSome_mk rfl ⟨_, o1.at (by (try dsimp only); omega), by (try dsimp only); omega, by (try dsimp only); omega, unSome_mk rfl ⟨o1.ok (by (try dsimp only); omega), letH_mk ?_⟩⟩⟩⟩
   intro H4 h4
   have o4 : OB H4 ob (D1.set (k + 1) (D1.getD k 0)) := by rw [h4]; exact o1.set (by (try dsimp only); omega) _
   have m4 : Mods [ob] H3 H4 := by rw [h4]; exact mods_wr_add (by simp)
   clear h4
   refine ⟨by (try dsimp only); omega, by (try dsimp only); omega, unSome_mk rfl ⟨o4.ok (by simp; omega), letH_mk ?_⟩⟩
   intro H5 h5
   have o5 : OB H5 ob (sw D1 (k + 1) k) := by rw [h5]; exact o4.set (by simp; omega) _
   have m5 : Mods [ob] H4 H5 := by rw [h5]; exact mods_wr_add (by simp)
   clear h5
   exact letV_mk _ rfl ⟨⟨k, rfl, by (try dsimp only); omega, by (try dsimp only); omega, _, o5, (m1.trans m4).trans m5, r1.trans (sw_rw D1 (by (try dsimp only); omega) (by (try dsimp only); omega) (by (try dsimp only); omega)), rotI_step_down p1 (by (try dsimp only); omega) (by (try dsimp only); omega)⟩, by (try dsimp only); omega⟩
  ·obtain rfl : k = i := by (try dsimp only); omega
   subst hm
   have hx : ∀ x y, k ≤ x → x < m → m ≤ y → y < m + 1 → ky S D x < ky S D y := fun x y h1 h2 h3 h4 => by
    obtain rfl : y = m := by (try dsimp only); omega
    exact q2 x h1 h2
   obtain ⟨t1, t2, t3, t4, t5⟩ := rot_parts (S := S) (a := a) (s := k) (m := m) (e := m + 1) (b := m + 1) (mid := k + 1) hi (by (try dsimp only); omega) (by (try dsimp only); omega) (by (try dsimp only); omega) (by (try dsimp only); omega) p1 k1 (fun p q h1 h2 h3 => by (try dsimp only); omega) hx (fun x y h1 h2 h3 h4 => by (try dsimp only); omega)
   refine ⟨rot_st (by (try dsimp only); omega) (by (try dsimp only); omega) (by (try dsimp only); omega) p1 hx, join4 t1 t2 t3 t4 t5 (fun x y h1 h2 h3 h4 => ?_) (fun x y h1 h2 h3 h4 => by (try dsimp only); omega)⟩
   obtain rfl : y = k := by (try dsimp only); omega
   have e3 : ky S D1 x = ky S D x := by unfold ky; rw [rot_lo p1 (by (try dsimp only); omega)]
   have e4 : ky S D1 y = ky S D m := by unfold ky; rw [rot_1 p1 (by (try dsimp only); omega) (by (try dsimp only); omega) (by (try dsimp only); omega) (by (try dsimp only); omega)]; congr 2; omega
   rw [e3, e4]
   exact q1 x h1 h2

def SymIH (ob cb : Nat) (z : Sl) (S : List Int) (k : Nat) : Prop := ∀ (H0 : Heap) (D : List Int) (a m b : Nat), b - a ≤ k → a < m → m < b → b ≤ D.length → SC H0 ob cb z S → OB H0 ob D → (∀ x ∈ D, 0 ≤ x ∧ x < S.length) → D.length ≤ 100000 → SrtK S D a m → SrtK S D m b →
 CallsH Tryz.prog n_slices_symMergeCmpFunc_int #[.slice (some ⟨ob, 0, none⟩) D.length D.length, .int .i64 (a : Int), .int .i64 (m : Int), .int .i64 (b : Int), .func (.func 68) #[] #[.pointer (some ⟨cb, 0, none⟩)]] H0 (SP ob H0 (MP S D a b))

def Ph (S D : List Int) (a s mid e b : Nat) (D1 : List Int) : Prop := Rw a b D D1 ∧ (St S D → St S D1) ∧ SrtK S D1 a s ∧ SrtK S D1 s mid ∧ SrtK S D1 mid e ∧ SrtK S D1 e b ∧ ∀ x y, a ≤ x → x < mid → mid ≤ y → y < b → ky S D1 y ≤ ky S D1 x
def Ph2 (S D : List Int) (a mid e b : Nat) (D1 : List Int) : Prop := Rw a b D D1 ∧ (St S D → St S D1) ∧ SrtK S D1 a mid ∧ SrtK S D1 mid e ∧ SrtK S D1 e b ∧ ∀ x y, a ≤ x → x < mid → mid ≤ y → y < b → ky S D1 y ≤ ky S D1 x

theorem sym_left (k : Nat) (ih : SymIH ob cb z S k) (H0 : Heap) {D : List Int} (c : SC H0 ob cb z S) (hr : ∀ x ∈ D, 0 ≤ x ∧ x < S.length) (hn : D.length ≤ 100000) (a s mid e b : Nat) (h1 : a ≤ s) (h2 : s ≤ mid) (h3 : mid < b) (hb : b ≤ D.length) (hk : mid - a ≤ k) {H1 : Heap} {D1 : List Int} (o1 : OB H1 ob D1) (m1 : Mods [ob] H0 H1) (p1 : Ph S D a s mid e b D1)
  {x : Bool} (hx : x = decide (a < s ∧ s < mid)) {J : Heap → Prop} (hJ : ∀ H' D2, OB H' ob D2 → Mods [ob] H0 H' → Ph2 S D a mid e b D2 → J H') : F_slices_symMergeCmpFunc_int_k6 ⟨some ⟨ob, 0, none⟩, D.length, D.length⟩ a ⟨cb, 0, none⟩ mid s J x H1 := by
 unfold F_slices_symMergeCmpFunc_int_k6
 obtain ⟨r1, s1, t1, t2, t3, t4, t5⟩ := p1
 have l1 := r1.len
 subst hx
 refine iteB_dec (fun d => ?_) (fun d => ?_)
 ·have := ih H1 D1 a s mid hk d.1 d.2 (by (try dsimp only); omega) (c.mods m1) o1 (r1.mem hr) (by (try dsimp only); omega) t1 t2
  rw [l1] at this
  refine this.mono ?_
  rintro v H2 ⟨rfl, D2, o2, m2, r2, s2, q2⟩
  refine ⟨rfl, hJ H2 D2 o2 (m1.trans m2) ⟨r1.trans (r2.mono (by (try dsimp only); omega) (by (try dsimp only); omega)), fun h => s2 (s1 h), q2, srtK_out t3 r2 (by (try dsimp only); omega), ?_, fun x y g1 g2 g3 g4 => ?_⟩⟩
  ·exact fun x y g1 g2 g3 => by
    by_cases he : mid ≤ x
    ·rw [ky_out r2 (by (try dsimp only); omega), ky_out r2 (by (try dsimp only); omega)]; exact t4 x y g1 g2 g3
    ·by_cases hy : mid ≤ y
     ·rw [ky_out (p := y) r2 (by (try dsimp only); omega)]
      by_cases hax : a ≤ x
      ·obtain ⟨u, u1, u2, u3⟩ := ky_in (S := S) r2 hax (by (try dsimp only); omega)
       rw [u3]; exact t5 u y u1 u2 hy g3
      ·rw [ky_out (p := x) r2 (by (try dsimp only); omega)]; exact t4 x y g1 g2 g3
     ·by_cases hax : a ≤ x
      ·exact q2 x y hax g2 (by (try dsimp only); omega)
      ·by_cases hay : a ≤ y
       ·obtain ⟨u, u1, u2, u3⟩ := ky_in (S := S) r2 hay (by (try dsimp only); omega)
        rw [u3, ky_out (p := x) r2 (by (try dsimp only); omega)]; exact t4 x u g1 (by (try dsimp only); omega) (by (try dsimp only); omega)
       ·rw [ky_out (p := x) r2 (by (try dsimp only); omega), ky_out (p := y) r2 (by (try dsimp only); omega)]; exact t4 x y g1 g2 g3
  ·obtain ⟨u, u1, u2, u3⟩ := ky_in (S := S) r2 g1 g2
   rw [u3, ky_out (p := y) r2 (by (try dsimp only); omega)]
   exact t5 u y u1 u2 g3 g4
 ·refine hJ H1 D1 o1 m1 ⟨r1, s1, ?_, t3, t4, t5⟩
  by_cases ha : a = s
  ·rw [ha]; exact t2
  ·rw [show mid = s by (try dsimp only); omega]; exact t1

theorem sym_right (k : Nat) (ih : SymIH ob cb z S k) (H0 : Heap) {D : List Int} (c : SC H0 ob cb z S) (hr : ∀ x ∈ D, 0 ≤ x ∧ x < S.length) (hn : D.length ≤ 100000) (a mid e b : Nat) (h1 : a < mid) (h2 : mid ≤ e) (h3 : e ≤ b) (hb : b ≤ D.length) (hk : b - mid ≤ k) {H1 : Heap} {D1 : List Int} (o1 : OB H1 ob D1) (m1 : Mods [ob] H0 H1) (p1 : Ph2 S D a mid e b D1)
  {x : Bool} (hx : x = decide (mid < e ∧ e < b)) : F_slices_symMergeCmpFunc_int_k7 (SP ob H0 (MP S D a b)) ⟨some ⟨ob, 0, none⟩, D.length, D.length⟩ b ⟨cb, 0, none⟩ mid e x H1 := by
 unfold F_slices_symMergeCmpFunc_int_k7
 obtain ⟨r1, s1, t1, t3, t4, t5⟩ := p1
 have l1 := r1.len
 subst hx
 refine iteB_dec (fun d => ?_) (fun d => ?_)
 ·have := ih H1 D1 mid e b hk d.1 d.2 (by (try dsimp only); omega) (c.mods m1) o1 (r1.mem hr) (by (try dsimp only); omega) t3 t4
  rw [l1] at this
  refine this.mono ?_
  rintro v H2 ⟨rfl, D2, o2, m2, r2, s2, q2⟩
  refine ⟨rfl, rfl, D2, o2, m1.trans m2, r1.trans (r2.mono (by (try dsimp only); omega) (by (try dsimp only); omega)), fun h => s2 (s1 h), srtK_join (srtK_out t1 r2 (by (try dsimp only); omega)) q2 (fun x y g1 g2 g3 g4 => ?_)⟩
  obtain ⟨u, u1, u2, u3⟩ := ky_in (S := S) r2 g3 g4
  rw [u3, ky_out (p := x) r2 (by (try dsimp only); omega)]
  exact t5 x u g1 g2 u1 u2
 ·refine ⟨rfl, D1, o1, m1, r1, s1, srtK_join t1 ?_ t5⟩
  by_cases ha : mid = e
  ·rw [ha]; exact t4
  ·rw [show b = e by (try dsimp only); omega]; exact t3

theorem sym_main (k : Nat) (ih : SymIH ob cb z S k) (H0 : Heap) {D : List Int} (c : SC H0 ob cb z S) (hD : OB H0 ob D) (hr : ∀ x ∈ D, 0 ≤ x ∧ x < S.length) (hn : D.length ≤ 100000) (a m b mid s0 r0 : Nat) (ham : a < m) (hmb : m < b) (hb : b ≤ D.length) (hmid : mid = (a + b) / 2) (hk : b - a ≤ k + 1)
  (k1 : SrtK S D a m) (k2 : SrtK S D m b) (hs0 : a ≤ s0) (hsr : s0 ≤ r0) (hr1 : r0 ≤ mid) (hr2 : r0 ≤ m) (hr3 : r0 = mid ∨ r0 = m) (he : mid + m - s0 ≤ b) (hs : s0 = a ∨ mid + m - s0 = b) :
  F_slices_symMergeCmpFunc_int_k11 (SP ob H0 (MP S D a b)) ⟨some ⟨ob, 0, none⟩, D.length, D.length⟩ a m b ⟨cb, 0, none⟩ mid ((mid + m : Nat) : Int) s0 r0 H0 := by
 unfold F_slices_symMergeCmpFunc_int_k11
 refine letV_mk ((mid + m - 1 : Nat) : Int) (by rw [i64_in (by (try dsimp only); omega)]; omega) ?_
 refine ⟨fun x y H' => ∃ s r : Nat, x = s ∧ y = r ∧ s0 ≤ s ∧ s ≤ r ∧ r ≤ r0 ∧ H' = H0 ∧ (s = s0 ∨ ky S D (mid + m - s) ≤ ky S D (s - 1)) ∧ (r = r0 ∨ ky S D r < ky S D (mid + m - 1 - r)), fun x y _ => (y - x).toNat, ⟨s0, r0, rfl, rfl, Nat.le_refl _, hsr, Nat.le_refl _, rfl, .inl rfl, .inl rfl⟩, ?_⟩
 rintro x y H1 ⟨s, r, rfl, rfl, q1, q2, q3, rfl, q4, q5⟩
 unfold F_slices_symMergeCmpFunc_int_r10
 refine iteB_dec (fun d => ⟨by (try dsimp only); omega, letV_mk _ (half_spec s r (by (try dsimp only); omega)) ?_⟩) (fun d => ?_)
 ·have hh : s ≤ (s + r) / 2 ∧ (s + r) / 2 < r := by (try dsimp only); omega
  generalize (s + r) / 2 = h at hh ⊢
  have e1 : IntKind.i64.wrap (((mid + m - 1 : Nat) : Int) - h) = ((mid + m - 1 - h : Nat) : Int) := by rw [i64_in (by (try dsimp only); omega)]; omega
  simp only [e1]
  have hx := hr _ (getD_mem' (l := D) (k := mid + m - 1 - h) 0 (by (try dsimp only); omega))
  have hx1 := hr _ (getD_mem' (l := D) (k := h) 0 (by (try dsimp only); omega))
  refine ⟨by (try dsimp only); omega, by (try dsimp only); omega, unSome_mk rfl ⟨_, hD.at (by (try dsimp only); omega), by (try dsimp only); omega, by (try dsimp only); omega, unSome_mk rfl ⟨_, hD.at (by (try dsimp only); omega), (cmp_spec c _ _ hx hx1).mono ?_⟩⟩⟩
  rintro v H3 ⟨⟨r', rfl, hrr⟩, rfl⟩
  refine ⟨r', rfl, iteB_not (fun d2 => letV_mk ((h + 1 : Nat) : Int) (by rw [i64_in (by (try dsimp only); omega)]; omega) ⟨⟨h + 1, r, rfl, rfl, by (try dsimp only); omega, by (try dsimp only); omega, by (try dsimp only); omega, rfl, .inr ?_, q5⟩, by (try dsimp only); omega⟩) (fun d2 => ⟨⟨s, h, rfl, rfl, by (try dsimp only); omega, by (try dsimp only); omega, by (try dsimp only); omega, rfl, q4, .inr ?_⟩, by (try dsimp only); omega⟩)⟩
  ·have : ¬ ky S D h < ky S D (mid + m - 1 - h) := fun t => by simp [hrr.2 t] at d2
   rw [show mid + m - (h + 1) = mid + m - 1 - h by (try dsimp only); omega, show h + 1 - 1 = h by (try dsimp only); omega]
   omega
  ·exact hrr.1 (by simpa using d2)
 ·obtain rfl : s = r := by (try dsimp only); omega
  generalize hee : mid + m - s = e
  refine letV_mk (e : Int) (by rw [i64_in (by (try dsimp only); omega)]; omega) ?_
  have hx : ∀ x y, s ≤ x → x < m → m ≤ y → y < e → ky S D x < ky S D y := fun x y g1 g2 g3 g4 => by
   have := q5.resolve_left (by (try dsimp only); omega)
   rw [show mid + m - 1 - s = e - 1 by (try dsimp only); omega] at this
   have a1 : ky S D x ≤ ky S D s := by
    by_cases h : x = s
    ·rw [h]; exact Int.le_refl _
    ·exact k1 s x (by (try dsimp only); omega) (by (try dsimp only); omega) g2
   have a2 : ky S D (e - 1) ≤ ky S D y := by
    by_cases h : y = e - 1
    ·rw [h]; exact Int.le_refl _
    ·exact k2 y (e - 1) g3 (by (try dsimp only); omega) (by (try dsimp only); omega)
   omega
  have ho : ∀ x y, a ≤ x → x < s → e ≤ y → y < b → ky S D y ≤ ky S D x := fun x y g1 g2 g3 g4 => by
   have := q4.resolve_left (by (try dsimp only); omega)
   rw [hee] at this
   have a1 : ky S D (s - 1) ≤ ky S D x := by
    by_cases h : x = s - 1
    ·rw [h]; exact Int.le_refl _
    ·exact k1 x (s - 1) g1 (by (try dsimp only); omega) (by (try dsimp only); omega)
   have a2 : ky S D y ≤ ky S D e := by
    by_cases h : y = e
    ·rw [h]; exact Int.le_refl _
    ·exact k2 e y (by (try dsimp only); omega) (by (try dsimp only); omega) g4
   omega
  have fin : ∀ D1, Rw a b D D1 → Pm (rotI s m e) D D1 → Ph S D a s mid e b D1 := fun D1 w1 w2 => ⟨w1, rot_st (by (try dsimp only); omega) (by (try dsimp only); omega) (by (try dsimp only); omega) w2 hx, rot_parts (by (try dsimp only); omega) (by (try dsimp only); omega) (by (try dsimp only); omega) (by (try dsimp only); omega) (by (try dsimp only); omega) w2 k1 k2 hx ho⟩
  refine ⟨fun H' => ∃ D1, OB H' ob D1 ∧ Mods [ob] H1 H' ∧ Ph S D a s mid e b D1, ⟨fun x H' => x = decide (s < m ∧ m < e) ∧ H' = H1, ?_, ?_⟩, ?_⟩
  ·refine iteB_dec (fun d1 => ⟨by simp [show s < m by (try dsimp only); omega], rfl⟩) (fun d1 => ⟨by symm; rw [decide_eq_false_iff_not]; omega, rfl⟩)
  ·rintro x H2 ⟨rfl, rfl⟩
   unfold F_slices_symMergeCmpFunc_int_k5
   refine iteB_dec (fun d1 => (rotate_spec H2 hD hn s m e d1.1 d1.2 (by (try dsimp only); omega)).mono ?_) (fun d1 => ⟨D, hD, .refl _ _, fin D (.refl _ _ _) ⟨rfl, fun p => by unfold rotI; congr 1; split <;> (try split) <;> omega⟩⟩)
   rintro v H3 ⟨rfl, D1, o1, m1, w1, w2⟩
   exact ⟨rfl, D1, o1, m1, fin D1 (w1.mono (by (try dsimp only); omega) (by (try dsimp only); omega)) w2⟩
  ·rintro H2 ⟨D1, o1, m1, p1⟩
   unfold F_slices_symMergeCmpFunc_int_k9
   refine ⟨fun H' => ∃ D2, OB H' ob D2 ∧ Mods [ob] H1 H' ∧ Ph2 S D a mid e b D2, ⟨fun x H' => x = decide (a < s ∧ s < mid) ∧ H' = H2, ?_, ?_⟩, ?_⟩
   ·refine iteB_dec (fun d1 => ⟨by simp [show a < s by (try dsimp only); omega], rfl⟩) (fun d1 => ⟨by symm; rw [decide_eq_false_iff_not]; omega, rfl⟩)
   ·rintro x H3 ⟨hx3, rfl⟩
    exact sym_left k ih H1 c hr hn a s mid e b (by (try dsimp only); omega) (by (try dsimp only); omega) (by (try dsimp only); omega) hb (by (try dsimp only); omega) o1 m1 p1 hx3 (fun H' D2 o2 m2 p2 => ⟨D2, o2, m2, p2⟩)
   ·rintro H3 ⟨D2, o2, m2, p2⟩
    unfold F_slices_symMergeCmpFunc_int_k8
    refine ⟨fun x H' => x = decide (mid < e ∧ e < b) ∧ H' = H3, ?_, ?_⟩
    ·refine iteB_dec (fun d1 => ⟨by simp [show mid < e by (try dsimp only); omega], rfl⟩) (fun d1 => ⟨by symm; rw [decide_eq_false_iff_not]; omega, rfl⟩)
    ·rintro x H4 ⟨hx4, rfl⟩
     exact sym_right k ih H1 c hr hn a mid e b (by (try dsimp only); omega) (by (try dsimp only); omega) (by (try dsimp only); omega) hb (by (try dsimp only); omega) o2 m2 p2 hx4

theorem sym_all (k : Nat) : SymIH ob cb z S k := by
 induction k with
 | zero => intro H0 D a m b h1 h2 h3; omega
 | succ k ih =>
  intro H0 D a m b hk ham hmb hb c hD hr hn k1 k2
  refine F_slices_symMergeCmpFunc_int_ok ⟨some ⟨ob, 0, none⟩, D.length, D.length⟩ _ _ _ _ ?_
  unfold F_slices_symMergeCmpFunc_int
  have e1 : IntKind.i64.wrap ((m : Int) - a) = ((m - a : Nat) : Int) := by rw [i64_in (by (try dsimp only); omega)]; omega
  have e2 : IntKind.i64.wrap ((b : Int) - m) = ((b - m : Nat) : Int) := by rw [i64_in (by (try dsimp only); omega)]; omega
  rw [e1, e2]
  refine iteB_beq (fun d => sym1 H0 c hD hr hn a m b (by (try dsimp only); omega) hmb hb k2) (fun d => iteB_beq (fun d1 => sym2 H0 c hD hr hn a m b (by (try dsimp only); omega) ham hb k1) (fun d1 => ⟨by (try dsimp only); omega, letV_mk _ (half_spec a b (by (try dsimp only); omega)) ?_⟩))
  generalize hmid : (a + b) / 2 = mid
  refine letV_mk ((mid + m : Nat) : Int) (by rw [i64_in (by (try dsimp only); omega)]; omega) ?_
  refine ⟨fun s r H' => H' = H0 ∧ ∃ s0 r0 : Nat, s = s0 ∧ r = r0 ∧ a ≤ s0 ∧ s0 ≤ r0 ∧ r0 ≤ mid ∧ r0 ≤ m ∧ (r0 = mid ∨ r0 = m) ∧ mid + m - s0 ≤ b ∧ (s0 = a ∨ mid + m - s0 = b), ?_, ?_⟩
  ·refine iteB_dec (fun d2 => letV_mk ((mid + m - b : Nat) : Int) (by rw [i64_in (by (try dsimp only); omega)]; omega) ⟨rfl, mid + m - b, mid, rfl, rfl, by (try dsimp only); omega, by (try dsimp only); omega, by (try dsimp only); omega, by (try dsimp only); omega, .inl rfl, by (try dsimp only); omega, .inr (by (try dsimp only); omega)⟩) (fun d2 => ⟨rfl, a, m, rfl, rfl, by (try dsimp only); omega, by (try dsimp only); omega, by (try dsimp only); omega, by (try dsimp only); omega, .inr rfl, by (try dsimp only); omega, .inl rfl⟩)
  ·rintro s r H1 ⟨rfl, s0, r0, rfl, rfl, g1, g2, g3, g4, g5, g6, g7⟩
   exact sym_main k ih H1 c hD hr hn a m b mid s0 r0 ham hmb hb hmid.symm (by (try dsimp only); omega) k1 k2 g1 g2 g3 g4 g5 g6 g7
end

end Go.Proofs.YtigcheamheiopaaGreat
end

section
/-
 The stable sort of any number of items.
-/
namespace Go.Proofs.YtigcheamheiopaaGreat
open Go.Eng
set_option linter.unusedVariables false

def Mg (S D : List Int) (w x n : Nat) : Prop := (∀ u, w * u + w * u + (w + w) ≤ x → SrtK S D (w * u + w * u) (w * u + w * u + (w + w))) ∧ (∀ u, SrtK S D (x + w * u) (min (x + w * u + w) n))

theorem rws_mg {S D : List Int} {w n : Nat} (h : Rws S D w n) : Mg S D w 0 n := ⟨fun u hu p q h1 h2 h3 => by omega, fun u => by rw [Nat.zero_add]; exact h u⟩

theorem mg_step {S D E : List Int} {w t n : Nat} (hw : 0 < w) (h : Mg S D w (w * t + w * t) n) (hb : w * t + w * t + (w + w) ≤ n) (r : Rw (w * t + w * t) (w * t + w * t + (w + w)) D E) (k : SrtK S E (w * t + w * t) (w * t + w * t + (w + w))) : Mg S E w (w * (t + 1) + w * (t + 1)) n := by
 have e : w * (t + 1) = w * t + w := by rw [Nat.mul_add, Nat.mul_one]
 rw [e]
 refine ⟨fun u hu => ?_, fun u => ?_⟩
 ·by_cases hut : u = t
  ·rw [hut]; exact k
  ·have hlt : w * u + w * u + (w + w) ≤ w * t + w * t := by
    have : u + 1 ≤ t := by
     rcases Nat.lt_or_ge u t with c | c
     ·exact c
     ·have : w * (t + 1) ≤ w * u := Nat.mul_le_mul_left _ (by omega)
      rw [e] at this
      omega
    have := Nat.mul_le_mul_left w this
    rw [Nat.mul_add, Nat.mul_one] at this
    omega
   exact srtK_out (h.1 u hlt) r (by omega)
 ·have h2 := h.2 (u + 2)
  have e2 : w * (u + 2) = w * u + (w + w) := by rw [Nat.mul_add]; omega
  rw [e2] at h2
  have e3 : w * t + w * t + (w * u + (w + w)) = w * t + w + (w * t + w) + w * u := by omega
  rw [e3] at h2
  exact srtK_out h2 r (by omega)

theorem mg_end {S D E : List Int} {w t n m : Nat} (h : Mg S D w (w * t + w * t) n) (hb : n < w * t + w * t + (w + w)) (r : Rw (w * t + w * t) n D E) (k : SrtK S E (w * t + w * t) n) : Rws S E (w + w) n := by
 intro u
 have e : (w + w) * u = w * u + w * u := by rw [Nat.add_mul]
 rw [e]
 rcases Nat.lt_trichotomy u t with c | c | c
 ·have := Nat.mul_le_mul_left w (show u + 1 ≤ t from c)
  rw [Nat.mul_add, Nat.mul_one] at this
  have h1 := srtK_out (h.1 u (by omega)) r (by omega)
  exact fun p q g1 g2 g3 => h1 p q g1 g2 (by omega)
 ·subst c
  exact fun p q g1 g2 g3 => k p q g1 g2 (by omega)
 ·have := Nat.mul_le_mul_left w (show t + 1 ≤ u from c)
  rw [Nat.mul_add, Nat.mul_one] at this
  exact fun p q g1 g2 g3 => by omega

theorem stableN_spec (H0 : Heap) {ob cb : Nat} {z : Sl} {S D : List Int} (c : SC H0 ob cb z S) (hD : OB H0 ob D) (hr : ∀ x ∈ D, 0 ≤ x ∧ x < S.length) (hn : D.length ≤ 10000) :
  CallsH Tryz.prog n_slices_stableCmpFunc_int #[.slice (some ⟨ob, 0, none⟩) D.length D.length, .int .i64 (D.length : Int), .func (.func 68) #[] #[.pointer (some ⟨cb, 0, none⟩)]] H0
   (SP ob H0 (fun D' => Rw 0 D.length D D' ∧ (St S D → St S D') ∧ SrtK S D' 0 D.length)) := by
 refine F_slices_stableCmpFunc_int_ok ⟨some ⟨ob, 0, none⟩, D.length, D.length⟩ _ _ ?_
 unfold F_slices_stableCmpFunc_int
 refine ⟨fun a b H' => ∃ t : Nat, a = ((20 * t : Nat) : Int) ∧ b = ((20 * t + 20 : Nat) : Int) ∧ 20 * t ≤ D.length ∧ ∃ D1, OB H' ob D1 ∧ Mods [ob] H0 H' ∧ Rw 0 D.length D D1 ∧ (St S D → St S D1) ∧ ∀ u, u < t → SrtK S D1 (20 * u) (20 * u + 20), fun a _ _ => (D.length - a).toNat, ⟨0, rfl, rfl, by omega, D, hD, .refl _ _, .refl _ _ _, id, fun u hu => by omega⟩, ?_⟩
 rintro a b H1 ⟨t, rfl, rfl, ht, D1, o1, m1, r1, s1, k1⟩
 unfold F_slices_stableCmpFunc_int_r3
 have l1 := r1.len
 have w1 := r1.mem hr
 have hins := fun (b : Nat) (hab : 20 * t ≤ b) (hb : b ≤ D1.length) => insertion_spec H1 (c.mods m1) o1 w1 (20 * t) b hab hb (by omega)
 rw [l1] at hins
 refine iteB_dec (fun d => (hins (20 * t + 20) (by omega) (by omega)).mono ?_) (fun d => (hins D.length (by omega) (by omega)).mono ?_)
 ·rintro v H2 ⟨rfl, D2, o2, m2, r2, s2, k2⟩
  refine ⟨rfl, letV_mk ((20 * (t + 1) + 20 : Nat) : Int) (by rw [i64_in (by omega)]; omega) ⟨⟨t + 1, by omega, rfl, by omega, D2, o2, m1.trans m2, r1.trans (r2.mono (by omega) (by omega)), fun h => s2 (s1 h), fun u hu => ?_⟩, by dsimp only; omega⟩⟩
  by_cases e : u = t
  ·subst e; exact k2
  ·exact srtK_out (k1 u (by omega)) r2 (by omega)
 ·rintro v H2 ⟨rfl, D2, o2, m2, r2, s2, k2⟩
  have hrws : Rws S D2 20 D.length := fun u => by
   by_cases e : u < t
   ·have := srtK_out (k1 u e) r2 (by omega)
    exact fun p q h1 h2 h3 => this p q h1 h2 (by omega)
   ·by_cases e2 : u = t
    ·subst e2
     exact fun p q h1 h2 h3 => k2 p q h1 h2 (by omega)
    ·exact fun p q h1 h2 h3 => by omega
  refine ⟨rfl, fun w' H' => ∃ w : Nat, w' = w ∧ 0 < w ∧ w ≤ 20 + 2 * D.length ∧ ∃ D3, OB H' ob D3 ∧ Mods [ob] H0 H' ∧ Rw 0 D.length D D3 ∧ (St S D → St S D3) ∧ Rws S D3 w D.length, fun w _ => (D.length - w).toNat,
   ⟨20, rfl, by omega, by omega, D2, o2, m1.trans m2, r1.trans (r2.mono (by omega) (by omega)), fun h => s2 (s1 h), hrws⟩, ?_⟩
  rintro w' H3 ⟨w, rfl, hw0, hw1, D3, o3, m3, r3, s3, k3⟩
  unfold F_slices_stableCmpFunc_int_r2
  refine iteB_dec (fun d3 => ?_) (fun d3 => ⟨rfl, D3, o3, m3, r3, s3, ?_⟩)
  ·have ew : IntKind.i64.wrap (2 * (w : Int)) = ((w + w : Nat) : Int) := by rw [i64_in (by omega)]; omega
   have ew2 : IntKind.i64.wrap ((w : Int) * 2) = ((w + w : Nat) : Int) := by rw [i64_in (by omega)]; omega
   refine letV_mk _ ew ?_
   refine ⟨fun a b H' => ∃ t : Nat, a = ((w * t + w * t : Nat) : Int) ∧ b = ((w * t + w * t + (w + w) : Nat) : Int) ∧ w * t + w * t ≤ D.length ∧ ∃ D4, OB H' ob D4 ∧ Mods [ob] H0 H' ∧ Rw 0 D.length D D4 ∧ (St S D → St S D4) ∧ Mg S D4 w (w * t + w * t) D.length, fun a _ _ => (D.length - a).toNat,
    ⟨0, by simp, by simp, by omega, D3, o3, m3, r3, s3, by rw [Nat.mul_zero]; exact rws_mg k3⟩, ?_⟩
   rintro a b H4 ⟨t, rfl, rfl, ht4, D4, o4, m4, r4, s4, k4⟩
   unfold F_slices_stableCmpFunc_int_r1
   have l4 := r4.len
   have w4 := r4.mem hr
   have ea : IntKind.i64.wrap (((w * t + w * t : Nat) : Int) + w) = ((w * t + w * t + w : Nat) : Int) := by rw [i64_in (by omega)]; omega
   have eb : IntKind.i64.wrap (((w * t + w * t + (w + w) : Nat) : Int) + ((w + w : Nat) : Int)) = ((w * t + w * t + (w + w) + (w + w) : Nat) : Int) := by rw [i64_in (by omega)]; omega
   simp only [ea, ew, ew2, eb]
   have q1 := k4.2 0
   have q2 := k4.2 1
   rw [Nat.mul_zero, Nat.add_zero] at q1
   rw [Nat.mul_one] at q2
   have hsym := fun (b : Nat) (h1 : w * t + w * t + w < b) (h2 : b ≤ D4.length) (h3 : b ≤ w * t + w * t + (w + w)) => sym_all (ob := ob) (cb := cb) (z := z) (S := S) (b - (w * t + w * t)) H4 D4 (w * t + w * t) (w * t + w * t + w) b (Nat.le_refl _) (by omega) h1 h2 (c.mods m4) o4 w4 (by omega) (fun p q g1 g2 g3 => q1 p q g1 g2 (by omega)) (fun p q g1 g2 g3 => q2 p q g1 g2 (by omega))
   rw [l4] at hsym
   refine iteB_dec (fun d4 => (hsym (w * t + w * t + (w + w)) (by omega) (by omega) (by omega)).mono ?_) (fun d4 => letV_mk _ rfl (iteB_dec (fun d5 => (hsym D.length (by omega) (by omega) (by omega)).mono ?_) (fun d5 => letV_mk _ rfl ?_)))
   ·rintro v H5 ⟨rfl, D5, o5, m5, r5, s5, k5⟩
    have em : w * (t + 1) = w * t + w := by rw [Nat.mul_add, Nat.mul_one]
    refine ⟨rfl, letV_mk _ rfl ⟨⟨t + 1, by rw [em]; omega, by rw [em]; omega, by rw [em]; omega, D5, o5, m4.trans m5, r4.trans (r5.mono (by omega) (by omega)), fun h => s5 (s4 h), mg_step hw0 k4 (by omega) r5 k5⟩, by omega⟩⟩
   ·rintro v H5 ⟨rfl, D5, o5, m5, r5, s5, k5⟩
    exact ⟨rfl, letV_mk _ rfl ⟨⟨w + w, rfl, by omega, by omega, D5, o5, m4.trans m5, r4.trans (r5.mono (by omega) (by omega)), fun h => s5 (s4 h), mg_end (m := 0) k4 (by omega) r5 k5⟩, by omega⟩⟩
   ·exact ⟨⟨w + w, rfl, by omega, by omega, D4, o4, m4, r4, s4, mg_end (m := 0) k4 (by omega) (.refl _ _ _) (fun p q g1 g2 g3 => q1 p q g1 g2 (by omega))⟩, by omega⟩
  ·have := k3 0
   rw [Nat.mul_zero] at this
   exact fun p q h1 h2 h3 => this p q (by omega) h2 (by omega)

theorem SortStableN_spec (H0 : Heap) {ob cb : Nat} {z : Sl} {S D : List Int} (c : SC H0 ob cb z S) (hD : OB H0 ob D) (hr : ∀ x ∈ D, 0 ≤ x ∧ x < S.length) (hn : D.length ≤ 10000) :
  CallsH Tryz.prog n_slices_SortStableFunc_sl_int_int #[.slice (some ⟨ob, 0, none⟩) D.length D.length, .func (.func 68) #[] #[.pointer (some ⟨cb, 0, none⟩)]] H0
   (SP ob H0 (fun D' => Rw 0 D.length D D' ∧ (St S D → St S D') ∧ SrtK S D' 0 D.length)) := by
 refine F_slices_SortStableFunc_sl_int_int_ok ⟨some ⟨ob, 0, none⟩, D.length, D.length⟩ _ ?_
 unfold F_slices_SortStableFunc_sl_int_int
 refine (stableN_spec H0 c hD hr hn).mono ?_
 rintro v H1 ⟨rfl, h⟩
 exact ⟨rfl, rfl, h⟩

end Go.Proofs.YtigcheamheiopaaGreat
end
