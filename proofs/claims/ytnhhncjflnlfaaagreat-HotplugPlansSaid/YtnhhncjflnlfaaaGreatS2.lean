/-
 Sorting the items stably by size: the comparison, exchanges, insertion sort.
-/
import Derived.Test.YtnhhncjflnlfaaaGreatP1
namespace Go.Proofs.YtnhhncjflnlfaaaGreat
open Go.Eng
set_option linter.unusedVariables false

def key (S : List Int) (x : Int) : Int := S.getD x.toNat 0
abbrev ky (S D : List Int) (p : Nat) : Int := key S (D.getD p 0)
def St (S D : List Int) : Prop := ∀ p q, p < q -> q < D.length -> ky S D p = ky S D q -> D.getD p 0 < D.getD q 0
def SrtK (S D : List Int) (a b : Nat) : Prop := ∀ p q, a <= p -> p < q -> q < b -> ky S D q <= ky S D p

structure Rw (a b : Nat) (D D' : List Int) : Prop where
 len : D'.length = D.length
 perm : D'.Perm D
 out : ∀ p, p < a \/ b <= p -> D'.getD p 0 = D.getD p 0
 seg : ∀ p, a <= p -> p < b -> ∃ q, a <= q /\ q < b /\ D'.getD p 0 = D.getD q 0
theorem Rw.refl (a b : Nat) (D : List Int) : Rw a b D D := ⟨rfl, .refl _, fun _ _ => rfl, fun p h1 h2 => ⟨p, h1, h2, rfl⟩⟩
theorem Rw.trans {a b : Nat} {D E F : List Int} (h : Rw a b D E) (k : Rw a b E F) : Rw a b D F :=
 ⟨k.len.trans h.len, k.perm.trans h.perm, fun p hp => (k.out p hp).trans (h.out p hp), fun p h1 h2 => by
  obtain ⟨q, q1, q2, q3⟩ := k.seg p h1 h2
  obtain ⟨r, r1, r2, r3⟩ := h.seg q q1 q2
  exact ⟨r, r1, r2, q3.trans r3⟩⟩
theorem Rw.mono {a b a' b' : Nat} {D E : List Int} (h : Rw a b D E) (ha : a' <= a) (hb : b <= b') : Rw a' b' D E :=
 ⟨h.len, h.perm, fun p hp => h.out p (by omega), fun p h1 h2 => by
  by_cases hin : a <= p /\ p < b
  ·obtain ⟨q, q1, q2, q3⟩ := h.seg p hin.1 hin.2
   exact ⟨q, by omega, by omega, q3⟩
  ·exact ⟨p, h1, h2, h.out p (by omega)⟩⟩
theorem Rw.mem {a b : Nat} {D E : List Int} (h : Rw a b D E) {Q : Int -> Prop} (hq : ∀ x ∈ D, Q x) : ∀ x ∈ E, Q x := fun x hx => hq x (h.perm.mem_iff.1 hx)

def sw (D : List Int) (p q : Nat) : List Int := (D.set p (D.getD q 0)).set q (D.getD p 0)
theorem sw_len (D : List Int) (p q : Nat) : (sw D p q).length = D.length := by simp [sw]
theorem getD_set (D : List Int) (p r : Nat) (x : Int) (hp : p < D.length) : (D.set p x).getD r 0 = if r = p then x else D.getD r 0 := by
 simp only [List.getD, List.getElem?_set]
 by_cases h : p = r
 ·subst h; simp [hp]
 ·rw [if_neg h, if_neg (fun e => h e.symm)]
theorem sw_get (D : List Int) (p q r : Nat) (hp : p < D.length) (hq : q < D.length) : (sw D p q).getD r 0 = if r = q then D.getD p 0 else if r = p then D.getD q 0 else D.getD r 0 := by
 unfold sw
 rw [getD_set _ _ _ _ (by simpa using hq), getD_set _ _ _ _ hp]
theorem sw_perm (D : List Int) (p q : Nat) (hp : p < D.length) (hq : q < D.length) : (sw D p q).Perm D := by
 rw [List.perm_iff_count]
 intro x
 unfold sw
 have h2 : q < (D.set p (D.getD q 0)).length := by simpa using hq
 rw [List.count_set h2, List.count_set hp]
 have e1 : D.getD p 0 = D[p] := by simp [List.getD, hp]
 have e2 : D.getD q 0 = D[q] := by simp [List.getD, hq]
 have e3 : (D.set p (D.getD q 0))[q] = D[q] := by
  rw [List.getElem_set]
  split
  ·exact e2
  ·rfl
 rw [e3, e1, e2]
 have c1 : D[p] == x -> 1 <= D.count x := fun h => by
  have : D[p] = x := by simpa using h
  exact List.count_pos_iff.2 (this ▸ List.getElem_mem hp)
 by_cases h1 : (D[p] == x) = true <;> by_cases h2 : (D[q] == x) = true <;> simp only [h1, h2, if_true, if_false, Bool.false_eq_true] <;> first | omega | (have := c1 h1; omega)
theorem sw_rw {a b p q : Nat} (D : List Int) (h1 : a <= p /\ p < b) (h2 : a <= q /\ q < b) (hb : b <= D.length) : Rw a b D (sw D p q) := by
 refine ⟨sw_len _ _ _, sw_perm _ _ _ (by omega) (by omega), fun r hr => ?_, fun r r1 r2 => ?_⟩
 ·rw [sw_get _ _ _ _ (by omega) (by omega), if_neg (by omega), if_neg (by omega)]
 ·rw [sw_get _ _ _ _ (by omega) (by omega)]
  by_cases e1 : r = q
  ·exact ⟨p, h1.1, h1.2, by rw [if_pos e1]⟩
  ·by_cases e2 : r = p
   ·exact ⟨q, h2.1, h2.2, by rw [if_neg e1, if_pos e2]⟩
   ·exact ⟨r, r1, r2, by rw [if_neg e1, if_neg e2]⟩

theorem sw_st {S D : List Int} {j : Nat} (hj : j + 1 < D.length) (hk : ky S D j ≠ ky S D (j + 1)) (h : St S D) : St S (sw D (j + 1) j) := by
 intro p q hpq hq hkk
 rw [sw_len] at hq
 have g := fun r => sw_get D (j + 1) j r hj (by omega)
 unfold ky at hkk
 rw [g p, g q] at hkk ⊢
 by_cases p1 : p = j
 ·subst p1
  rw [if_pos rfl] at hkk ⊢
  by_cases q1 : q = p + 1
  ·subst q1
   rw [if_neg (by omega), if_pos rfl] at hkk
   exact absurd hkk.symm hk
  ·rw [if_neg (by omega), if_neg q1] at hkk ⊢
   exact h (p + 1) q (by omega) hq hkk
 ·by_cases p2 : p = j + 1
  ·subst p2
   rw [if_neg p1, if_pos rfl, if_neg (by omega), if_neg (by omega)] at hkk ⊢
   exact h j q (by omega) hq hkk
  ·rw [if_neg p1, if_neg p2] at hkk ⊢
   by_cases q1 : q = j
   ·rw [if_pos q1] at hkk ⊢
    exact h p (j + 1) (by omega) hj hkk
   ·by_cases q2 : q = j + 1
    ·rw [if_neg q1, if_pos q2] at hkk ⊢
     exact h p j (by omega) (by omega) hkk
    ·rw [if_neg q1, if_neg q2] at hkk ⊢
     exact h p q hpq hq hkk

/-! ### in memory -/

structure SC (H : Heap) (ob cb : Nat) (z : Sl) (S : List Int) : Prop where
 ints : Ints .i64 H z S
 box : Blk H cb t_52 [.slice z.p z.n z.c]
 ne : cb ≠ ob
 nz : S ≠ [] -> ∀ a, z.p = some a -> a.block ≠ ob
theorem SC.mods {H H' : Heap} {ob cb : Nat} {z : Sl} {S : List Int} (h : SC H ob cb z S) (m : Mods [ob] H H') : SC H' ob cb z S :=
 ⟨if e : S = [] then ⟨h.ints.len, .inl e⟩ else h.ints.mods m (fun a ha => by simpa using h.nz e a ha), h.box.mods m (by simpa using h.ne), h.ne, h.nz⟩
abbrev OB (H : Heap) (ob : Nat) (D : List Int) : Prop := RB H ob t_3 1 (encI .i64) D
theorem OB.at {H : Heap} {ob : Nat} {D : List Int} (h : OB H ob D) {p : Nat} (hp : p < D.length) : rd H ((⟨ob, 0, none⟩ : Addr).add ((p : Int).toNat * 1)) = some (.int .i64 (D.getD p 0)) := by
 rw [Int.toNat_natCast]
 exact h.rd0 (getD_get 0 hp) rfl
theorem OB.ok {H : Heap} {ob : Nat} {D : List Int} (h : OB H ob D) {p : Nat} (hp : p < D.length) : okRow H ((⟨ob, 0, none⟩ : Addr).add ((p : Int).toNat * 1)) 1 := by
 rw [Int.toNat_natCast]
 exact RB.ok0 h hp (by omega)
theorem OB.set {H : Heap} {ob : Nat} {D : List Int} (h : OB H ob D) {p : Nat} (hp : p < D.length) (x : Int) : OB (wrs H ((⟨ob, 0, none⟩ : Addr).add ((p : Int).toNat * 1)) [.int .i64 x]) ob (D.set p x) := by
 rw [Int.toNat_natCast]
 exact RB.wr0 h (x := D.getD p 0) (getD_get 0 hp) (by omega) rfl

def SP (ob : Nat) (H : Heap) (f : List Int -> Prop) (v : Value) (H' : Heap) : Prop := v = .tuple #[] /\ ∃ D', OB H' ob D' /\ Mods [ob] H H' /\ f D'

theorem isNaN_spec (x : Int) (H : Heap) : CallsH Tryz.prog n_127 #[.int .i64 x] H (fun v H' => v = .bool false /\ H' = H) := by
 refine F_127_ok _ ?_
 unfold F_127
 exact ⟨by simp, rfl⟩
theorem Compare_spec (x y : Int) (H : Heap) : CallsH Tryz.prog n_118 #[.int .i64 x, .int .i64 y] H (fun v H' => (∃ r : Int, v = .int .i64 r /\ (r < 0 ↔ x < y)) /\ H' = H) := by
 refine F_118_ok _ _ ?_
 unfold F_118
 refine (isNaN_spec x H).mono ?_
 rintro v H1 ⟨rfl, rfl⟩
 refine ⟨_, rfl, (isNaN_spec y H1).mono ?_⟩
 rintro v H2 ⟨rfl, rfl⟩
 refine ⟨_, rfl, iteB_neg rfl (iteB_neg rfl (iteB_dec (fun d => ⟨⟨_, rfl, by omega⟩, rfl⟩) (fun d => iteB_dec (fun d1 => ⟨⟨_, rfl, by omega⟩, rfl⟩) (fun d1 => ⟨⟨_, rfl, by omega⟩, rfl⟩))))⟩

theorem cmp_spec {H : Heap} {ob cb : Nat} {z : Sl} {S : List Int} (c : SC H ob cb z S) (a b : Int) (ha : 0 <= a /\ a < S.length) (hb : 0 <= b /\ b < S.length) :
  CallsH Tryz.prog n_117 #[.int .i64 a, .int .i64 b, .pointer (some ⟨cb, 0, none⟩)] H (fun v H' => (∃ r : Int, v = .int .i64 r /\ (r < 0 ↔ key S b < key S a)) /\ H' = H) := by
 refine F_117_ok _ _ _ ?_
 unfold F_117
 have hn := c.ints.len
 have hbx := c.box.rd0 (v := .slice z.p z.n z.c) rfl
 obtain ⟨a', rfl⟩ : ∃ n : Nat, a = n := ⟨a.toNat, by omega⟩
 obtain ⟨b', rfl⟩ : ∃ n : Nat, b = n := ⟨b.toNat, by omega⟩
 obtain ⟨p, hp, hr⟩ := Ints.atN c.ints (i := b') (by omega)
 obtain ⟨p2, hp2, hr2⟩ := Ints.atN c.ints (i := a') (by omega)
 refine ⟨z, hbx, by omega, by omega, unSome_mk hp ⟨_, hr, z, hbx, by omega, by omega, unSome_mk hp2 ⟨_, hr2, (Compare_spec _ _ H).mono ?_⟩⟩⟩
 rintro v H1 ⟨⟨r, rfl, hrr⟩, rfl⟩
 refine ⟨r, rfl, ⟨r, rfl, ?_⟩, rfl⟩
 unfold key
 simp only [Int.toNat_natCast]
 exact hrr

def InsI (S D : List Int) (a i j : Nat) : Prop := (∀ p q, a <= p -> p < q -> q <= i -> p ≠ j -> q ≠ j -> ky S D q <= ky S D p) /\ (∀ q, j < q -> q <= i -> ky S D q < ky S D j)

theorem insI_step {S D : List Int} {a i j : Nat} (h : InsI S D a i (j + 1)) (ha : a <= j) (hi : i < D.length) (hj : j + 1 <= i) (hk : ky S D j < ky S D (j + 1)) : InsI S (sw D (j + 1) j) a i j := by
 have g := fun r => sw_get D (j + 1) j r (by omega) (by omega)
 refine ⟨fun p q h1 h2 h3 h4 h5 => ?_, fun q h1 h2 => ?_⟩
 ·unfold ky
  rw [g p, g q, if_neg h4, if_neg h5]
  by_cases p1 : p = j + 1
  ·rw [if_pos p1, if_neg (by omega)]
   exact h.1 j q ha (by omega) h3 (by omega) (by omega)
  ·rw [if_neg p1]
   by_cases q1 : q = j + 1
   ·rw [if_pos q1]
    exact h.1 p j h1 (by omega) (by omega) p1 (by omega)
   ·rw [if_neg q1]
    exact h.1 p q h1 h2 h3 p1 q1
 ·unfold ky
  rw [g q, g j, if_pos rfl, if_neg (by omega)]
  by_cases q1 : q = j + 1
  ·rw [if_pos q1]; exact hk
  ·rw [if_neg q1]; exact h.2 q (by omega) h2

theorem insI_end {S D : List Int} {a i j : Nat} (h : InsI S D a i j) (ha : a <= j) (hj : j <= i) (hk : j = a \/ ky S D j <= ky S D (j - 1)) : SrtK S D a (i + 1) := by
 intro p q h1 h2 h3
 by_cases p1 : p = j
 ·subst p1
  exact Int.le_of_lt (h.2 q h2 (by omega))
 ·by_cases q1 : q = j
  ·subst q1
   rcases hk with e | e
   ·omega
   ·by_cases p2 : p = q - 1
    ·rw [p2]; exact e
    ·exact Int.le_trans e (h.1 p (q - 1) h1 (by omega) (by omega) p1 (by omega))
  ·exact h.1 p q h1 h2 (by omega) p1 q1

theorem insertion_spec (H0 : Heap) {ob cb : Nat} {z : Sl} {S D : List Int} (c : SC H0 ob cb z S) (hD : OB H0 ob D) (hr : ∀ x ∈ D, 0 <= x /\ x < S.length) (a b : Nat) (hab : a <= b) (hb : b <= D.length) (hn : D.length <= 100000) :
  CallsH Tryz.prog n_138 #[.slice (some ⟨ob, 0, none⟩) D.length D.length, .int .i64 (a : Int), .int .i64 (b : Int), .func (.func 117) #[] #[.pointer (some ⟨cb, 0, none⟩)]] H0
   (SP ob H0 (fun D' => Rw a b D D' /\ (St S D -> St S D') /\ SrtK S D' a b)) := by
 refine F_138_ok ⟨some ⟨ob, 0, none⟩, D.length, D.length⟩ _ _ _ ?_
 unfold F_138
 refine letV_mk ((a + 1 : Nat) : Int) (by rw [i64_in (by omega)]; omega) ?_
 refine ⟨fun x H' => ∃ i : Nat, x = i /\ a + 1 <= i /\ (i <= b \/ i = a + 1) /\ ∃ D1, OB H' ob D1 /\ Mods [ob] H0 H' /\ Rw a b D D1 /\ (St S D -> St S D1) /\ SrtK S D1 a i, fun x _ => (b - x).toNat, ⟨a + 1, rfl, by omega, by omega, D, hD, .refl _ _, .refl _ _ _, id, fun p q h1 h2 h3 => by omega⟩, ?_⟩
 rintro x H1 ⟨i, rfl, hi1, hi2, D1, o1, m1, r1, s1, k1⟩
 unfold F_138_r2
 refine iteB_dec (fun d => ?_) (fun d => ⟨rfl, D1, o1, m1, r1, s1, fun p q h1 h2 h3 => k1 p q h1 h2 (by omega)⟩)
 have hib : i < b := by omega
 refine ⟨fun y H' => ∃ j : Nat, y = j /\ a <= j /\ j <= i /\ ∃ D2, OB H' ob D2 /\ Mods [ob] H0 H' /\ Rw a b D D2 /\ (St S D -> St S D2) /\ InsI S D2 a i j, fun y _ => y.toNat, ⟨i, rfl, by omega, Nat.le_refl _, D1, o1, m1, r1, s1, fun p q h1 h2 h3 h4 h5 => k1 p q h1 h2 (by omega), fun q h1 h2 => by omega⟩, ?_⟩
 rintro y H2 ⟨j, rfl, hj1, hj2, D2, o2, m2, r2, s2, k2⟩
 unfold F_138_r1
 have l2 := r2.len
 have w2 := r2.mem hr
 have fin : SrtK S D2 a (i + 1) -> (∃ i' : Nat, ((i + 1 : Nat) : Int) = i' /\ a + 1 <= i' /\ (i' <= b \/ i' = a + 1) /\ ∃ D1, OB H2 ob D1 /\ Mods [ob] H0 H2 /\ Rw a b D D1 /\ (St S D -> St S D1) /\ SrtK S D1 a i') := fun hk => ⟨i + 1, rfl, by omega, by omega, D2, o2, m2, r2, s2, hk⟩
 have hsucc : IntKind.i64.wrap ((i : Int) + 1) = ((i + 1 : Nat) : Int) := by rw [i64_in (by omega)]; omega
 refine iteB_dec (fun d1 => ?_) (fun d1 => letV_mk _ hsucc ⟨fin (insI_end k2 hj1 hj2 (by omega)), by dsimp only; omega⟩)
 obtain ⟨m, rfl⟩ : ∃ m, j = m + 1 := ⟨j - 1, by omega⟩
 have hw : IntKind.i64.wrap (((m + 1 : Nat) : Int) - 1) = (m : Int) := by rw [i64_in (by omega)]; omega
 simp only [hw]
 have hx := w2 _ (getD_mem' (l := D2) (k := m + 1) 0 (by omega))
 have hx1 := w2 _ (getD_mem' (l := D2) (k := m) 0 (by omega))
 refine ⟨by omega, by omega, unSome_mk rfl ⟨_, o2.at (by omega), by omega, by omega, unSome_mk rfl ⟨_, o2.at (by omega), (cmp_spec (c.mods m2) _ _ hx hx1).mono ?_⟩⟩⟩
 rintro v H3 ⟨⟨r, rfl, hrr⟩, rfl⟩
 refine ⟨r, rfl, iteB_dec (fun d2 => ?_) (fun d2 => letV_mk _ hsucc ⟨fin (insI_end k2 hj1 hj2 (.inr ?_)), by omega⟩)⟩
 ·have hlt : ky S D2 m < ky S D2 (m + 1) := hrr.1 d2
  refine ⟨by omega, by omega, unSome_mk rfl ⟨_, o2.at (by omega), by omega, by omega, unSome_mk rfl ⟨_, o2.at (by omega), by omega, by omega, unSome_mk rfl ⟨o2.ok (by omega), letH_mk ?_⟩⟩⟩⟩
  intro H4 h4
  have o4 : OB H4 ob (D2.set (m + 1) (D2.getD m 0)) := by rw [h4]; exact o2.set (by omega) _
  have m4 : Mods [ob] H3 H4 := by rw [h4]; exact mods_wr_add (by simp)
  clear h4
  refine ⟨by omega, by omega, unSome_mk rfl ⟨o4.ok (by simp; omega), letH_mk ?_⟩⟩
  intro H5 h5
  have o5 : OB H5 ob (sw D2 (m + 1) m) := by rw [h5]; exact o4.set (by simp; omega) _
  have m5 : Mods [ob] H4 H5 := by rw [h5]; exact mods_wr_add (by simp)
  clear h5
  exact letV_mk _ rfl ⟨⟨m, rfl, by omega, by omega, _, o5, (m2.trans m4).trans m5, r2.trans (sw_rw D2 (by omega) (by omega) (by omega)), fun hs => sw_st (by omega) (Int.ne_of_lt hlt) (s2 hs), insI_step k2 (by omega) (by omega) (by omega) hlt⟩, by omega⟩
 ·have : ¬ (ky S D2 m < ky S D2 (m + 1)) := fun hh => d2 (hrr.2 hh)
  simp only [Nat.add_sub_cancel]
  omega

end Go.Proofs.YtnhhncjflnlfaaaGreat
