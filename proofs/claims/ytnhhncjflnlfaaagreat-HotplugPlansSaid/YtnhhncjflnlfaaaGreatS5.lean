/-
 Merging two sorted ranges (symMerge), and the stable sort of any number of items.
-/
import Derived.Test.YtnhhncjflnlfaaaGreatS4
namespace Go.Proofs.YtnhhncjflnlfaaaGreat
open Go.Eng
set_option linter.unusedVariables false

theorem join4 {S E : List Int} {a s mid e b : Nat} (h1 : SrtK S E a s) (h2 : SrtK S E s mid) (h3 : SrtK S E mid e) (h4 : SrtK S E e b) (hc : ∀ x y, a <= x -> x < mid -> mid <= y -> y < b -> ky S E y <= ky S E x)
  (c1 : ∀ x y, a <= x -> x < s -> s <= y -> y < mid -> ky S E y <= ky S E x) (c2 : ∀ x y, mid <= x -> x < e -> e <= y -> y < b -> ky S E y <= ky S E x) : SrtK S E a b :=
 srtK_join (srtK_join h1 h2 c1) (srtK_join h3 h4 c2) hc

abbrev MP (S D : List Int) (a b : Nat) (D' : List Int) : Prop := Rw a b D D' /\ (St S D -> St S D') /\ SrtK S D' a b

theorem rotI_step_up {D E : List Int} {a k : Nat} (h : Pm (rotI a (a + 1) (k + 1)) D E) (hk : a <= k) (hl : k + 1 < D.length) : Pm (rotI a (a + 1) (k + 2)) D (sw E k (k + 1)) := by
 have l := h.len
 refine ⟨by rw [sw_len, l], fun p => ?_⟩
 rw [sw_get _ _ _ _ (by (try dsimp only); omega) (by (try dsimp only); omega), h.at_, h.at_, h.at_]
 by_cases h1 : p = k + 1
 ·rw [if_pos h1]
  congr 1
  unfold rotI
  split <;> (try split) <;> (try split) <;> (try split) <;> omega
 ·rw [if_neg h1]
  by_cases h2 : p = k
  ·rw [if_pos h2]
   congr 1
   unfold rotI
   split <;> (try split) <;> (try split) <;> (try split) <;> omega
  ·rw [if_neg h2]
   congr 1
   unfold rotI
   split <;> (try split) <;> (try split) <;> (try split) <;> omega

theorem rotI_step_down {D E : List Int} {m k : Nat} (h : Pm (rotI (k + 1) m (m + 1)) D E) (hk : k + 1 <= m) (hl : m < D.length) : Pm (rotI k m (m + 1)) D (sw E (k + 1) k) := by
 have l := h.len
 refine ⟨by rw [sw_len, l], fun p => ?_⟩
 rw [sw_get _ _ _ _ (by (try dsimp only); omega) (by (try dsimp only); omega), h.at_, h.at_, h.at_]
 by_cases h1 : p = k
 ·rw [if_pos h1]
  congr 1
  unfold rotI
  split <;> (try split) <;> (try split) <;> (try split) <;> omega
 ·rw [if_neg h1]
  by_cases h2 : p = k + 1
  ·rw [if_pos h2]
   congr 1
   unfold rotI
   split <;> (try split) <;> (try split) <;> (try split) <;> omega
  ·rw [if_neg h2]
   congr 1
   unfold rotI
   split <;> (try split) <;> (try split) <;> (try split) <;> omega

section
variable {ob cb : Nat} {z : Sl} {S : List Int}

theorem sym1 (H0 : Heap) {D : List Int} (c : SC H0 ob cb z S) (hD : OB H0 ob D) (hr : ∀ x ∈ D, 0 <= x /\ x < S.length) (hn : D.length <= 100000) (a m b : Nat) (hm : m = a + 1) (hmb : m < b) (hb : b <= D.length) (k2 : SrtK S D m b) :
  ∃ I_ : Int -> Int -> Heap -> Prop, ∃ M_ : Int -> Int -> Heap -> Nat, I_ m b H0 /\ (∀ i : Int, ∀ j : Int, ∀ H1 : Heap, I_ i j H1 -> F_139_r2 (SP ob H0 (MP S D a b)) ⟨some ⟨ob, 0, none⟩, D.length, D.length⟩ a ⟨cb, 0, none⟩ I_ M_ i j H1) := by
 refine ⟨fun x y H' => ∃ i j : Nat, x = i /\ y = j /\ m <= i /\ i <= j /\ j <= b /\ H' = H0 /\ (∀ x, m <= x -> x < i -> ky S D a < ky S D x) /\ (∀ x, j <= x -> x < b -> ky S D x <= ky S D a), fun x y _ => (y - x).toNat, ⟨m, b, rfl, rfl, Nat.le_refl _, by (try dsimp only); omega, Nat.le_refl _, rfl, fun x h1 h2 => by (try dsimp only); omega, fun x h1 h2 => by (try dsimp only); omega⟩, ?_⟩
 rintro x y H1 ⟨i, j, rfl, rfl, hi, hij, hj, rfl, q1, q2⟩
 unfold F_139_r2
 refine iteB_dec (fun d => ⟨by (try dsimp only); omega, letV_mk _ (half_spec i j (by (try dsimp only); omega)) ?_⟩) (fun d => ?_)
 ·have hh : i <= (i + j) / 2 /\ (i + j) / 2 < j := by (try dsimp only); omega
  generalize (i + j) / 2 = h at hh ⊢
  have hx := hr _ (getD_mem' (l := D) (k := h) 0 (by (try dsimp only); omega))
  have hx1 := hr _ (getD_mem' (l := D) (k := a) 0 (by (try dsimp only); omega))
  refine ⟨by (try dsimp only); omega, by (try dsimp only); omega, unSome_mk rfl ⟨_, hD.at (by (try dsimp only); omega), by (try dsimp only); omega, by (try dsimp only); omega, unSome_mk rfl ⟨_, hD.at (by (try dsimp only); omega), (cmp_spec c _ _ hx hx1).mono ?_⟩⟩⟩
  rintro v H3 ⟨⟨r, rfl, hrr⟩, rfl⟩
  refine ⟨r, rfl, iteB_dec (fun d2 => letV_mk ((h + 1 : Nat) : Int) (by rw [i64_in (by (try dsimp only); omega)]; omega) ⟨⟨h + 1, j, rfl, rfl, by (try dsimp only); omega, by (try dsimp only); omega, by (try dsimp only); omega, rfl, fun x h1 h2 => ?_, q2⟩, by (try dsimp only); omega⟩) (fun d2 => ⟨⟨i, h, rfl, rfl, by (try dsimp only); omega, by (try dsimp only); omega, by (try dsimp only); omega, rfl, q1, fun x h1 h2 => ?_⟩, by (try dsimp only); omega⟩)⟩
  ·have : ky S D a < ky S D h := hrr.1 d2
   by_cases e : x = h
   ·rw [e]; exact this
   ·have := k2 x h (by (try dsimp only); omega) (by (try dsimp only); omega) (by (try dsimp only); omega); omega
  ·have : ¬ ky S D a < ky S D h := fun t => d2 (hrr.2 t)
   by_cases e : x = h
   ·rw [e]; omega
   ·have := k2 h x (by (try dsimp only); omega) (by (try dsimp only); omega) (by (try dsimp only); omega); omega
 ·obtain rfl : i = j := by (try dsimp only); omega
  refine ⟨fun x H' => ∃ k : Nat, x = k /\ a <= k /\ k + 1 <= i /\ ∃ D1, OB H' ob D1 /\ Mods [ob] H1 H' /\ Rw a b D D1 /\ Pm (rotI a (a + 1) (k + 1)) D D1, fun x _ => (i - x).toNat, ⟨a, rfl, Nat.le_refl _, by (try dsimp only); omega, D, hD, .refl _ _, .refl _ _ _, rfl, fun p => by unfold rotI; congr 1; split <;> (try split) <;> omega⟩, ?_⟩
  rintro x H3 ⟨k, rfl, hk1, hk2, D1, o1, m1, r1, p1⟩
  unfold F_139_r1
  have l1 := r1.len
  have e0 : IntKind.i64.wrap ((i : Int) - 1) = ((i - 1 : Nat) : Int) := by rw [i64_in (by (try dsimp only); omega)]; omega
  have e1 : IntKind.i64.wrap ((k : Int) + 1) = ((k + 1 : Nat) : Int) := by rw [i64_in (by (try dsimp only); omega)]; omega
  simp only [e0, e1]
  refine iteB_dec (fun d3 => ?_) (fun d3 => ⟨rfl, D1, o1, m1, r1, ?_⟩)
  ·refine ⟨by (try dsimp only); omega, by (try dsimp only); omega, unSome_mk rfl ⟨_, o1.at (by (try dsimp only); omega), by (try dsimp only); omega, by (try dsimp only); omega, unSome_mk rfl ⟨_, o1.at (by (try dsimp only); omega), by (try dsimp only); omega, by (try dsimp only); omega, unSome_mk rfl ⟨o1.ok (by (try dsimp only); omega), letH_mk ?_⟩⟩⟩⟩
   intro H4 h4
   have o4 : OB H4 ob (D1.set k (D1.getD (k + 1) 0)) := by rw [h4]; exact o1.set (by (try dsimp only); omega) _
   have m4 : Mods [ob] H3 H4 := by rw [h4]; exact mods_wr_add (by simp)
   clear h4
   refine ⟨by (try dsimp only); omega, by (try dsimp only); omega, unSome_mk rfl ⟨o4.ok (by simp; omega), letH_mk ?_⟩⟩
   intro H5 h5
   have o5 : OB H5 ob (sw D1 k (k + 1)) := by rw [h5]; exact o4.set (by simp; omega) _
   have m5 : Mods [ob] H4 H5 := by rw [h5]; exact mods_wr_add (by simp)
   clear h5
   exact letV_mk _ rfl ⟨⟨k + 1, rfl, by (try dsimp only); omega, by (try dsimp only); omega, _, o5, (m1.trans m4).trans m5, r1.trans (sw_rw D1 (by (try dsimp only); omega) (by (try dsimp only); omega) (by (try dsimp only); omega)), rotI_step_up p1 (by (try dsimp only); omega) (by (try dsimp only); omega)⟩, by (try dsimp only); omega⟩
  ·obtain rfl : i = k + 1 := by (try dsimp only); omega
   subst hm
   have hx : ∀ x y, a <= x -> x < a + 1 -> a + 1 <= y -> y < k + 1 -> ky S D x < ky S D y := fun x y h1 h2 h3 h4 => by
    obtain rfl : x = a := by (try dsimp only); omega
    exact q1 y h3 h4
   obtain ⟨t1, t2, t3, t4, t5⟩ := rot_parts (S := S) (a := a) (s := a) (m := a + 1) (e := k + 1) (b := b) (mid := k) (Nat.le_refl _) (by (try dsimp only); omega) (by (try dsimp only); omega) (by (try dsimp only); omega) (by (try dsimp only); omega) p1 (fun p q h1 h2 h3 => by (try dsimp only); omega) k2 hx (fun x y h1 h2 h3 h4 => by (try dsimp only); omega)
   refine ⟨rot_st (by (try dsimp only); omega) (by (try dsimp only); omega) (by (try dsimp only); omega) p1 hx, join4 t1 t2 t3 t4 t5 (fun x y h1 h2 h3 h4 => by (try dsimp only); omega) (fun x y h1 h2 h3 h4 => ?_)⟩
   obtain rfl : x = k := by (try dsimp only); omega
   have e3 : ky S D1 y = ky S D y := by unfold ky; rw [rot_hi p1 (by (try dsimp only); omega)]
   have e4 : ky S D1 x = ky S D a := by unfold ky; rw [rot_2 p1 (by (try dsimp only); omega) (by (try dsimp only); omega) (by (try dsimp only); omega) (by (try dsimp only); omega)]; congr 2; omega
   rw [e3, e4]
   exact q2 y h3 h4

theorem sym2 (H0 : Heap) {D : List Int} (c : SC H0 ob cb z S) (hD : OB H0 ob D) (hr : ∀ x ∈ D, 0 <= x /\ x < S.length) (hn : D.length <= 100000) (a m b : Nat) (hm : b = m + 1) (ham : a < m) (hb : b <= D.length) (k1 : SrtK S D a m) :
  ∃ I_ : Int -> Int -> Heap -> Prop, ∃ M_ : Int -> Int -> Heap -> Nat, I_ a m H0 /\ (∀ i : Int, ∀ j : Int, ∀ H1 : Heap, I_ i j H1 -> F_139_r4 (SP ob H0 (MP S D a b)) ⟨some ⟨ob, 0, none⟩, D.length, D.length⟩ m ⟨cb, 0, none⟩ I_ M_ i j H1) := by
 refine ⟨fun x y H' => ∃ i j : Nat, x = i /\ y = j /\ a <= i /\ i <= j /\ j <= m /\ H' = H0 /\ (∀ x, a <= x -> x < i -> ky S D m <= ky S D x) /\ (∀ x, j <= x -> x < m -> ky S D x < ky S D m), fun x y _ => (y - x).toNat, ⟨a, m, rfl, rfl, Nat.le_refl _, by (try dsimp only); omega, Nat.le_refl _, rfl, fun x h1 h2 => by (try dsimp only); omega, fun x h1 h2 => by (try dsimp only); omega⟩, ?_⟩
 rintro x y H1 ⟨i, j, rfl, rfl, hi, hij, hj, rfl, q1, q2⟩
 unfold F_139_r4
 refine iteB_dec (fun d => ⟨by (try dsimp only); omega, letV_mk _ (half_spec i j (by (try dsimp only); omega)) ?_⟩) (fun d => ?_)
 ·have hh : i <= (i + j) / 2 /\ (i + j) / 2 < j := by (try dsimp only); omega
  generalize (i + j) / 2 = h at hh ⊢
  have hx := hr _ (getD_mem' (l := D) (k := m) 0 (by (try dsimp only); omega))
  have hx1 := hr _ (getD_mem' (l := D) (k := h) 0 (by (try dsimp only); omega))
  refine ⟨by (try dsimp only); omega, by (try dsimp only); omega, unSome_mk rfl ⟨_, hD.at (by (try dsimp only); omega), by (try dsimp only); omega, by (try dsimp only); omega, unSome_mk rfl ⟨_, hD.at (by (try dsimp only); omega), (cmp_spec c _ _ hx hx1).mono ?_⟩⟩⟩
  rintro v H3 ⟨⟨r, rfl, hrr⟩, rfl⟩
  refine ⟨r, rfl, iteB_not (fun d2 => letV_mk ((h + 1 : Nat) : Int) (by rw [i64_in (by (try dsimp only); omega)]; omega) ⟨⟨h + 1, j, rfl, rfl, by (try dsimp only); omega, by (try dsimp only); omega, by (try dsimp only); omega, rfl, fun x h1 h2 => ?_, q2⟩, by (try dsimp only); omega⟩) (fun d2 => ⟨⟨i, h, rfl, rfl, by (try dsimp only); omega, by (try dsimp only); omega, by (try dsimp only); omega, rfl, q1, fun x h1 h2 => ?_⟩, by (try dsimp only); omega⟩)⟩
  ·have : ¬ ky S D h < ky S D m := fun t => by simp [hrr.2 t] at d2
   by_cases e : x = h
   ·rw [e]; omega
   ·have := k1 x h (by (try dsimp only); omega) (by (try dsimp only); omega) (by (try dsimp only); omega); omega
  ·have : ky S D h < ky S D m := hrr.1 (by simpa using d2)
   by_cases e : x = h
   ·rw [e]; exact this
   ·have := k1 h x (by (try dsimp only); omega) (by (try dsimp only); omega) (by (try dsimp only); omega); omega
 ·obtain rfl : i = j := by (try dsimp only); omega
  refine ⟨fun x H' => ∃ k : Nat, x = k /\ i <= k /\ k <= m /\ ∃ D1, OB H' ob D1 /\ Mods [ob] H1 H' /\ Rw a b D D1 /\ Pm (rotI k m (m + 1)) D D1, fun x _ => x.toNat, ⟨m, rfl, by (try dsimp only); omega, Nat.le_refl _, D, hD, .refl _ _, .refl _ _ _, rfl, fun p => by unfold rotI; congr 1; split <;> (try split) <;> omega⟩, ?_⟩
  rintro x H3 ⟨k, rfl, hk1, hk2, D1, o1, m1, r1, p1⟩
  unfold F_139_r3
  have l1 := r1.len
  refine iteB_dec (fun d3 => ?_) (fun d3 => ⟨rfl, D1, o1, m1, r1, ?_⟩)
  ·obtain ⟨k, rfl⟩ : ∃ u, k = u + 1 := ⟨k - 1, by (try dsimp only); omega⟩
   have e1 : IntKind.i64.wrap (((k + 1 : Nat) : Int) - 1) = (k : Int) := by rw [i64_in (by (try dsimp only); omega)]; omega
   simp only [e1]
   refine ⟨by (try dsimp only); omega, by (try dsimp only); omega, unSome_mk rfl ⟨_, o1.at (by (try dsimp only); omega), by (try dsimp only); omega, by (try dsimp only); omega, unSome_mk rfl ⟨_, o1.at (by (try dsimp only); omega), by (try dsimp only); omega, by (try dsimp only); omega, unSome_mk rfl ⟨o1.ok (by (try dsimp only); omega), letH_mk ?_⟩⟩⟩⟩
   intro H4 h4
   have o4 : OB H4 ob (D1.set (k + 1) (D1.getD k 0)) := by rw [h4]; exact o1.set (by (try dsimp only); omega) _
   have m4 : Mods [ob] H3 H4 := by rw [h4]; exact mods_wr_add (by simp)
   clear h4
   refine ⟨by (try dsimp only); omega, by (try dsimp only); omega, unSome_mk rfl ⟨o4.ok (by simp; omega), letH_mk ?_⟩⟩
   intro H5 h5
   have o5 : OB H5 ob (sw D1 (k + 1) k) := by rw [h5]; exact o4.set (by simp; omega) _
   have m5 : Mods [ob] H4 H5 := by rw [h5]; exact mods_wr_add (by simp)
   clear h5
   exact letV_mk _ rfl ⟨⟨k, rfl, by (try dsimp only); omega, by (try dsimp only); omega, _, o5, (m1.trans m4).trans m5, r1.trans (sw_rw D1 (by (try dsimp only); omega) (by (try dsimp only); omega) (by (try dsimp only); omega)), rotI_step_down p1 (by (try dsimp only); omega) (by (try dsimp only); omega)⟩, by (try dsimp only); omega⟩
  ·obtain rfl : k = i := by (try dsimp only); omega
   subst hm
   have hx : ∀ x y, k <= x -> x < m -> m <= y -> y < m + 1 -> ky S D x < ky S D y := fun x y h1 h2 h3 h4 => by
    obtain rfl : y = m := by (try dsimp only); omega
    exact q2 x h1 h2
   obtain ⟨t1, t2, t3, t4, t5⟩ := rot_parts (S := S) (a := a) (s := k) (m := m) (e := m + 1) (b := m + 1) (mid := k + 1) hi (by (try dsimp only); omega) (by (try dsimp only); omega) (by (try dsimp only); omega) (by (try dsimp only); omega) p1 k1 (fun p q h1 h2 h3 => by (try dsimp only); omega) hx (fun x y h1 h2 h3 h4 => by (try dsimp only); omega)
   refine ⟨rot_st (by (try dsimp only); omega) (by (try dsimp only); omega) (by (try dsimp only); omega) p1 hx, join4 t1 t2 t3 t4 t5 (fun x y h1 h2 h3 h4 => ?_) (fun x y h1 h2 h3 h4 => by (try dsimp only); omega)⟩
   obtain rfl : y = k := by (try dsimp only); omega
   have e3 : ky S D1 x = ky S D x := by unfold ky; rw [rot_lo p1 (by (try dsimp only); omega)]
   have e4 : ky S D1 y = ky S D m := by unfold ky; rw [rot_1 p1 (by (try dsimp only); omega) (by (try dsimp only); omega) (by (try dsimp only); omega) (by (try dsimp only); omega)]; congr 2; omega
   rw [e3, e4]
   exact q1 x h1 h2

def SymIH (ob cb : Nat) (z : Sl) (S : List Int) (k : Nat) : Prop := ∀ (H0 : Heap) (D : List Int) (a m b : Nat), b - a <= k -> a < m -> m < b -> b <= D.length -> SC H0 ob cb z S -> OB H0 ob D -> (∀ x ∈ D, 0 <= x /\ x < S.length) -> D.length <= 100000 -> SrtK S D a m -> SrtK S D m b ->
 CallsH Tryz.prog n_139 #[.slice (some ⟨ob, 0, none⟩) D.length D.length, .int .i64 (a : Int), .int .i64 (m : Int), .int .i64 (b : Int), .func (.func 117) #[] #[.pointer (some ⟨cb, 0, none⟩)]] H0 (SP ob H0 (MP S D a b))

def Ph (S D : List Int) (a s mid e b : Nat) (D1 : List Int) : Prop := Rw a b D D1 /\ (St S D -> St S D1) /\ SrtK S D1 a s /\ SrtK S D1 s mid /\ SrtK S D1 mid e /\ SrtK S D1 e b /\ ∀ x y, a <= x -> x < mid -> mid <= y -> y < b -> ky S D1 y <= ky S D1 x
def Ph2 (S D : List Int) (a mid e b : Nat) (D1 : List Int) : Prop := Rw a b D D1 /\ (St S D -> St S D1) /\ SrtK S D1 a mid /\ SrtK S D1 mid e /\ SrtK S D1 e b /\ ∀ x y, a <= x -> x < mid -> mid <= y -> y < b -> ky S D1 y <= ky S D1 x

theorem sym_left (k : Nat) (ih : SymIH ob cb z S k) (H0 : Heap) {D : List Int} (c : SC H0 ob cb z S) (hr : ∀ x ∈ D, 0 <= x /\ x < S.length) (hn : D.length <= 100000) (a s mid e b : Nat) (h1 : a <= s) (h2 : s <= mid) (h3 : mid < b) (hb : b <= D.length) (hk : mid - a <= k) {H1 : Heap} {D1 : List Int} (o1 : OB H1 ob D1) (m1 : Mods [ob] H0 H1) (p1 : Ph S D a s mid e b D1)
  {x : Bool} (hx : x = decide (a < s /\ s < mid)) {J : Heap -> Prop} (hJ : ∀ H' D2, OB H' ob D2 -> Mods [ob] H0 H' -> Ph2 S D a mid e b D2 -> J H') : F_139_k6 ⟨some ⟨ob, 0, none⟩, D.length, D.length⟩ a ⟨cb, 0, none⟩ mid s J x H1 := by
 unfold F_139_k6
 obtain ⟨r1, s1, t1, t2, t3, t4, t5⟩ := p1
 have l1 := r1.len
 subst hx
 refine iteB_dec (fun d => ?_) (fun d => ?_)
 ·have := ih H1 D1 a s mid hk d.1 d.2 (by (try dsimp only); omega) (c.mods m1) o1 (r1.mem hr) (by (try dsimp only); omega) t1 t2
  rw [l1] at this
  refine this.mono ?_
  rintro v H2 ⟨rfl, D2, o2, m2, r2, s2, q2⟩
  refine ⟨rfl, hJ H2 D2 o2 (m1.trans m2) ⟨r1.trans (r2.mono (by (try dsimp only); omega) (by (try dsimp only); omega)), fun h => s2 (s1 h), q2, srtK_out t3 r2 (by (try dsimp only); omega), ?_, fun x y g1 g2 g3 g4 => ?_⟩⟩
  ·exact fun x y g1 g2 g3 => by
    by_cases he : mid <= x
    ·rw [ky_out r2 (by (try dsimp only); omega), ky_out r2 (by (try dsimp only); omega)]; exact t4 x y g1 g2 g3
    ·by_cases hy : mid <= y
     ·rw [ky_out (p := y) r2 (by (try dsimp only); omega)]
      by_cases hax : a <= x
      ·obtain ⟨u, u1, u2, u3⟩ := ky_in (S := S) r2 hax (by (try dsimp only); omega)
       rw [u3]; exact t5 u y u1 u2 hy g3
      ·rw [ky_out (p := x) r2 (by (try dsimp only); omega)]; exact t4 x y g1 g2 g3
     ·by_cases hax : a <= x
      ·exact q2 x y hax g2 (by (try dsimp only); omega)
      ·by_cases hay : a <= y
       ·obtain ⟨u, u1, u2, u3⟩ := ky_in (S := S) r2 hay (by (try dsimp only); omega)
        rw [u3, ky_out (p := x) r2 (by (try dsimp only); omega)]; exact t4 x u g1 (by (try dsimp only); omega) (by (try dsimp only); omega)
       ·rw [ky_out (p := x) r2 (by (try dsimp only); omega), ky_out (p := y) r2 (by (try dsimp only); omega)]; exact t4 x y g1 g2 g3
  ·obtain ⟨u, u1, u2, u3⟩ := ky_in (S := S) r2 g1 g2
   rw [u3, ky_out (p := y) r2 (by (try dsimp only); omega)]
   exact t5 u y u1 u2 g3 g4
 ·refine hJ H1 D1 o1 m1 ⟨r1, s1, ?_, t3, t4, t5⟩
  by_cases ha : a = s
  ·rw [ha]; exact t2
  ·rw [show mid = s by (try dsimp only); omega]; exact t1

theorem sym_right (k : Nat) (ih : SymIH ob cb z S k) (H0 : Heap) {D : List Int} (c : SC H0 ob cb z S) (hr : ∀ x ∈ D, 0 <= x /\ x < S.length) (hn : D.length <= 100000) (a mid e b : Nat) (h1 : a < mid) (h2 : mid <= e) (h3 : e <= b) (hb : b <= D.length) (hk : b - mid <= k) {H1 : Heap} {D1 : List Int} (o1 : OB H1 ob D1) (m1 : Mods [ob] H0 H1) (p1 : Ph2 S D a mid e b D1)
  {x : Bool} (hx : x = decide (mid < e /\ e < b)) : F_139_k7 (SP ob H0 (MP S D a b)) ⟨some ⟨ob, 0, none⟩, D.length, D.length⟩ b ⟨cb, 0, none⟩ mid e x H1 := by
 unfold F_139_k7
 obtain ⟨r1, s1, t1, t3, t4, t5⟩ := p1
 have l1 := r1.len
 subst hx
 refine iteB_dec (fun d => ?_) (fun d => ?_)
 ·have := ih H1 D1 mid e b hk d.1 d.2 (by (try dsimp only); omega) (c.mods m1) o1 (r1.mem hr) (by (try dsimp only); omega) t3 t4
  rw [l1] at this
  refine this.mono ?_
  rintro v H2 ⟨rfl, D2, o2, m2, r2, s2, q2⟩
  refine ⟨rfl, rfl, D2, o2, m1.trans m2, r1.trans (r2.mono (by (try dsimp only); omega) (by (try dsimp only); omega)), fun h => s2 (s1 h), srtK_join (srtK_out t1 r2 (by (try dsimp only); omega)) q2 (fun x y g1 g2 g3 g4 => ?_)⟩
  obtain ⟨u, u1, u2, u3⟩ := ky_in (S := S) r2 g3 g4
  rw [u3, ky_out (p := x) r2 (by (try dsimp only); omega)]
  exact t5 x u g1 g2 u1 u2
 ·refine ⟨rfl, D1, o1, m1, r1, s1, srtK_join t1 ?_ t5⟩
  by_cases ha : mid = e
  ·rw [ha]; exact t4
  ·rw [show b = e by (try dsimp only); omega]; exact t3

theorem sym_main (k : Nat) (ih : SymIH ob cb z S k) (H0 : Heap) {D : List Int} (c : SC H0 ob cb z S) (hD : OB H0 ob D) (hr : ∀ x ∈ D, 0 <= x /\ x < S.length) (hn : D.length <= 100000) (a m b mid s0 r0 : Nat) (ham : a < m) (hmb : m < b) (hb : b <= D.length) (hmid : mid = (a + b) / 2) (hk : b - a <= k + 1)
  (k1 : SrtK S D a m) (k2 : SrtK S D m b) (hs0 : a <= s0) (hsr : s0 <= r0) (hr1 : r0 <= mid) (hr2 : r0 <= m) (hr3 : r0 = mid \/ r0 = m) (he : mid + m - s0 <= b) (hs : s0 = a \/ mid + m - s0 = b) :
  F_139_k11 (SP ob H0 (MP S D a b)) ⟨some ⟨ob, 0, none⟩, D.length, D.length⟩ a m b ⟨cb, 0, none⟩ mid ((mid + m : Nat) : Int) s0 r0 H0 := by
 unfold F_139_k11
 refine letV_mk ((mid + m - 1 : Nat) : Int) (by rw [i64_in (by (try dsimp only); omega)]; omega) ?_
 refine ⟨fun x y H' => ∃ s r : Nat, x = s /\ y = r /\ s0 <= s /\ s <= r /\ r <= r0 /\ H' = H0 /\ (s = s0 \/ ky S D (mid + m - s) <= ky S D (s - 1)) /\ (r = r0 \/ ky S D r < ky S D (mid + m - 1 - r)), fun x y _ => (y - x).toNat, ⟨s0, r0, rfl, rfl, Nat.le_refl _, hsr, Nat.le_refl _, rfl, .inl rfl, .inl rfl⟩, ?_⟩
 rintro x y H1 ⟨s, r, rfl, rfl, q1, q2, q3, rfl, q4, q5⟩
 unfold F_139_r10
 refine iteB_dec (fun d => ⟨by (try dsimp only); omega, letV_mk _ (half_spec s r (by (try dsimp only); omega)) ?_⟩) (fun d => ?_)
 ·have hh : s <= (s + r) / 2 /\ (s + r) / 2 < r := by (try dsimp only); omega
  generalize (s + r) / 2 = h at hh ⊢
  have e1 : IntKind.i64.wrap (((mid + m - 1 : Nat) : Int) - h) = ((mid + m - 1 - h : Nat) : Int) := by rw [i64_in (by (try dsimp only); omega)]; omega
  simp only [e1]
  have hx := hr _ (getD_mem' (l := D) (k := mid + m - 1 - h) 0 (by (try dsimp only); omega))
  have hx1 := hr _ (getD_mem' (l := D) (k := h) 0 (by (try dsimp only); omega))
  refine ⟨by (try dsimp only); omega, by (try dsimp only); omega, unSome_mk rfl ⟨_, hD.at (by (try dsimp only); omega), by (try dsimp only); omega, by (try dsimp only); omega, unSome_mk rfl ⟨_, hD.at (by (try dsimp only); omega), (cmp_spec c _ _ hx hx1).mono ?_⟩⟩⟩
  rintro v H3 ⟨⟨r', rfl, hrr⟩, rfl⟩
  refine ⟨r', rfl, iteB_not (fun d2 => letV_mk ((h + 1 : Nat) : Int) (by rw [i64_in (by (try dsimp only); omega)]; omega) ⟨⟨h + 1, r, rfl, rfl, by (try dsimp only); omega, by (try dsimp only); omega, by (try dsimp only); omega, rfl, .inr ?_, q5⟩, by (try dsimp only); omega⟩) (fun d2 => ⟨⟨s, h, rfl, rfl, by (try dsimp only); omega, by (try dsimp only); omega, by (try dsimp only); omega, rfl, q4, .inr ?_⟩, by (try dsimp only); omega⟩)⟩
  ·have : ¬ ky S D h < ky S D (mid + m - 1 - h) := fun t => by simp [hrr.2 t] at d2
   rw [show mid + m - (h + 1) = mid + m - 1 - h by (try dsimp only); omega, show h + 1 - 1 = h by (try dsimp only); omega]
   omega
  ·exact hrr.1 (by simpa using d2)
 ·obtain rfl : s = r := by (try dsimp only); omega
  generalize hee : mid + m - s = e
  refine letV_mk (e : Int) (by rw [i64_in (by (try dsimp only); omega)]; omega) ?_
  have hx : ∀ x y, s <= x -> x < m -> m <= y -> y < e -> ky S D x < ky S D y := fun x y g1 g2 g3 g4 => by
   have := q5.resolve_left (by (try dsimp only); omega)
   rw [show mid + m - 1 - s = e - 1 by (try dsimp only); omega] at this
   have a1 : ky S D x <= ky S D s := by
    by_cases h : x = s
    ·rw [h]; exact Int.le_refl _
    ·exact k1 s x (by (try dsimp only); omega) (by (try dsimp only); omega) g2
   have a2 : ky S D (e - 1) <= ky S D y := by
    by_cases h : y = e - 1
    ·rw [h]; exact Int.le_refl _
    ·exact k2 y (e - 1) g3 (by (try dsimp only); omega) (by (try dsimp only); omega)
   omega
  have ho : ∀ x y, a <= x -> x < s -> e <= y -> y < b -> ky S D y <= ky S D x := fun x y g1 g2 g3 g4 => by
   have := q4.resolve_left (by (try dsimp only); omega)
   rw [hee] at this
   have a1 : ky S D (s - 1) <= ky S D x := by
    by_cases h : x = s - 1
    ·rw [h]; exact Int.le_refl _
    ·exact k1 x (s - 1) g1 (by (try dsimp only); omega) (by (try dsimp only); omega)
   have a2 : ky S D y <= ky S D e := by
    by_cases h : y = e
    ·rw [h]; exact Int.le_refl _
    ·exact k2 e y (by (try dsimp only); omega) (by (try dsimp only); omega) g4
   omega
  have fin : ∀ D1, Rw a b D D1 -> Pm (rotI s m e) D D1 -> Ph S D a s mid e b D1 := fun D1 w1 w2 => ⟨w1, rot_st (by (try dsimp only); omega) (by (try dsimp only); omega) (by (try dsimp only); omega) w2 hx, rot_parts (by (try dsimp only); omega) (by (try dsimp only); omega) (by (try dsimp only); omega) (by (try dsimp only); omega) (by (try dsimp only); omega) w2 k1 k2 hx ho⟩
  refine ⟨fun H' => ∃ D1, OB H' ob D1 /\ Mods [ob] H1 H' /\ Ph S D a s mid e b D1, ⟨fun x H' => x = decide (s < m /\ m < e) /\ H' = H1, ?_, ?_⟩, ?_⟩
  ·refine iteB_dec (fun d1 => ⟨by simp [show s < m by (try dsimp only); omega], rfl⟩) (fun d1 => ⟨by symm; rw [decide_eq_false_iff_not]; omega, rfl⟩)
  ·rintro x H2 ⟨rfl, rfl⟩
   unfold F_139_k5
   refine iteB_dec (fun d1 => (rotate_spec H2 hD hn s m e d1.1 d1.2 (by (try dsimp only); omega)).mono ?_) (fun d1 => ⟨D, hD, .refl _ _, fin D (.refl _ _ _) ⟨rfl, fun p => by unfold rotI; congr 1; split <;> (try split) <;> omega⟩⟩)
   rintro v H3 ⟨rfl, D1, o1, m1, w1, w2⟩
   exact ⟨rfl, D1, o1, m1, fin D1 (w1.mono (by (try dsimp only); omega) (by (try dsimp only); omega)) w2⟩
  ·rintro H2 ⟨D1, o1, m1, p1⟩
   unfold F_139_k9
   refine ⟨fun H' => ∃ D2, OB H' ob D2 /\ Mods [ob] H1 H' /\ Ph2 S D a mid e b D2, ⟨fun x H' => x = decide (a < s /\ s < mid) /\ H' = H2, ?_, ?_⟩, ?_⟩
   ·refine iteB_dec (fun d1 => ⟨by simp [show a < s by (try dsimp only); omega], rfl⟩) (fun d1 => ⟨by symm; rw [decide_eq_false_iff_not]; omega, rfl⟩)
   ·rintro x H3 ⟨hx3, rfl⟩
    exact sym_left k ih H1 c hr hn a s mid e b (by (try dsimp only); omega) (by (try dsimp only); omega) (by (try dsimp only); omega) hb (by (try dsimp only); omega) o1 m1 p1 hx3 (fun H' D2 o2 m2 p2 => ⟨D2, o2, m2, p2⟩)
   ·rintro H3 ⟨D2, o2, m2, p2⟩
    unfold F_139_k8
    refine ⟨fun x H' => x = decide (mid < e /\ e < b) /\ H' = H3, ?_, ?_⟩
    ·refine iteB_dec (fun d1 => ⟨by simp [show mid < e by (try dsimp only); omega], rfl⟩) (fun d1 => ⟨by symm; rw [decide_eq_false_iff_not]; omega, rfl⟩)
    ·rintro x H4 ⟨hx4, rfl⟩
     exact sym_right k ih H1 c hr hn a mid e b (by (try dsimp only); omega) (by (try dsimp only); omega) (by (try dsimp only); omega) hb (by (try dsimp only); omega) o2 m2 p2 hx4

theorem sym_all (k : Nat) : SymIH ob cb z S k := by
 induction k with
 | zero => intro H0 D a m b h1 h2 h3; omega
 | succ k ih =>
  intro H0 D a m b hk ham hmb hb c hD hr hn k1 k2
  refine F_139_ok ⟨some ⟨ob, 0, none⟩, D.length, D.length⟩ _ _ _ _ ?_
  unfold F_139
  have e1 : IntKind.i64.wrap ((m : Int) - a) = ((m - a : Nat) : Int) := by rw [i64_in (by (try dsimp only); omega)]; omega
  have e2 : IntKind.i64.wrap ((b : Int) - m) = ((b - m : Nat) : Int) := by rw [i64_in (by (try dsimp only); omega)]; omega
  rw [e1, e2]
  refine iteB_beq (fun d => sym1 H0 c hD hr hn a m b (by (try dsimp only); omega) hmb hb k2) (fun d => iteB_beq (fun d1 => sym2 H0 c hD hr hn a m b (by (try dsimp only); omega) ham hb k1) (fun d1 => ⟨by (try dsimp only); omega, letV_mk _ (half_spec a b (by (try dsimp only); omega)) ?_⟩))
  generalize hmid : (a + b) / 2 = mid
  refine letV_mk ((mid + m : Nat) : Int) (by rw [i64_in (by (try dsimp only); omega)]; omega) ?_
  refine ⟨fun s r H' => H' = H0 /\ ∃ s0 r0 : Nat, s = s0 /\ r = r0 /\ a <= s0 /\ s0 <= r0 /\ r0 <= mid /\ r0 <= m /\ (r0 = mid \/ r0 = m) /\ mid + m - s0 <= b /\ (s0 = a \/ mid + m - s0 = b), ?_, ?_⟩
  ·refine iteB_dec (fun d2 => letV_mk ((mid + m - b : Nat) : Int) (by rw [i64_in (by (try dsimp only); omega)]; omega) ⟨rfl, mid + m - b, mid, rfl, rfl, by (try dsimp only); omega, by (try dsimp only); omega, by (try dsimp only); omega, by (try dsimp only); omega, .inl rfl, by (try dsimp only); omega, .inr (by (try dsimp only); omega)⟩) (fun d2 => ⟨rfl, a, m, rfl, rfl, by (try dsimp only); omega, by (try dsimp only); omega, by (try dsimp only); omega, by (try dsimp only); omega, .inr rfl, by (try dsimp only); omega, .inl rfl⟩)
  ·rintro s r H1 ⟨rfl, s0, r0, rfl, rfl, g1, g2, g3, g4, g5, g6, g7⟩
   exact sym_main k ih H1 c hD hr hn a m b mid s0 r0 ham hmb hb hmid.symm (by (try dsimp only); omega) k1 k2 g1 g2 g3 g4 g5 g6 g7
end

end Go.Proofs.YtnhhncjflnlfaaaGreat
