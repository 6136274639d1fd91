/-
  AllocateFree.
-/
import Derived.Test.YtigcheamheiopaaP6
import Derived.Test.YtigcheamheiopaaP7
import Derived.Test.YtigcheamheiopaaQ1
import Derived.Test.YtigcheamheiopaaN7
import Derived.Test.YtigcheamheiopaaEngB
namespace Go.Proofs.Ytigcheamheiopaa
open Go.Eng
set_option linter.unusedVariables false

theorem Equal_api_Range_spec (H : Heap) (a b : Sl) (A B : List Rg) (ha : IsS 2 encR H a A) (hb : IsS 2 encR H b B) (hl : A.length ≤ 9223372036854775807) :
    CallsH Try.prog n_help_Equal_api_Range #[.slice a.p a.n a.c, .slice b.p b.n b.c] H (fun v H' => v = .bool (decide (A = B)) ∧ H' = H) := by
  refine F_help_Equal_api_Range_ok _ _ ?_
  unfold F_help_Equal_api_Range
  have na := ha.len
  have nb := hb.len
  refine iteB_bne (fun c => ⟨by rw [decide_eq_false (fun e => c (by rw [na, nb, e]))], rfl⟩) (fun c => ?_)
  have hlen : A.length = B.length := by omega
  refine loop1 A.length (fun k H' => H' = H ∧ ∀ i, i < k → A[i]? = B[i]?) ⟨rfl, fun i hi => by omega⟩ ?_
  rintro k H1 hk ⟨rfl, heq⟩
  unfold F_help_Equal_api_Range_r1
  refine iteB_dec (fun c1 => ?_) (fun c1 => ⟨?_, rfl⟩)
  · have hkA : k < A.length := by omega
    have hkB : k < B.length := by omega
    obtain ⟨p, hp, hr⟩ := IsS.atN ha (0, 0) hkA
    obtain ⟨q, hq, hs⟩ := IsS.atN hb (0, 0) hkB
    have eA : A[k]? = some (A.getD k (0, 0)) := by simp [List.getD, hkA]
    have eB : B[k]? = some (B.getD k (0, 0)) := by simp [List.getD, hkB]
    generalize A.getD k (0, 0) = x at *
    generalize B.getD k (0, 0) = y at *
    obtain ⟨x0, x1⟩ := x
    obtain ⟨y0, y1⟩ := y
    refine ⟨by omega, by omega, unSome_mk hp ⟨_, hr 0 _ rfl, _, hr 1 _ rfl, by omega, by omega, unSome_mk hq ⟨_, hs 0 _ rfl, _, hs 1 _ rfl, iteB_not (fun c2 => ⟨?_, rfl⟩) (fun c2 => letV_mk _ rfl (next1 hkA (by omega) ⟨rfl, fun i hi => ?_⟩))⟩⟩⟩
    · rw [decide_eq_false]
      intro e
      rw [e, eB] at eA
      simp at eA
      simp at c2
      simp_all
    · by_cases e : i = k
      · subst e
        simp at c2
        rw [eA, eB]
        simp_all
      · exact heq i (by omega)
  · rw [decide_eq_true]
    apply List.ext_getElem?
    intro i
    by_cases hi : i < A.length
    · exact heq i (by omega)
    · rw [List.getElem?_eq_none (by omega), List.getElem?_eq_none (by omega)]

/-- An array of truth values that tells of which places 'P' holds. -/
def AP (H : Heap) (b : Nat) (P : Int → Prop) : Prop := ∃ f, BBlk H b t_512_bool 512 f ∧ ∀ x : Nat, x < 512 → (f x = true ↔ P x)
theorem AP.ext {H H' : Heap} {b : Nat} {P : Int → Prop} (h : AP H b P) (e : Ext H H') : AP H' b P := by obtain ⟨f, h1, h2⟩ := h; exact ⟨f, h1.ext e, h2⟩
theorem AP.mods {H H' : Heap} {b : Nat} {P : Int → Prop} {S : List Nat} (h : AP H b P) (m : Mods S H H') (hb : b ∉ S) : AP H' b P := by obtain ⟨f, h1, h2⟩ := h; exact ⟨f, h1.mods m hb, h2⟩
theorem AP.congr {H : Heap} {b : Nat} {P Q : Int → Prop} (h : AP H b P) (hq : ∀ x : Int, P x ↔ Q x) : AP H b Q := by obtain ⟨f, h1, h2⟩ := h; exact ⟨f, h1, fun x hx => (h2 x hx).trans (hq x)⟩
theorem AP.wr {H : Heap} {b : Nat} {P : Int → Prop} (h : AP H b P) {i : Nat} (hi : i < 512) (v : Bool) :
    okRow H ((⟨b, 0, none⟩ : Addr).add (i * 1)) 1 ∧ AP (wrs H ((⟨b, 0, none⟩ : Addr).add (i * 1)) [.bool v]) b (fun x => (x = (i : Int) ∧ v = true) ∨ (x ≠ (i : Int) ∧ P x)) := by
  obtain ⟨f, h1, h2⟩ := h
  refine ⟨h1.ok hi, _, h1.wr hi v, fun x hx => ?_⟩
  unfold upd
  by_cases e : x = i
  · subst e; simp
  · rw [if_neg e, h2 x hx]
    constructor
    · exact fun h => .inr ⟨by omega, h⟩
    · rintro (⟨h, _⟩ | ⟨_, h⟩)
      · omega
      · exact h
theorem AP.rd {H : Heap} {b : Nat} {P : Int → Prop} (h : AP H b P) {i : Nat} (hi : i < 512) : ∃ v : Bool, rd H ((⟨b, 0, none⟩ : Addr).add (i * 1)) = some (.bool v) ∧ (v = true ↔ P i) := by
  obtain ⟨f, h1, h2⟩ := h
  exact ⟨f i, h1.rd hi, h2 i hi⟩

theorem shlI {k : Nat} (hk : k < 9) : IntKind.i64.wrap ((1 : Int) * 2 ^ (min (IntKind.u64.wrap (k : Int)).toNat IntKind.i64.bits)) = 2 ^ k ∧ (1 : Int) ≤ 2 ^ k ∧ (2 : Int) ^ k ≤ 256 ∧ (2 : Int) ^ (9 - k) * 2 ^ k = 512 ∧ (2 : Int) ^ (9 - k) ≤ 512 := by
  have h : k = 0 ∨ k = 1 ∨ k = 2 ∨ k = 3 ∨ k = 4 ∨ k = 5 ∨ k = 6 ∨ k = 7 ∨ k = 8 := by omega
  rcases h with rfl | rfl | rfl | rfl | rfl | rfl | rfl | rfl | rfl <;> decide

theorem iteB_no {p : Prop} [Decidable p] {A B : Prop} (h : ¬ p) (hB : B) : iteB (decide p) A B := iteB_dec (fun q => absurd q h) (fun _ => hB)
theorem iteB_ne {x y : Int} {A B : Prop} (h : x ≠ y) (hB : B) : iteB (x == y) A B := iteB_beq (fun q => absurd q h) (fun _ => hB)

/-- A list of ranges below 512, as the law makes them. -/
structure FreeOk (F : List Rg) : Prop where
  asc : Asc F
  v : ValidR F
  rng : ∀ r ∈ F, 1 ≤ r.2 ∧ 0 ≤ r.1 ∧ r.1 + r.2 ≤ 512
theorem free_ok {A B : List Rg} (ha : SmallR A) (hb : SmallR B) : FreeOk (freeF A B) ∧ ∀ y, Cov (freeF A B) y ↔ Cov A y ∧ ¬ Cov B y := by
  obtain ⟨h1, h2⟩ := freeF_spec (l := A) (fixed := B) (fun x hx => (ha.ok x hx).2.2.1) (fun x hx => (hb.ok x hx).2.2.1)
  obtain ⟨h3, _⟩ := freeF_valid ha.valid hb.valid (by have := ha.len; have := hb.len; omega)
  refine ⟨⟨h1, h3, fun r hr => ?_⟩, h2⟩
  have hl := h1.len r hr
  have small : ∀ y, Cov A y → 0 ≤ y ∧ y < 420 := fun y ⟨s, hs, k1, k2⟩ => by have := ha.ok s hs; omega
  have c1 := small r.1 ((h2 _).1 ⟨r, hr, by omega, by omega⟩).1
  have c2 := small (r.1 + r.2 - 1) ((h2 _).1 ⟨r, hr, by omega, by omega⟩).1
  omega

theorem free_blocks (H : Heap) (free : Sl) (F : List Rg) (hF : FreeOk F) (H11 H20 : Heap) (hf : Rgs H20 free F) (ap : AP H20 H11.size (Cov F)) (ex : Ext H H20) :
    ∃ I_6 : Int → Heap → Prop, ∃ M_6 : Int → Heap → Nat, I_6 0 H20 ∧ (∀ s : Int, ∀ H24 : Heap, I_6 s H24 → F_law21_AllocateFree_r8 (BoolP true H) free H11 I_6 M_6 s H24) := by
  refine loop1 9 (fun k H' => Ext H20 H') (.refl _) ?_
  rintro k H24 hk e24
  unfold F_law21_AllocateFree_r8
  refine iteB_dec (fun c => ?_) (fun c => ⟨rfl, ex.trans e24⟩)
  have hk9 : k < 9 := by omega
  obtain ⟨s1, s2, s3, s4, s5⟩ := shlI hk9
  obtain ⟨q, hq⟩ : ∃ q : Nat → Bool, ∀ z, q z = true ↔ BlkIn F (2 ^ k) z := ⟨fun z => @decide _ (Classical.propDecidable (BlkIn F (2 ^ k) z)), fun z => by simp⟩
  obtain ⟨m, hm⟩ : ∃ m : Nat, (2 : Int) ^ (9 - k) = m := ⟨((2 : Int) ^ (9 - k)).toNat, by have := pow_pos2 (9 - k); omega⟩
  have hcnt := cnt_blk (P := 2 ^ k) (by omega) m F hF.asc (fun r hr => by have := hF.rng r hr; rw [← hm, s4]; omega) q (fun z _ => hq z)
  have hbv : blkV F (k : Int) = cntN q m := by
    unfold blkV
    rw [if_pos ⟨by omega, hF.v⟩, mergeF_asc hF.asc, Int.toNat_natCast, hcnt]
  rw [hm] at s4 s5
  generalize hPP : (2 : Int) ^ k = P at *
  refine ⟨fun n a H' => ∃ z : Nat, z ≤ m ∧ a = z * P ∧ n = cntN q z ∧ H' = H24, fun n a _ => (512 - a).toNat, ⟨0, by omega, by simp, rfl, rfl⟩, ?_⟩
  rintro n a H25 ⟨z, hz, rfl, rfl, rfl⟩
  unfold F_law21_AllocateFree_r7
  have hcl := cntN_le q z
  have hzm : (z : Int) * P ≤ m * P := Int.mul_le_mul_of_nonneg_right (by omega) (by omega)
  have hz0 : 0 ≤ (z : Int) * P := Int.mul_nonneg (by omega) (by omega)
  refine iteB_dec (fun d => ?_) (fun d => ?_)
  · have hzlt : z < m := by
      apply Classical.byContradiction
      intro hn
      have : z = m := by omega
      subst this
      omega
    have hz1 : ((z : Int) + 1) * P ≤ m * P := Int.mul_le_mul_of_nonneg_right (by omega) (by omega)
    rw [Int.add_mul, Int.one_mul] at hz1
    refine ⟨fun n2 H' => n2 = cntN q (z + 1) ∧ H' = H25, ?_, ?_⟩
    · refine ⟨fun all x H' => ∃ j : Nat, x = z * P + j ∧ (j : Int) ≤ P ∧ (all = true ↔ ∀ y, (z : Int) * P ≤ y → y < x → Cov F y) ∧ H' = H25, fun all x _ => (z * P + P - x).toNat, ⟨0, by simp, by omega, by simp; intro y h1 h2; omega, rfl⟩, ?_⟩
      rintro all x H26 ⟨j, rfl, hj, hall, rfl⟩
      unfold F_law21_AllocateFree_r5
      refine ⟨u64_nonneg _, ?_⟩
      rw [s1, i64_in (n := (z : Int) * P + P) (by omega)]
      have hsnoc : ∀ b : Bool, (b = true ↔ all = true ∧ Cov F (z * P + j)) → (b = true ↔ ∀ y, (z : Int) * P ≤ y → y < z * P + ((j + 1 : Nat) : Int) → Cov F y) := fun b hb => by
        rw [hb, hall]
        constructor
        · rintro ⟨h1, h2⟩ y k1 k2
          by_cases e : y = z * P + j
          · rw [e]; exact h2
          · exact h1 y k1 (by omega)
        · intro h
          exact ⟨fun y k1 k2 => h y k1 (by omega), h _ (by omega) (by omega)⟩
      have hnx : i64_in (n := (z : Int) * P + j + 1) (by omega) = i64_in (n := (z : Int) * P + j + 1) (by omega) := rfl
      refine iteB_dec (fun d1 => iteB_intro (fun ha => ?_) (fun ha => ?_)) (fun d1 => ?_)
      · obtain ⟨xi, hxi⟩ : ∃ xi : Nat, (z : Int) * P + j = xi := ⟨(z * P + j).toNat, by omega⟩
        obtain ⟨v, r, hv⟩ := (ap.ext e24).rd (i := xi) (by omega)
        refine ⟨by omega, by omega, v, by rw [hxi, Int.toNat_natCast]; exact r, letV_mk (z * P + ((j + 1 : Nat) : Int)) (by rw [i64_in (by omega)]; omega) ⟨⟨j + 1, rfl, by omega, hsnoc v ?_, rfl⟩, by dsimp only; omega⟩⟩
        rw [hv, ha, hxi]
        simp
      · refine letV_mk (z * P + ((j + 1 : Nat) : Int)) (by rw [i64_in (by omega)]; omega) ⟨⟨j + 1, rfl, by omega, hsnoc false ?_, rfl⟩, by dsimp only; omega⟩
        rw [ha]
        simp
      · have hjP : (j : Int) = P := by omega
        have hqz : q z = true ↔ all = true := by
          rw [hq z, hall, hjP]
          exact Iff.rfl
        refine iteB_intro (fun ha => letV_mk _ (u64_in (by omega)) ⟨?_, rfl⟩) (fun ha => ⟨?_, rfl⟩)
        · simp only [cntN]
          rw [if_pos (hqz.2 ha)]
          omega
        · simp only [cntN]
          rw [if_neg (fun hh => by have := hqz.1 hh; rw [ha] at this; cases this)]
          omega
    · rintro n2 H27 ⟨rfl, rfl⟩
      unfold F_law21_AllocateFree_k6
      refine ⟨u64_nonneg _, letV_mk (((z + 1 : Nat) : Int) * P) ?_ ⟨⟨z + 1, by omega, rfl, rfl, rfl⟩, ?_⟩⟩
      · rw [s1, i64_in (by omega)]
        have : ((z + 1 : Nat) : Int) = z + 1 := by omega
        rw [this, Int.add_mul, Int.one_mul]
      · have : ((z + 1 : Nat) : Int) = z + 1 := by omega
        dsimp only
        rw [this, Int.add_mul, Int.one_mul]
        omega
  · have hzm' : z = m := by
      apply Classical.byContradiction
      intro hn
      have : ((z : Int) + 1) * P ≤ m * P := Int.mul_le_mul_of_nonneg_right (by omega) (by omega)
      rw [Int.add_mul, Int.one_mul] at this
      omega
    refine (Blocks_spec H25 free F k (hf.ext e24) hF.v.u64).mono ?_
    rintro v H28 ⟨rfl, e28⟩
    refine ⟨_, rfl, iteB_neg (by rw [hbv, hzm']; simp) (letV_mk _ rfl (next1 hk9 (by omega) (e24.trans e28)))⟩

/-- What stands around while the arrays are filled. -/
structure FrS (H H11 H12 : Heap) (W G : Int → Prop) (H' : Heap) : Prop where
  ext : Ext H11 H'
  w : AP H' H11.size W
  g : AP H' H12.size G

theorem FrS.wrW {H H11 H12 H' : Heap} {W G : Int → Prop} (h : FrS H H11 H12 W G H') (hz : H12.size = H11.size + 1) {i : Nat} (hi : i < 512) (v : Bool) : okRow H' ((⟨H11.size, 0, none⟩ : Addr).add (i * 1)) 1 ∧ FrS H H11 H12 (fun x => (x = (i : Int) ∧ v = true) ∨ (x ≠ (i : Int) ∧ W x)) G (wrs H' ((⟨H11.size, 0, none⟩ : Addr).add (i * 1)) [.bool v]) := by
  obtain ⟨o, a⟩ := h.w.wr hi v
  have m : Mods [H11.size] H' (wrs H' ((⟨H11.size, 0, none⟩ : Addr).add (i * 1)) [.bool v]) := mods_wr_add (by simp)
  exact ⟨o, Mods.ext h.ext m (by simp), a, h.g.mods m (by simp; omega)⟩
theorem FrS.wrG {H H11 H12 H' : Heap} {W G : Int → Prop} (h : FrS H H11 H12 W G H') (hz : H12.size = H11.size + 1) {i : Nat} (hi : i < 512) (v : Bool) : okRow H' ((⟨H12.size, 0, none⟩ : Addr).add (i * 1)) 1 ∧ FrS H H11 H12 W (fun x => (x = (i : Int) ∧ v = true) ∨ (x ≠ (i : Int) ∧ G x)) (wrs H' ((⟨H12.size, 0, none⟩ : Addr).add (i * 1)) [.bool v]) := by
  obtain ⟨o, a⟩ := h.g.wr hi v
  have m : Mods [H12.size] H' (wrs H' ((⟨H12.size, 0, none⟩ : Addr).add (i * 1)) [.bool v]) := mods_wr_add (by simp)
  exact ⟨o, Mods.ext h.ext m (by simp; omega), h.w.mods m (by simp; omega), a⟩
theorem FrS.congr {H H11 H12 H' : Heap} {W W' G G' : Int → Prop} (h : FrS H H11 H12 W G H') (hw : ∀ x, W x ↔ W' x) (hg : ∀ x, G x ↔ G' x) : FrS H H11 H12 W' G' H' := ⟨h.ext, h.w.congr hw, h.g.congr hg⟩

theorem cov_take {l : List Rg} {k : Nat} (hk : k < l.length) (x : Int) : Cov (l.take (k + 1)) x ↔ Cov (l.take k) x ∨ ((l.getD k (0, 0)).1 ≤ x ∧ x < (l.getD k (0, 0)).1 + (l.getD k (0, 0)).2) := by
  rw [take_succ_d (0, 0) hk, Cov_append]
  simp [Cov]

set_option maxRecDepth 100000 in
theorem free_got (H : Heap) (v : Value) (free : Sl) (F : List Rg) (hF : FreeOk F) (H11 H12 : Heap) (hz : H12.size = H11.size + 1) (hf : Rgs H11 free F) (ex : Ext H H11) (W : Int → Prop) (hW : ∀ x, W x ↔ Cov F x) (H17 : Heap) (st : FrS H H11 H12 W (fun _ => False) H17) :
    ∃ I_4 : Int → Heap → Prop, ∃ M_4 : Int → Heap → Nat, I_4 0 H17 ∧ (∀ i4 : Int, ∀ H20 : Heap, I_4 i4 H20 → F_law21_AllocateFree_r9 (BoolP true H) v free H11 H12 I_4 M_4 i4 H20) := by
  have hFl := hF.v.1
  have hsn := hf.len
  refine loop1 F.length (fun k H' => FrS H H11 H12 (Cov F) (Cov (F.take k)) H') (st.congr hW (fun x => by simp [Cov])) ?_
  rintro k H20 hk s20
  unfold F_law21_AllocateFree_r9
  refine iteB_dec (fun c => ?_) (fun c => ?_)
  · have hkn : k < F.length := by omega
    obtain ⟨a, hp, r0, r1⟩ := Rgs.atN (hf.ext s20.ext) hkn
    have hr := hF.rng _ (getD_mem' (0, 0) hkn)
    have hct := cov_take hkn
    refine ⟨fun H' => H' = H20, ?_, ?_⟩
    · refine ⟨by omega, by omega, unSome_mk hp ⟨_, r0, iteB_no (by omega) ⟨by omega, by omega, unSome_mk hp ⟨_, r1, by omega, by omega, unSome_mk hp ⟨_, r0, ?_⟩⟩⟩⟩⟩
      rw [u64_in (n := 512 - (F.getD k (0, 0)).1) (by omega)]
      refine iteB_no (by omega) ⟨by omega, by omega, unSome_mk hp ⟨_, r1, iteB_ne (by omega) (iteB_dec (fun c1 => ?_) (fun c1 => rfl))⟩⟩
      obtain ⟨p, hpk⟩ : ∃ p : Nat, k = p + 1 := ⟨k - 1, by omega⟩
      obtain ⟨a2, hp2, q0, q1⟩ := Rgs.atN (hf.ext s20.ext) (k := p) (by omega)
      have hr2 := hF.rng _ (getD_mem' (l := F) (k := p) (0, 0) (by omega))
      have e1 : IntKind.i64.wrap ((k : Int) - 1) = (p : Int) := by rw [i64_in (by omega)]; omega
      have hgap : (F.getD p (0, 0)).1 + (F.getD p (0, 0)).2 < (F.getD k (0, 0)).1 := by
        have key : ∀ (l : List Rg) (p : Nat), Asc l → p + 1 < l.length → (l.getD p (0, 0)).1 + (l.getD p (0, 0)).2 < (l.getD (p + 1) (0, 0)).1 := by
          intro l
          induction l with
          | nil => intro p _ h; simp at h
          | cons r l ih =>
            intro p ha h
            cases p with
            | zero =>
              have := ha.2.1 (l.getD 0 (0, 0)) (getD_mem' _ (by simpa using h))
              simpa using this
            | succ p => simpa using ih p ha.2.2 (by simpa using h)
        rw [hpk]
        exact key F p hF.asc (by omega)
      rw [e1]
      refine ⟨by omega, by omega, unSome_mk hp ⟨_, r0, by omega, by omega, unSome_mk hp2 ⟨_, q0, by omega, by omega, unSome_mk hp2 ⟨_, q1, ?_⟩⟩⟩⟩
      rw [u64_in (by omega)]
      exact iteB_no (by omega) rfl
    · rintro H21 rfl
      unfold F_law21_AllocateFree_k4
      refine ⟨by omega, by omega, unSome_mk hp ⟨_, r0, fun x H' => ∃ j : Nat, x = (F.getD k (0, 0)).1 + j ∧ (j : Int) ≤ (F.getD k (0, 0)).2 ∧ FrS H H11 H12 (Cov F) (fun y => Cov (F.take k) y ∨ ((F.getD k (0, 0)).1 ≤ y ∧ y < x)) H', fun x _ => ((F.getD k (0, 0)).1 + (F.getD k (0, 0)).2 - x).toNat, ⟨0, by omega, by omega, s20.congr (fun _ => Iff.rfl) (fun y => ⟨.inl, fun h => by rcases h with h | h; exact h; omega⟩)⟩, ?_⟩⟩
      rintro x H22 ⟨j, rfl, hj, s22⟩
      unfold F_law21_AllocateFree_r3
      obtain ⟨a3, hp3, q0, q1⟩ := Rgs.atN (hf.ext s22.ext) hkn
      generalize F.getD k (0, 0) = r at *
      refine ⟨by omega, by omega, unSome_mk hp3 ⟨_, q0, by omega, by omega, unSome_mk hp3 ⟨_, q1, ?_⟩⟩⟩
      rw [u64_in (n := r.1 + r.2) (by omega)]
      refine iteB_dec (fun d => ?_) (fun d => letV_mk _ rfl (next1 hkn (by omega) (s22.congr (fun _ => Iff.rfl) (fun y => ?_))))
      · obtain ⟨xi, hxi⟩ : ∃ xi : Nat, r.1 + j = xi := ⟨(r.1 + j).toNat, by omega⟩
        obtain ⟨ok, s23⟩ := s22.wrG hz (i := xi) (by omega) true
        refine ⟨by omega, by omega, by rw [hxi, Int.toNat_natCast]; exact ok, letH_mk ?_⟩
        intro H23 h23
        rw [hxi, Int.toNat_natCast] at h23
        rw [← h23] at s23
        refine letV_mk (r.1 + ((j + 1 : Nat) : Int)) (by rw [u64_in (by omega)]; omega) ⟨⟨j + 1, rfl, by omega, s23.congr (fun _ => Iff.rfl) (fun y => ?_)⟩, by dsimp only; omega⟩
        rw [← hxi]
        constructor
        · rintro (⟨h1, _⟩ | ⟨_, h1 | h1⟩)
          · right; omega
          · exact .inl h1
          · right; omega
        · rintro (h1 | h1)
          · by_cases e : y = r.1 + j
            · exact .inl ⟨e, rfl⟩
            · exact .inr ⟨e, .inl h1⟩
          · by_cases e : y = r.1 + j
            · exact .inl ⟨e, rfl⟩
            · exact .inr ⟨e, .inr (by omega)⟩
      · have hjr : (j : Int) = r.2 := by omega
        rw [hct y, hjr]
  · obtain rfl : k = F.length := by omega
    rw [List.take_length] at s20
    obtain ⟨f, bf, hff⟩ := s20.g
    obtain ⟨w, bw, hww⟩ := s20.w
    have hrow : ∀ (b : Nat) (f : Nat → Bool), BBlk H20 b t_512_bool 512 f → ∀ i v, (boolsV 512 f)[i]? = some v → rd H20 ((⟨b, 0, none⟩ : Addr).add i) = some v := fun b f bb i v hv => Blk.rd bb hv
    refine ⟨boolsV 512 f, by simp [boolsV], hrow _ f bf, boolsV 512 w, by simp [boolsV], hrow _ w bw, f, w, rfl, rfl, iteB_neg ?_ ?_⟩
    · have : eqBools 512 f w = true := by
        unfold eqBools
        rw [List.all_eq_true]
        intro i hi
        have hi' := List.mem_range.1 hi
        have h1 := hff i hi'
        have h2 := hww i hi'
        rw [← h2] at h1
        cases e1 : f i <;> cases e2 : w i <;> simp_all
      rw [this]
      rfl
    · exact free_blocks H free F hF H11 H20 (hf.ext s20.ext) ⟨w, bw, hww⟩ (ex.trans s20.ext)

theorem free_del (H : Heap) (v : Value) (b free : Sl) (A B : List Rg) (hA : SmallR A) (hB : SmallR B) (H11 H12 : Heap) (hz : H12.size = H11.size + 1) (hb : Rgs H11 b B) (hf : Rgs H11 free (freeF A B)) (ex : Ext H H11) (H14 : Heap) (st : FrS H H11 H12 (Cov A) (fun _ => False) H14) :
    ∃ I_2 : Int → Heap → Prop, ∃ M_2 : Int → Heap → Nat, I_2 0 H14 ∧ (∀ i2 : Int, ∀ H17 : Heap, I_2 i2 H17 → F_law21_AllocateFree_r10 (BoolP true H) v b free H11 H12 I_2 M_2 i2 H17) := by
  have hBl := hB.len
  have hsn := hb.len
  obtain ⟨fo, fc⟩ := free_ok hA hB
  refine loop1 B.length (fun k H' => FrS H H11 H12 (fun x => Cov A x ∧ ¬ Cov (B.take k) x) (fun _ => False) H') (st.congr (fun x => by simp [Cov]) (fun _ => Iff.rfl)) ?_
  rintro k H17 hk s17
  unfold F_law21_AllocateFree_r10
  refine iteB_dec (fun c => ?_) (fun c => ?_)
  · have hkn : k < B.length := by omega
    obtain ⟨a, hp, r0, r1⟩ := Rgs.atN (hb.ext s17.ext) hkn
    have hr := hB.ok _ (getD_mem' (0, 0) hkn)
    have hct := cov_take hkn
    refine ⟨by omega, by omega, unSome_mk hp ⟨_, r0, fun x H' => ∃ j : Nat, x = (B.getD k (0, 0)).1 + j ∧ (j : Int) ≤ (B.getD k (0, 0)).2 ∧ FrS H H11 H12 (fun y => (Cov A y ∧ ¬ Cov (B.take k) y) ∧ ¬ ((B.getD k (0, 0)).1 ≤ y ∧ y < x)) (fun _ => False) H', fun x _ => ((B.getD k (0, 0)).1 + (B.getD k (0, 0)).2 - x).toNat, ⟨0, by omega, by omega, s17.congr (fun y => ⟨fun h => ⟨h, by omega⟩, fun h => h.1⟩) (fun _ => Iff.rfl)⟩, ?_⟩⟩
    rintro x H22 ⟨j, rfl, hj, s22⟩
    unfold F_law21_AllocateFree_r2
    obtain ⟨a3, hp3, q0, q1⟩ := Rgs.atN (hb.ext s22.ext) hkn
    generalize B.getD k (0, 0) = r at *
    refine ⟨by omega, by omega, unSome_mk hp3 ⟨_, q0, by omega, by omega, unSome_mk hp3 ⟨_, q1, ?_⟩⟩⟩
    rw [u64_in (n := r.1 + r.2) (by omega)]
    refine iteB_dec (fun d => ?_) (fun d => letV_mk _ rfl (next1 hkn (by omega) (s22.congr (fun y => ?_) (fun _ => Iff.rfl))))
    · obtain ⟨xi, hxi⟩ : ∃ xi : Nat, r.1 + j = xi := ⟨(r.1 + j).toNat, by omega⟩
      obtain ⟨ok, s23⟩ := s22.wrW hz (i := xi) (by omega) false
      refine ⟨by omega, by omega, by rw [hxi, Int.toNat_natCast]; exact ok, letH_mk ?_⟩
      intro H23 h23
      rw [hxi, Int.toNat_natCast] at h23
      rw [← h23] at s23
      refine letV_mk (r.1 + ((j + 1 : Nat) : Int)) (by rw [u64_in (by omega)]; omega) ⟨⟨j + 1, rfl, by omega, s23.congr (fun y => ?_) (fun _ => Iff.rfl)⟩, by dsimp only; omega⟩
      rw [← hxi]
      constructor
      · rintro (⟨_, h1⟩ | ⟨h0, h1, h2⟩)
        · cases h1
        · exact ⟨h1, by omega⟩
      · rintro ⟨h1, h2⟩
        exact .inr ⟨by omega, h1, by omega⟩
    · have hjr : (j : Int) = r.2 := by omega
      rw [hct y, hjr]
      constructor
      · rintro ⟨⟨h1, h2⟩, h3⟩
        exact ⟨h1, fun h => by rcases h with h | h; exact h2 h; exact h3 h⟩
      · rintro ⟨h1, h2⟩
        exact ⟨⟨h1, fun h => h2 (.inl h)⟩, fun h => h2 (.inr h)⟩
  · obtain rfl : k = B.length := by omega
    rw [List.take_length] at s17
    exact free_got H v free (freeF A B) fo H11 H12 hz hf ex _ (fun x => (fc x).symm) H17 s17

theorem free_add (H : Heap) (v : Value) (a b free : Sl) (A B : List Rg) (hA : SmallR A) (hB : SmallR B) (H11 H12 : Heap) (hz : H12.size = H11.size + 1) (ha : Rgs H11 a A) (hb : Rgs H11 b B) (hf : Rgs H11 free (freeF A B)) (ex : Ext H H11) (H13 : Heap) (st : FrS H H11 H12 (fun _ => False) (fun _ => False) H13) :
    ∃ I_ : Int → Heap → Prop, ∃ M_ : Int → Heap → Nat, I_ 0 H13 ∧ (∀ i : Int, ∀ H14 : Heap, I_ i H14 → F_law21_AllocateFree_r11 (BoolP true H) v a b free H11 H12 I_ M_ i H14) := by
  have hAl := hA.len
  have hsn := ha.len
  refine loop1 A.length (fun k H' => FrS H H11 H12 (Cov (A.take k)) (fun _ => False) H') (st.congr (fun x => by simp [Cov]) (fun _ => Iff.rfl)) ?_
  rintro k H17 hk s17
  unfold F_law21_AllocateFree_r11
  refine iteB_dec (fun c => ?_) (fun c => ?_)
  · have hkn : k < A.length := by omega
    obtain ⟨p, hp, r0, r1⟩ := Rgs.atN (ha.ext s17.ext) hkn
    have hr := hA.ok _ (getD_mem' (0, 0) hkn)
    have hct := cov_take hkn
    refine ⟨by omega, by omega, unSome_mk hp ⟨_, r0, fun x H' => ∃ j : Nat, x = (A.getD k (0, 0)).1 + j ∧ (j : Int) ≤ (A.getD k (0, 0)).2 ∧ FrS H H11 H12 (fun y => Cov (A.take k) y ∨ ((A.getD k (0, 0)).1 ≤ y ∧ y < x)) (fun _ => False) H', fun x _ => ((A.getD k (0, 0)).1 + (A.getD k (0, 0)).2 - x).toNat, ⟨0, by omega, by omega, s17.congr (fun y => ⟨.inl, fun h => by rcases h with h | h; exact h; omega⟩) (fun _ => Iff.rfl)⟩, ?_⟩⟩
    rintro x H22 ⟨j, rfl, hj, s22⟩
    unfold F_law21_AllocateFree_r1
    obtain ⟨a3, hp3, q0, q1⟩ := Rgs.atN (ha.ext s22.ext) hkn
    generalize A.getD k (0, 0) = r at *
    refine ⟨by omega, by omega, unSome_mk hp3 ⟨_, q0, by omega, by omega, unSome_mk hp3 ⟨_, q1, ?_⟩⟩⟩
    rw [u64_in (n := r.1 + r.2) (by omega)]
    refine iteB_dec (fun d => ?_) (fun d => letV_mk _ rfl (next1 hkn (by omega) (s22.congr (fun y => ?_) (fun _ => Iff.rfl))))
    · obtain ⟨xi, hxi⟩ : ∃ xi : Nat, r.1 + j = xi := ⟨(r.1 + j).toNat, by omega⟩
      obtain ⟨ok, s23⟩ := s22.wrW hz (i := xi) (by omega) true
      refine ⟨by omega, by omega, by rw [hxi, Int.toNat_natCast]; exact ok, letH_mk ?_⟩
      intro H23 h23
      rw [hxi, Int.toNat_natCast] at h23
      rw [← h23] at s23
      refine letV_mk (r.1 + ((j + 1 : Nat) : Int)) (by rw [u64_in (by omega)]; omega) ⟨⟨j + 1, rfl, by omega, s23.congr (fun y => ?_) (fun _ => Iff.rfl)⟩, by dsimp only; omega⟩
      rw [← hxi]
      constructor
      · rintro (⟨h1, _⟩ | ⟨_, h1 | h1⟩)
        · right; omega
        · exact .inl h1
        · right; omega
      · rintro (h1 | h1)
        · by_cases e : y = r.1 + j
          · exact .inl ⟨e, rfl⟩
          · exact .inr ⟨e, .inl h1⟩
        · by_cases e : y = r.1 + j
          · exact .inl ⟨e, rfl⟩
          · exact .inr ⟨e, .inr (by omega)⟩
    · have hjr : (j : Int) = r.2 := by omega
      rw [hct y, hjr]
  · obtain rfl : k = A.length := by omega
    rw [List.take_length] at s17
    exact free_del H v b free A B hA hB H11 H12 hz hb hf ex H17 s17

set_option maxRecDepth 100000 in
theorem law_free (H : Heap) (l f : Sl) (L F : List Rg) (k : Int) (hl : Rgs H l L) (hu : U64L L) (hf : Rgs H f F) (hfu : U64L F) :
    CallsH Try.prog n_law21_AllocateFree #[.slice l.p l.n l.c, .slice f.p f.n f.c, .int .i64 k] H (BoolP true H) := by
  refine F_law21_AllocateFree_ok _ _ _ ?_
  unfold F_law21_AllocateFree
  refine (awake_spec H).mono ?_
  rintro v0 H1 ⟨rfl, e1⟩
  refine ⟨_, rfl, iteB_neg (by simp) ((Free_spec H1 l f L F (hl.ext e1) (hf.ext e1) hu hfu).mono ?_)⟩
  rintro v H2 ⟨o1, rfl, ow1, e2⟩
  have x2 := e1.trans e2
  refine ⟨_, rfl, (rFree_spec H2 l f L F (hl.ext x2) (hf.ext x2) hu hfu).mono ?_⟩
  rintro v H3 ⟨o2, rfl, ow2, e3⟩
  have x3 := x2.trans e3
  have hll : (if ValidR L ∧ ValidR F then freeF L F else []).length ≤ 9223372036854775807 := by
    have h1 := Own.len rkRange ow1
    have h2 := ow1.cap
    rcases ow1.cases.2 with ⟨h3, _⟩ | ⟨g, cur, _, _, _, _, h4, _⟩
    · rw [h3] at h1; rw [← h1]; simp
    · obtain ⟨_, h5⟩ := ow1
      rcases h5 with ⟨h6, _⟩ | ⟨g', cap, cur', h6, _, _, h7, h8, _⟩
      · simp only [Value.slice.injEq] at h6
        omega
      · simp only [Value.slice.injEq] at h6
        have : maxLen = 9223372036854775807 := rfl
        omega
  refine ⟨_, rfl, (Equal_api_Range_spec H3 o1 o2 _ _ ((Own.is rkRange ow1).ext e3) (Own.is rkRange ow2) hll).mono ?_⟩
  rintro v H4 ⟨rfl, rfl⟩
  refine ⟨_, rfl, iteB_neg (by simp) ((Blocks_spec H4 l L k (hl.ext x3) hu).mono ?_)⟩
  rintro v H5 ⟨rfl, e5⟩
  have x5 := x3.trans e5
  refine ⟨_, rfl, (rBlocks_spec H5 l L k (hl.ext x5) hu).mono ?_⟩
  rintro v H6 ⟨rfl, e6⟩
  have x6 := x5.trans e6
  refine ⟨_, rfl, iteB_neg (by simp) ((space_spec H6 l L (hl.ext x6) hu).mono ?_)⟩
  rintro v H7 ⟨a, rfl, isa, _, e7⟩
  have x7 := x6.trans e7
  refine ⟨_, rfl, (space_spec H7 f F (hf.ext x7) hfu).mono ?_⟩
  rintro v H8 ⟨b, rfl, isb, _, e8⟩
  have hA := space_small hu
  have hB := space_small hfu
  generalize spaceL L = A at *
  generalize spaceL F = B at *
  have x8 := x7.trans e8
  refine ⟨_, rfl, (Free_spec H8 a b A B (isa.ext e8) isb hA.u64 hB.u64).mono ?_⟩
  rintro v H9 ⟨fr, rfl, ow9, e9⟩
  rw [if_pos ⟨hA.valid, hB.valid⟩] at ow9
  refine ⟨_, rfl, (rFree_spec H9 a b A B (isa.ext (e8.trans e9)) (isb.ext e9) hA.u64 hB.u64).mono ?_⟩
  rintro v H10 ⟨fr2, rfl, ow10, e10⟩
  rw [if_pos ⟨hA.valid, hB.valid⟩] at ow10
  have hfl := (free_ok hA hB).1.v.1
  refine ⟨_, rfl, (Equal_api_Range_spec H10 fr fr2 _ _ ((Own.is rkRange ow9).ext e10) (Own.is rkRange ow10) (by omega)).mono ?_⟩
  rintro v H11 ⟨rfl, rfl⟩
  have x11 := (x8.trans e9).trans e10
  refine ⟨_, rfl, iteB_neg (by simp) ?_⟩
  refine push_mk (vs := List.replicate 512 (.bool false)) fun H12 e12 z12 b12 => push_mk (vs := List.replicate 512 (.bool false)) fun H13 e13 z13 b13 => ?_
  exact free_add H _ a b fr A B hA hB H11 H12 z12 (isa.ext ((e8.trans e9).trans e10)) (isb.ext (e9.trans e10)) ((Own.is rkRange ow9).ext e10) x11 H13 ⟨e12.trans e13, ⟨_, BBlk.of (b12.ext e13), fun x hx => by simp⟩, ⟨_, BBlk.of b13, fun x hx => by simp⟩⟩

end Go.Proofs.Ytigcheamheiopaa
