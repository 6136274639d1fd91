import Derived.Test.YtigcheamheiopaaGreatJQ
import Derived.Test.YtigcheamheiopaaGreatJR

section
/-
 Writes: operations on the configuration space; whose needs the assignments are.
-/
namespace Go.Proofs.YtigcheamheiopaaGreat
open Go.Eng
set_option linter.unusedVariables false

abbrev Op := Int × Int × Int × Int
def encOp (x : Op) : List Value := [.int .i64 x.1, .int .i64 x.2.1, .int .i64 x.2.2.1, .bool true, .int .u64 x.2.2.2]
theorem encOp_len (x : Op) : (encOp x).length = 5 := rfl
theorem encOp_one (x : Op) : ∀ u ∈ encOp x, oneC u = true := fun u hu => by simp [encOp] at hu; rcases hu with rfl | rfl | rfl | rfl | rfl <;> rfl
theorem rkOp : RK Tryz.prog t_sl_api_ConfigOp t_api_ConfigOp (.agg #[.int .i64 0, .int .i64 0, .int .i64 0, .bool false, .int .u64 0]) 5 40 encOp := ⟨by kernel_rfl, by kernel_rfl, rfl, by omega, by omega, encOp_len, encOp_one⟩
abbrev opV (x : Op) : Value := .agg #[.int .i64 x.1, .int .i64 x.2.1, .int .i64 x.2.2.1, .bool true, .int .u64 x.2.2.2]
def OpP (x : Op) (H : Heap) (v : Value) (H' : Heap) : Prop := v = opV x ∧ Ext H H'

theorem write_spec (f o w v : Int) (H : Heap) : CallsH Tryz.prog n_allocate_write #[.int .i64 f, .int .i64 o, .int .i64 w, .int .u64 v] H (OpP (f, o, w, v) H) := by
 refine F_allocate_write_ok _ _ _ _ ?_
 unfold F_allocate_write
 exact local_mk (vs := encOp (f, o, w, v)) rfl rfl fun H2 e2 z2 b2 => ⟨_, b2.rd0 rfl, _, b2.rd (i := 1) rfl, _, b2.rd (i := 2) rfl, _, b2.rd (i := 3) rfl, _, b2.rd (i := 4) rfl, rfl, e2⟩
theorem rop_spec (f o w v : Int) (H : Heap) : CallsH Tryz.prog n_ref21_op #[.int .i64 f, .int .i64 o, .int .i64 w, .int .u64 v] H (OpP (f, o, w, v) H) := by
 refine F_ref21_op_ok _ _ _ _ ?_
 unfold F_ref21_op
 exact local_mk (vs := encOp (f, o, w, v)) rfl rfl fun H2 e2 z2 b2 => ⟨_, b2.rd0 rfl, _, b2.rd (i := 1) rfl, _, b2.rd (i := 2) rfl, _, b2.rd (i := 3) rfl, _, b2.rd (i := 4) rfl, rfl, e2⟩

theorem need_eqB (x y : Need) : ((x.1 == y.1) && ((x.2.1 == y.2.1) && ((x.2.2.1 == y.2.2.1) && ((x.2.2.2 == y.2.2.2) && true)))) = decide (x = y) := by
 rw [Bool.eq_iff_iff, decide_eq_true_eq]
 obtain ⟨x0, x1, x2, x3⟩ := x
 obtain ⟨y0, y1, y2, y3⟩ := y
 simp
def zA : Asg := ((0, 0, 0, 0), 0)
def zN : Need := (0, 0, 0, 0)
theorem add_zero' (a : Addr) : a.add 0 = a := by unfold Addr.add; simp
theorem asg_rd {H : Heap} {s : Sl} {A : List Asg} (h : IsS 5 encA H s A) {k : Nat} (hk : k < A.length) : ∃ a, s.p = some a ∧ rd H (a.add ((k : Int).toNat * 5)) = some (.int .i64 (A.getD k zA).1.1) ∧ ∀ j v, (encA (A.getD k zA))[j]? = some v → rd H ((a.add ((k : Int).toNat * 5)).add j) = some v := by
 obtain ⟨a, hp, hr⟩ := IsS.atN h zA hk
 exact ⟨a, hp, by have := hr 0 _ rfl; rwa [add_zero'] at this, hr⟩
theorem need_rd {H : Heap} {s : Sl} {N : List Need} (h : IsS 4 encN H s N) {k : Nat} (hk : k < N.length) : ∃ a, s.p = some a ∧ rd H (a.add ((k : Int).toNat * 4)) = some (.int .i64 (N.getD k zN).1) ∧ ∀ j v, (encN (N.getD k zN))[j]? = some v → rd H ((a.add ((k : Int).toNat * 4)).add j) = some v := by
 obtain ⟨a, hp, hr⟩ := IsS.atN h zN hk
 exact ⟨a, hp, by have := hr 0 _ rfl; rwa [add_zero'] at this, hr⟩
theorem fst_same {A : List Asg} {N : List Need} (hl : N.length = A.length) (h : ∀ i, i < A.length → (A.getD i zA).1 = N.getD i zN) : A.map Prod.fst = N := by
 apply List.ext_getElem (by simp [hl])
 intro i h1 h2
 have hi : i < A.length := by simpa using h1
 have := h i hi
 simpa [List.getD, hi, h2] using this
theorem fst_at {A : List Asg} {N : List Need} (h : A.map Prod.fst = N) {i : Nat} (hi : i < A.length) : (A.getD i zA).1 = N.getD i zN := by
 subst h
 simp [List.getD, hi]

def CovP (T : List FS) (high : Bool) (A : List Asg) (H : Heap) (v : Value) (H' : Heap) : Prop := ∃ b : Bool, v = .bool b ∧ (b = true ↔ NeedsIs T high 0 (A.map Prod.fst)) ∧ Ext H H'
theorem covers_spec (T : List FS) (s : Sl) (high : Bool) (A : List Asg) (sa : Sl) (H : Heap) (hT : Topo H s T) (hA : IsS 5 encA H sa A) (hl : A.length ≤ 1000) :
  CallsH Tryz.prog n_allocate_covers #[.slice s.p s.n s.c, .bool high, .slice sa.p sa.n sa.c] H (CovP T high A H) := by
 refine F_allocate_covers_ok _ _ _ ?_
 unfold F_allocate_covers
 refine (Needs_spec T s high H hT).mono ?_
 intro v H1 h1
 obtain ⟨ns, e0, N, rfl, isN, hNI, e1⟩ := h1.outI
 have hsn := hA.len
 have hnn := isN.len
 have hNl := hNI.len
 have no : ∀ H', Ext H H' → ¬ NeedsIs T high 0 (A.map Prod.fst) → CovP T high A H (.bool false) H' := fun H' e hn => ⟨false, rfl, ⟨fun h => (by cases h), fun h => absurd h hn⟩, e⟩
 refine ⟨ns, e0, rfl, iteB_bne (fun d => no _ e1 (fun hh => d (hNI.uni hh).1)) (fun d => ?_)⟩
 subst d
 refine iteB_bne (fun d => no _ e1 (fun hh => ?_)) (fun d => ?_)
 ·have := congrArg List.length (hNI.uni hh).2
  simp at this
  omega
 have hlen : N.length = A.length := by omega
 refine loop1 N.length (fun k H' => Ext H1 H' ∧ ∀ i, i < k → (A.getD i zA).1 = N.getD i zN) ⟨.refl _, fun i hi => by omega⟩ ?_
 rintro k H2 hk ⟨e2, hs⟩
 unfold F_allocate_covers_r1
 refine iteB_dec (fun c => ?_) (fun c => ?_)
 ·have hkN : k < N.length := by omega
  obtain ⟨a, hp, r0, hr⟩ := need_rd (isN.ext e2) hkN
  refine ⟨by omega, by omega, unSome_mk hp ⟨_, r0, _, hr 1 _ rfl, _, hr 2 _ rfl, _, hr 3 _ rfl, local_mk (vs := encN (N.getD k zN)) rfl rfl fun H4 e4 z4 b4 => ?_⟩⟩
  obtain ⟨pa, hpa, ra0, hra⟩ := asg_rd (hA.ext ((e1.trans e2).trans e4)) (k := k) (by omega)
  refine ⟨by omega, by omega, unSome_mk hpa ⟨_, ra0, _, hra 1 _ rfl, _, hra 2 _ rfl, _, hra 3 _ rfl, _, b4.rd0 rfl, _, b4.rd (i := 1) rfl, _, b4.rd (i := 2) rfl, _, b4.rd (i := 3) rfl, ?_⟩⟩
  rw [need_eqB]
  refine iteB_not (fun g => no _ ((e1.trans e2).trans e4) (fun hh => ?_)) (fun g => next1 hkN (by omega) ⟨e2.trans e4, fun i hi => ?_⟩)
  ·have := fst_at (hNI.uni hh).2.symm (i := k) (by omega)
   rw [this] at g
   simp at g
  ·by_cases e : i = k
   ·rw [e]; simpa using g
   ·exact hs i (by omega)
 ·have hAN : A.map Prod.fst = N := fst_same hlen (fun i hi => hs i (by omega))
  exact ⟨true, rfl, ⟨fun _ => by rw [hAN]; exact hNI, fun _ => rfl⟩, e1.trans e2⟩

def Cov2 (T : List FS) (A : List Asg) : Prop := NeedsIs T true 0 (A.map Prod.fst) ∨ NeedsIs T false 0 (A.map Prod.fst)
def Cov2P (T : List FS) (A : List Asg) (H : Heap) (v : Value) (H' : Heap) : Prop := ∃ b : Bool, v = .bool b ∧ (b = true ↔ Cov2 T A) ∧ Ext H H'
theorem needed_spec (T : List FS) (s : Sl) (A : List Asg) (sa : Sl) (H : Heap) (hT : Topo H s T) (hA : IsS 5 encA H sa A) (hl : A.length ≤ 1000) :
  CallsH Tryz.prog n_ref21_needed #[.slice s.p s.n s.c, .slice sa.p sa.n sa.c] H (Cov2P T A H) := by
 refine F_ref21_needed_ok _ _ ?_
 unfold F_ref21_needed
 have hsn := hA.len
 refine loop1 2 (fun k H' => Ext H H' ∧ (0 < k → ¬ NeedsIs T false 0 (A.map Prod.fst)) ∧ (1 < k → ¬ NeedsIs T true 0 (A.map Prod.fst))) ⟨.refl _, fun h => by omega, fun h => by omega⟩ ?_
 rintro k H1 hk ⟨e1, h0, h1⟩
 unfold F_ref21_needed_r3
 refine iteB_dec (fun c => ?_) (fun c => ⟨false, rfl, ⟨fun h => (by cases h), fun h => h.elim (fun h => absurd h (h1 (by omega))) (fun h => absurd h (h0 (by omega)))⟩, e1⟩)
 have hk2 : k < 2 := by omega
 have hyes : NeedsIs T ((k : Int) == 1) 0 (A.map Prod.fst) → Cov2 T A := fun h => by
  rcases hq : ((k : Int) == 1) with _ | _
  ·rw [hq] at h; exact .inr h
  ·rw [hq] at h; exact .inl h
 have hnx : ∀ H', Ext H H' → ¬ NeedsIs T ((k : Int) == 1) 0 (A.map Prod.fst) → Ext H H' ∧ (0 < k + 1 → ¬ NeedsIs T false 0 (A.map Prod.fst)) ∧ (1 < k + 1 → ¬ NeedsIs T true 0 (A.map Prod.fst)) := fun H' e hn => by
  by_cases hk0 : k = 0
  ·subst hk0
   exact ⟨e, fun _ => hn, fun h => by omega⟩
  ·obtain rfl : k = 1 := by omega
   exact ⟨e, fun _ => h0 (by omega), fun _ => hn⟩
 generalize ((k : Int) == 1) = high at *
 refine (rNeeds_spec T s high H1 (hT.ext e1)).mono ?_
 intro v H2 h2
 obtain ⟨ns, e0, N, rfl, isN, hNI, e2⟩ := h2.outI
 have x2 := e1.trans e2
 have hnn := isN.len
 have hNl := hNI.len
 refine ⟨ns, e0, rfl, fun b H' => b = decide (e0 = 0 ∧ N.length = A.length) ∧ H' = H2, ?_, ?_⟩
 ·refine iteB_beq (fun d => ⟨?_, rfl⟩) (fun d => ⟨?_, rfl⟩)
  ·rw [Bool.eq_iff_iff, beq_iff_eq, decide_eq_true_eq]
   omega
  ·rw [decide_eq_false (fun hh => d hh.1)]
 ·rintro b H3 ⟨rfl, rfl⟩
  unfold F_ref21_needed_k2
  have hno : ¬ (e0 = 0 ∧ N.length = A.length) → ¬ NeedsIs T high 0 (A.map Prod.fst) := fun hn hh => hn ⟨(hNI.uni hh).1, by have := congrArg List.length (hNI.uni hh).2; simpa using this⟩
  refine ⟨fun b x H' => ∃ i : Nat, x = i ∧ i ≤ A.length ∧ H' = H3 ∧ (b = true → (e0 = 0 ∧ N.length = A.length) ∧ ∀ j, j < i → (A.getD j zA).1 = N.getD j zN) ∧ (b = false → ¬ NeedsIs T high 0 (A.map Prod.fst)), fun _ x _ => (A.length - x).toNat, ⟨0, rfl, Nat.zero_le _, rfl, fun h => ⟨by simpa using h, fun j hj => by omega⟩, fun h => hno (by simpa using h)⟩, ?_⟩
  rintro b x H4 ⟨i, rfl, hi, rfl, hb1, hb2⟩
  unfold F_ref21_needed_r1
  refine iteB_intro (fun q => ?_) (fun q => iteB_intro (fun q2 => by rw [q] at q2; cases q2) (fun _ => letV_mk _ rfl (next1 hk2 (by omega) (hnx _ x2 (hb2 q)))))
  obtain ⟨⟨he0, hlen⟩, hpre⟩ := hb1 q
  refine iteB_dec (fun c2 => ?_) (fun c2 => iteB_pos q ?_)
  ·have hiA : i < A.length := by omega
   obtain ⟨a, hp, r0, hr⟩ := asg_rd (hA.ext x2) hiA
   obtain ⟨pn, hpn, rn0, hrn⟩ := need_rd isN (k := i) (by omega)
   refine ⟨by omega, by omega, unSome_mk hp ⟨_, r0, _, hr 1 _ rfl, _, hr 2 _ rfl, _, hr 3 _ rfl, by omega, by omega, unSome_mk hpn ⟨_, rn0, _, hrn 1 _ rfl, _, hrn 2 _ rfl, _, hrn 3 _ rfl, ?_⟩⟩⟩
   rw [need_eqB]
   refine letV_mk ((i + 1 : Nat) : Int) (by rw [i64_in (by omega)]; omega) ⟨⟨i + 1, rfl, by omega, rfl, fun h => ⟨⟨he0, hlen⟩, fun j hj => ?_⟩, fun h hh => ?_⟩, by dsimp only; omega⟩
   ·by_cases e : j = i
    ·rw [e]; simpa using h
    ·exact hpre j (by omega)
   ·rw [decide_eq_false_iff_not] at h
    exact h (fst_at (hNI.uni hh).2.symm hiA)
  ·have hAN : A.map Prod.fst = N := fst_same hlen (fun j hj => hpre j (by omega))
   subst he0
   exact ⟨true, rfl, ⟨fun _ => hyes (by rw [hAN]; exact hNI), fun _ => rfl⟩, x2⟩

end Go.Proofs.YtigcheamheiopaaGreat
end

section
/-
 Writes: those of a register, those of a bridge's windows (the program's).
-/
namespace Go.Proofs.YtigcheamheiopaaGreat
open Go.Eng
set_option linter.unusedVariables false

abbrev szA (x : Asg) : Nat := x.1.2.2.2.toNat
theorem map_getD1 {A : List Asg} {i : Nat} (hi : i < A.length) : (A.map Prod.fst).getD i (0, 0, 0, 0) = (A.getD i zA).1 := by simp [List.getD, hi]
theorem map_getD2 {A : List Asg} {i : Nat} (hi : i < A.length) : (A.map Prod.snd).getD i 0 = (A.getD i zA).2 := by simp [List.getD, hi]

theorem sz_pow {k : Int} (h : 0 ≤ k ∧ k ≤ 44) : IntKind.u64.wrap (1 * 2 ^ (min k.toNat IntKind.u64.bits)) = 2 ^ k.toNat := by
 have e : min k.toNat IntKind.u64.bits = k.toNat := by have : IntKind.u64.bits = 64 := rfl; omega
 rw [e, Int.one_mul]
 have := pow44 h
 exact u64_in (by omega)

theorem window_specS (H : Heap) (s : Sl) (A : List Asg) (i : Int) (c : Nat) (h : IsS 5 encA H s A) (hn : A.length ≤ 100000) (hc : c < 3) (hsz : ∀ j, j < A.length → 0 ≤ (A.getD j zA).1.2.2.2 ∧ (A.getD j zA).1.2.2.2 ≤ 44) :
  CallsH Tryz.prog n_allocate_window #[.slice s.p s.n s.c, .int .i64 i, .int .i64 (c : Int)] H (fun v H' => v = winV (A.map Prod.fst) (A.map Prod.snd) i c ∧ Ext H H') := by
 refine F_allocate_window_ok _ _ _ ?_
 unfold F_allocate_window
 have hsn := h.len
 refine loop1 A.length (fun k H' => Ext H H' ∧ ∀ j, j < k → nq i (-1 - (c : Int)) ((A.map Prod.fst).getD j (0, 0, 0, 0)) = false) ⟨.refl _, fun j hj => by omega⟩ ?_
 rintro k H1 hk ⟨e1, hno⟩
 unfold F_allocate_window_r2
 have ec : IntKind.i64.wrap (-1 - (c : Int)) = -1 - (c : Int) := i64_in (by omega)
 refine iteB_dec (fun d => ?_) (fun d => ?_)
 ·have hkn : k < A.length := by omega
  obtain ⟨a, hp, hr⟩ := IsS.atN (h.ext e1) zA hkn
  have r0 : rd H1 (a.add ((k : Int).toNat * 5)) = some (.int .i64 (A.getD k zA).1.1) := by have := hr 0 _ rfl; rwa [add_zero'] at this
  have hs := hsz k hkn
  have m1 := map_getD1 hkn
  have m2 := map_getD2 hkn
  have hse : nq i (-1 - (c : Int)) (A.getD k zA).1 = true → atN (A.map Prod.fst) i (-1 - (c : Int)) = some k := fun hq => atN_some (by simpa using hkn) (by rw [m1]; exact hq) hno
  refine ⟨by omega, by omega, unSome_mk hp ⟨_, r0, _, hr 1 _ rfl, _, hr 2 _ rfl, _, hr 3 _ rfl, _, hr 4 _ rfl, local_mk (vs := encA (A.getD k zA)) rfl rfl fun H3 e3 z3 b3 => ⟨fun b H' => b = nq i (-1 - (c : Int)) (A.getD k zA).1 ∧ H' = H3, ⟨_, b3.rd0 rfl, iteB_beq (fun q => ⟨_, b3.rd (i := 1) rfl, ?_, rfl⟩) (fun q => ⟨?_, rfl⟩)⟩, ?_⟩⟩⟩
  ·rw [ec]
   exact beq_dec1 ⟨fun h => h.2, fun h => ⟨q, h⟩⟩
  ·exact (decide_eq_false (fun h => q h.1)).symm
  ·rintro b H4 ⟨rfl, rfl⟩
   unfold F_allocate_window_k1
   refine iteB_intro (fun q => ⟨_, b3.rd (i := 4) rfl, _, b3.rd (i := 3) rfl, hs.1, letV_mk (2 ^ szA (A.getD k zA)) (sz_pow hs) ⟨?_, e1.trans e3⟩⟩) (fun q => next1 hkn (by omega) ⟨e1.trans e3, fun j hj => ?_⟩)
   ·unfold winV
    rw [hse q]
    dsimp only
    rw [m1, m2]
   ·by_cases e : j = k
    ·rw [e, m1]; exact q
    ·exact hno j (by omega)
 ·obtain rfl : k = A.length := by omega
  refine ⟨?_, e1⟩
  unfold winV
  rw [atN_none (fun j hj => hno j (by simpa using hj))]

abbrev sh (x k : Int) : Int := x.fdiv (2 ^ (min k.toNat IntKind.u64.bits))
abbrev bnd (x k : Int) : Int := bitsAnd .u64 x k
abbrev asgW (x : Asg) : Value := .agg #[.int .i64 x.1.1, .int .i64 x.1.2.1, .int .i64 x.1.2.2.1, .int .i64 x.1.2.2.2, .int .u64 x.2]
def kB (f : Fn) (ix : Int) : Int := (f.bars.getD ix.toNat (0, 0)).1
def barL (f : Fn) (x : Asg) : List Op := (x.1.1, 16 + 4 * x.1.2.1, 4, bnd x.2 4294967295) :: (if kB f x.1.2.1 = 3 ∨ kB f x.1.2.1 = 4 then [(x.1.1, 20 + 4 * x.1.2.1, 4, sh x.2 32)] else [])
def flA (A : List Asg) (i : Int) (c : Nat) : Int × Int := match atN (A.map Prod.fst) i (-1 - (c : Int)) with
 | some w => ((A.map Prod.snd).getD w 0, IntKind.u64.wrap (IntKind.u64.wrap ((A.map Prod.snd).getD w 0 + 2 ^ ((A.map Prod.fst).getD w (0, 0, 0, 0)).2.2.2.toNat) - 1))
 | none => (18446744073709551615, 0)
def winC (p64 : Bool) (A : List Asg) (i : Int) (c : Nat) : List Op :=
 if c = 0 then [(i, 28, 1, bnd (sh (flA A i c).1 8) 240), (i, 29, 1, bnd (sh (flA A i c).2 8) 240)]
 else if c = 1 then [(i, 32, 2, bnd (sh (flA A i c).1 16) 65520), (i, 34, 2, bnd (sh (flA A i c).2 16) 65520)]
 else if p64 = true then [(i, 36, 2, bnd (sh (flA A i c).1 16) 65520), (i, 38, 2, bnd (sh (flA A i c).2 16) 65520), (i, 40, 4, sh (flA A i c).1 32), (i, 44, 4, sh (flA A i c).2 32)]
 else []
def brL (p64 : Bool) (A : List Asg) (i : Int) : Nat → List Op
 | 0 => []
 | c + 1 => brL p64 A i c ++ winC p64 A i c
theorem winC_len (p64 : Bool) (A : List Asg) (i : Int) (c : Nat) : (winC p64 A i c).length ≤ 4 := by
 unfold winC
 split
 ·simp
 ·split
  ·simp
  ·split <;> simp
theorem brL_len (p64 : Bool) (A : List Asg) (i : Int) : ∀ c, (brL p64 A i c).length ≤ 4 * c
 | 0 => by simp [brL]
 | c + 1 => by
  have := brL_len p64 A i c
  have := winC_len p64 A i c
  simp only [brL, List.length_append]
  omega

theorem apOps {lo : Nat} {L ys : List Op} {ops : Sl} {H : Heap} {n : Nat} {K : Sl → Heap → Prop} (hn : n = ys.length) (h : Own lo t_api_ConfigOp 5 H ops (L.flatMap encOp)) (hb : (ops.n + ys.length) * 40 ≤ 140737488355328) (hlo : lo ≤ H.size)
  (hK : ∀ (s' : Sl) (H' : Heap), Own lo t_api_ConfigOp 5 H' s' ((L ++ ys).flatMap encOp) → s'.n = ops.n + ys.length → Mods (blkOf ops.p) H H' → (∀ a, s'.p = some a → a.block ∈ blkOf ops.p ∨ H.size ≤ a.block) → K s' H') :
  letH (H.push (.cells (ys.flatMap encOp).toArray t_api_ConfigOp (0, 0))) (fun H1 => runH Tryz.prog (Builtin.append_ #[t_sl_api_ConfigOp, t_sl_api_ConfigOp] t_sl_api_ConfigOp #[.slice ops.p ops.n ops.c, .slice (some (⟨H.size, 0, none⟩ : Addr)) n n]) H1 (fun v H2 => ∃ y : Sl, v = .slice y.p y.n y.c ∧ K y H2)) := by
 refine letH_mk ?_
 intro H1 h1
 have e1 : Ext H H1 := by rw [h1]; exact Ext.push _ _
 have b1 : Blk H1 H.size t_api_ConfigOp (ys.flatMap encOp) := by rw [h1]; exact Blk.new _ _ _
 have z1 : H1.size = H.size + 1 := by rw [h1]; simp
 clear h1
 have is1 : IsS 5 encOp H1 ⟨some ⟨H.size, 0, none⟩, n, n⟩ ys := IsS.of_blk encOp_len b1 hn (fun i v hv => hv)
 refine apA (src := ⟨some ⟨H.size, 0, none⟩, n, n⟩) rkOp (h.ext e1) is1 hb (by omega) ?_
 intro s' H' ow hn' m hw
 exact ⟨s', rfl, hK s' H' ow hn' ((e1.mods).trans m) (fun a ha => (hw a ha).imp id (fun h => by omega))⟩

def WrP (lo : Nat) (ops : Sl) (L M : List Op) (H : Heap) (v : Value) (H' : Heap) : Prop := ∃ out : Sl, v = .slice out.p out.n out.c ∧ Own lo t_api_ConfigOp 5 H' out ((L ++ M).flatMap encOp) ∧ Mods (blkOf ops.p) H H'

theorem barWrites_spec (H0 H : Heap) (ops : Sl) (L : List Op) (f : Fn) (fs : Sl) (x : Asg) (e0 : Ext H0 H) (ow : Own H0.size t_api_ConfigOp 5 H ops (L.flatMap encOp)) (hL : L.length ≤ 1000000) (hB : Bars H0 fs f.bars) (hix : 0 ≤ x.1.2.1 ∧ x.1.2.1 < f.bars.length) (h6 : f.bars.length ≤ 6) :
  CallsH Tryz.prog n_allocate_barWrites #[.slice ops.p ops.n ops.c, fnV f fs, asgW x] H (WrP H0.size ops L (barL f x) H) := by
 refine F_allocate_barWrites_ok _ _ _ _ _ _ _ _ _ _ _ _ _ _ _ _ _ ?_
 unfold F_allocate_barWrites
 have hon := Own.len rkOp ow
 refine push_mk (vs := fnL f fs) fun H1 e1 z1 b1 => push_mk (vs := encA x) fun H2 e2 z2 b2 => ?_
 have x2 := e1.trans e2
 refine ⟨_, b2.rd (i := 1) rfl, letV_mk (16 + 4 * x.1.2.1) (by rw [i64_in (n := 4 * x.1.2.1) (by omega), i64_in (by omega)]) ⟨_, b2.rd0 rfl, _, b2.rd (i := 4) rfl, (write_spec _ _ _ _ H2).mono ?_⟩⟩
 rintro v H3 ⟨rfl, e3⟩
 have x3 := x2.trans e3
 have hle := e0.size
 have hl3 := x3.size
 have ow3 := ow.ext x3
 refine ⟨_, _, _, _, _, rfl, apRat rkOp (x.1.1, 16 + 4 * x.1.2.1, 4, bnd x.2 4294967295) ow3 (by omega) (by omega) ?_⟩
 intro out1 H5 o5 n5 m5 w5
 have x5 : Ext H0 H5 := Mods.ext (e0.trans x3) m5 (blkOf_new ow3.new)
 have r10 := ((Blk.fn ((b1.ext e2).ext e3)).2.2.2.2.2.2.2.2.2.2)
 have tb1 : TyB H3 (some ⟨H.size, 0, none⟩) t_api_Function := fun a ha => by cases ha; exact ⟨_, _, (b1.ext e2).ext e3⟩
 have tb2 : TyB H3 (some ⟨H1.size, 0, none⟩) t_api_Assignment := fun a ha => by cases ha; exact ⟨_, _, b2.ext e3⟩
 have nb1 : H.size ∉ blkOf ops.p := ty_ne tb1 (own_ty ow3) (by decide) _ rfl
 have nb2 : H1.size ∉ blkOf ops.p := ty_ne tb2 (own_ty ow3) (by decide) _ rfl
 have b1' := ((b1.ext e2).ext e3).mods m5 nb1
 have b2' := (b2.ext e3).mods m5 nb2
 have hk : x.1.2.1.toNat < f.bars.length := by omega
 obtain ⟨pb, hpb, hrb⟩ := IsS.atN (hB.ext x5) ((0, 0) : Bar) hk
 have rb0 : rd H5 (pb.add (((x.1.2.1.toNat : Nat) : Int).toNat * 2)) = some (.int .i64 (kB f x.1.2.1)) := by have := hrb 0 _ rfl; rwa [add_zero'] at this
 rw [show ((x.1.2.1.toNat : Nat) : Int).toNat = x.1.2.1.toNat by omega] at rb0
 have hbn := (hB.ext x5).len
 refine ⟨fs, (Blk.fn b1').2.2.2.2.2.2.2.2.2.2, _, b2'.rd (i := 1) rfl, by omega, by omega, unSome_mk hpb ⟨_, rb0, fun b H' => b = decide (kB f x.1.2.1 = 3 ∨ kB f x.1.2.1 = 4) ∧ H' = H5, ?_, ?_⟩⟩
 ·refine iteB_beq (fun h => ⟨by rw [decide_eq_true (.inl h)], rfl⟩) (fun h => ⟨?_, rfl⟩)
  rw [Bool.eq_iff_iff, beq_iff_eq, decide_eq_true_eq]
  omega
 ·rintro b H6 ⟨rfl, rfl⟩
  unfold F_allocate_barWrites_k1
  have mm : Mods (blkOf ops.p) H H6 := (x3.mods).trans m5
  unfold barL
  refine iteB_intro (fun h => ?_) (fun h => ?_)
  ·rw [decide_eq_true_eq] at h
   rw [if_pos h]
   refine ⟨_, b2'.rd0 rfl, _, b2'.rd (i := 4) rfl, by omega, ?_⟩
   rw [show IntKind.i64.wrap (16 + 4 * x.1.2.1 + 4) = 20 + 4 * x.1.2.1 by rw [i64_in (by omega)]; omega]
   refine (write_spec _ _ _ _ H6).mono ?_
   rintro v H7 ⟨rfl, e7⟩
   have ow7 := o5.ext e7
   refine ⟨_, _, _, _, _, rfl, apR rkOp (x.1.1, 20 + 4 * x.1.2.1, 4, sh x.2 32) ow7 (by omega) (Nat.le_trans x5.size e7.size) ?_⟩
   intro out2 H9 o9 n9 m9
   refine ⟨out2, rfl, by simpa using o9, ?_⟩
   have m7 : Mods (blkOf ops.p) H H7 := mm.trans (e7.mods)
   refine Mods.newer m7 m9 (fun t ht => ?_)
   have hp : ∀ a, out1.p = some a → a.block ∈ blkOf ops.p ∨ H3.size < a.block := w5
   cases hq : out1.p with
   | none => rw [hq] at ht; cases ht
   | some a =>
    rw [hq] at ht
    have e : t = a.block := by simpa [blkOf] using ht
    rcases hp a hq with h1 | h1
    ·right; rw [e]; exact h1
    ·left; omega
  ·rw [decide_eq_false_iff_not] at h
   rw [if_neg h]
   exact ⟨out1, rfl, o5, mm⟩

end Go.Proofs.YtigcheamheiopaaGreat
end

section
/-
 Writes: those of a bridge's windows (the program's); all (plain, the program's).
-/
namespace Go.Proofs.YtigcheamheiopaaGreat
open Go.Eng
set_option linter.unusedVariables false

structure BwI (H0 H1 : Heap) (fb : Nat) (f : Fn) (fs : Sl) (ops : Sl) (L : List Op) (out : Sl) (H : Heap) : Prop where
 ow : Own H0.size t_api_ConfigOp 5 H out (L.flatMap encOp)
 m : Mods (blkOf ops.p) H1 H
 wh : ∀ a, out.p = some a → a.block ∈ blkOf ops.p ∨ H1.size ≤ a.block
 fn : Blk H fb t_api_Function (fnL f fs)
 ext : Ext H0 H

theorem BwI.go {H0 H1 : Heap} {fb : Nat} {f : Fn} {fs ops : Sl} {L : List Op} {out : Sl} {H H' : Heap} (b : BwI H0 H1 fb f fs ops L out H) (e : Ext H H') : BwI H0 H1 fb f fs ops L out H' :=
 ⟨b.ow.ext e, b.m.trans e.mods, b.wh, b.fn.ext e, b.ext.trans e⟩
theorem BwI.next {H0 H1 : Heap} {fb : Nat} {f : Fn} {fs ops : Sl} {L ys : List Op} {out s' : Sl} {H H' : Heap} (b : BwI H0 H1 fb f fs ops L out H) (ow : Own H0.size t_api_ConfigOp 5 H' s' ((L ++ ys).flatMap encOp)) (m : Mods (blkOf out.p) H H') (hw : ∀ a, s'.p = some a → a.block ∈ blkOf out.p ∨ H.size ≤ a.block) : BwI H0 H1 fb f fs ops (L ++ ys) s' H' := by
 have tb : TyB H (some ⟨fb, 0, none⟩) t_api_Function := fun a ha => by cases ha; exact ⟨_, _, b.fn⟩
 have nb : fb ∉ blkOf out.p := ty_ne tb (own_ty b.ow) (by decide) _ rfl
 have hsz := b.m.size
 have key : ∀ t, t ∈ blkOf out.p → H1.size ≤ t ∨ t ∈ blkOf ops.p := fun t ht => by
  cases hq : out.p with
  | none => rw [hq] at ht; cases ht
  | some a =>
   rw [hq] at ht
   have e : t = a.block := by simpa [blkOf] using ht
   rcases b.wh a hq with h1 | h1
   ·right; rw [e]; exact h1
   ·left; omega
 refine ⟨ow, Mods.newer b.m m key, fun a ha => ?_, b.fn.mods m nb, Mods.ext b.ext m (blkOf_new b.ow.new)⟩
 rcases hw a ha with h1 | h1
 ·exact (key _ h1).symm
 ·right; omega

theorem bridgeWrites_spec (H0 H : Heap) (ops : Sl) (L : List Op) (f : Fn) (fs : Sl) (A : List Asg) (sa : Sl) (i : Int) (e0 : Ext H0 H) (ow : Own H0.size t_api_ConfigOp 5 H ops (L.flatMap encOp)) (hL : L.length ≤ 1000000) (hA : IsS 5 encA H0 sa A) (hAl : A.length ≤ 1000) (hsz : ∀ j, j < A.length → 0 ≤ (A.getD j zA).1.2.2.2 ∧ (A.getD j zA).1.2.2.2 ≤ 44) :
  CallsH Tryz.prog n_allocate_bridgeWrites #[.slice ops.p ops.n ops.c, .int .i64 i, fnV f fs, .slice sa.p sa.n sa.c] H (WrP H0.size ops L (brL f.pref A i 3) H) := by
 refine F_allocate_bridgeWrites_ok _ _ _ _ _ _ _ _ _ _ _ _ _ _ ?_
 unfold F_allocate_bridgeWrites
 refine push_mk (vs := fnL f fs) fun H1 e1 z1 b1 => ?_
 refine loop2 3 (fun k out H' => BwI H0 H H.size f fs ops (L ++ brL f.pref A i k) out H') ⟨by simpa [brL] using ow.ext e1, e1.mods, fun a ha => .inl (by rw [ha]; simp [blkOf]), b1, e0.trans e1⟩ ?_
 rintro k out H2 hk b2
 unfold F_allocate_bridgeWrites_r2
 have hwl := brL_len f.pref A i k
 refine iteB_dec (fun c => ?_) (fun c => ?_)
 ·have hk3 : k < 3 := by omega
  have hll : (L ++ brL f.pref A i k).length ≤ 1000012 := by rw [List.length_append]; omega
  have hnx : L ++ brL f.pref A i (k + 1) = (L ++ brL f.pref A i k) ++ winC f.pref A i k := by simp only [brL, List.append_assoc]
  refine ⟨fun a b H' => a = (flA A i k).1 ∧ b = (flA A i k).2 ∧ BwI H0 H H.size f fs ops (L ++ brL f.pref A i k) out H', (window_specS H2 sa A i k (hA.ext b2.ext) (by omega) hk3 hsz).mono ?_, ?_⟩
  ·rintro v H3 ⟨rfl, e3⟩
   have b3 := b2.go e3
   unfold winV flA
   cases hq : atN (A.map Prod.fst) i (-1 - (k : Int)) with
   | none => exact ⟨_, _, _, rfl, iteB_neg (by simp) ⟨rfl, rfl, b3⟩⟩
   | some w => exact ⟨_, _, _, rfl, iteB_pos (by simp) (letV_mk _ rfl ⟨rfl, rfl, b3⟩)⟩
  ·rintro first last H4 ⟨rfl, rfl, b4⟩
   unfold F_allocate_bridgeWrites_k1
   have hln := Own.len rkOp b4.ow
   generalize L ++ brL f.pref A i k = L1 at *
   unfold winC at hnx
   refine iteB_beq (fun h0 => ?_) (fun h0 => iteB_beq (fun h1 => ?_) (fun h1 => ⟨_, (Blk.fn b4.fn).2.2.2.2.2.1, iteB_intro (fun h2 => ?_) (fun h2 => ?_)⟩))
   ·rw [if_pos (by omega)] at hnx
    refine ⟨by omega, (write_spec _ _ _ _ H4).mono ?_⟩
    rintro v H5 ⟨rfl, e5⟩
    refine ⟨_, _, _, _, _, rfl, by omega, (write_spec _ _ _ _ H5).mono ?_⟩
    rintro v H6 ⟨rfl, e6⟩
    have b6 := (b4.go e5).go e6
    refine ⟨_, _, _, _, _, rfl, apOps (ys := [(i, 28, 1, bnd (sh (flA A i k).1 8) 240), (i, 29, 1, bnd (sh (flA A i k).2 8) 240)]) rfl b6.ow (by simp; omega) b6.ext.size ?_⟩
    intro s' H8 o8 n8 m8 w8
    exact next2 hk3 (by omega) (by rw [hnx]; exact b6.next o8 m8 w8)
   ·rw [if_neg (by omega), if_pos (by omega)] at hnx
    refine ⟨by omega, (write_spec _ _ _ _ H4).mono ?_⟩
    rintro v H5 ⟨rfl, e5⟩
    refine ⟨_, _, _, _, _, rfl, by omega, (write_spec _ _ _ _ H5).mono ?_⟩
    rintro v H6 ⟨rfl, e6⟩
    have b6 := (b4.go e5).go e6
    refine ⟨_, _, _, _, _, rfl, apOps (ys := [(i, 32, 2, bnd (sh (flA A i k).1 16) 65520), (i, 34, 2, bnd (sh (flA A i k).2 16) 65520)]) rfl b6.ow (by simp; omega) b6.ext.size ?_⟩
    intro s' H8 o8 n8 m8 w8
    exact next2 hk3 (by omega) (by rw [hnx]; exact b6.next o8 m8 w8)
   ·rw [if_neg (by omega), if_neg (by omega), if_pos h2] at hnx
    refine ⟨by omega, (write_spec _ _ _ _ H4).mono ?_⟩
    rintro v H5 ⟨rfl, e5⟩
    refine ⟨_, _, _, _, _, rfl, by omega, (write_spec _ _ _ _ H5).mono ?_⟩
    rintro v H6 ⟨rfl, e6⟩
    refine ⟨_, _, _, _, _, rfl, by omega, (write_spec _ _ _ _ H6).mono ?_⟩
    rintro v H7 ⟨rfl, e7⟩
    refine ⟨_, _, _, _, _, rfl, by omega, (write_spec _ _ _ _ H7).mono ?_⟩
    rintro v H9 ⟨rfl, e9⟩
    have b9 := (((b4.go e5).go e6).go e7).go e9
    refine ⟨_, _, _, _, _, rfl, apOps (ys := [(i, 36, 2, bnd (sh (flA A i k).1 16) 65520), (i, 38, 2, bnd (sh (flA A i k).2 16) 65520), (i, 40, 4, sh (flA A i k).1 32), (i, 44, 4, sh (flA A i k).2 32)]) rfl b9.ow (by simp; omega) b9.ext.size ?_⟩
    intro s' H8 o8 n8 m8 w8
    exact next2 hk3 (by omega) (by rw [hnx]; exact b9.next o8 m8 w8)
   ·rw [if_neg (by omega), if_neg (by omega), if_neg (by simp [h2]), List.append_nil] at hnx
    exact next2 hk3 (by omega) (by rw [hnx]; exact b4)
 ·obtain rfl : k = 3 := by omega
  exact ⟨out, rfl, b2.ow, b2.m⟩

end Go.Proofs.YtigcheamheiopaaGreat
end

section
/-
 Writes: all of them (plain, the program's).
-/
namespace Go.Proofs.YtigcheamheiopaaGreat
open Go.Eng
set_option linter.unusedVariables false

def cmdF (A : List Asg) (i : Nat) : Nat → Int
 | 0 => 0
 | k + 1 => if (A.getD k zA).1.1 = i then bitsOr .u64 (cmdF A i k) (if (A.getD k zA).1.2.2.1 = 0 then 1 else 2) else cmdF A i k
def regsL (f : Fn) (A : List Asg) (i : Nat) : Nat → List Op
 | 0 => []
 | k + 1 => regsL f A i k ++ (if (A.getD k zA).1.1 = i ∧ 0 ≤ (A.getD k zA).1.2.1 then barL f (A.getD k zA) else [])
def wrI (T : List FS) (A : List Asg) (i : Nat) : List Op :=
 regsL (fnAt T i) A i A.length ++ (if (fnAt T i).bridge = true then brL (fnAt T i).pref A i 3 else []) ++ [((i : Int), 4, 2, if (fnAt T i).bridge = true then bitsOr .u64 (cmdF A i A.length) 4 else cmdF A i A.length)]
def wrF (T : List FS) (A : List Asg) : Nat → List Op
 | 0 => []
 | k + 1 => wrF T A k ++ wrI T A k
def WrIs (T : List FS) (A : List Asg) (L : List Op) : Prop := (ValidT T ∧ Cov2 T A ∧ L = wrF T A T.length) ∨ (¬ (ValidT T ∧ Cov2 T A) ∧ L = [])
theorem WrIs.uni {T : List FS} {A : List Asg} {L L' : List Op} (h : WrIs T A L) (h' : WrIs T A L') : L = L' := by
 rcases h with ⟨h1, h2, rfl⟩ | ⟨h1, rfl⟩ <;> rcases h' with ⟨h3, h4, rfl⟩ | ⟨h3, rfl⟩
 ·rfl
 ·exact absurd ⟨h1, h2⟩ h3
 ·exact absurd ⟨h3, h4⟩ h1
 ·rfl

theorem barL_len (f : Fn) (x : Asg) : (barL f x).length ≤ 2 := by
 unfold barL
 split <;> simp
theorem regsL_len (f : Fn) (A : List Asg) (i : Nat) : ∀ k, (regsL f A i k).length ≤ 2 * k
 | 0 => by simp [regsL]
 | k + 1 => by
  have h1 := regsL_len f A i k
  have h2 := barL_len f (A.getD k zA)
  simp only [regsL, List.length_append]
  split
  ·omega
  ·simp only [List.length_nil]; omega
theorem wrI_len (T : List FS) (A : List Asg) (i : Nat) : (wrI T A i).length ≤ 2 * A.length + 13 := by
 have h1 := regsL_len (fnAt T i) A i A.length
 have h2 := brL_len (fnAt T i).pref A i 3
 unfold wrI
 rw [List.length_append, List.length_append]
 split
 ·simp only [List.length_cons, List.length_nil]; omega
 ·simp only [List.length_cons, List.length_nil]; omega
theorem wrF_len (T : List FS) (A : List Asg) (hA : A.length ≤ 1000) : ∀ k, (wrF T A k).length ≤ k * 2013
 | 0 => by simp [wrF]
 | k + 1 => by
  have h1 := wrF_len T A hA k
  have h2 := wrI_len T A k
  simp only [wrF, List.length_append]
  omega

theorem regL_ix (T : List FS) (high : Bool) (i : Nat) (B : List Bar) : ∀ n, ∀ x ∈ regL T high i B n, x.2.1 < n
 | 0, x, hx => by simp [regL] at hx
 | n + 1, x, hx => by
  simp only [regL] at hx
  rcases List.mem_append.1 hx with hx | hx
  ·have := regL_ix T high i B n x hx; omega
  ·split at hx
   ·cases hx
   ·simp only [List.mem_singleton] at hx
    subst hx
    dsimp only
    omega
theorem winN_ix (T : List FS) (high : Bool) (i : Nat) (S : Nat → List Int) : ∀ n : Nat, ∀ x ∈ winN T high i S n, x.2.1 < 0
 | 0, x, hx => by simp [winN] at hx
 | n + 1, x, hx => by
  simp only [winN] at hx
  rcases List.mem_append.1 hx with hx | hx
  ·exact winN_ix T high i S n x hx
  ·split at hx
   ·simp only [List.mem_singleton] at hx
    subst hx
    dsimp only
    omega
   ·cases hx
structure AsgOk (T : List FS) (x : Asg) : Prop where
 nd : NdOk T x.1
 ix : 0 ≤ x.1.2.1 → x.1.2.1 < (fnAt T x.1.1.toNat).bars.length
theorem need_ix {T : List FS} {high : Bool} {x : Need} (hx : x ∈ needsAll T high) (h0 : 0 ≤ x.2.1) : x.2.1 < (fnAt T x.1.toNat).bars.length := by
 unfold needsAll at hx
 obtain ⟨i, hi, hxi⟩ := List.mem_flatMap.1 hx
 have hi' := List.mem_range.1 hi
 have hf := needsAt_fst hi' x hxi
 rw [needsAt_own' hi'] at hxi
 unfold ownL winAll at hxi
 rw [hf, Int.toNat_natCast]
 rcases List.mem_append.1 hxi with hxi | hxi
 ·exact regL_ix T high i _ _ x hxi
 ·exfalso
  split at hxi
  ·have := winN_ix T high i _ 3 x hxi; omega
  ·cases hxi
theorem cov_ok {T : List FS} {A : List Asg} (hc : Cov2 T A) : ∀ x ∈ A, AsgOk T x := by
 have key : ∀ high, NeedsIs T high 0 (A.map Prod.fst) → ∀ x ∈ A, AsgOk T x := fun high h x hx => by
  rcases h with ⟨_, h0, _⟩ | ⟨_, _, h0, _⟩ | ⟨hv, ho, _, hN⟩
  ·cases h0
  ·cases h0
  ·have hm : x.1 ∈ needsAll T high := by rw [← hN]; exact List.mem_map.2 ⟨x, hx, rfl⟩
   exact ⟨needs_ok hv ho _ hm, need_ix hm⟩
 rcases hc with h | h
 ·exact key _ h
 ·exact key _ h
structure WrS (H0 : Heap) (fb : Nat) (f : Fn) (fs : Sl) (L : List Op) (out : Sl) (H : Heap) : Prop where
 ow : Own H0.size t_api_ConfigOp 5 H out (L.flatMap encOp)
 fn : Blk H fb t_api_Function (fnL f fs)
 ext : Ext H0 H
theorem WrS.go {H0 : Heap} {fb : Nat} {f : Fn} {fs : Sl} {L : List Op} {out : Sl} {H H' : Heap} (b : WrS H0 fb f fs L out H) (e : Ext H H') : WrS H0 fb f fs L out H' := ⟨b.ow.ext e, b.fn.ext e, b.ext.trans e⟩
theorem WrS.next {H0 : Heap} {fb : Nat} {f : Fn} {fs : Sl} {L L' : List Op} {out s' : Sl} {H H' : Heap} (b : WrS H0 fb f fs L out H) (ow : Own H0.size t_api_ConfigOp 5 H' s' (L'.flatMap encOp)) (m : Mods (blkOf out.p) H H') : WrS H0 fb f fs L' s' H' := by
 have tb : TyB H (some ⟨fb, 0, none⟩) t_api_Function := fun a ha => by cases ha; exact ⟨_, _, b.fn⟩
 exact ⟨ow, b.fn.mods m (ty_ne tb (own_ty b.ow) (by decide) _ rfl), Mods.ext b.ext m (blkOf_new b.ow.new)⟩

def WritesP (T : List FS) (A : List Asg) (H : Heap) (v : Value) (H' : Heap) : Prop := ∃ (out : Sl) (L : List Op), v = .slice out.p out.n out.c ∧ WrIs T A L ∧ IsS 5 encOp H' out L ∧ Ext H H'

theorem writes_k5 (T : List FS) (s : Sl) (A : List Asg) (sa : Sl) (H H4 : Heap) (e0 : Ext H H4) (hT : Topo H4 s T) (hA : IsS 5 encA H4 sa A) (hl : A.length ≤ 1000) (hv : ValidT T) (hc : Cov2 T A) : F_allocate_Writes_k5 (WritesP T A H) s sa H4 := by
 unfold F_allocate_Writes_k5
 have hTn := hT.len
 have hsn := hA.len
 have hT64 := hv.1
 have hok := fun k (hk : k < A.length) => cov_ok hc _ (getD_mem' (l := A) (k := k) zA hk)
 refine loop2 T.length (fun k out H' => Own H4.size t_api_ConfigOp 5 H' out ((wrF T A k).flatMap encOp) ∧ Ext H4 H') ⟨Own.nil _ _ _ _, .refl _⟩ ?_
 rintro i out H5 hi ⟨ow, e5⟩
 unfold F_allocate_Writes_r4
 refine iteB_dec (fun c => ?_) (fun c => ?_)
 ·have hiT : i < T.length := by omega
  obtain ⟨a, hp, hr⟩ := (hT.ext e5).at hiT
  obtain ⟨q0, q1, q2, q3, q4, q5, q6, q7, q8, q9, q10⟩ := rdFn hr
  have hbars := hT.barsAt hiT
  have hbl := (hv.2 i hiT).va.bl
  have h6 : (fnAt T i).bars.length ≤ 6 := by
   have : regs (fnAt T i).bridge ≤ 6 := by unfold regs; split <;> omega
   omega
  have hF := wrF_len T A hl i
  have hFi : i * 2013 ≤ 64 * 2013 := Nat.mul_le_mul_right _ (by omega)
  have hstep : wrF T A (i + 1) = wrF T A i ++ wrI T A i := rfl
  unfold wrI at hstep
  generalize hf : fnAt T i = f at *
  generalize slAt T i = fs at *
  refine ⟨by omega, by omega, unSome_mk hp ⟨_, q0, _, q1, _, q2, _, q3, _, q4, _, q5, _, q6, _, q7, _, q8, _, q9, fs, q10, local_mk (vs := fnL f fs) rfl rfl fun H7 e7 z7 b7 => ?_⟩⟩
  refine loop3 A.length (fun k o cm H' => WrS H4 H5.size f fs (wrF T A i ++ regsL f A i k) o H' ∧ cm = cmdF A i k) ⟨⟨by simpa [regsL] using ow.ext e7, b7, e5.trans e7⟩, rfl⟩ ?_
  rintro k o cm H8 hk ⟨w8, rfl⟩
  unfold F_allocate_Writes_r3
  have hrl := regsL_len f A i k
  have hon := Own.len rkOp w8.ow
  rw [List.length_append] at hon
  refine iteB_dec (fun c2 => ?_) (fun c2 => ?_)
  ·have hkA : k < A.length := by omega
   obtain ⟨pa, hpa, ra0, hra⟩ := asg_rd (hA.ext w8.ext) hkA
   have hx := hok k hkA
   have hcs : cmdF A i (k + 1) = if (A.getD k zA).1.1 = i then bitsOr .u64 (cmdF A i k) (if (A.getD k zA).1.2.2.1 = 0 then 1 else 2) else cmdF A i k := rfl
   have hrs : regsL f A i (k + 1) = regsL f A i k ++ (if (A.getD k zA).1.1 = i ∧ 0 ≤ (A.getD k zA).1.2.1 then barL f (A.getD k zA) else []) := rfl
   generalize A.getD k zA = x at *
   refine ⟨by omega, by omega, unSome_mk hpa ⟨_, ra0, _, hra 1 _ rfl, _, hra 2 _ rfl, _, hra 3 _ rfl, _, hra 4 _ rfl, local_mk (vs := encA x) rfl rfl fun H10 e10 z10 b10 => ?_⟩⟩
   have w10 := w8.go e10
   refine ⟨_, b10.rd0 rfl, iteB_bne (fun d => ?_) (fun d => ?_)⟩
   ·rw [if_neg d] at hcs
    rw [if_neg (fun h => d h.1), List.append_nil] at hrs
    exact next3 hkA (by omega) ⟨by rw [hrs]; exact w10, hcs.symm⟩
   ·rw [if_pos d] at hcs
    refine ⟨fun cm H' => cm = cmdF A i (k + 1) ∧ H' = H10, ⟨_, b10.rd (i := 2) rfl, iteB_beq (fun g => letV_mk _ rfl ⟨by rw [hcs, if_pos g], rfl⟩) (fun g => letV_mk _ rfl ⟨by rw [hcs, if_neg g], rfl⟩)⟩, ?_⟩
    rintro cm H11 ⟨rfl, rfl⟩
    unfold F_allocate_Writes_k1
    refine ⟨_, b10.rd (i := 1) rfl, iteB_dec (fun g => ?_) (fun g => ?_)⟩
    ·obtain ⟨u0, u1, u2, u3, u4, u5, u6, u7, u8, u9, u10⟩ := Blk.fn w10.fn
     rw [if_pos ⟨d, g⟩] at hrs
     have hix := hx.ix g
     rw [d, Int.toNat_natCast, hf] at hix
     refine ⟨_, u0, _, u1, _, u2, _, u3, _, u4, _, u5, _, u6, _, u7, _, u8, _, u9, fs, u10, _, b10.rd0 rfl, _, b10.rd (i := 1) rfl, _, b10.rd (i := 2) rfl, _, b10.rd (i := 3) rfl, _, b10.rd (i := 4) rfl, (barWrites_spec H4 H11 o (wrF T A i ++ regsL f A i k) f fs x w10.ext w10.ow (by rw [List.length_append]; omega) hbars ⟨g, hix⟩ h6).mono ?_⟩
     rintro v H12 ⟨o2, rfl, ow2, m2⟩
     exact ⟨o2, rfl, next3 hkA (by omega) ⟨by rw [hrs, ← List.append_assoc]; exact w10.next ow2 m2, rfl⟩⟩
    ·rw [if_neg (fun h => g h.2), List.append_nil] at hrs
     exact next3 hkA (by omega) ⟨by rw [hrs]; exact w10, rfl⟩
  ·obtain rfl : k = A.length := by omega
   have r4 := (Blk.fn w8.fn).2.2.2.2.1
   refine ⟨fun o cm H' => WrS H4 H5.size f fs (wrF T A i ++ regsL f A i A.length ++ (if f.bridge = true then brL f.pref A i 3 else [])) o H' ∧ cm = (if f.bridge = true then bitsOr .u64 (cmdF A i A.length) 4 else cmdF A i A.length), ⟨_, r4, iteB_intro (fun g => letV_mk _ rfl ?_) (fun g => ⟨by rw [if_neg (by simp [g]), List.append_nil]; exact w8, by rw [if_neg (by simp [g])]⟩)⟩, ?_⟩
   ·obtain ⟨u0, u1, u2, u3, u4, u5, u6, u7, u8, u9, u10⟩ := Blk.fn w8.fn
    refine ⟨_, u0, _, u1, _, u2, _, u3, _, u4, _, u5, _, u6, _, u7, _, u8, _, u9, fs, u10, (bridgeWrites_spec H4 H8 o (wrF T A i ++ regsL f A i A.length) f fs A sa i w8.ext w8.ow (by rw [List.length_append]; omega) hA hl (fun j hj => (hok j hj).nd.sz)).mono ?_⟩
    rintro v H13 ⟨o3, rfl, ow3, m3⟩
    exact ⟨o3, rfl, by rw [if_pos g]; exact w8.next ow3 m3, by rw [if_pos g]⟩
   ·rintro o4 cm H14 ⟨w14, rfl⟩
    unfold F_allocate_Writes_k2
    refine (write_spec _ _ _ _ H14).mono ?_
    rintro v H15 ⟨rfl, e15⟩
    have w15 := w14.go e15
    have hn := Own.len rkOp w15.ow
    have hwl := brL_len f.pref A i 3
    have hon' : o4.n ≤ 1000000 := by
     rw [hn, List.length_append, List.length_append]
     split
     ·omega
     ·simp only [List.length_nil]; omega
    refine ⟨_, _, _, _, _, rfl, apR rkOp ((i : Int), 4, 2, if f.bridge = true then bitsOr .u64 (cmdF A i A.length) 4 else cmdF A i A.length) w15.ow (by omega) w15.ext.size ?_⟩
    intro o5 H17 ow5 n5 m5
    refine next2 hiT (by omega) ⟨?_, (w15.next ow5 m5).ext⟩
    rw [hstep]
    have e : wrF T A i ++ (regsL f A i A.length ++ (if f.bridge = true then brL f.pref A i 3 else []) ++ [((i : Int), 4, 2, if f.bridge = true then bitsOr .u64 (cmdF A i A.length) 4 else cmdF A i A.length)]) = wrF T A i ++ regsL f A i A.length ++ (if f.bridge = true then brL f.pref A i 3 else []) ++ [((i : Int), 4, 2, if f.bridge = true then bitsOr .u64 (cmdF A i A.length) 4 else cmdF A i A.length)] := by simp only [List.append_assoc]
    rw [e]
    exact ow5
 ·obtain rfl : i = T.length := by omega
  exact ⟨out, _, rfl, .inl ⟨hv, hc, rfl⟩, Own.is rkOp ow, e0.trans e5⟩

theorem Writes_spec (T : List FS) (s : Sl) (A : List Asg) (sa : Sl) (H : Heap) (hT : Topo H s T) (hA : IsS 5 encA H sa A) (hl : A.length ≤ 1000) :
  CallsH Tryz.prog n_allocate_Writes #[.slice s.p s.n s.c, .slice sa.p sa.n sa.c] H (WritesP T A H) := by
 refine F_allocate_Writes_ok _ _ ?_
 unfold F_allocate_Writes
 have no : ∀ H', Ext H H' → ¬ (ValidT T ∧ Cov2 T A) → WritesP T A H (.slice none 0 0) H' := fun H' e hn => ⟨⟨none, 0, 0⟩, [], rfl, .inr ⟨hn, rfl⟩, IsS.nil _ _ _, e⟩
 refine ⟨fun H4 => Ext H H4 ∧ ValidT T ∧ Cov2 T A, (eValid_spec T s H hT).mono ?_, fun H4 ⟨e4, hv, hc⟩ => writes_k5 T s A sa H H4 e4 (hT.ext e4) (hA.ext e4) hl hv hc⟩
 rintro v H1 ⟨rfl, e1⟩
 refine ⟨_, rfl, iteB_not (fun c => no _ e1 (fun hh => by simp at c; exact c hh.1)) (fun c => ?_)⟩
 have hv : ValidT T := by simpa using c
 refine (covers_spec T s true A sa H1 (hT.ext e1) (hA.ext e1) hl).mono ?_
 rintro v H2 ⟨b1, rfl, hb1, e2⟩
 have x2 := e1.trans e2
 refine ⟨_, rfl, iteB_not (fun c => ?_) (fun c => ⟨x2, hv, .inl (hb1.1 c)⟩)⟩
 refine (covers_spec T s false A sa H2 (hT.ext x2) (hA.ext x2) hl).mono ?_
 rintro v H3 ⟨b2, rfl, hb2, e3⟩
 refine ⟨_, rfl, iteB_not (fun d => no _ (x2.trans e3) (fun hh => hh.2.elim (fun h => by have := hb1.2 h; rw [c] at this; cases this) (fun h => by have := hb2.2 h; rw [d] at this; cases this))) (fun d => ⟨x2.trans e3, hv, .inr (hb2.1 d)⟩)⟩

end Go.Proofs.YtigcheamheiopaaGreat
end

section
/-
 Writes: the reference's.
-/
namespace Go.Proofs.YtigcheamheiopaaGreat
open Go.Eng
set_option linter.unusedVariables false

theorem rspan_spec (x : Asg) (H : Heap) (hx : 0 ≤ x.1.2.2.2 ∧ x.1.2.2.2 ≤ 44) :
  CallsH Tryz.prog n_ref21_span #[asgW x] H (fun v H' => v = .agg #[.int .u64 x.2, .int .u64 (2 ^ szA x)] ∧ Ext H H') := by
 refine F_ref21_span_ok _ _ _ _ _ ?_
 unfold F_ref21_span
 refine push_mk (vs := encA x) fun H1 e1 z1 b1 => push_mk (vs := [.int .u64 0, .int .u64 0]) fun H2 e2 z2 b2 => ?_
 have b1' := b1.ext e2
 refine ⟨_, b1'.rd (i := 4) rfl, _, b1'.rd (i := 3) rfl, u64_nonneg _, b2.ok0 (Nat.le_refl 2), letH_mk ?_⟩
 intro H3 h3
 have b3 : Blk H3 H1.size t_api_Range [.int .u64 x.2, .int .u64 (IntKind.u64.wrap (1 * 2 ^ (min (IntKind.u64.wrap x.1.2.2.2).toNat IntKind.u64.bits)))] := by rw [h3]; exact b2.wr
 have m3 : Mods [H1.size] H2 H3 := by rw [h3]; exact Mods.wrs (by simp)
 clear h3
 refine ⟨_, b3.rd0 rfl, _, b3.rd (i := 1) rfl, ?_, Mods.ext (e1.trans e2) m3 (by simp; omega)⟩
 rw [shl1 hx.1 (by omega)]

theorem rwindows_spec (T : List FS) (s : Sl) (A : List Asg) (sa : Sl) (i : Nat) (H : Heap) (hi : i < T.length) (hT : Topo H s T) (hA : IsS 5 encA H sa A) (hAl : A.length ≤ 1000) (hT64 : T.length ≤ 64) (hsz : ∀ j, j < A.length → 0 ≤ (A.getD j zA).1.2.2.2 ∧ (A.getD j zA).1.2.2.2 ≤ 44) :
  CallsH Tryz.prog n_ref21_windows #[.slice s.p s.n s.c, .slice sa.p sa.n sa.c, .int .i64 (i : Int)] H (fun v H' => ∃ out : Sl, v = .slice out.p out.n out.c ∧ Own H.size t_api_ConfigOp 5 H' out ((brL (fnAt T i).pref A i 3).flatMap encOp) ∧ Ext H H') := by
 refine F_ref21_windows_ok _ _ _ ?_
 unfold F_ref21_windows
 have hsn := hA.len
 have hTn := hT.len
 refine loop2 3 (fun k out H' => Own H.size t_api_ConfigOp 5 H' out ((brL (fnAt T i).pref A i k).flatMap encOp) ∧ Ext H H') ⟨by simpa [brL] using Own.nil _ _ _ _, .refl _⟩ ?_
 rintro k out H1 hk ⟨ow, e1⟩
 unfold F_ref21_windows_r2
 have hwl := brL_len (fnAt T i).pref A i k
 refine iteB_dec (fun c => ?_) (fun c => ?_)
 ·have hk3 : k < 3 := by omega
  have hnx : brL (fnAt T i).pref A i (k + 1) = brL (fnAt T i).pref A i k ++ winC (fnAt T i).pref A i k := rfl
  have ek : IntKind.i64.wrap (-1 - (k : Int)) = -1 - (k : Int) := i64_in (by omega)
  rw [ek]
  refine ⟨fun a b H' => a = (flA A i k).1 ∧ b = (flA A i k).2 ∧ Own H.size t_api_ConfigOp 5 H' out ((brL (fnAt T i).pref A i k).flatMap encOp) ∧ Ext H H', (rat_spec H1 sa A i (-1 - (k : Int)) (hA.ext e1) (by omega)).mono ?_, ?_⟩
  ·rintro v H2 ⟨rfl, rfl⟩
   refine ⟨_, rfl, ?_⟩
   unfold atI flA
   cases hq : atN (A.map Prod.fst) i (-1 - (k : Int)) with
   | none => exact iteB_neg (by simp) ⟨rfl, rfl, ow, e1⟩
   | some w =>
    dsimp only
    obtain ⟨hw, _, _⟩ := atN_spec hq
    have hwA : w < A.length := by simpa using hw
    obtain ⟨pa, hpa, ra0, hra⟩ := asg_rd (hA.ext e1) hwA
    have hx := hsz w hwA
    have g1 : (A.map Prod.snd).getD w 0 = (A.getD w zA).2 := map_getD2 hwA
    have g2 : (A.map Prod.fst).getD w (0, 0, 0, 0) = (A.getD w zA).1 := map_getD1 hwA
    refine iteB_pos (by simp) ⟨by omega, by omega, unSome_mk hpa ⟨_, hra 4 _ rfl, by omega, by omega, unSome_mk hpa ⟨_, hra 4 _ rfl, by omega, by omega, unSome_mk hpa ⟨_, ra0, _, hra 1 _ rfl, _, hra 2 _ rfl, _, hra 3 _ rfl, _, hra 4 _ rfl, (rspan_spec (A.getD w zA) H2 hx).mono ?_⟩⟩⟩⟩
    rintro v H3 ⟨rfl, e3⟩
    refine ⟨_, _, rfl, e3.keeps, letV_mk _ rfl ⟨g1.symm, ?_, ow.ext e3, e1.trans e3⟩⟩
    rw [g1, g2]
  ·rintro first last H4 ⟨rfl, rfl, o4, e4⟩
   unfold F_ref21_windows_k1
   have hln := Own.len rkOp o4
   obtain ⟨pf, hpf, hrf⟩ := (hT.ext e4).at hi
   have r5 := (rdFn hrf).2.2.2.2.2.1
   unfold winC at hnx
   refine iteB_beq (fun h0 => ?_) (fun h0 => iteB_beq (fun h1 => ?_) (fun h1 => ⟨by omega, by omega, unSome_mk hpf ⟨_, r5, iteB_intro (fun h2 => ?_) (fun h2 => ?_)⟩⟩))
   ·rw [if_pos (by omega)] at hnx
    refine ⟨by omega, (rop_spec _ _ _ _ H4).mono ?_⟩
    rintro v H5 ⟨rfl, e5⟩
    refine ⟨_, _, _, _, _, rfl, by omega, (rop_spec _ _ _ _ H5).mono ?_⟩
    rintro v H6 ⟨rfl, e6⟩
    have x6 := (e4.trans e5).trans e6
    refine ⟨_, _, _, _, _, rfl, apOps (ys := [((i : Int), 28, 1, bnd (sh (flA A i k).1 8) 240), (i, 29, 1, bnd (sh (flA A i k).2 8) 240)]) rfl (o4.ext (e5.trans e6)) (by simp; omega) x6.size ?_⟩
    intro s' H8 o8 n8 m8 w8
    exact letV_mk _ rfl (next2 hk3 (by omega) ⟨by rw [hnx]; exact o8, Mods.ext x6 m8 (blkOf_new o4.new)⟩)
   ·rw [if_neg (by omega), if_pos (by omega)] at hnx
    refine ⟨by omega, (rop_spec _ _ _ _ H4).mono ?_⟩
    rintro v H5 ⟨rfl, e5⟩
    refine ⟨_, _, _, _, _, rfl, by omega, (rop_spec _ _ _ _ H5).mono ?_⟩
    rintro v H6 ⟨rfl, e6⟩
    have x6 := (e4.trans e5).trans e6
    refine ⟨_, _, _, _, _, rfl, apOps (ys := [((i : Int), 32, 2, bnd (sh (flA A i k).1 16) 65520), (i, 34, 2, bnd (sh (flA A i k).2 16) 65520)]) rfl (o4.ext (e5.trans e6)) (by simp; omega) x6.size ?_⟩
    intro s' H8 o8 n8 m8 w8
    exact letV_mk _ rfl (next2 hk3 (by omega) ⟨by rw [hnx]; exact o8, Mods.ext x6 m8 (blkOf_new o4.new)⟩)
   ·rw [if_neg (by omega), if_neg (by omega), if_pos h2] at hnx
    refine ⟨by omega, (rop_spec _ _ _ _ H4).mono ?_⟩
    rintro v H5 ⟨rfl, e5⟩
    refine ⟨_, _, _, _, _, rfl, by omega, (rop_spec _ _ _ _ H5).mono ?_⟩
    rintro v H6 ⟨rfl, e6⟩
    refine ⟨_, _, _, _, _, rfl, by omega, (rop_spec _ _ _ _ H6).mono ?_⟩
    rintro v H7 ⟨rfl, e7⟩
    refine ⟨_, _, _, _, _, rfl, by omega, (rop_spec _ _ _ _ H7).mono ?_⟩
    rintro v H9 ⟨rfl, e9⟩
    have x9 := (((e4.trans e5).trans e6).trans e7).trans e9
    refine ⟨_, _, _, _, _, rfl, apOps (ys := [((i : Int), 36, 2, bnd (sh (flA A i k).1 16) 65520), (i, 38, 2, bnd (sh (flA A i k).2 16) 65520), (i, 40, 4, sh (flA A i k).1 32), (i, 44, 4, sh (flA A i k).2 32)]) rfl (o4.ext (((e5.trans e6).trans e7).trans e9)) (by simp; omega) x9.size ?_⟩
    intro s' H8 o8 n8 m8 w8
    exact letV_mk _ rfl (next2 hk3 (by omega) ⟨by rw [hnx]; exact o8, Mods.ext x9 m8 (blkOf_new o4.new)⟩)
   ·rw [if_neg (by omega), if_neg (by omega), if_neg (by simp [h2]), List.append_nil] at hnx
    exact letV_mk _ rfl (next2 hk3 (by omega) ⟨by rw [hnx]; exact o4, e4⟩)
 ·obtain rfl : k = 3 := by omega
  exact ⟨out, rfl, ow, e1⟩

theorem rWrites_spec (T : List FS) (s : Sl) (A : List Asg) (sa : Sl) (H : Heap) (hT : Topo H s T) (hA : IsS 5 encA H sa A) (hl : A.length ≤ 1000) :
  CallsH Tryz.prog n_ref21_Writes #[.slice s.p s.n s.c, .slice sa.p sa.n sa.c] H (WritesP T A H) := by
 refine F_ref21_Writes_ok _ _ ?_
 unfold F_ref21_Writes
 have no : ∀ H', Ext H H' → ¬ (ValidT T ∧ Cov2 T A) → WritesP T A H (.slice none 0 0) H' := fun H' e hn => ⟨⟨none, 0, 0⟩, [], rfl, .inr ⟨hn, rfl⟩, IsS.nil _ _ _, e⟩
 refine (rVal_spec T s H hT).mono ?_
 rintro v H1 ⟨rfl, e1⟩
 refine ⟨_, rfl, iteB_not (fun c => no _ e1 (fun hh => by simp at c; exact c hh.1)) (fun c => ?_)⟩
 have hv : ValidT T := by simpa using c
 refine (needed_spec T s A sa H1 (hT.ext e1) (hA.ext e1) hl).mono ?_
 rintro v H2 ⟨b1, rfl, hb1, e2⟩
 have x2 := e1.trans e2
 refine ⟨_, rfl, iteB_not (fun d => no _ x2 (fun hh => by have := hb1.2 hh.2; rw [d] at this; cases this)) (fun d => ?_)⟩
 have hc := hb1.1 d
 have hTn := hT.len
 have hsn := hA.len
 have hT64 := hv.1
 have hok := fun k (hk : k < A.length) => cov_ok hc _ (getD_mem' (l := A) (k := k) zA hk)
 refine loop2 T.length (fun k out H' => Own H2.size t_api_ConfigOp 5 H' out ((wrF T A k).flatMap encOp) ∧ Ext H2 H') ⟨Own.nil _ _ _ _, .refl _⟩ ?_
 rintro i out H3 hi ⟨ow, e3⟩
 unfold F_ref21_Writes_r5
 refine iteB_dec (fun c => ?_) (fun c => ?_)
 ·have hiT : i < T.length := by omega
  have hF := wrF_len T A hl i
  have hFi : i * 2013 ≤ 64 * 2013 := Nat.mul_le_mul_right _ (by omega)
  have hbl := (hv.2 i hiT).va.bl
  have h6 : (fnAt T i).bars.length ≤ 6 := by
   have : regs (fnAt T i).bridge ≤ 6 := by unfold regs; split <;> omega
   omega
  refine loop3 A.length (fun k o cm H' => (Own H2.size t_api_ConfigOp 5 H' o ((wrF T A i ++ regsL (fnAt T i) A i k).flatMap encOp) ∧ Ext H2 H') ∧ cm = cmdF A i k) ⟨⟨by simpa [regsL] using ow, e3⟩, rfl⟩ ?_
  rintro k o cm H4 hk ⟨⟨o4, e4⟩, rfl⟩
  unfold F_ref21_Writes_r4
  have hrl := regsL_len (fnAt T i) A i k
  have hon := Own.len rkOp o4
  rw [List.length_append] at hon
  have x4 := x2.trans e4
  refine iteB_dec (fun c2 => ?_) (fun c2 => ?_)
  ·have hkA : k < A.length := by omega
   obtain ⟨pa, hpa, ra0, hra⟩ := asg_rd (hA.ext x4) hkA
   have hx := hok k hkA
   have hcs : cmdF A i (k + 1) = if (A.getD k zA).1.1 = i then bitsOr .u64 (cmdF A i k) (if (A.getD k zA).1.2.2.1 = 0 then 1 else 2) else cmdF A i k := rfl
   have hrs : regsL (fnAt T i) A i (k + 1) = regsL (fnAt T i) A i k ++ (if (A.getD k zA).1.1 = i ∧ 0 ≤ (A.getD k zA).1.2.1 then barL (fnAt T i) (A.getD k zA) else []) := rfl
   generalize A.getD k zA = x at *
   refine ⟨by omega, by omega, unSome_mk hpa ⟨_, ra0, _, hra 1 _ rfl, _, hra 2 _ rfl, _, hra 3 _ rfl, _, hra 4 _ rfl, local_mk (vs := encA x) rfl rfl fun H6 e6 z6 b6 => ?_⟩⟩
   have o6 := o4.ext e6
   have y6 := e4.trans e6
   refine ⟨_, b6.rd0 rfl, iteB_bne (fun d => ?_) (fun d => ?_)⟩
   ·rw [if_neg d] at hcs
    rw [if_neg (fun h => d h.1), List.append_nil] at hrs
    exact letV_mk _ rfl (next3 hkA (by omega) ⟨⟨by rw [hrs]; exact o6, y6⟩, hcs.symm⟩)
   ·rw [if_pos d] at hcs
    refine ⟨fun cm H' => cm = cmdF A i (k + 1) ∧ H' = H6, ⟨_, b6.rd (i := 2) rfl, iteB_beq (fun g => letV_mk _ rfl ⟨by rw [hcs, if_pos g], rfl⟩) (fun g => letV_mk _ rfl ⟨by rw [hcs, if_neg g], rfl⟩)⟩, ?_⟩
    rintro cm H7 ⟨rfl, rfl⟩
    unfold F_ref21_Writes_k2
    refine ⟨_, b6.rd (i := 1) rfl, iteB_dec (fun g => ?_) (fun g => ?_)⟩
    ·rw [if_pos ⟨d, g⟩] at hrs
     have hix := hx.ix g
     rw [d, Int.toNat_natCast] at hix
     refine ⟨_, b6.rd (i := 1) rfl, _, b6.rd (i := 4) rfl, ?_⟩
     rw [show IntKind.i64.wrap (16 + IntKind.i64.wrap (4 * x.1.2.1)) = 16 + 4 * x.1.2.1 by rw [i64_in (n := 4 * x.1.2.1) (by omega), i64_in (by omega)]]
     refine (rop_spec _ _ _ _ H7).mono ?_
     rintro v H8 ⟨rfl, e8⟩
     have o8 := o6.ext e8
     have y8 := y6.trans e8
     refine ⟨_, _, _, _, _, rfl, apR rkOp ((i : Int), 16 + 4 * x.1.2.1, 4, bnd x.2 4294967295) o8 (by omega) y8.size ?_⟩
     intro out2 H10 o10 n10 m10
     have y10 : Ext H2 H10 := Mods.ext y8 m10 (blkOf_new o8.new)
     have tb : TyB H8 (some ⟨H4.size, 0, none⟩) t_api_Assignment := fun a ha => by cases ha; exact ⟨_, _, b6.ext e8⟩
     have b10 := (b6.ext e8).mods m10 (ty_ne tb (own_ty o8) (by decide) _ rfl)
     obtain ⟨pf, hpf, hrf⟩ := (hT.ext (x2.trans y10)).at hiT
     have r10 := (rdFn hrf).2.2.2.2.2.2.2.2.2.2
     have hbars := (hT.ext (x2.trans y10)).barsAt hiT
     have hk' : x.1.2.1.toNat < (fnAt T i).bars.length := by omega
     obtain ⟨pb, hpb, hrb⟩ := IsS.atN hbars ((0, 0) : Bar) hk'
     have rb0 : rd H10 (pb.add (((x.1.2.1.toNat : Nat) : Int).toNat * 2)) = some (.int .i64 (kB (fnAt T i) x.1.2.1)) := by have := hrb 0 _ rfl; rwa [add_zero'] at this
     rw [show ((x.1.2.1.toNat : Nat) : Int).toNat = x.1.2.1.toNat by omega] at rb0
     have hbn := hbars.len
     unfold barL at hrs
     rw [d] at hrs
     refine ⟨by omega, by omega, unSome_mk hpf ⟨_, r10, _, b10.rd (i := 1) rfl, by omega, by omega, unSome_mk hpb ⟨_, rb0, fun b H' => b = decide (kB (fnAt T i) x.1.2.1 = 3 ∨ kB (fnAt T i) x.1.2.1 = 4) ∧ H' = H10, ?_, ?_⟩⟩⟩
     ·refine iteB_beq (fun h => ⟨by rw [decide_eq_true (.inl h)], rfl⟩) (fun h => ⟨?_, rfl⟩)
      rw [Bool.eq_iff_iff, beq_iff_eq, decide_eq_true_eq]
      omega
     ·rintro b H11 ⟨rfl, rfl⟩
      unfold F_ref21_Writes_k1
      refine iteB_intro (fun h => ?_) (fun h => ?_)
      ·rw [decide_eq_true_eq] at h
       rw [if_pos h] at hrs
       refine ⟨_, b10.rd (i := 1) rfl, _, b10.rd (i := 4) rfl, by omega, ?_⟩
       rw [show IntKind.i64.wrap (20 + IntKind.i64.wrap (4 * x.1.2.1)) = 20 + 4 * x.1.2.1 by rw [i64_in (n := 4 * x.1.2.1) (by omega), i64_in (by omega)]]
       refine (rop_spec _ _ _ _ H11).mono ?_
       rintro v H12 ⟨rfl, e12⟩
       have y12 := y10.trans e12
       refine ⟨_, _, _, _, _, rfl, apR rkOp ((i : Int), 20 + 4 * x.1.2.1, 4, sh x.2 32) (o10.ext e12) (by omega) y12.size ?_⟩
       intro out3 H14 o14 n14 m14
       exact letV_mk _ rfl (next3 hkA (by omega) ⟨⟨by rw [hrs]; simpa using o14, Mods.ext y12 m14 (blkOf_new o10.new)⟩, rfl⟩)
      ·rw [decide_eq_false_iff_not] at h
       rw [if_neg h] at hrs
       exact letV_mk _ rfl (next3 hkA (by omega) ⟨⟨by rw [hrs, ← List.append_assoc]; exact o10, y10⟩, rfl⟩)
    ·rw [if_neg (fun h => g h.2), List.append_nil] at hrs
     exact letV_mk _ rfl (next3 hkA (by omega) ⟨⟨by rw [hrs]; exact o6, y6⟩, rfl⟩)
  ·obtain rfl : k = A.length := by omega
   obtain ⟨pf, hpf, hrf⟩ := (hT.ext x4).at hiT
   have r4 := (rdFn hrf).2.2.2.2.1
   have hwl := brL_len (fnAt T i).pref A i 3
   refine ⟨fun o cm H' => (Own H2.size t_api_ConfigOp 5 H' o ((wrF T A i ++ regsL (fnAt T i) A i A.length ++ (if (fnAt T i).bridge = true then brL (fnAt T i).pref A i 3 else [])).flatMap encOp) ∧ Ext H2 H') ∧ cm = (if (fnAt T i).bridge = true then bitsOr .u64 (cmdF A i A.length) 4 else cmdF A i A.length), ⟨by omega, by omega, unSome_mk hpf ⟨_, r4, iteB_intro (fun g => ?_) (fun g => ⟨⟨by rw [if_neg (by simp [g]), List.append_nil]; exact o4, e4⟩, by rw [if_neg (by simp [g])]⟩)⟩⟩, ?_⟩
   ·refine (rwindows_spec T s A sa i H4 hiT (hT.ext x4) (hA.ext x4) hl hT64 (fun j hj => (hok j hj).nd.sz)).mono ?_
    rintro v H15 ⟨w, rfl, ow, e15⟩
    have hwn := Own.len rkOp ow
    have y15 := e4.trans e15
    refine ⟨w, rfl, apA rkOp (o4.ext e15) (Own.is rkOp ow) (by omega) y15.size ?_⟩
    intro s' H16 o16 n16 m16 _
    exact ⟨s', rfl, letV_mk _ rfl ⟨⟨by rw [if_pos g]; exact o16, Mods.ext y15 m16 (blkOf_new o4.new)⟩, by rw [if_pos g]⟩⟩
   ·rintro o5 cm H17 ⟨⟨o17, e17⟩, rfl⟩
    unfold F_ref21_Writes_k3
    refine (rop_spec _ _ _ _ H17).mono ?_
    rintro v H18 ⟨rfl, e18⟩
    have o18 := o17.ext e18
    have hn := Own.len rkOp o18
    have hon' : o5.n ≤ 1000000 := by
     rw [hn, List.length_append, List.length_append]
     split
     ·omega
     ·simp only [List.length_nil]; omega
    refine ⟨_, _, _, _, _, rfl, apR rkOp ((i : Int), 4, 2, if (fnAt T i).bridge = true then bitsOr .u64 (cmdF A i A.length) 4 else cmdF A i A.length) o18 (by omega) (e17.trans e18).size ?_⟩
    intro o6 H20 ow6 n6 m6
    refine letV_mk _ rfl (next2 hiT (by omega) ⟨?_, Mods.ext (e17.trans e18) m6 (blkOf_new o17.new)⟩)
    have e : wrF T A (i + 1) = wrF T A i ++ regsL (fnAt T i) A i A.length ++ (if (fnAt T i).bridge = true then brL (fnAt T i).pref A i 3 else []) ++ [((i : Int), 4, 2, if (fnAt T i).bridge = true then bitsOr .u64 (cmdF A i A.length) 4 else cmdF A i A.length)] := by
     show wrF T A i ++ wrI T A i = _
     unfold wrI
     simp only [List.append_assoc]
    rw [e]
    exact ow6
 ·obtain rfl : i = T.length := by omega
  exact ⟨out, _, rfl, .inl ⟨hv, hc, rfl⟩, Own.is rkOp ow, x2.trans e3⟩

end Go.Proofs.YtigcheamheiopaaGreat
end
