/-
 The program's allocate: within, validRanges, ValidHost, placeable, demand, countBlocks, certificate.
-/
import Derived.Test.YtigcheamheiopaaGreatM5
namespace Go.Proofs.YtigcheamheiopaaGreat
open Go.Eng
set_option linter.unusedVariables false

def InR (l : List Rg) (a b : Int) : Prop := ∀ r ∈ l, 1 ≤ r.2 ∧ a ≤ r.1 ∧ r.1 + r.2 ≤ b
instance (l : List Rg) (a b : Int) : Decidable (InR l a b) := by unfold InR; infer_instance

theorem within_spec (H : Heap) (s : Sl) (l : List Rg) (a b : Int) (h : Rgs H s l) (hu : U64L l) (ha : 0 ≤ a ∧ a ≤ b ∧ b ≤ 18446744073709551615) (hl : l.length ≤ 9223372036854775807) :
  CallsH Tryz.prog n_allocate_within #[.slice s.p s.n s.c, .int .u64 a, .int .u64 b] H (BoolP (decide (InR l a b)) H) := by
 refine F_allocate_within_ok _ _ _ ?_
 unfold F_allocate_within
 have hn := h.len
 have no : ∀ H', Ext H H' → ¬ InR l a b → BoolP (decide (InR l a b)) H (.bool false) H' := fun H' e hh => ⟨by rw [decide_eq_false hh], e⟩
 refine loop1 l.length (fun k H' => Ext H H' ∧ ∀ i, i < k → 1 ≤ (l.getD i (0, 0)).2 ∧ a ≤ (l.getD i (0, 0)).1 ∧ (l.getD i (0, 0)).1 + (l.getD i (0, 0)).2 ≤ b) ⟨.refl _, fun i hi => by omega⟩ ?_
 rintro k H1 hk ⟨e1, hok⟩
 unfold F_allocate_within_r1
 refine iteB_dec (fun c1 => ?_) (fun c1 => ⟨?_, e1⟩)
 ·have hkn : k < l.length := by omega
  obtain ⟨q, hq, r0, r1⟩ := Rgs.atN (h.ext e1) hkn
  have hm := getD_mem' (0, 0) hkn
  have hur := hu _ hm
  have hbad : ¬ (1 ≤ (l.getD k (0, 0)).2 ∧ a ≤ (l.getD k (0, 0)).1 ∧ (l.getD k (0, 0)).1 + (l.getD k (0, 0)).2 ≤ b) → ¬ InR l a b := fun hh hv => hh (hv _ hm)
  generalize hre : l.getD k (0, 0) = r at *
  refine ⟨by omega, by omega, unSome_mk hq ⟨_, r0, _, r1, local_mk (vs := encR r) rfl rfl fun H3 e3 z3 b3 => ?_⟩⟩
  have x3 := e1.trans e3
  have p0 := b3.rd0 (v := .int .u64 r.1) rfl
  have p1 := b3.rd (i := 1) (v := .int .u64 r.2) rfl
  refine ⟨_, p1, iteB_dec (fun d => no _ x3 (hbad (by omega))) (fun d1 => ⟨_, p0, iteB_dec (fun d => no _ x3 (hbad (by omega))) (fun d2 => ⟨_, p0, iteB_dec (fun d => no _ x3 (hbad (by omega))) (fun d3 => ⟨_, p1, _, p0, ?_⟩)⟩)⟩)⟩
  rw [u64_in (n := b - r.1) (by omega)]
  refine iteB_dec (fun d => no _ x3 (hbad (by omega))) (fun d4 => next1 hkn (by omega) ⟨x3, fun i hi => ?_⟩)
  by_cases e : i = k
  ·subst e; rw [hre]; omega
  ·exact hok i (by omega)
 ·rw [decide_eq_true]
  exact all_of_getD (Q := fun r => 1 ≤ r.2 ∧ a ≤ r.1 ∧ r.1 + r.2 ≤ b) (0, 0) (fun i hi => hok i (by omega))

theorem validRanges_spec (H : Heap) (s : Sl) (l : List Rg) (h : Rgs H s l) (hu : U64L l) :
  CallsH Tryz.prog n_allocate_validRanges #[.slice s.p s.n s.c] H (BoolP (decide (ValidR l)) H) := by
 refine F_allocate_validRanges_ok _ ?_
 unfold F_allocate_validRanges
 have hn := h.len
 refine iteB_dec (fun c => (within_spec H s l 0 4503599627370496 h hu (by omega) (by omega)).mono ?_) (fun c => ⟨by rw [decide_eq_false]; intro hv; have := hv.1; omega, .refl _⟩)
 rintro v H1 ⟨rfl, e1⟩
 refine ⟨_, rfl, ?_, e1⟩
 congr 1
 exact decide_eq_decide.2 ⟨fun hh => ⟨by omega, hh⟩, fun hh => hh.2⟩

theorem placeable_spec (H : Heap) (s t : Sl) (l : List Rg) (S : List Int) (h : Rgs H s l) (hu : U64L l) (hS : Ints .i64 H t S) :
  CallsH Tryz.prog n_allocate_placeable #[.slice s.p s.n s.c, .slice t.p t.n t.c] H (BoolP (decide (ValidR l ∧ ItemsOk S)) H) := by
 refine F_allocate_placeable_ok _ _ ?_
 unfold F_allocate_placeable
 have hn := hS.len
 have no : ∀ H', Ext H H' → ¬ (ValidR l ∧ ItemsOk S) → BoolP (decide (ValidR l ∧ ItemsOk S)) H (.bool false) H' := fun H' e hh => ⟨by rw [decide_eq_false hh], e⟩
 refine (validRanges_spec H s l h hu).mono ?_
 rintro v H1 ⟨rfl, e1⟩
 refine ⟨_, rfl, iteB_not (fun d => no _ e1 (fun hv => by simp at d; exact d hv.1)) (fun d => iteB_dec (fun c => no _ e1 (fun hv => by have := hv.2.1; omega)) (fun c => ?_))⟩
 have hv : ValidR l := by simpa using d
 refine loop1 S.length (fun k H' => H' = H1 ∧ ∀ i, i < k → 0 ≤ S.getD i 0 ∧ S.getD i 0 ≤ 44) ⟨rfl, fun i hi => by omega⟩ ?_
 rintro k H2 hk ⟨rfl, hok⟩
 unfold F_allocate_placeable_r1
 refine iteB_dec (fun c1 => ?_) (fun c1 => ⟨?_, e1⟩)
 ·have hkn : k < S.length := by omega
  obtain ⟨a, hp, hr⟩ := Ints.atN (hS.ext e1) hkn
  have hm := getD_mem' 0 hkn
  have hbad : ¬ (0 ≤ S.getD k 0 ∧ S.getD k 0 ≤ 44) → ¬ (ValidR l ∧ ItemsOk S) := fun hh hv => hh (hv.2.2 _ hm)
  generalize hre : S.getD k 0 = x at *
  refine ⟨by omega, by omega, unSome_mk hp ⟨_, hr, iteB_dec (fun d => no _ e1 (hbad (by omega))) (fun d1 => iteB_dec (fun d => no _ e1 (hbad (by omega))) (fun d2 => next1 hkn (by omega) ⟨rfl, fun i hi => ?_⟩))⟩⟩
  by_cases e : i = k
  ·subst e; rw [hre]; omega
  ·exact hok i (by omega)
 ·rw [decide_eq_true]
  exact ⟨hv, by omega, all_of_getD (Q := fun x => 0 ≤ x ∧ x ≤ 44) 0 (fun i hi => hok i (by omega))⟩

theorem min64' {k : Int} (h0 : 0 ≤ k) (h1 : k ≤ 60) : min k.toNat IntKind.u64.bits = k.toNat := by
 have : IntKind.u64.bits = 64 := rfl
 rw [this]; omega
theorem shl1' {k : Int} (h0 : 0 ≤ k) (h1 : k ≤ 60) : IntKind.u64.wrap ((1 : Int) * 2 ^ (min k.toNat IntKind.u64.bits)) = 2 ^ k.toNat := by
 rw [min64' h0 h1, Int.one_mul]
 have := pw_small (w := k.toNat) (by omega)
 have := pow_pos2 k.toNat
 exact u64_in (by omega)

theorem demand_spec (H : Heap) (s : Sl) (S : List Int) (k : Int) (h : Ints .i64 H s S) (hS : ItemsOk S) : CallsH Tryz.prog n_allocate_demand #[.slice s.p s.n s.c, .int .i64 k] H (fun v H' => v = .int .u64 (demI k S) ∧ H' = H) := by
 refine F_allocate_demand_ok _ _ ?_
 unfold F_allocate_demand
 have hn := h.len
 have hl := hS.1
 refine loop2 S.length (fun i (n : Int) H' => n = demI k (S.take i) ∧ H' = H) ⟨rfl, rfl⟩ ?_
 rintro i n H1 hi ⟨rfl, rfl⟩
 unfold F_allocate_demand_r1
 refine iteB_dec (fun d1 => ?_) (fun d1 => ?_)
 ·have hin : i < S.length := by omega
  obtain ⟨a, hp, hr⟩ := Ints.atN h hin
  have hx := hS.2 _ (getD_mem' 0 hin)
  have htk := take_succ_d (0 : Int) hin
  have hp44 := pow44 hx
  have hd := demI_range k (hS.2.takeN i)
  have hlen : ((S.take i).length : Int) ≤ 1024 := by simp; omega
  generalize S.getD i 0 = x at *
  have hstep : demI k (S.take (i + 1)) = demI k (S.take i) + (if x ≥ k then 2 ^ x.toNat else 0) := by rw [htk, demI_append]; simp [demI]
  refine ⟨by omega, by omega, unSome_mk hp ⟨_, hr, iteB_dec (fun d => ⟨by omega, letV_mk (demI k (S.take (i + 1))) ?_ (next2 hin (by omega) ⟨rfl, rfl⟩)⟩) (fun d => next2 hin (by omega) ⟨?_, rfl⟩)⟩⟩
  ·rw [shl1' hx.1 (by omega), hstep, if_pos d]
   exact u64_in (by omega)
  ·rw [hstep, if_neg d, Int.add_zero]
 ·obtain rfl : i = S.length := by omega
  rw [List.take_length]
  exact ⟨rfl, rfl⟩

theorem fdiv_pow (a : Int) (k : Nat) : a.fdiv (2 ^ k) = a / 2 ^ k := Int.fdiv_eq_ediv_of_nonneg _ (by have := pow_pos2 k; omega)

theorem countBlocks_spec (H : Heap) (s : Sl) (M : List Rg) (k : Int) (h : Rgs H s M) (hk : 0 ≤ k ∧ k ≤ 52) (vm : ValidR M) (am : Asc M) :
  CallsH Tryz.prog n_allocate_countBlocks #[.slice s.p s.n s.c, .int .i64 k] H (fun v H' => v = .int .u64 (blkN (2 ^ k.toNat) M) ∧ Ext H H') := by
 refine F_allocate_countBlocks_ok _ _ ?_
 unfold F_allocate_countBlocks
 have hn := h.len
 have hml := vm.1
 have hP := pow_pos2 k.toNat
 have hP2 := pw_52 (w := k.toNat) (by omega)
 have htot := (valid_blk vm am k.toNat).2
 refine ⟨by omega, letV_mk (2 ^ k.toNat) (shl1' (by omega) (by omega)) ?_⟩
 refine loop2 M.length (fun i (n : Int) H' => n = blkN (2 ^ k.toNat) (M.take i) ∧ Ext H H') ⟨rfl, .refl _⟩ ?_
 rintro i n H3 hi ⟨rfl, e3⟩
 unfold F_allocate_countBlocks_r1
 refine iteB_dec (fun d1 => ?_) (fun d1 => ?_)
 ·have hin : i < M.length := by omega
  obtain ⟨a, hp, r0, r1⟩ := Rgs.atN (h.ext e3) hin
  have hr := vm.2 _ (getD_mem' (0, 0) hin)
  have hstep := blkN_succ (P := 2 ^ k.toNat) hin
  have hle := blkN_take_le (2 ^ k.toNat) M (i + 1)
  have hnn := blkN_nn (2 ^ k.toNat) (M.take i)
  generalize M.getD i (0, 0) = r at *
  unfold RgOk at hr
  refine ⟨by omega, by omega, unSome_mk hp ⟨_, r0, _, r1, local_mk (vs := encR r) rfl rfl fun H5 e5 z5 b5 => ?_⟩⟩
  have x5 := e3.trans e5
  have p0 := b5.rd0 (v := .int .u64 r.1) rfl
  have p1 := b5.rd (i := 1) (v := .int .u64 r.2) rfl
  have hcd : (IntKind.u64.wrap (IntKind.u64.wrap (r.1 + 2 ^ k.toNat) - 1)).fdiv (2 ^ (min k.toNat IntKind.u64.bits)) = cd r.1 (2 ^ k.toNat) := by
   rw [min64' (by omega) (by omega), u64_in (n := r.1 + 2 ^ k.toNat) (by omega), u64_in (n := r.1 + 2 ^ k.toNat - 1) (by omega), fdiv_pow]
   rfl
  have hfl : (IntKind.u64.wrap (r.1 + r.2)).fdiv (2 ^ (min k.toNat IntKind.u64.bits)) = (r.1 + r.2) / 2 ^ k.toNat := by
   rw [min64' (by omega) (by omega), u64_in (n := r.1 + r.2) (by omega), fdiv_pow]
  refine ⟨_, p0, by omega, letV_mk _ hcd ⟨_, p0, _, p1, by omega, letV_mk _ hfl ?_⟩⟩
  have hbp : blkP (2 ^ k.toNat) r = max 0 ((r.1 + r.2) / 2 ^ k.toNat - cd r.1 (2 ^ k.toNat)) := rfl
  have c0 : 0 ≤ cd r.1 (2 ^ k.toNat) := by
   unfold cd
   exact Int.ediv_nonneg (by omega) (by omega)
  have f0 : (r.1 + r.2) / 2 ^ k.toNat ≤ r.1 + r.2 := Int.ediv_le_self _ (by omega)
  generalize (r.1 + r.2) / 2 ^ k.toNat = q at *
  generalize cd r.1 (2 ^ k.toNat) = c at *
  refine iteB_dec (fun d2 => letV_mk (blkN (2 ^ k.toNat) (M.take (i + 1))) ?_ (next2 hin (by omega) ⟨rfl, x5⟩)) (fun d2 => next2 hin (by omega) ⟨by omega, x5⟩)
  rw [u64_in (n := q - c) (by omega), u64_in (by omega)]
  omega
 ·obtain rfl : i = M.length := by omega
  rw [List.take_length]
  exact ⟨rfl, e3⟩

theorem certF_52 {M : List Rg} {S : List Int} (hS : InS S) : certF M S 52 = certF M S 44 := by
 have nb : ∀ k : Nat, 44 < k → ¬ Bad M S k := fun k hk hb => by
  unfold Bad at hb
  rw [demI_big hS (by omega)] at hb
  have h1 := blkN_nn (2 ^ k) M
  have h2 := pow_pos2 k
  have := Int.mul_nonneg h1 (Int.le_of_lt h2)
  omega
 have st : ∀ k : Nat, 44 < k → certF M S k = certF M S (k - 1) := fun k hk => by
  rw [certF_step, if_neg (nb k hk), if_neg (by omega)]
 rw [st 52 (by omega), st 51 (by omega), st 50 (by omega), st 49 (by omega), st 48 (by omega), st 47 (by omega), st 46 (by omega), st 45 (by omega)]

theorem certificate_spec (H : Heap) (s t : Sl) (M : List Rg) (S : List Int) (h : Rgs H s M) (hS : Ints .i64 H t S) (hI : ItemsOk S) (vm : ValidR M) (am : Asc M) :
  CallsH Tryz.prog n_allocate_certificate #[.slice s.p s.n s.c, .slice t.p t.n t.c] H (fun v H' => v = certV (certF M S 44) ∧ Ext H H') := by
 rw [← certF_52 hI.2]
 refine F_allocate_certificate_ok _ _ ?_
 unfold F_allocate_certificate
 refine push_mk (vs := encC noCert) fun H1 e1 z1 b1 => ?_
 refine ⟨fun k H' => ∃ n : Nat, k = (n : Int) - 1 ∧ n ≤ 53 ∧ Ext H1 H' ∧ certF M S 52 = (if n = 0 then noCert else certF M S (n - 1)), fun k _ => (k + 1).toNat, ⟨53, by omega, by omega, .refl _, by rw [if_neg (by omega : ¬ (53 = 0))]⟩, ?_⟩
 rintro k H2 ⟨n, rfl, hn, e2, hc⟩
 unfold F_allocate_certificate_r1
 have x2 := e1.trans e2
 refine iteB_dec (fun d => ?_) (fun d => ?_)
 ·have hn0 : n ≠ 0 := by omega
  rw [if_neg hn0] at hc
  obtain ⟨k, rfl⟩ : ∃ k, n = k + 1 := ⟨n - 1, by omega⟩
  have ek : ((k + 1 : Nat) : Int) - 1 = (k : Int) := by omega
  rw [ek]
  refine (demand_spec H2 t S k (hS.ext x2) hI).mono ?_
  rintro v H3 ⟨rfl, rfl⟩
  refine ⟨_, rfl, (countBlocks_spec H3 s M k (h.ext x2) (by omega) vm am).mono ?_⟩
  rintro v H4 ⟨rfl, e4⟩
  have hb := valid_blk vm am k
  have hnn := blkN_nn (2 ^ k) M
  have hp := pow_pos2 k
  have hm := Int.mul_nonneg hnn (Int.le_of_lt hp)
  rw [Int.toNat_natCast]
  have hw : IntKind.u64.wrap (blkN (2 ^ k) M * 2 ^ (min k IntKind.u64.bits)) = blkN (2 ^ k) M * 2 ^ k := by
   have := min64' (k := (k : Int)) (by omega) (by omega)
   rw [Int.toNat_natCast] at this
   rw [this]
   exact u64_in (by omega)
  simp only [Nat.add_sub_cancel] at hc
  have hstep := certF_step M S k
  refine ⟨_, rfl, by omega, ?_⟩
  rw [hw]
  refine iteB_dec (fun d2 => cert_wr (K := fun v H' => v = certV (certF M S 52) ∧ Ext H H') (c0 := noCert) (c := (0, (k : Int), demI k S, blkN (2 ^ k) M)) (b1.ext (e2.trans e4)) (fun H5 m5 b5 => ⟨?_, Mods.ext (e1.trans (e2.trans e4)) m5 (by simp)⟩)) (fun d2 => letV_mk ((k : Int) - 1) (i64_in (by omega)) ⟨⟨k, rfl, by omega, e2.trans e4, ?_⟩, by dsimp only; omega⟩)
  ·rw [hc, hstep, if_pos (show Bad M S k from d2)]
  ·rw [hc, hstep, if_neg (show ¬ Bad M S k from d2)]
 ·have hn0 : n = 0 := by omega
  rw [if_pos hn0] at hc
  exact cert_wr (K := fun v H' => v = certV (certF M S 52) ∧ Ext H H') (c0 := noCert) (c := noCert) (b1.ext e2) (fun H5 m5 b5 => ⟨by rw [hc], Mods.ext (e1.trans e2) m5 (by simp)⟩)

end Go.Proofs.YtigcheamheiopaaGreat
