/-
 The contracts of the reference's up, Blocks, demand, items, refusal.
-/
import Derived.Test.YtnhhncjflnlfaaaGreatM2
namespace Go.Proofs.YtnhhncjflnlfaaaGreat
open Go.Eng
set_option linter.unusedVariables false

theorem pw_small {w : Nat} (h : w <= 60) : (2 : Int) ^ w <= 1152921504606846976 := by
 have := pow_mono (a := w) (b := 60) h
 have e : (2 : Int) ^ 60 = 1152921504606846976 := by decide
 omega
theorem pw_52 {w : Nat} (h : w <= 52) : (2 : Int) ^ w <= 4503599627370496 := by
 have := pow_mono (a := w) (b := 52) h
 have e : (2 : Int) ^ 52 = 4503599627370496 := by decide
 omega
theorem min64 {k : Int} (h0 : 0 <= k) (h1 : k <= 60) : min (IntKind.u64.wrap k).toNat IntKind.u64.bits = k.toNat := by
 rw [u64_in (n := k) (by omega)]
 exact Nat.min_eq_left (by show k.toNat <= 64; omega)
theorem shl1 {k : Int} (h0 : 0 <= k) (h1 : k <= 60) : IntKind.u64.wrap ((1 : Int) * 2 ^ (min (IntKind.u64.wrap k).toNat IntKind.u64.bits)) = 2 ^ k.toNat := by
 rw [min64 h0 h1, Int.one_mul]
 have := pw_small (w := k.toNat) (by omega)
 have := pow_pos2 k.toNat
 exact u64_in (by omega)

theorem rup_spec (a k : Int) (H : Heap) (ha : 0 <= a /\ a <= 9007199254740992) (hk : 0 <= k /\ k <= 52) : CallsH Tryz.prog n_113 #[.int .u64 a, .int .i64 k] H (fun v H' => v = .int .u64 (cd a (2 ^ k.toNat) * 2 ^ k.toNat) /\ H' = H) := by
 refine F_113_ok _ _ ?_
 unfold F_113
 have hP := pow_pos2 k.toNat
 have hP2 := pw_52 (w := k.toNat) (by omega)
 have hc := cd_spec (a := a) hP
 refine ⟨u64_nonneg _, u64_nonneg _, u64_nonneg _, letV_mk (cd a (2 ^ k.toNat) * 2 ^ k.toNat) ?_ ⟨rfl, rfl⟩⟩
 rw [shl1 hk.1 (by omega), min64 hk.1 (by omega), u64_in (n := a + 2 ^ k.toNat) (by omega), u64_in (n := a + 2 ^ k.toNat - 1) (by omega), Int.fdiv_eq_ediv_of_nonneg _ (by omega)]
 exact u64_in (by unfold cd at hc; omega)

/-! ### counting blocks -/

theorem blkP_le {P : Int} (hP : 0 < P) {r : Rg} (hr : 0 <= r.2) : blkP P r * P <= r.2 := by
 unfold blkP
 have h1 := (cd_spec (a := r.1) hP).1
 have h2 := (fl_spec (a := r.1 + r.2) hP).1
 by_cases h : 0 <= (r.1 + r.2) / P - cd r.1 P
 ·rw [show max 0 ((r.1 + r.2) / P - cd r.1 P) = (r.1 + r.2) / P - cd r.1 P by omega, Int.sub_mul]
  omega
 ·rw [show max 0 ((r.1 + r.2) / P - cd r.1 P) = 0 by omega, Int.zero_mul]
  exact hr
theorem blkN_le {P B : Int} (hP : 0 < P) : ∀ (l : List Rg) (lo : Int), lo <= B -> Asc l -> (∀ r ∈ l, lo <= r.1 /\ r.1 + r.2 <= B) -> blkN P l * P <= B - lo
 | [], lo, hlo, _, _ => by simp [blkN]; omega
 | r :: l, lo, _, ha, hb => by
  have hr := hb r (by simp)
  have h1 := blkP_le hP (r := r) (by have := ha.1; omega)
  have ih := blkN_le (B := B) hP l (r.1 + r.2) (by omega) ha.2.2 (fun s hs => ⟨by have := ha.2.1 s hs; omega, (hb s (by simp [hs])).2⟩)
  simp only [blkN]
  rw [Int.add_mul]
  omega
theorem blkN_take_le (P : Int) (l : List Rg) (k : Nat) : blkN P (l.take k) <= blkN P l := by
 have e := blkN_append P (l.take k) (l.drop k)
 rw [List.take_append_drop] at e
 have := blkN_nn P (l.drop k)
 omega
theorem blkN_succ {P : Int} {l : List Rg} {k : Nat} (hk : k < l.length) : blkN P (l.take (k + 1)) = blkN P (l.take k) + blkP P (l.getD k (0, 0)) := by
 rw [take_succ_d (0, 0) hk, blkN_append]
 simp [blkN]
theorem le_mul_pow (n : Int) (k : Nat) (h : 0 <= n) : n <= n * 2 ^ k := by
 have h1 := pow_ge1 k
 have := Int.mul_le_mul_of_nonneg_left h1 h
 omega
theorem valid_blk {l : List Rg} (hv : ValidR l) (ha : Asc l) (k : Nat) : blkN (2 ^ k) l * 2 ^ k <= 4503599627370496 /\ blkN (2 ^ k) l <= 4503599627370496 := by
 have h1 := blkN_le (B := 4503599627370496) (pow_pos2 k) l 0 (by omega) ha (fun r hr => by have := hv.2 r hr; unfold RgOk at this; omega)
 have h2 := le_mul_pow _ k (blkN_nn (2 ^ k) l)
 omega

theorem blkP_ref {P : Int} {r : Rg} (hP : 0 < P) : blkP P r = if cd r.1 P * P < r.1 + r.2 then (r.1 + r.2 - cd r.1 P * P) / P else 0 := by
 unfold blkP
 have h2 := fl_spec (a := r.1 + r.2) hP
 split
 ·rename_i h
  have e : (r.1 + r.2 - cd r.1 P * P) / P = (r.1 + r.2) / P - cd r.1 P := by
   rw [Int.sub_eq_add_neg, <- Int.neg_mul, Int.add_mul_ediv_right _ _ (by omega), Int.sub_eq_add_neg]
  rw [e]
  have := le_fl (P := P) hP (show cd r.1 P * P <= r.1 + r.2 by omega)
  omega
 ·rename_i h
  have : (r.1 + r.2) / P * P <= cd r.1 P * P := by omega
  have := mul_le_of hP this
  omega

def blkV (l : List Rg) (k : Int) : Int := if (0 <= k /\ k <= 52) /\ ValidR l then blkN (2 ^ k.toNat) (mergeF l) else 0

theorem rBlocks_spec (H : Heap) (s : Sl) (l : List Rg) (k : Int) (h : Rgs H s l) (hu : U64L l) :
  CallsH Tryz.prog n_125 #[.slice s.p s.n s.c, .int .i64 k] H (fun v H' => v = .int .u64 (blkV l k) /\ Ext H H') := by
 refine F_125_ok _ _ ?_
 unfold F_125
 have no : ¬ ((0 <= k /\ k <= 52) /\ ValidR l) -> (.int .u64 0 : Value) = .int .u64 (blkV l k) /\ Ext H H := fun hh => ⟨by unfold blkV; rw [if_neg hh], .refl _⟩
 refine iteB_dec (fun c => no (fun hh => by omega)) (fun c => iteB_dec (fun c1 => no (fun hh => by omega)) (fun c1 => (rValidRanges_spec H s l h hu).mono ?_))
 rintro v H1 ⟨rfl, rfl⟩
 refine ⟨_, rfl, iteB_not (fun d => no (fun hh => by simp at d; exact d hh.2)) (fun d => (rmerge_spec H1 s l h (by simpa using d)).mono ?_)⟩
 rintro v H2 ⟨m, rfl, o2, e2⟩
 have hv : ValidR l := by simpa using d
 obtain ⟨vm, am⟩ := hv.merge
 have is2 := Own.is rkRange o2
 have hn := is2.len
 have hml := vm.1
 have hval : blkV l k = blkN (2 ^ k.toNat) (mergeF l) := by unfold blkV; rw [if_pos ⟨by omega, hv⟩]
 rw [hval]
 have hP := pow_pos2 k.toNat
 have hP2 := pw_52 (w := k.toNat) (by omega)
 have htot := (valid_blk vm am k.toNat).2
 generalize mergeF l = M at *
 refine ⟨m, rfl, ?_⟩
 refine loop2 M.length (fun i (n : Int) H' => n = blkN (2 ^ k.toNat) (M.take i) /\ Ext H2 H') ⟨rfl, .refl _⟩ ?_
 rintro i n H3 hi ⟨rfl, e3⟩
 unfold F_125_r1
 refine iteB_dec (fun d1 => ?_) (fun d1 => ?_)
 ·have hin : i < M.length := by omega
  obtain ⟨a, hp, r0, r1⟩ := Rgs.atN (is2.ext e3) hin
  have hr := vm.2 _ (getD_mem' (0, 0) hin)
  have hstep := blkN_succ (P := 2 ^ k.toNat) hin
  have hle := blkN_take_le (2 ^ k.toNat) M (i + 1)
  have hnn := blkN_nn (2 ^ k.toNat) (M.take i)
  generalize M.getD i (0, 0) = r at *
  unfold RgOk at hr
  have href := blkP_ref (r := r) hP
  have hc := cd_spec (a := r.1) hP
  refine ⟨by omega, by omega, unSome_mk hp ⟨_, r0, by omega, by omega, unSome_mk hp ⟨_, r0, by omega, by omega, unSome_mk hp ⟨_, r1, (rup_spec r.1 k H3 (by omega) (by omega)).mono ?_⟩⟩⟩⟩
  rintro v H4 ⟨rfl, rfl⟩
  have hwrap : IntKind.u64.wrap (r.1 + r.2) = r.1 + r.2 := u64_in (by omega)
  refine ⟨_, rfl, .refl _ _, letV_mk (r.1 + r.2) hwrap (iteB_dec (fun d2 => ⟨u64_nonneg _, letV_mk (blkN (2 ^ k.toNat) (M.take (i + 1))) ?_ (letV_mk _ rfl (next2 hin (by omega) ⟨rfl, e3⟩))⟩) (fun d2 => letV_mk _ rfl (next2 hin (by omega) ⟨?_, e3⟩)))⟩
  ·rw [if_pos d2] at href
   have hbp := blkP_nn (2 ^ k.toNat) r
   rw [hstep] at hle
   rw [min64 (by omega) (by omega), u64_in (n := r.1 + r.2 - cd r.1 (2 ^ k.toNat) * 2 ^ k.toNat) (by omega), Int.fdiv_eq_ediv_of_nonneg _ (by omega), <- href, hstep]
   exact u64_in (by omega)
  ·rw [if_neg d2] at href
   rw [hstep, href, Int.add_zero]
 ·obtain rfl : i = M.length := by omega
  rw [List.take_length]
  exact ⟨rfl, e2.trans e3⟩

/-! ### items -/

def ItemsOk (S : List Int) : Prop := S.length <= 1024 /\ InS S
instance (S : List Int) : Decidable (ItemsOk S) := by unfold ItemsOk; infer_instance

theorem ritems_spec (H : Heap) (s : Sl) (S : List Int) (h : Ints .i64 H s S) : CallsH Tryz.prog n_112 #[.slice s.p s.n s.c] H (fun v H' => v = .bool (decide (ItemsOk S)) /\ H' = H) := by
 refine F_112_ok _ ?_
 unfold F_112
 have hn := h.len
 have no : ¬ ItemsOk S -> (.bool false : Value) = .bool (decide (ItemsOk S)) /\ H = H := fun hh => ⟨by rw [decide_eq_false hh], rfl⟩
 refine iteB_dec (fun c => no (fun hv => by have := hv.1; omega)) (fun c => ?_)
 refine loop1 S.length (fun k H' => H' = H /\ ∀ i, i < k -> 0 <= S.getD i 0 /\ S.getD i 0 <= 44) ⟨rfl, fun i hi => by omega⟩ ?_
 rintro k H1 hk ⟨rfl, hok⟩
 unfold F_112_r1
 refine iteB_dec (fun c1 => ?_) (fun c1 => ⟨?_, rfl⟩)
 ·have hkn : k < S.length := by omega
  obtain ⟨a, hp, hr⟩ := Ints.atN h hkn
  have hbad : ¬ (0 <= S.getD k 0 /\ S.getD k 0 <= 44) -> ¬ ItemsOk S := fun hh hv => hh (hv.2 _ (getD_mem' 0 hkn))
  refine ⟨by omega, by omega, unSome_mk hp ⟨_, hr, iteB_dec (fun d => no (hbad (by omega))) (fun d => ⟨by omega, by omega, unSome_mk hp ⟨_, hr, iteB_dec (fun d1 => no (hbad (by omega))) (fun d1 => letV_mk _ rfl (next1 hkn (by omega) ⟨rfl, fun i hi => ?_⟩))⟩⟩)⟩⟩
  by_cases e : i = k
  ·subst e; omega
  ·exact hok i (by omega)
 ·rw [decide_eq_true]
  exact ⟨by omega, all_of_getD (Q := fun x => 0 <= x /\ x <= 44) 0 (fun i hi => hok i (by omega))⟩

def demI (k : Int) : List Int -> Int
 | [] => 0
 | x :: S => (if x >= k then 2 ^ x.toNat else 0) + demI k S
theorem demI_append (k : Int) (A B : List Int) : demI k (A ++ B) = demI k A + demI k B := by
 induction A with
 | nil => simp [demI]
 | cons x A ih => simp only [List.cons_append, demI, ih]; omega
theorem demI_range (k : Int) {S : List Int} (h : InS S) : 0 <= demI k S /\ demI k S <= S.length * 17592186044416 := by
 induction S with
 | nil => simp [demI]
 | cons x S ih =>
  have hx := pow44 (h x (by simp))
  obtain ⟨h1, h2⟩ := ih (fun y hy => h y (by simp [hy]))
  simp only [demI, List.length_cons]
  split <;> (push_cast; omega)
theorem demI_big {k : Int} {S : List Int} (h : InS S) (hk : 44 < k) : demI k S = 0 := by
 induction S with
 | nil => rfl
 | cons x S ih =>
  have hx := h x (by simp)
  simp only [demI]
  rw [if_neg (by omega), ih (fun y hy => h y (by simp [hy]))]
  rfl
theorem InS.takeN {S : List Int} (h : InS S) (k : Nat) : InS (S.take k) := fun x hx => h x (List.mem_of_mem_take hx)

theorem rdemand_spec (H : Heap) (s : Sl) (S : List Int) (k : Int) (h : Ints .i64 H s S) (hS : ItemsOk S) : CallsH Tryz.prog n_124 #[.slice s.p s.n s.c, .int .i64 k] H (fun v H' => v = .int .u64 (demI k S) /\ H' = H) := by
 refine F_124_ok _ _ ?_
 unfold F_124
 have hn := h.len
 have hl := hS.1
 refine loop2 S.length (fun i (n : Int) H' => n = demI k (S.take i) /\ H' = H) ⟨rfl, rfl⟩ ?_
 rintro i n H1 hi ⟨rfl, rfl⟩
 unfold F_124_r1
 refine iteB_dec (fun d1 => ?_) (fun d1 => ?_)
 ·have hin : i < S.length := by omega
  obtain ⟨a, hp, hr⟩ := Ints.atN h hin
  have hx := hS.2 _ (getD_mem' 0 hin)
  have htk := take_succ_d (0 : Int) hin
  have hp44 := pow44 hx
  have hd := demI_range k (hS.2.takeN i)
  have hlen : ((S.take i).length : Int) <= 1024 := by simp; omega
  generalize S.getD i 0 = x at *
  have hstep : demI k (S.take (i + 1)) = demI k (S.take i) + (if x >= k then 2 ^ x.toNat else 0) := by rw [htk, demI_append]; simp [demI]
  refine ⟨by omega, by omega, unSome_mk hp ⟨_, hr, iteB_dec (fun d => ⟨by omega, by omega, unSome_mk hp ⟨_, hr, u64_nonneg _, letV_mk (demI k (S.take (i + 1))) ?_ (letV_mk _ rfl (next2 hin (by omega) ⟨rfl, rfl⟩))⟩⟩) (fun d => letV_mk _ rfl (next2 hin (by omega) ⟨?_, rfl⟩))⟩⟩
  ·rw [shl1 hx.1 (by omega), hstep, if_pos d]
   exact u64_in (by omega)
  ·rw [hstep, if_neg d, Int.add_zero]
 ·obtain rfl : i = S.length := by omega
  rw [List.take_length]
  exact ⟨rfl, rfl⟩

/-! ### certificates -/

abbrev Cert := Int × Int × Int × Int
abbrev encC (c : Cert) : List Value := [.int .i64 c.1, .int .i64 c.2.1, .int .u64 c.2.2.1, .int .u64 c.2.2.2]
abbrev certV (c : Cert) : Value := .agg #[.int .i64 c.1, .int .i64 c.2.1, .int .u64 c.2.2.1, .int .u64 c.2.2.2]
def noCert : Cert := (0, 0, 0, 0)
def Bad (M : List Rg) (S : List Int) (k : Nat) : Prop := demI k S > blkN (2 ^ k) M * 2 ^ k
instance (M : List Rg) (S : List Int) (k : Nat) : Decidable (Bad M S k) := by unfold Bad; infer_instance
def certF (M : List Rg) (S : List Int) : Nat -> Cert
 | 0 => if Bad M S 0 then (0, 0, demI 0 S, blkN (2 ^ 0) M) else noCert
 | k + 1 => if Bad M S (k + 1) then (0, ((k + 1 : Nat) : Int), demI ((k + 1 : Nat) : Int) S, blkN (2 ^ (k + 1)) M) else certF M S k

theorem certF_step (M : List Rg) (S : List Int) (k : Nat) : certF M S k = if Bad M S k then (0, (k : Int), demI k S, blkN (2 ^ k) M) else (if k = 0 then noCert else certF M S (k - 1)) := by
 cases k with
 | zero => rfl
 | succ k => rw [certF, Nat.add_sub_cancel, if_neg (by omega : ¬ k + 1 = 0)]

theorem cert_wr {H : Heap} {b : Nat} {c0 c : Cert} {K : Value -> Heap -> Prop} (hb : Blk H b t_39 (encC c0)) (hK : ∀ H', Mods [b] H H' -> Blk H' b t_39 (encC c) -> K (certV c) H') :
  okRow H (⟨b, 0, none⟩ : Addr) 4 /\ (letH (wrs H (⟨b, 0, none⟩ : Addr) (encC c)) (fun H5 : Heap =>
   ∃ r : Int, rd H5 (⟨b, 0, none⟩ : Addr) = some (.int .i64 r) /\ ∃ r1 : Int, rd H5 ((⟨b, 0, none⟩ : Addr).add 1) = some (.int .i64 r1) /\ ∃ r2 : Int, rd H5 ((⟨b, 0, none⟩ : Addr).add 2) = some (.int .u64 r2) /\ ∃ r3 : Int, rd H5 ((⟨b, 0, none⟩ : Addr).add 3) = some (.int .u64 r3) /\ K (certV (r, r1, r2, r3)) H5)) := by
 refine ⟨hb.ok0 (by simp), letH_mk ?_⟩
 intro H' h'
 have b' : Blk H' b t_39 (encC c) := by rw [h']; exact hb.wr
 have m' : Mods [b] H H' := by rw [h']; exact Mods.wrs (by simp)
 exact ⟨_, b'.rd0 rfl, _, b'.rd (i := 1) rfl, _, b'.rd (i := 2) rfl, _, b'.rd (i := 3) rfl, hK H' m' b'⟩

theorem rrefusal_spec (H : Heap) (s t : Sl) (l : List Rg) (S : List Int) (h : Rgs H s l) (hu : U64L l) (hS : Ints .i64 H t S) (hI : ItemsOk S) (hv : ValidR l) :
  CallsH Tryz.prog n_114 #[.slice s.p s.n s.c, .slice t.p t.n t.c] H (fun v H' => v = certV (certF (mergeF l) S 44) /\ Ext H H') := by
 refine F_114_ok _ _ ?_
 unfold F_114
 refine push_mk (vs := encC noCert) fun H1 e1 z1 b1 => ?_
 obtain ⟨vm, am⟩ := hv.merge
 generalize hC : certF (mergeF l) S 44 = C
 have e44 : (44 : Int).toNat = 44 := rfl
 refine ⟨fun k H' => Ext H1 H' /\ -1 <= k /\ k <= 44 /\ C = (if k < 0 then noCert else certF (mergeF l) S k.toNat), fun k _ => (k + 1).toNat, ⟨.refl _, by omega, by omega, by rw [if_neg (by omega), e44]; exact hC.symm⟩, ?_⟩
 rintro k H2 ⟨e2, hk0, hk1, hc⟩
 unfold F_114_r1
 have x2 := e1.trans e2
 refine iteB_dec (fun c => ?_) (fun c => ?_)
 ·obtain ⟨j, rfl⟩ := Int.eq_ofNat_of_zero_le c
  rw [if_neg (by omega), Int.toNat_natCast, certF_step] at hc
  refine (rdemand_spec H2 t S j (hS.ext x2) hI).mono ?_
  rintro v H3 ⟨rfl, rfl⟩
  refine ⟨_, rfl, (rBlocks_spec H3 s l j (h.ext x2) hu).mono ?_⟩
  rintro v H4 ⟨rfl, e4⟩
  have hb : blkV l j = blkN (2 ^ j) (mergeF l) := by unfold blkV; rw [if_pos ⟨by omega, hv⟩, Int.toNat_natCast]
  have hle := valid_blk vm am j
  have hnn := blkN_nn (2 ^ j) (mergeF l)
  have hnn2 := Int.mul_nonneg hnn (by have := pow_pos2 j; omega : (0 : Int) <= 2 ^ j)
  refine ⟨_, rfl, u64_nonneg _, ?_⟩
  rw [hb, min64 (by omega) (by omega), Int.toNat_natCast, u64_in (n := blkN (2 ^ j) (mergeF l) * 2 ^ j) (by omega)]
  refine iteB_dec (fun d => ?_) (fun d => letV_mk ((j : Int) - 1) (i64_in (by omega)) ⟨⟨e2.trans e4, by omega, by omega, ?_⟩, by dsimp only; omega⟩)
  ·rw [if_pos (show Bad (mergeF l) S j from d)] at hc
   refine cert_wr (c := (0, (j : Int), demI j S, blkN (2 ^ j) (mergeF l))) (K := fun v H' => v = certV C /\ Ext H H') ((b1.ext e2).ext e4) (fun H' m' _ => ⟨by rw [hc], Mods.ext (x2.trans e4) m' (by simp)⟩)
  ·rw [if_neg (show ¬ Bad (mergeF l) S j from d)] at hc
   rw [hc]
   by_cases h0 : j = 0
   ·rw [if_pos h0, if_pos (by omega)]
   ·rw [if_neg h0, if_neg (by omega)]
    congr 1
    omega
 ·rw [if_pos (by omega)] at hc
  exact cert_wr (c := noCert) (K := fun v H' => v = certV C /\ Ext H H') (b1.ext e2) (fun H' m' _ => ⟨by rw [hc], Mods.ext x2 m' (by simp)⟩)

end Go.Proofs.YtnhhncjflnlfaaaGreat
