import Derived.Test.YtnhhncjflnlfaaaPk06

section
/-
  The contracts of the reference's up, Blocks, demand, items, refusal.
-/
namespace Go.Proofs.Ytnhhncjflnlfaaa
open Go.Eng
set_option linter.unusedVariables false

theorem pw_small {w : Nat} (h : w ≤ 60) : (2 : Int) ^ w ≤ 1152921504606846976 := by
  have := pow_mono (a := w) (b := 60) h
  have e : (2 : Int) ^ 60 = 1152921504606846976 := by decide
  omega
theorem pw_52 {w : Nat} (h : w ≤ 52) : (2 : Int) ^ w ≤ 4503599627370496 := by
  have := pow_mono (a := w) (b := 52) h
  have e : (2 : Int) ^ 52 = 4503599627370496 := by decide
  omega
theorem min64 {k : Int} (h0 : 0 ≤ k) (h1 : k ≤ 60) : min (IntKind.u64.wrap k).toNat IntKind.u64.bits = k.toNat := by
  rw [u64_in (n := k) (by omega)]
  exact Nat.min_eq_left (by show k.toNat ≤ 64; omega)
theorem shl1 {k : Int} (h0 : 0 ≤ k) (h1 : k ≤ 60) : IntKind.u64.wrap ((1 : Int) * 2 ^ (min (IntKind.u64.wrap k).toNat IntKind.u64.bits)) = 2 ^ k.toNat := by
  rw [min64 h0 h1, Int.one_mul]
  have := pw_small (w := k.toNat) (by omega)
  have := pow_pos2 k.toNat
  exact u64_in (by omega)

theorem rup_spec (a k : Int) (H : Heap) (ha : 0 ≤ a ∧ a ≤ 9007199254740992) (hk : 0 ≤ k ∧ k ≤ 52) : CallsH Try.prog n_ref21_up #[.int .u64 a, .int .i64 k] H (fun v H' => v = .int .u64 (cd a (2 ^ k.toNat) * 2 ^ k.toNat) ∧ H' = H) := by
  refine F_ref21_up_ok _ _ ?_
  unfold F_ref21_up
  have hP := pow_pos2 k.toNat
  have hP2 := pw_52 (w := k.toNat) (by omega)
  have hc := cd_spec (a := a) hP
  refine ⟨u64_nonneg _, u64_nonneg _, u64_nonneg _, letV_mk (cd a (2 ^ k.toNat) * 2 ^ k.toNat) ?_ ⟨rfl, rfl⟩⟩
  rw [shl1 hk.1 (by omega), min64 hk.1 (by omega), u64_in (n := a + 2 ^ k.toNat) (by omega), u64_in (n := a + 2 ^ k.toNat - 1) (by omega), Int.fdiv_eq_ediv_of_nonneg _ (by omega)]
  exact u64_in (by unfold cd at hc; omega)

/-! ### counting blocks -/

theorem blkP_le {P : Int} (hP : 0 < P) {r : Rg} (hr : 0 ≤ r.2) : blkP P r * P ≤ r.2 := by
  unfold blkP
  have h1 := (cd_spec (a := r.1) hP).1
  have h2 := (fl_spec (a := r.1 + r.2) hP).1
  by_cases h : 0 ≤ (r.1 + r.2) / P - cd r.1 P
  · rw [show max 0 ((r.1 + r.2) / P - cd r.1 P) = (r.1 + r.2) / P - cd r.1 P by omega, Int.sub_mul]
    omega
  · rw [show max 0 ((r.1 + r.2) / P - cd r.1 P) = 0 by omega, Int.zero_mul]
    exact hr
theorem blkN_le {P B : Int} (hP : 0 < P) : ∀ (l : List Rg) (lo : Int), lo ≤ B → Asc l → (∀ r ∈ l, lo ≤ r.1 ∧ r.1 + r.2 ≤ B) → blkN P l * P ≤ B - lo
  | [], lo, hlo, _, _ => by simp [blkN]; omega
  | r :: l, lo, _, ha, hb => by
    have hr := hb r (by simp)
    have h1 := blkP_le hP (r := r) (by have := ha.1; omega)
    have ih := blkN_le (B := B) hP l (r.1 + r.2) (by omega) ha.2.2 (fun s hs => ⟨by have := ha.2.1 s hs; omega, (hb s (by simp [hs])).2⟩)
    simp only [blkN]
    rw [Int.add_mul]
    omega
theorem blkN_take_le (P : Int) (l : List Rg) (k : Nat) : blkN P (l.take k) ≤ blkN P l := by
  have e := blkN_append P (l.take k) (l.drop k)
  rw [List.take_append_drop] at e
  have := blkN_nn P (l.drop k)
  omega
theorem blkN_succ {P : Int} {l : List Rg} {k : Nat} (hk : k < l.length) : blkN P (l.take (k + 1)) = blkN P (l.take k) + blkP P (l.getD k (0, 0)) := by
  rw [take_succ_d (0, 0) hk, blkN_append]
  simp [blkN]
theorem le_mul_pow (n : Int) (k : Nat) (h : 0 ≤ n) : n ≤ n * 2 ^ k := by
  have h1 := pow_ge1 k
  have := Int.mul_le_mul_of_nonneg_left h1 h
  omega
theorem valid_blk {l : List Rg} (hv : ValidR l) (ha : Asc l) (k : Nat) : blkN (2 ^ k) l * 2 ^ k ≤ 4503599627370496 ∧ blkN (2 ^ k) l ≤ 4503599627370496 := by
  have h1 := blkN_le (B := 4503599627370496) (pow_pos2 k) l 0 (by omega) ha (fun r hr => by have := hv.2 r hr; unfold RgOk at this; omega)
  have h2 := le_mul_pow _ k (blkN_nn (2 ^ k) l)
  omega

/-- The number of blocks, as the reference reckons it. -/
theorem blkP_ref {P : Int} {r : Rg} (hP : 0 < P) : blkP P r = if cd r.1 P * P < r.1 + r.2 then (r.1 + r.2 - cd r.1 P * P) / P else 0 := by
  unfold blkP
  have h2 := fl_spec (a := r.1 + r.2) hP
  split
  · rename_i h
    have e : (r.1 + r.2 - cd r.1 P * P) / P = (r.1 + r.2) / P - cd r.1 P := by
      rw [Int.sub_eq_add_neg, ← Int.neg_mul, Int.add_mul_ediv_right _ _ (by omega), Int.sub_eq_add_neg]
    rw [e]
    have := le_fl (P := P) hP (show cd r.1 P * P ≤ r.1 + r.2 by omega)
    omega
  · rename_i h
    have : (r.1 + r.2) / P * P ≤ cd r.1 P * P := by omega
    have := mul_le_of hP this
    omega

def blkV (l : List Rg) (k : Int) : Int := if (0 ≤ k ∧ k ≤ 52) ∧ ValidR l then blkN (2 ^ k.toNat) (mergeF l) else 0

theorem rBlocks_spec (H : Heap) (s : Sl) (l : List Rg) (k : Int) (h : Rgs H s l) (hu : U64L l) :
    CallsH Try.prog n_ref21_Blocks #[.slice s.p s.n s.c, .int .i64 k] H (fun v H' => v = .int .u64 (blkV l k) ∧ Ext H H') := by
  refine F_ref21_Blocks_ok _ _ ?_
  unfold F_ref21_Blocks
  have no : ¬ ((0 ≤ k ∧ k ≤ 52) ∧ ValidR l) → (.int .u64 0 : Value) = .int .u64 (blkV l k) ∧ Ext H H := fun hh => ⟨by unfold blkV; rw [if_neg hh], .refl _⟩
  refine iteB_dec (fun c => no (fun hh => by omega)) (fun c => iteB_dec (fun c1 => no (fun hh => by omega)) (fun c1 => (rValidRanges_spec H s l h hu).mono ?_))
  rintro v H1 ⟨rfl, rfl⟩
  refine ⟨_, rfl, iteB_not (fun d => no (fun hh => by simp at d; exact d hh.2)) (fun d => (rmerge_spec H1 s l h (by simpa using d)).mono ?_)⟩
  rintro v H2 ⟨m, rfl, o2, e2⟩
  have hv : ValidR l := by simpa using d
  obtain ⟨vm, am⟩ := hv.merge
  have is2 := Own.is rkRange o2
  have hn := is2.len
  have hml := vm.1
  have hval : blkV l k = blkN (2 ^ k.toNat) (mergeF l) := by unfold blkV; rw [if_pos ⟨by omega, hv⟩]
  rw [hval]
  have hP := pow_pos2 k.toNat
  have hP2 := pw_52 (w := k.toNat) (by omega)
  have htot := (valid_blk vm am k.toNat).2
  generalize mergeF l = M at *
  refine ⟨m, rfl, ?_⟩
  refine loop2 M.length (fun i (n : Int) H' => n = blkN (2 ^ k.toNat) (M.take i) ∧ Ext H2 H') ⟨rfl, .refl _⟩ ?_
  rintro i n H3 hi ⟨rfl, e3⟩
  unfold F_ref21_Blocks_r1
  refine iteB_dec (fun d1 => ?_) (fun d1 => ?_)
  · have hin : i < M.length := by omega
    obtain ⟨a, hp, r0, r1⟩ := Rgs.atN (is2.ext e3) hin
    have hr := vm.2 _ (getD_mem' (0, 0) hin)
    have hstep := blkN_succ (P := 2 ^ k.toNat) hin
    have hle := blkN_take_le (2 ^ k.toNat) M (i + 1)
    have hnn := blkN_nn (2 ^ k.toNat) (M.take i)
    generalize M.getD i (0, 0) = r at *
    unfold RgOk at hr
    have href := blkP_ref (r := r) hP
    have hc := cd_spec (a := r.1) hP
    refine ⟨by omega, by omega, unSome_mk hp ⟨_, r0, by omega, by omega, unSome_mk hp ⟨_, r0, by omega, by omega, unSome_mk hp ⟨_, r1, (rup_spec r.1 k H3 (by omega) (by omega)).mono ?_⟩⟩⟩⟩
    rintro v H4 ⟨rfl, rfl⟩
    have hwrap : IntKind.u64.wrap (r.1 + r.2) = r.1 + r.2 := u64_in (by omega)
    refine ⟨_, rfl, .refl _ _, letV_mk (r.1 + r.2) hwrap (iteB_dec (fun d2 => ⟨u64_nonneg _, letV_mk (blkN (2 ^ k.toNat) (M.take (i + 1))) ?_ (letV_mk _ rfl (next2 hin (by omega) ⟨rfl, e3⟩))⟩) (fun d2 => letV_mk _ rfl (next2 hin (by omega) ⟨?_, e3⟩)))⟩
    · rw [if_pos d2] at href
      have hbp := blkP_nn (2 ^ k.toNat) r
      rw [hstep] at hle
      rw [min64 (by omega) (by omega), u64_in (n := r.1 + r.2 - cd r.1 (2 ^ k.toNat) * 2 ^ k.toNat) (by omega), Int.fdiv_eq_ediv_of_nonneg _ (by omega), ← href, hstep]
      exact u64_in (by omega)
    · rw [if_neg d2] at href
      rw [hstep, href, Int.add_zero]
  · obtain rfl : i = M.length := by omega
    rw [List.take_length]
    exact ⟨rfl, e2.trans e3⟩

/-! ### items -/

def ItemsOk (S : List Int) : Prop := S.length ≤ 1024 ∧ InS S
instance (S : List Int) : Decidable (ItemsOk S) := by unfold ItemsOk; infer_instance

theorem ritems_spec (H : Heap) (s : Sl) (S : List Int) (h : Ints .i64 H s S) : CallsH Try.prog n_ref21_items #[.slice s.p s.n s.c] H (fun v H' => v = .bool (decide (ItemsOk S)) ∧ H' = H) := by
  refine F_ref21_items_ok _ ?_
  unfold F_ref21_items
  have hn := h.len
  have no : ¬ ItemsOk S → (.bool false : Value) = .bool (decide (ItemsOk S)) ∧ H = H := fun hh => ⟨by rw [decide_eq_false hh], rfl⟩
  refine iteB_dec (fun c => no (fun hv => by have := hv.1; omega)) (fun c => ?_)
  refine loop1 S.length (fun k H' => H' = H ∧ ∀ i, i < k → 0 ≤ S.getD i 0 ∧ S.getD i 0 ≤ 44) ⟨rfl, fun i hi => by omega⟩ ?_
  rintro k H1 hk ⟨rfl, hok⟩
  unfold F_ref21_items_r1
  refine iteB_dec (fun c1 => ?_) (fun c1 => ⟨?_, rfl⟩)
  · have hkn : k < S.length := by omega
    obtain ⟨a, hp, hr⟩ := Ints.atN h hkn
    have hbad : ¬ (0 ≤ S.getD k 0 ∧ S.getD k 0 ≤ 44) → ¬ ItemsOk S := fun hh hv => hh (hv.2 _ (getD_mem' 0 hkn))
    refine ⟨by omega, by omega, unSome_mk hp ⟨_, hr, iteB_dec (fun d => no (hbad (by omega))) (fun d => ⟨by omega, by omega, unSome_mk hp ⟨_, hr, iteB_dec (fun d1 => no (hbad (by omega))) (fun d1 => letV_mk _ rfl (next1 hkn (by omega) ⟨rfl, fun i hi => ?_⟩))⟩⟩)⟩⟩
    by_cases e : i = k
    · subst e; omega
    · exact hok i (by omega)
  · rw [decide_eq_true]
    exact ⟨by omega, all_of_getD (Q := fun x => 0 ≤ x ∧ x ≤ 44) 0 (fun i hi => hok i (by omega))⟩

/-- The bytes that items of size at least 'k' want. -/
def demI (k : Int) : List Int → Int
  | [] => 0
  | x :: S => (if x ≥ k then 2 ^ x.toNat else 0) + demI k S
theorem demI_append (k : Int) (A B : List Int) : demI k (A ++ B) = demI k A + demI k B := by
  induction A with
  | nil => simp [demI]
  | cons x A ih => simp only [List.cons_append, demI, ih]; omega
theorem demI_range (k : Int) {S : List Int} (h : InS S) : 0 ≤ demI k S ∧ demI k S ≤ S.length * 17592186044416 := by
  induction S with
  | nil => simp [demI]
  | cons x S ih =>
    have hx := pow44 (h x (by simp))
    obtain ⟨h1, h2⟩ := ih (fun y hy => h y (by simp [hy]))
    simp only [demI, List.length_cons]
    split <;> (push_cast; omega)
theorem demI_big {k : Int} {S : List Int} (h : InS S) (hk : 44 < k) : demI k S = 0 := by
  induction S with
  | nil => rfl
  | cons x S ih =>
    have hx := h x (by simp)
    simp only [demI]
    rw [if_neg (by omega), ih (fun y hy => h y (by simp [hy]))]
    rfl
theorem InS.takeN {S : List Int} (h : InS S) (k : Nat) : InS (S.take k) := fun x hx => h x (List.mem_of_mem_take hx)

theorem rdemand_spec (H : Heap) (s : Sl) (S : List Int) (k : Int) (h : Ints .i64 H s S) (hS : ItemsOk S) : CallsH Try.prog n_ref21_demand #[.slice s.p s.n s.c, .int .i64 k] H (fun v H' => v = .int .u64 (demI k S) ∧ H' = H) := by
  refine F_ref21_demand_ok _ _ ?_
  unfold F_ref21_demand
  have hn := h.len
  have hl := hS.1
  refine loop2 S.length (fun i (n : Int) H' => n = demI k (S.take i) ∧ H' = H) ⟨rfl, rfl⟩ ?_
  rintro i n H1 hi ⟨rfl, rfl⟩
  unfold F_ref21_demand_r1
  refine iteB_dec (fun d1 => ?_) (fun d1 => ?_)
  · have hin : i < S.length := by omega
    obtain ⟨a, hp, hr⟩ := Ints.atN h hin
    have hx := hS.2 _ (getD_mem' 0 hin)
    have htk := take_succ_d (0 : Int) hin
    have hp44 := pow44 hx
    have hd := demI_range k (hS.2.takeN i)
    have hlen : ((S.take i).length : Int) ≤ 1024 := by simp; omega
    generalize S.getD i 0 = x at *
    have hstep : demI k (S.take (i + 1)) = demI k (S.take i) + (if x ≥ k then 2 ^ x.toNat else 0) := by rw [htk, demI_append]; simp [demI]
    refine ⟨by omega, by omega, unSome_mk hp ⟨_, hr, iteB_dec (fun d => ⟨by omega, by omega, unSome_mk hp ⟨_, hr, u64_nonneg _, letV_mk (demI k (S.take (i + 1))) ?_ (letV_mk _ rfl (next2 hin (by omega) ⟨rfl, rfl⟩))⟩⟩) (fun d => letV_mk _ rfl (next2 hin (by omega) ⟨?_, rfl⟩))⟩⟩
    · rw [shl1 hx.1 (by omega), hstep, if_pos d]
      exact u64_in (by omega)
    · rw [hstep, if_neg d, Int.add_zero]
  · obtain rfl : i = S.length := by omega
    rw [List.take_length]
    exact ⟨rfl, rfl⟩

/-! ### certificates -/

abbrev Cert := Int × Int × Int × Int
abbrev encC (c : Cert) : List Value := [.int .i64 c.1, .int .i64 c.2.1, .int .u64 c.2.2.1, .int .u64 c.2.2.2]
abbrev certV (c : Cert) : Value := .agg #[.int .i64 c.1, .int .i64 c.2.1, .int .u64 c.2.2.1, .int .u64 c.2.2.2]
def noCert : Cert := (0, 0, 0, 0)
def Bad (M : List Rg) (S : List Int) (k : Nat) : Prop := demI k S > blkN (2 ^ k) M * 2 ^ k
instance (M : List Rg) (S : List Int) (k : Nat) : Decidable (Bad M S k) := by unfold Bad; infer_instance
def certF (M : List Rg) (S : List Int) : Nat → Cert
  | 0 => if Bad M S 0 then (0, 0, demI 0 S, blkN (2 ^ 0) M) else noCert
  | k + 1 => if Bad M S (k + 1) then (0, ((k + 1 : Nat) : Int), demI ((k + 1 : Nat) : Int) S, blkN (2 ^ (k + 1)) M) else certF M S k

theorem certF_step (M : List Rg) (S : List Int) (k : Nat) : certF M S k = if Bad M S k then (0, (k : Int), demI k S, blkN (2 ^ k) M) else (if k = 0 then noCert else certF M S (k - 1)) := by
  cases k with
  | zero => rfl
  | succ k => rw [certF, Nat.add_sub_cancel, if_neg (by omega : ¬ k + 1 = 0)]

/-- A result variable of a certificate's kind is written and read. -/
theorem cert_wr {H : Heap} {b : Nat} {c0 c : Cert} {K : Value → Heap → Prop} (hb : Blk H b t_api_Certificate (encC c0)) (hK : ∀ H', Mods [b] H H' → Blk H' b t_api_Certificate (encC c) → K (certV c) H') :
    okRow H (⟨b, 0, none⟩ : Addr) 4 ∧ (letH (wrs H (⟨b, 0, none⟩ : Addr) (encC c)) (fun H5 : Heap =>
      ∃ r : Int, rd H5 (⟨b, 0, none⟩ : Addr) = some (.int .i64 r) ∧ ∃ r1 : Int, rd H5 ((⟨b, 0, none⟩ : Addr).add 1) = some (.int .i64 r1) ∧ ∃ r2 : Int, rd H5 ((⟨b, 0, none⟩ : Addr).add 2) = some (.int .u64 r2) ∧ ∃ r3 : Int, rd H5 ((⟨b, 0, none⟩ : Addr).add 3) = some (.int .u64 r3) ∧ K (certV (r, r1, r2, r3)) H5)) := by
  refine ⟨hb.ok0 (by simp), letH_mk ?_⟩
  intro H' h'
  have b' : Blk H' b t_api_Certificate (encC c) := by rw [h']; exact hb.wr
  have m' : Mods [b] H H' := by rw [h']; exact Mods.wrs (by simp)
  exact ⟨_, b'.rd0 rfl, _, b'.rd (i := 1) rfl, _, b'.rd (i := 2) rfl, _, b'.rd (i := 3) rfl, hK H' m' b'⟩

theorem rrefusal_spec (H : Heap) (s t : Sl) (l : List Rg) (S : List Int) (h : Rgs H s l) (hu : U64L l) (hS : Ints .i64 H t S) (hI : ItemsOk S) (hv : ValidR l) :
    CallsH Try.prog n_ref21_refusal #[.slice s.p s.n s.c, .slice t.p t.n t.c] H (fun v H' => v = certV (certF (mergeF l) S 44) ∧ Ext H H') := by
  refine F_ref21_refusal_ok _ _ ?_
  unfold F_ref21_refusal
  refine push_mk (vs := encC noCert) fun H1 e1 z1 b1 => ?_
  obtain ⟨vm, am⟩ := hv.merge
  generalize hC : certF (mergeF l) S 44 = C
  have e44 : (44 : Int).toNat = 44 := rfl
  refine ⟨fun k H' => Ext H1 H' ∧ -1 ≤ k ∧ k ≤ 44 ∧ C = (if k < 0 then noCert else certF (mergeF l) S k.toNat), fun k _ => (k + 1).toNat, ⟨.refl _, by omega, by omega, by rw [if_neg (by omega), e44]; exact hC.symm⟩, ?_⟩
  rintro k H2 ⟨e2, hk0, hk1, hc⟩
  unfold F_ref21_refusal_r1
  have x2 := e1.trans e2
  refine iteB_dec (fun c => ?_) (fun c => ?_)
  · obtain ⟨j, rfl⟩ := Int.eq_ofNat_of_zero_le c
    rw [if_neg (by omega), Int.toNat_natCast, certF_step] at hc
    refine (rdemand_spec H2 t S j (hS.ext x2) hI).mono ?_
    rintro v H3 ⟨rfl, rfl⟩
    refine ⟨_, rfl, (rBlocks_spec H3 s l j (h.ext x2) hu).mono ?_⟩
    rintro v H4 ⟨rfl, e4⟩
    have hb : blkV l j = blkN (2 ^ j) (mergeF l) := by unfold blkV; rw [if_pos ⟨by omega, hv⟩, Int.toNat_natCast]
    have hle := valid_blk vm am j
    have hnn := blkN_nn (2 ^ j) (mergeF l)
    have hnn2 := Int.mul_nonneg hnn (by have := pow_pos2 j; omega : (0 : Int) ≤ 2 ^ j)
    refine ⟨_, rfl, u64_nonneg _, ?_⟩
    rw [hb, min64 (by omega) (by omega), Int.toNat_natCast, u64_in (n := blkN (2 ^ j) (mergeF l) * 2 ^ j) (by omega)]
    refine iteB_dec (fun d => ?_) (fun d => letV_mk ((j : Int) - 1) (i64_in (by omega)) ⟨⟨e2.trans e4, by omega, by omega, ?_⟩, by dsimp only; omega⟩)
    · rw [if_pos (show Bad (mergeF l) S j from d)] at hc
      refine cert_wr (c := (0, (j : Int), demI j S, blkN (2 ^ j) (mergeF l))) (K := fun v H' => v = certV C ∧ Ext H H') ((b1.ext e2).ext e4) (fun H' m' _ => ⟨by rw [hc], Mods.ext (x2.trans e4) m' (by simp)⟩)
    · rw [if_neg (show ¬ Bad (mergeF l) S j from d)] at hc
      rw [hc]
      by_cases h0 : j = 0
      · rw [if_pos h0, if_pos (by omega)]
      · rw [if_neg h0, if_neg (by omega)]
        congr 1
        omega
  · rw [if_pos (by omega)] at hc
    exact cert_wr (c := noCert) (K := fun v H' => v = certV C ∧ Ext H H') (b1.ext e2) (fun H' m' _ => ⟨by rw [hc], Mods.ext x2 m' (by simp)⟩)

end Go.Proofs.Ytnhhncjflnlfaaa
end

section
/-
  Placing, in plain terms; the contract of the reference's Place.
-/
namespace Go.Proofs.Ytnhhncjflnlfaaa
open Go.Eng
set_option linter.unusedVariables false

def szOf (S : List Int) (i : Nat) : Nat := (S.getD i 0).toNat
/-- Items, one after the other, at the lowest place. -/
def plI (S : List Int) : List Nat → List Rg → List Int → Option (List Rg × List Int)
  | [], l, bs => some (l, bs)
  | i :: ord, l, bs => match takeF l (2 ^ szOf S i) with
    | none => none
    | some (b, l') => plI S ord l' (bs.set i b)
theorem plI_append (S : List Int) : ∀ (a b : List Nat) (l : List Rg) (bs : List Int), plI S (a ++ b) l bs = (plI S a l bs).bind (fun x => plI S b x.1 x.2)
  | [], b, l, bs => rfl
  | i :: a, b, l, bs => by
    simp only [List.cons_append, plI]
    cases takeF l (2 ^ szOf S i) with
    | none => rfl
    | some x => exact plI_append S a b x.2 (bs.set i x.1)

def ordK (S : List Int) (k : Nat) : List Nat := (List.range S.length).filter (fun j => decide (S.getD j 0 = k))
/-- The order of the items: the greatest first, equal ones as they stand. -/
def ordN (S : List Int) (m : Nat) : List Nat := ((List.range m).map (fun j => 44 - j)).flatMap (ordK S)
def ordF (S : List Int) : List Nat := ordN S 45
theorem ordN_succ (S : List Int) (m : Nat) : ordN S (m + 1) = ordN S m ++ ordK S (44 - m) := by
  unfold ordN
  rw [List.range_succ, List.map_append, List.flatMap_append]
  simp

def placeV (free : List Rg) (S : List Int) : Int × List Int × Cert :=
  if ValidR free ∧ ItemsOk S then
    match plI S (ordF S) (mergeF free) (List.replicate S.length 0) with
    | some (_, bs) => (0, bs, noCert)
    | none => (19, [], certF (mergeF free) S 44)
  else (1, [], noCert)

/-- An answer of Place in memory. -/
def PlaceP (x : Int × List Int × Cert) (H : Heap) (v : Value) (H' : Heap) : Prop :=
  ∃ out : Sl, v = .tuple #[.slice out.p out.n out.c, certV x.2.2, .int .i64 x.1] ∧ IsS 1 (encI .u64) H' out x.2.1 ∧ TyB H' out.p t_uint64 ∧ Ext H H'

theorem plI_len (S : List Int) : ∀ (ord : List Nat) (l : List Rg) (bs : List Int) (x : List Rg × List Int), plI S ord l bs = some x → x.2.length = bs.length
  | [], l, bs, x, h => by simp [plI] at h; rw [← h]
  | i :: ord, l, bs, x, h => by
    simp only [plI] at h
    cases ht : takeF l (2 ^ szOf S i) with
    | none => rw [ht] at h; cases h
    | some y =>
      rw [ht] at h
      have := plI_len S ord y.2 (bs.set i y.1) x h
      simpa using this
/-- What is left stays in order. -/
theorem plI_asc (S : List Int) : ∀ (ord : List Nat) (l : List Rg) (bs : List Int) (x : List Rg × List Int), plI S ord l bs = some x → Asc l → Low l → Asc x.1 ∧ Low x.1 ∧ x.1.length ≤ l.length + ord.length
  | [], l, bs, x, h, ha, hl => by simp [plI] at h; rw [← h]; exact ⟨ha, hl, by simp⟩
  | i :: ord, l, bs, x, h, ha, hl => by
    simp only [plI] at h
    cases ht : takeF l (2 ^ szOf S i) with
    | none => rw [ht] at h; cases h
    | some y =>
      obtain ⟨b, l'⟩ := y
      rw [ht] at h
      obtain ⟨r, hr, h1, h2, h3, h4⟩ := takeF_some ht (pow_pos2 _)
      have hx : 1 ≤ ((b, (2 : Int) ^ szOf S i) : Rg).2 := pow_ge1 _
      obtain ⟨i1, i2, i3⟩ := plI_asc S ord l' (bs.set i b) x h (by rw [h4]; exact (rmF_spec ha hx).1) (by rw [h4]; exact hl.rm ha hx)
      refine ⟨i1, i2, ?_⟩
      have := rmF_len1 ha hx
      rw [← h4] at this
      simp only [List.length_cons]
      omega

theorem ordN_len (S : List Int) (m : Nat) : ∀ i ∈ ordN S m, i < S.length := by
  intro i hi
  obtain ⟨k, _, hk⟩ := List.mem_flatMap.1 hi
  unfold ordK at hk
  have := (List.mem_filter.1 hk).1
  exact List.mem_range.1 this

/-- Rows of u64. -/
abbrev BsB (H : Heap) (b : Nat) (bs : List Int) : Prop := RB H b t_uint64 1 (encI .u64) bs
theorem BsB.set {H : Heap} {b : Nat} {bs : List Int} {i : Nat} (h : BsB H b bs) (hi : i < bs.length) (y : Int) : BsB (wrs H ((⟨b, 0, none⟩ : Addr).add (i * 1)) [.int .u64 y]) b (bs.set i y) :=
  RB.wr0 h (x := bs.getD i 0) (getD_get 0 hi) (by omega) rfl

/-- The state: so much is done. -/
def PI (S : List Int) (M : List Rg) (H : Heap) (ob : Nat) (ord : List Nat) (left : Sl) (H' : Heap) : Prop :=
  ∃ l bs, plI S ord M (List.replicate S.length 0) = some (l, bs) ∧ Own H.size t_api_Range 2 H' left (l.flatMap encR) ∧ BsB H' ob bs ∧ Ext H H'

theorem range_filter_succ (q : Nat → Bool) (i : Nat) : (List.range (i + 1)).filter q = (List.range i).filter q ++ (if q i then [i] else []) := by
  rw [List.range_succ, List.filter_append]
  congr 1
  simp only [List.filter_cons, List.filter_nil]

theorem rPlace_spec (H : Heap) (s t : Sl) (free : List Rg) (S : List Int) (h : Rgs H s free) (hu : U64L free) (hS : Ints .i64 H t S) :
    CallsH Try.prog n_ref21_Place #[.slice s.p s.n s.c, .slice t.p t.n t.c] H (PlaceP (placeV free S) H) := by
  refine F_ref21_Place_ok _ _ ?_
  unfold F_ref21_Place
  have hsn := hS.len
  refine push_mk (vs := encC noCert) fun H1 e1 z1 b1 => ⟨fun b H' => (b = false ↔ ValidR free ∧ ItemsOk S) ∧ H' = H1, ?_, ?_⟩
  · refine (rValidRanges_spec H1 s free (h.ext e1) hu).mono ?_
    rintro v H2 ⟨rfl, rfl⟩
    refine ⟨_, rfl, iteB_not (fun c => ⟨?_, rfl⟩) (fun c => (ritems_spec H2 t S (hS.ext e1)).mono ?_)⟩
    · simp at c; simp [c]
    · rintro v H3 ⟨rfl, rfl⟩
      simp at c
      exact ⟨_, rfl, by simp [c], rfl⟩
  rintro b H4 ⟨hb, rfl⟩
  unfold F_ref21_Place_k5
  refine iteB_intro (fun c => ?_) (fun c => ?_)
  · have hn : ¬ (ValidR free ∧ ItemsOk S) := fun hh => by have := hb.2 hh; rw [c] at this; cases this
    have hpv : placeV free S = (1, [], noCert) := by unfold placeV; rw [if_neg hn]
    refine cert_wr (c := noCert) (K := fun v H' => PlaceP (placeV free S) H (.tuple #[.slice none 0 0, v, .int .i64 1]) H') b1 (fun H' m' _ => ?_)
    rw [hpv]
    exact ⟨⟨none, 0, 0⟩, rfl, IsS.nil _ _ _, (fun a ha => by cases ha), Mods.ext e1 m' (by simp)⟩
  obtain ⟨hv, hI⟩ := hb.1 c
  obtain ⟨vm, am⟩ := hv.merge
  have hlS := hI.1
  have hpv : placeV free S = (match plI S (ordF S) (mergeF free) (List.replicate S.length 0) with | some (_, bs) => (0, bs, noCert) | none => (19, [], certF (mergeF free) S 44)) := by unfold placeV; rw [if_pos ⟨hv, hI⟩]
  refine ⟨by omega, by omega, by omega, letH_mk ?_⟩
  rw [Int.toNat_natCast]
  intro H6 h6
  have e6 : Ext H4 H6 := by rw [h6]; exact Ext.push _ _
  have z6 : H6.size = H4.size + 1 := by rw [h6]; simp
  have b6 : BsB H6 H4.size (List.replicate S.length 0) := by
    rw [h6, ← hsn]
    exact RB.zero H4 t_uint64 (ints_row _) t.n (.int .u64 0) (0 : Int) rfl
  clear h6
  have x6 := e1.trans e6
  refine (rmerge_spec H6 s free (h.ext x6) hv).mono ?_
  rintro v H7 ⟨left0, rfl, o7, e7⟩
  have fail : ∀ ord, (∃ rest, ordF S = ord ++ rest) → plI S ord (mergeF free) (List.replicate S.length 0) = none → placeV free S = (19, [], certF (mergeF free) S 44) := fun ord ⟨rest, hr⟩ hn => by
    rw [hpv, hr, plI_append, hn]; rfl
  have hpre0 : ∀ m d, ∃ rest, ordN S (m + d) = ordN S m ++ rest := fun m d => by
    induction d with
    | zero => exact ⟨[], by simp⟩
    | succ d ih =>
      obtain ⟨r, hr⟩ := ih
      exact ⟨r ++ ordK S (44 - (m + d)), by rw [← Nat.add_assoc, ordN_succ, hr, List.append_assoc]⟩
  have hpre : ∀ m, m ≤ 45 → ∃ rest, ordF S = ordN S m ++ rest := fun m hm => by
    have := hpre0 m (45 - m)
    rw [show m + (45 - m) = 45 by omega] at this
    exact this
  refine ⟨left0, rfl, fun left k H' => ∃ m : Nat, m ≤ 45 ∧ k = 44 - (m : Int) ∧ PI S (mergeF free) H4 H4.size (ordN S m) left H', fun _ k _ => (k + 1).toNat, ⟨0, by omega, by omega, mergeF free, _, rfl, own_lo o7 e6.size, RB.ext b6 e7, e6.trans e7⟩, ?_⟩
  rintro left1 _ H8 ⟨m, hm, rfl, hPI⟩
  unfold F_ref21_Place_r4
  refine iteB_dec (fun c1 => ?_) (fun c1 => ?_)
  rotate_left
  · obtain rfl : m = 45 := by omega
    obtain ⟨l, bs, hpl, o8, bb8, e8⟩ := hPI
    have hpv2 : placeV free S = (0, bs, noCert) := by rw [hpv]; unfold ordF; rw [hpl]
    have hbl := plI_len S _ _ _ _ hpl
    simp at hbl
    refine cert_wr (c := noCert) (K := fun v H' => PlaceP (placeV free S) H (.tuple #[.slice (some ⟨H4.size, 0, none⟩) t.n t.n, v, .int .i64 0]) H') (b1.ext e8) (fun H' m' _ => ?_)
    rw [hpv2]
    exact ⟨⟨some ⟨H4.size, 0, none⟩, t.n, t.n⟩, rfl, RB.isS (RB.mods bb8 m' (by simp; omega)) t.n t.n (by omega), (fun a ha => by cases ha; obtain ⟨_, ex, hbk⟩ := RB.mods bb8 m' (by simp; omega); exact ⟨_, _, hbk⟩), Mods.ext (e1.trans e8) m' (by simp)⟩
  have hm44 : m ≤ 44 := by omega
  have hkk : (44 : Int) - (m : Int) = ((44 - m : Nat) : Int) := by omega
  rw [hkk]
  have hordn := ordN_succ S m
  obtain ⟨rest1, hrest1⟩ := hpre (m + 1) (by omega)
  rw [hordn] at hrest1
  generalize hKe : 44 - m = K at *
  have hK44 : K ≤ 44 := by omega
  have hP := pow_pos2 K
  have hP44 := pw_52 (w := K) (by omega)
  have hPK : (2 : Int) ^ K ≤ 17592186044416 := by
    have := pow_mono (a := K) (b := 44) hK44
    have e : (2 : Int) ^ 44 = 17592186044416 := by decide
    omega
  have hinner : PI S (mergeF free) H4 H4.size (ordN S m ++ (List.range 0).filter (fun j => decide (S.getD j 0 = K))) left1 H8 := by simpa using hPI
  refine loop2 S.length (fun i left H' => PI S (mergeF free) H4 H4.size (ordN S m ++ (List.range i).filter (fun j => decide (S.getD j 0 = K))) left H') hinner ?_
  rintro i left2 H9 hi ⟨l, bs, hpl, o9, bb9, e9⟩
  unfold F_ref21_Place_r3
  have hfs := range_filter_succ (fun j => decide (S.getD j 0 = K)) i
  obtain ⟨al, lowl, hll⟩ := plI_asc S _ _ _ _ hpl am vm.low
  have hbl := plI_len S _ _ _ _ hpl
  simp only [List.length_replicate] at hbl
  have hordl : (ordN S m ++ (List.range i).filter (fun j => decide (S.getD j 0 = K))).length ≤ 47000 := by
    rw [List.length_append]
    have h1 : (ordN S m).length ≤ m * 1024 := by
      clear hpl hll hrest1 hordn hinner hPI hKe hkk hm
      induction m with
      | zero => simp [ordN]
      | succ m ih =>
        rw [ordN_succ, List.length_append]
        have := List.length_filter_le (fun j => decide (S.getD j 0 = ((44 - m : Nat) : Int))) (List.range S.length)
        have h2 : (ordK S (44 - m)).length ≤ 1024 := by unfold ordK; simp at this ⊢; omega
        have := ih (by omega) (by omega)
        omega
    have h2 := List.length_filter_le (fun j => decide (S.getD j 0 = (K : Int))) (List.range i)
    rw [List.length_range] at h2
    omega
  have hml := vm.1
  dsimp only at al lowl hll hbl
  refine iteB_dec (fun d => ?_) (fun d => ?_)
  rotate_left
  · obtain rfl : i = S.length := by omega
    refine letV_mk ((K : Int) - 1) (i64_in (by omega)) ⟨⟨m + 1, by omega, by omega, l, bs, ?_, o9, bb9, e9⟩, by dsimp only; omega⟩
    rw [hordn]
    exact hpl
  have hin : i < S.length := by omega
  obtain ⟨a, hpa, hra⟩ := Ints.atN (hS.ext (e1.trans e9)) hin
  refine ⟨by omega, by omega, unSome_mk hpa ⟨_, hra, iteB_bne (fun d1 => letV_mk _ rfl (next2 hin (by omega) ⟨l, bs, ?_, o9, bb9, e9⟩)) (fun d1 => ?_)⟩⟩
  · rw [hfs, if_neg (by simpa using d1), List.append_nil]
    exact hpl
  have hszi : szOf S i = K := by unfold szOf; rw [d1]; simp
  have hfs2 : (List.range (i + 1)).filter (fun j => decide (S.getD j 0 = K)) = (List.range i).filter (fun j => decide (S.getD j 0 = K)) ++ [i] := by rw [hfs, if_pos (by simpa using d1)]
  have n9 := Own.len rkRange o9
  have is9 := Own.is rkRange o9
  have hobn : ∀ {q : Option Addr}, TyB H9 q t_api_Range → ∀ a, q = some a → a.block ∉ [H4.size] := fun {q} hq a ha => by
    obtain ⟨_, ex, hbk⟩ := bb9
    have t1 : TyB H9 (some ⟨H4.size, 0, none⟩) t_uint64 := fun a ha => by cases ha; exact ⟨_, _, hbk⟩
    have := ty_ne hq t1 (by decide) a ha
    simpa [blkOf] using this
  refine ⟨fun found H' => (found = false ∧ H' = H9 ∧ takeF l (2 ^ K) = none) ∨ (found = true ∧ ∃ b, takeF l (2 ^ K) = some (b, rmF l (b, 2 ^ K)) ∧ BsB H' H4.size (bs.set i b) ∧ Mods [H4.size] H9 H'), ?_, ?_⟩
  · refine ⟨fun found j H' => ∃ jj : Nat, j = jj ∧ jj ≤ l.length ∧ ((found = false ∧ H' = H9 ∧ ∀ j', j' < jj → fitQ (2 ^ K) (l.getD j' (0, 0)) = false) ∨ (found = true ∧ ∃ b, takeF l (2 ^ K) = some (b, rmF l (b, 2 ^ K)) ∧ BsB H' H4.size (bs.set i b) ∧ Mods [H4.size] H9 H')), fun _ j _ => (l.length - j).toNat, ⟨0, rfl, by omega, .inl ⟨rfl, rfl, fun j' hj' => by omega⟩⟩, ?_⟩
    rintro found _ H10 ⟨j, rfl, hj, hst⟩
    unfold F_ref21_Place_r1
    have done : found = false → ¬ (j < l.length) → (found = false ∧ H10 = H9 ∧ takeF l (2 ^ K) = none) := fun hf hn => by
      rcases hst with ⟨_, h2, h3⟩ | ⟨h1, _⟩
      · refine ⟨hf, h2, ?_⟩
        unfold takeF
        rw [List.find?_eq_none.2 (fun r hr => by
          have := all_of_getD (Q := fun r => fitQ (2 ^ K) r = false) (0, 0) (fun j' hj' => h3 j' (by omega)) r hr
          rw [this]; simp)]
      · rw [hf] at h1; cases h1
    refine iteB_dec (fun d2 => iteB_not (fun d3 => ?_) (fun d3 => ?_)) (fun d2 => ?_)
    · rcases hst with ⟨_, rfl, h3⟩ | ⟨h1, _⟩
      · have hjl : j < l.length := by omega
        obtain ⟨q, hq, r0, r1⟩ := Rgs.atN is9 hjl
        have hlw := lowl _ (getD_mem' (0, 0) hjl)
        have hget := getD_get (0, 0) hjl
        generalize hre : l.getD j (0, 0) = r at *
        have hcd := cd_spec (a := r.1) hP
        refine ⟨by omega, by omega, unSome_mk hq ⟨_, r0, (rup_spec r.1 K H10 (by omega) (by omega)).mono ?_⟩⟩
        rintro v H11 ⟨rfl, rfl⟩
        rw [Int.toNat_natCast] at *
        refine ⟨_, rfl, u64_nonneg _, by omega, by omega, unSome_mk hq ⟨_, r0, by omega, by omega, unSome_mk hq ⟨_, r1, ?_⟩⟩⟩
        rw [shl1 (by omega) (by omega), Int.toNat_natCast, u64_in (n := cd r.1 (2 ^ K) * 2 ^ K + 2 ^ K) (by omega), u64_in (n := r.1 + r.2) (by omega)]
        refine iteB_dec (fun d4 => ⟨by omega, by omega, RB.ok0 bb9 (by omega) (by omega), letH_mk ?_⟩) (fun d4 => letV_mk _ (i64_succ (by omega)) ⟨⟨j + 1, rfl, by omega, .inl ⟨d3, rfl, fun j' hj' => ?_⟩⟩, by dsimp only; omega⟩)
        · intro H12 h12
          have hfind : l.find? (fitQ (2 ^ K)) = some r := by
            rw [List.find?_eq_some_iff_getElem]
            refine ⟨by unfold fitQ; exact decide_eq_true d4, j, hjl, ?_, fun j' hj' => ?_⟩
            · have := List.getElem?_eq_some_iff.1 hget
              exact this.2
            · have := h3 j' hj'
              have hjj : j' < l.length := by omega
              simp only [List.getD, List.getElem?_eq_getElem hjj, Option.getD_some] at this
              rw [this]; rfl
          have htk : takeF l (2 ^ K) = some (cd r.1 (2 ^ K) * 2 ^ K, rmF l (cd r.1 (2 ^ K) * 2 ^ K, 2 ^ K)) := by unfold takeF; rw [hfind]
          refine letV_mk _ (i64_succ (by omega)) ⟨⟨j + 1, rfl, by omega, .inr ⟨rfl, _, htk, ?_, ?_⟩⟩, by dsimp only; omega⟩
          · rw [h12]; exact BsB.set bb9 (by omega) _
          · rw [h12]; exact mods_wr_add (by simp)
        · by_cases e : j' = j
          · subst e; rw [hre]; unfold fitQ; exact decide_eq_false d4
          · exact h3 j' (by omega)
      · rw [d3] at h1; cases h1
    · rcases hst with ⟨h1, _⟩ | h1
      · rw [d3] at h1; cases h1
      · exact .inr h1
    · rcases hst with ⟨h1, _⟩ | h1
      · exact .inl (done h1 (by omega))
      · exact .inr h1
  · rintro found H13 hst
    unfold F_ref21_Place_k2
    refine iteB_not (fun d2 => ?_) (fun d2 => ?_)
    · rcases hst with ⟨_, rfl, h3⟩ | ⟨h1, _⟩
      · have hfail := fail (ordN S m ++ ((List.range i).filter (fun j => decide (S.getD j 0 = K)) ++ [i])) (by
          rw [hrest1]
          unfold ordK
          rw [← hfs2]
          have hsp : (List.range S.length).filter (fun j => decide (S.getD j 0 = K)) = (List.range (i + 1)).filter (fun j => decide (S.getD j 0 = K)) ++ ((List.range (S.length - (i + 1))).map (fun x => (i + 1) + x)).filter (fun j => decide (S.getD j 0 = K)) := by
            rw [← List.filter_append, ← List.range_add, show i + 1 + (S.length - (i + 1)) = S.length by omega]
          exact ⟨_, by rw [hsp, List.append_assoc, List.append_assoc, List.append_assoc]⟩) (by
          rw [← List.append_assoc, plI_append, hpl]
          show plI S [i] l bs = none
          simp only [plI]
          rw [hszi, h3])
        refine (rrefusal_spec H13 s t free S (h.ext (e1.trans e9)) hu (hS.ext (e1.trans e9)) hI hv).mono ?_
        rintro v H14 ⟨rfl, e14⟩
        refine ⟨_, _, _, _, rfl, ?_⟩
        refine cert_wr (c := certF (mergeF free) S 44) (K := fun v H' => PlaceP (placeV free S) H (.tuple #[.slice none 0 0, v, .int .i64 19]) H') ((b1.ext e9).ext e14) (fun H' m' _ => ?_)
        rw [hfail]
        exact ⟨⟨none, 0, 0⟩, rfl, IsS.nil _ _ _, (fun a ha => by cases ha), Mods.ext ((e1.trans e9).trans e14) m' (by simp)⟩
      · rw [d2] at h1; cases h1
    · rcases hst with ⟨h1, _⟩ | ⟨_, b, htk, bb13, m13⟩
      · rw [d2] at h1; cases h1
      · obtain ⟨r, hr, t1, t2, t3, t4⟩ := takeF_some htk hP
        have hlr := lowl r hr
        have o13 := o9.mods m13 (hobn (own_ty o9))
        have hrd : rd H13 ((⟨H4.size, 0, none⟩ : Addr).add ((i : Int).toNat * 1)) = some (.int .u64 b) := by
          rw [Int.toNat_natCast]
          exact RB.rd0 bb13 (i := i) (x := b) (by rw [List.getElem?_set_self (by omega)]) rfl
        refine ⟨by omega, by omega, b, hrd, u64_nonneg _, ?_⟩
        rw [shl1 (by omega) (by omega), Int.toNat_natCast]
        have x13 : Ext H4 H13 := Mods.ext e9 m13 (by simp)
        refine (rremove_spec H13 left2 l (b, 2 ^ K) (Own.is rkRange o13) lowl (by dsimp only; omega) (by omega)).mono ?_
        rintro v H16 ⟨left3, rfl, o16, e16⟩
        refine ⟨left3, rfl, letV_mk _ rfl (next2 hin (by omega) ⟨rmF l (b, 2 ^ K), bs.set i b, ?_, own_lo o16 x13.size, RB.ext bb13 e16, x13.trans e16⟩)⟩
        rw [hfs2, ← List.append_assoc, plI_append, hpl]
        show plI S [i] l bs = _
        simp only [plI]
        rw [hszi, htk]

end Go.Proofs.Ytnhhncjflnlfaaa
end

section
/-
  Hosts in memory: the contracts of the reference's within, ValidHost, Space.
-/
namespace Go.Proofs.Ytnhhncjflnlfaaa
open Go.Eng
set_option linter.unusedVariables false

abbrev Rt := Int × Int × Int
def encRt (x : Rt) : List Value := [.int .i64 x.1, .int .i64 x.2.1, .int .i64 x.2.2]
theorem encRt_len (x : Rt) : (encRt x).length = 3 := rfl
theorem encRt_one (x : Rt) : ∀ u ∈ encRt x, oneC u = true := fun u hu => by simp [encRt] at hu; rcases hu with rfl | rfl | rfl <;> rfl

structure Host where
  buses : Int
  io : List Rg
  mem : List Rg
  high : List Rg
  fio : List Rg
  fix : List Rg
  links : List Int
  routes : List Rt
structure HostS where
  io : Sl
  mem : Sl
  high : Sl
  fio : Sl
  fix : Sl
  links : Sl
  routes : Sl
abbrev hostL (h : Host) (s : HostS) : List Value := [.int .i64 h.buses, .slice s.io.p s.io.n s.io.c, .slice s.mem.p s.mem.n s.mem.c, .slice s.high.p s.high.n s.high.c, .slice s.fio.p s.fio.n s.fio.c, .slice s.fix.p s.fix.n s.fix.c, .slice s.links.p s.links.n s.links.c, .slice s.routes.p s.routes.n s.routes.c]
abbrev hostV (h : Host) (s : HostS) : Value := .agg #[.int .i64 h.buses, .slice s.io.p s.io.n s.io.c, .slice s.mem.p s.mem.n s.mem.c, .slice s.high.p s.high.n s.high.c, .slice s.fio.p s.fio.n s.fio.c, .slice s.fix.p s.fix.n s.fix.c, .slice s.links.p s.links.n s.links.c, .slice s.routes.p s.routes.n s.routes.c]

/-- A host in memory. -/
structure HostM (H : Heap) (h : Host) (s : HostS) : Prop where
  io : Rgs H s.io h.io
  mem : Rgs H s.mem h.mem
  high : Rgs H s.high h.high
  fio : Rgs H s.fio h.fio
  fix : Rgs H s.fix h.fix
  links : IsS 1 (encI .u32) H s.links h.links
  routes : IsS 3 encRt H s.routes h.routes
  uio : U64L h.io
  umem : U64L h.mem
  uhigh : U64L h.high
  ufio : U64L h.fio
  ufix : U64L h.fix
theorem HostM.ext {H H' : Heap} {h : Host} {s : HostS} (m : HostM H h s) (e : Ext H H') : HostM H' h s :=
  ⟨m.io.ext e, m.mem.ext e, m.high.ext e, m.fio.ext e, m.fix.ext e, m.links.ext e, m.routes.ext e, m.uio, m.umem, m.uhigh, m.ufio, m.ufix⟩

theorem Blk.host {H : Heap} {b : Nat} {e : TypeId} {h : Host} {s : HostS} (k : Blk H b e (hostL h s)) :
    rd H (⟨b, 0, none⟩ : Addr) = some (.int .i64 h.buses) ∧ rd H ((⟨b, 0, none⟩ : Addr).add 1) = some (.slice s.io.p s.io.n s.io.c) ∧ rd H ((⟨b, 0, none⟩ : Addr).add 2) = some (.slice s.mem.p s.mem.n s.mem.c) ∧ rd H ((⟨b, 0, none⟩ : Addr).add 3) = some (.slice s.high.p s.high.n s.high.c) ∧
    rd H ((⟨b, 0, none⟩ : Addr).add 4) = some (.slice s.fio.p s.fio.n s.fio.c) ∧ rd H ((⟨b, 0, none⟩ : Addr).add 5) = some (.slice s.fix.p s.fix.n s.fix.c) ∧ rd H ((⟨b, 0, none⟩ : Addr).add 6) = some (.slice s.links.p s.links.n s.links.c) ∧ rd H ((⟨b, 0, none⟩ : Addr).add 7) = some (.slice s.routes.p s.routes.n s.routes.c) :=
  ⟨k.rd0 rfl, k.rd (i := 1) rfl, k.rd (i := 2) rfl, k.rd (i := 3) rfl, k.rd (i := 4) rfl, k.rd (i := 5) rfl, k.rd (i := 6) rfl, k.rd (i := 7) rfl⟩

def WithinR (l : List Rg) (a b : Int) : Prop := l.length ≤ 16 ∧ ValidR l ∧ ∀ r ∈ l, a ≤ r.1 ∧ r.1 + r.2 ≤ b
instance (l : List Rg) (a b : Int) : Decidable (WithinR l a b) := by unfold WithinR; infer_instance

theorem rwithin_spec (H : Heap) (s : Sl) (l : List Rg) (a b : Int) (h : Rgs H s l) (hu : U64L l) :
    CallsH Try.prog n_ref21_within #[.slice s.p s.n s.c, .int .u64 a, .int .u64 b] H (fun v H' => v = .bool (decide (WithinR l a b)) ∧ H' = H) := by
  refine F_ref21_within_ok _ _ _ ?_
  unfold F_ref21_within
  have hn := h.len
  have no : ¬ WithinR l a b → (.bool false : Value) = .bool (decide (WithinR l a b)) ∧ H = H := fun hh => ⟨by rw [decide_eq_false hh], rfl⟩
  refine iteB_dec (fun c => no (fun hv => by have := hv.1; omega)) (fun c => (rValidRanges_spec H s l h hu).mono ?_)
  rintro v H1 ⟨rfl, rfl⟩
  refine ⟨_, rfl, iteB_not (fun d => no (fun hv => by simp at d; exact d hv.2.1)) (fun d => ?_)⟩
  have hv : ValidR l := by simpa using d
  refine loop1 l.length (fun k H' => H' = H1 ∧ ∀ i, i < k → a ≤ (l.getD i (0, 0)).1 ∧ (l.getD i (0, 0)).1 + (l.getD i (0, 0)).2 ≤ b) ⟨rfl, fun i hi => by omega⟩ ?_
  rintro k H2 hk ⟨rfl, hok⟩
  unfold F_ref21_within_r1
  refine iteB_dec (fun c1 => ?_) (fun c1 => ⟨?_, rfl⟩)
  · have hkn : k < l.length := by omega
    obtain ⟨q, hq, r0, r1⟩ := h.atN hkn
    have hm := getD_mem' (0, 0) hkn
    have hr := hv.2 _ hm
    have hbad : ¬ (a ≤ (l.getD k (0, 0)).1 ∧ (l.getD k (0, 0)).1 + (l.getD k (0, 0)).2 ≤ b) → ¬ WithinR l a b := fun hh hw => hh (hw.2.2 _ hm)
    generalize hre : l.getD k (0, 0) = r at *
    unfold RgOk at hr
    refine ⟨by omega, by omega, unSome_mk hq ⟨_, r0, iteB_dec (fun d1 => no (hbad (by omega))) (fun d1 => ⟨by omega, by omega, unSome_mk hq ⟨_, r0, by omega, by omega, unSome_mk hq ⟨_, r1, ?_⟩⟩⟩)⟩⟩
    rw [u64_in (n := r.1 + r.2) (by omega)]
    refine iteB_dec (fun d2 => no (hbad (by omega))) (fun d2 => letV_mk _ rfl (next1 hkn (by omega) ⟨rfl, fun i hi => ?_⟩))
    by_cases e : i = k
    · subst e; rw [hre]; omega
    · exact hok i (by omega)
  · rw [decide_eq_true]
    exact ⟨by omega, hv, all_of_getD (Q := fun r => a ≤ r.1 ∧ r.1 + r.2 ≤ b) (0, 0) (fun i hi => hok i (by omega))⟩

def RtOk (n : Nat) (x : Rt) : Prop := (0 ≤ x.1 ∧ x.1 ≤ 31) ∧ (1 ≤ x.2.1 ∧ x.2.1 ≤ 4) ∧ (0 ≤ x.2.2 ∧ x.2.2 < n)
instance (n : Nat) (x : Rt) : Decidable (RtOk n x) := by unfold RtOk; infer_instance
structure ValidH (h : Host) : Prop where
  bu : 1 ≤ h.buses ∧ h.buses ≤ 256
  li : h.links.length ≤ 16
  ro : h.routes.length ≤ 128
  io : WithinR h.io 0 65536
  fio : WithinR h.fio 0 65536
  mem : WithinR h.mem 0 4294967296
  fix : WithinR h.fix 0 4503599627370496
  high : WithinR h.high 4294967296 4503599627370496
  rt : ∀ x ∈ h.routes, RtOk h.links.length x
theorem ValidH_iff (h : Host) : ValidH h ↔ (1 ≤ h.buses ∧ h.buses ≤ 256) ∧ h.links.length ≤ 16 ∧ h.routes.length ≤ 128 ∧ WithinR h.io 0 65536 ∧ WithinR h.fio 0 65536 ∧ WithinR h.mem 0 4294967296 ∧ WithinR h.fix 0 4503599627370496 ∧ WithinR h.high 4294967296 4503599627370496 ∧ ∀ x ∈ h.routes, RtOk h.links.length x :=
  ⟨fun ⟨a, b, c, d, e, f, g, i, j⟩ => ⟨a, b, c, d, e, f, g, i, j⟩, fun ⟨a, b, c, d, e, f, g, i, j⟩ => ⟨a, b, c, d, e, f, g, i, j⟩⟩
instance (h : Host) : Decidable (ValidH h) := decidable_of_iff _ (ValidH_iff h).symm

theorem rValidHost_spec (h : Host) (s : HostS) (H : Heap) (m : HostM H h s) : CallsH Try.prog n_ref21_ValidHost #[hostV h s] H (BoolP (decide (ValidH h)) H) := by
  refine F_ref21_ValidHost_ok _ _ _ _ _ _ _ _ ?_
  unfold F_ref21_ValidHost
  have bad : ∀ H', Ext H H' → ¬ ValidH h → BoolP (decide (ValidH h)) H (.bool false) H' := fun H' he hn => ⟨by rw [decide_eq_false hn], he⟩
  refine push_mk (vs := hostL h s) fun H1 e1 z1 b1 => ?_
  obtain ⟨p0, p1, p2, p3, p4, p5, p6, p7⟩ := Blk.host b1
  have hln := m.links.len
  have hrn := m.routes.len
  have m1 := m.ext e1
  refine ⟨_, p0, iteB_dec (fun c => bad _ e1 (fun hv => by have := hv.bu; omega)) (fun c1 => ⟨_, p0, iteB_dec (fun c => bad _ e1 (fun hv => by have := hv.bu; omega)) (fun c2 => ⟨_, p6, iteB_dec (fun c => bad _ e1 (fun hv => by have := hv.li; omega)) (fun c3 => ⟨_, p7, iteB_dec (fun c => bad _ e1 (fun hv => by have := hv.ro; omega)) (fun c4 => ⟨_, p1, (rwithin_spec H1 s.io h.io _ _ m1.io m.uio).mono ?_⟩)⟩)⟩)⟩)⟩
  rintro v _ ⟨rfl, rfl⟩
  refine ⟨_, rfl, iteB_not (fun c => bad _ e1 (fun hv => by simp at c; exact c hv.io)) (fun d1 => ⟨_, p4, (rwithin_spec _ s.fio h.fio _ _ m1.fio m.ufio).mono ?_⟩)⟩
  rintro v _ ⟨rfl, rfl⟩
  refine ⟨_, rfl, iteB_not (fun c => bad _ e1 (fun hv => by simp at c; exact c hv.fio)) (fun d2 => ⟨_, p2, (rwithin_spec _ s.mem h.mem _ _ m1.mem m.umem).mono ?_⟩)⟩
  rintro v _ ⟨rfl, rfl⟩
  refine ⟨_, rfl, iteB_not (fun c => bad _ e1 (fun hv => by simp at c; exact c hv.mem)) (fun d3 => ⟨_, p5, (rwithin_spec _ s.fix h.fix _ _ m1.fix m.ufix).mono ?_⟩)⟩
  rintro v _ ⟨rfl, rfl⟩
  refine ⟨_, rfl, iteB_not (fun c => bad _ e1 (fun hv => by simp at c; exact c hv.fix)) (fun d4 => ⟨_, p3, (rwithin_spec _ s.high h.high _ _ m1.high m.uhigh).mono ?_⟩)⟩
  rintro v H6 ⟨rfl, rfl⟩
  refine ⟨_, rfl, iteB_not (fun c => bad _ e1 (fun hv => by simp at c; exact c hv.high)) (fun d5 => ?_)⟩
  refine loop1 h.routes.length (fun k H' => Ext H6 H' ∧ ∀ i, i < k → RtOk h.links.length (h.routes.getD i (0, 0, 0))) ⟨.refl _, fun i hi => by omega⟩ ?_
  rintro k H7 hk ⟨e7, hok⟩
  unfold F_ref21_ValidHost_r1
  have q7 := (Blk.host (b1.ext e7)).2.2.2.2.2.2.2
  have x7 := e1.trans e7
  refine ⟨_, q7, iteB_dec (fun c => ?_) (fun c => ⟨?_, x7⟩)⟩
  · have hkn : k < h.routes.length := by omega
    obtain ⟨a, hp, hr⟩ := IsS.atN (m.routes.ext x7) (0, 0, 0) hkn
    have hbad : ¬ RtOk h.links.length (h.routes.getD k (0, 0, 0)) → ¬ ValidH h := fun hh hv => hh (hv.rt _ (getD_mem' (0, 0, 0) hkn))
    generalize hxe : h.routes.getD k (0, 0, 0) = x at *
    obtain ⟨x0, x1, x2⟩ := x
    refine ⟨_, q7, by omega, by omega, unSome_mk hp ⟨_, hr 0 _ rfl, _, hr 1 _ rfl, _, hr 2 _ rfl, local_mk (vs := encRt (x0, x1, x2)) rfl rfl fun H9 e9 z9 b9 => ?_⟩⟩
    have x9 := x7.trans e9
    have q6 := (Blk.host ((b1.ext e7).ext e9)).2.2.2.2.2.2.1
    unfold RtOk at hbad
    dsimp only at hbad
    refine ⟨x0, b9.rd0 rfl, iteB_dec (fun d => bad _ x9 (hbad (by omega))) (fun f1 => ⟨x0, b9.rd0 rfl, iteB_dec (fun d => bad _ x9 (hbad (by omega))) (fun f2 => ⟨x1, b9.rd (i := 1) rfl, iteB_dec (fun d => bad _ x9 (hbad (by omega))) (fun f3 => ⟨x1, b9.rd (i := 1) rfl, iteB_dec (fun d => bad _ x9 (hbad (by omega))) (fun f4 => ⟨x2, b9.rd (i := 2) rfl, iteB_dec (fun d => bad _ x9 (hbad (by omega))) (fun f5 => ⟨x2, b9.rd (i := 2) rfl, _, q6, iteB_dec (fun d => bad _ x9 (hbad (by omega))) (fun f6 => letV_mk _ rfl (next1 hkn (by omega) ⟨e7.trans e9, fun i hi => ?_⟩))⟩)⟩)⟩)⟩)⟩)⟩
    by_cases e : i = k
    · subst e; rw [hxe]; unfold RtOk; dsimp only; omega
    · exact hok i (by omega)
  · rw [decide_eq_true]
    simp at d1 d2 d3 d4 d5
    exact ⟨by omega, by omega, by omega, d1, d2, d3, d4, d5, all_of_getD (Q := RtOk h.links.length) (0, 0, 0) (fun i hi => hok i (by omega))⟩

def spaceF (h : Host) (c : Int) : List Rg := if c = 0 then freeF h.io h.fio else if c = 1 then freeF h.mem h.fix else freeF h.high h.fix

theorem freeF_valid {l f : List Rg} (hl : ValidR l) (hf : ValidR f) (hn : l.length + f.length ≤ 1024) : ValidR (freeF l f) ∧ Asc (freeF l f) := by
  obtain ⟨vm, am⟩ := hl.merge
  have hl1 : ∀ x ∈ l, 1 ≤ x.2 := fun x hx => (hl.2 x hx).1
  have hml := (mergeF_spec hl1).2.2
  have key : ∀ (g m : List Rg), (∀ x ∈ g, 1 ≤ x.2) → Asc m → (∀ r ∈ m, RgOk r) → Asc (g.foldl rmF m) ∧ (∀ r ∈ g.foldl rmF m, RgOk r) ∧ (g.foldl rmF m).length ≤ m.length + g.length := by
    intro g
    induction g with
    | nil => intro m _ ha hr; exact ⟨ha, hr, by simp⟩
    | cons x g ih =>
      intro m hx ha hr
      have h1 := hx x (by simp)
      obtain ⟨r1, _, r3⟩ := rmF_spec ha h1
      obtain ⟨i1, i2, i3⟩ := ih (rmF m x) (fun y hy => hx y (by simp [hy])) r1 (fun q hq => by
        obtain ⟨f, hf, g1, g2⟩ := r3 q hq
        have := hr f hf
        have := Asc.len r1 q hq
        unfold RgOk at *
        omega)
      refine ⟨i1, i2, ?_⟩
      have := rmF_len1 ha h1
      rw [List.foldl_cons, List.length_cons]
      omega
  obtain ⟨k1, k2, k3⟩ := key f (mergeF l) (fun x hx => (hf.2 x hx).1) am vm.2
  exact ⟨⟨by unfold freeF; omega, k2⟩, k1⟩
theorem ValidR.u64 {l : List Rg} (h : ValidR l) : U64L l := fun r hr => by have := h.2 r hr; unfold RgOk at this; omega
theorem spaceF_valid {h : Host} (hv : ValidH h) (c : Int) : ValidR (spaceF h c) ∧ Asc (spaceF h c) := by
  unfold spaceF
  have a1 := hv.io; have a2 := hv.fio; have a3 := hv.mem; have a4 := hv.fix; have a5 := hv.high
  unfold WithinR at *
  split
  · exact freeF_valid a1.2.1 a2.2.1 (by omega)
  · split
    · exact freeF_valid a3.2.1 a4.2.1 (by omega)
    · exact freeF_valid a5.2.1 a4.2.1 (by omega)

theorem rSpace_spec (h : Host) (s : HostS) (c : Int) (H : Heap) (m : HostM H h s) (hv : ValidH h) : CallsH Try.prog n_ref21_Space #[hostV h s, .int .i64 c] H (RgP (spaceF h c) H) := by
  refine F_ref21_Space_ok _ _ _ _ _ _ _ _ _ ?_
  unfold F_ref21_Space
  refine push_mk (vs := hostL h s) fun H1 e1 z1 b1 => ?_
  obtain ⟨p0, p1, p2, p3, p4, p5, p6, p7⟩ := Blk.host b1
  have m1 := m.ext e1
  have a1 := hv.io.2.1; have a2 := hv.fio.2.1; have a3 := hv.mem.2.1; have a4 := hv.fix.2.1; have a5 := hv.high.2.1
  have fin : ∀ (L : List Rg) v H2, spaceF h c = L → RgP L H1 v H2 → ∃ x : Sl, v = .slice x.p x.n x.c ∧ RgP (spaceF h c) H (.slice x.p x.n x.c) H2 := fun L v H2 hL ⟨o, hv, ho, he⟩ => ⟨o, hv, o, rfl, by rw [hL]; exact own_lo ho e1.size, e1.trans he⟩
  refine iteB_beq (fun d => ⟨_, p1, _, p4, (rFree_spec H1 s.io s.fio h.io h.fio m1.io m1.fio m.uio m.ufio).mono ?_⟩) (fun d => iteB_beq (fun d1 => ⟨_, p2, _, p5, (rFree_spec H1 s.mem s.fix h.mem h.fix m1.mem m1.fix m.umem m.ufix).mono ?_⟩) (fun d1 => ⟨_, p3, _, p5, (rFree_spec H1 s.high s.fix h.high h.fix m1.high m1.fix m.uhigh m.ufix).mono ?_⟩))
  · intro v H2 h2
    rw [if_pos ⟨a1, a2⟩] at h2
    exact fin _ v H2 (by unfold spaceF; rw [if_pos d]) h2
  · intro v H2 h2
    rw [if_pos ⟨a3, a4⟩] at h2
    exact fin _ v H2 (by unfold spaceF; rw [if_neg d, if_pos d1]) h2
  · intro v H2 h2
    rw [if_pos ⟨a5, a4⟩] at h2
    exact fin _ v H2 (by unfold spaceF; rw [if_neg d, if_neg d1]) h2

end Go.Proofs.Ytnhhncjflnlfaaa
end

section
/-
  The contracts of WindowSize, the program's and the reference's.
-/
namespace Go.Proofs.Ytnhhncjflnlfaaa
open Go.Eng

theorem take_succ_getD {l : List Int} {k : Nat} (h : k < l.length) : l.take (k + 1) = l.take k ++ [l.getD k 0] := by
  rw [List.take_add_one]
  simp [List.getD, h]

theorem pw_code {x : Int} (h : 0 ≤ x ∧ x ≤ 44) : IntKind.u64.wrap ((1 : Int) * 2 ^ (min x.toNat IntKind.u64.bits)) = 2 ^ x.toNat := by
  have hp := pow44 h
  rw [Nat.min_eq_left (by show x.toNat ≤ 64; omega), Int.one_mul]
  exact u64_in (by omega)

theorem InS.take {l : List Int} {k : Nat} (h : InS (l.take k)) (hk : k < l.length) (hx : 0 ≤ l.getD k 0 ∧ l.getD k 0 ≤ 44) : InS (l.take (k + 1)) := by
  rw [take_succ_getD hk]
  intro x hm
  simp only [List.mem_append, List.mem_singleton] at hm
  rcases hm with hm | rfl
  · exact h x hm
  · exact hx

theorem inS_at {l : List Int} (h : InS l) {k : Nat} (hk : k < l.length) : 0 ≤ l.getD k 0 ∧ l.getD k 0 ≤ 44 := h _ (by simp [List.getD, hk])


theorem rWindowSize_spec (H : Heap) (s : Sl) (l : List Int) (c : Int) (hot : Bool) (h : Ints .i64 H s l) (hl9 : l.length ≤ 9223372036854775807) :
    CallsH Try.prog n_ref18_WindowSize #[.slice s.p s.n s.c, .int .i64 c, .bool hot] H (fun v H' => v = wszV l c hot ∧ H' = H) := by
  refine F_ref18_WindowSize_ok _ _ _ ?_
  unfold F_ref18_WindowSize
  have hn := h.len
  have no : ¬ WOk l c hot → (.tuple #[.int .i64 0, .bool false] : Value) = wszV l c hot ∧ H = H := fun hh => ⟨(wsz_no hh).symm, rfl⟩
  refine ⟨fun H' => H' = H ∧ ¬ (l = [] ∧ hot = false) ∧ l.length ≤ 1024 ∧ (0 ≤ c ∧ c < 3), ?_, ?_⟩
  · refine iteB_d (fun c1 => no (fun hw => by have := hw.2.2.1; omega)) (fun c1 => iteB_d (fun c2 => no (fun hw => by have := hw.2.2.1; omega)) (fun c2 => iteB_d (fun c3 => no (fun hw => by have := hw.2.1; omega)) (fun c3 => ?_)))
    refine iteB_beq (fun c0 => iteB_not (fun c1 => no (fun hw => hw.1 ⟨List.eq_nil_of_length_eq_zero (by omega), c1⟩)) (fun c1 => ⟨rfl, fun hh => (by rw [hh.2] at c1; cases c1), by omega, by omega⟩)) (fun c0 => ⟨rfl, fun hh => c0 (by rw [hn, hh.1]; rfl), by omega, by omega⟩)
  rintro H1 ⟨rfl, hne, hlen, hc⟩
  unfold F_ref18_WindowSize_k6
  refine loop2 l.length (fun k sum H' => H' = H1 ∧ sum = sumW (l.take k) ∧ InS (l.take k)) ⟨rfl, rfl, fun x hx => by simp at hx⟩ ?_
  rintro k sum H2 hk ⟨rfl, rfl, hin⟩
  unfold F_ref18_WindowSize_r5
  have hsum := sum_lt hin (by simp; omega)
  have hs0 := (sumW_range hin).1
  refine iteB_d (fun c1 => ?_) (fun c1 => ?_)
  · have hkn : k < l.length := by omega
    obtain ⟨a, hp, hr⟩ := Ints.atN h hkn
    refine ⟨by omega, by omega, unSome_mk hp ⟨_, hr, iteB_d (fun c2 => no (fun hw => by have := inS_at hw.2.2.2 hkn; omega)) (fun c2 => ⟨by omega, by omega, unSome_mk hp ⟨_, hr, iteB_d (fun c3 => no (fun hw => by have := inS_at hw.2.2.2 hkn; omega)) (fun c3 => ⟨by omega, by omega, unSome_mk hp ⟨_, hr, ?_⟩⟩)⟩⟩)⟩⟩
    have hx : 0 ≤ l.getD k 0 ∧ l.getD k 0 ≤ 44 := by omega
    have hp44 := pow44 hx
    rw [u64_in (n := l.getD k 0) (by omega)]
    refine ⟨by omega, letV_mk (sumW (l.take (k + 1))) ?_ (letV_mk _ rfl (next2 hkn (by omega) ⟨rfl, rfl, hin.take hkn hx⟩))⟩
    rw [pw_code hx, take_succ_getD hkn, sumW_append]
    exact u64_in (by omega)
  · have hkl : k = l.length := by omega
    subst hkl
    rw [List.take_length] at *
    have hok : WOk l c hot := ⟨hne, hlen, hc, hin⟩
    refine ⟨fun w H' => H' = H2 ∧ w = (if c = 0 then 12 else 20), iteB_beq (fun d => ⟨rfl, by rw [if_pos d]⟩) (fun d => ⟨rfl, by rw [if_neg d]⟩), ?_⟩
    rintro w H3 ⟨rfl, hw⟩
    unfold F_ref18_WindowSize_k4
    refine ⟨fun w H' => H' = H3 ∧ w = (least c hot : Int), ⟨fun x H' => H' = H3 ∧ x = (hot && (c == 0)), iteB_intro (fun d => ⟨rfl, by rw [d]; rfl⟩) (fun d => ⟨rfl, by rw [d]; rfl⟩), ?_⟩, ?_⟩
    · rintro x H4 ⟨rfl, hx⟩
      unfold F_ref18_WindowSize_k1
      refine iteB_intro (fun d => letV_mk (least c hot : Int) ?_ ⟨rfl, rfl⟩) (fun d => iteB_intro (fun d2 => letV_mk (least c hot : Int) ?_ ⟨rfl, rfl⟩) (fun d2 => ⟨rfl, ?_⟩))
      · rw [d] at hx
        have : hot = true ∧ c = 0 := by simpa using hx.symm
        unfold least
        rw [hw, if_pos this.2, if_pos this.2]; rfl
      · rw [d, d2] at hx
        have hc0 : c ≠ 0 := fun e => by rw [e] at hx; simp at hx
        unfold least
        rw [hw, if_neg hc0, if_neg hc0, if_pos d2]; rfl
      · unfold least
        by_cases c0 : c = 0
        · rw [hw, if_pos c0, if_pos c0]; rfl
        · rw [hw, if_neg c0, if_neg c0, if_neg (by rw [d2]; simp)]; rfl
    rintro w3 H5 ⟨rfl, rfl⟩
    unfold F_ref18_WindowSize_k3
    have hle : least c hot ≤ 22 := by unfold least; split <;> (try split) <;> omega
    refine ⟨fun w H' => H' = H5 ∧ ∃ m : Nat, w = m ∧ least c hot ≤ m ∧ m ≤ 55 ∧ (m = least c hot ∨ (2 : Int) ^ (m - 1) < sumW l), fun w _ => (100 - w).toNat, ⟨rfl, least c hot, rfl, Nat.le_refl _, by omega, .inl rfl⟩, ?_⟩
    rintro w4 H6 ⟨rfl, m, rfl, hm1, hm2, hm3⟩
    unfold F_ref18_WindowSize_r2
    have hu : IntKind.u64.wrap ((m : Nat) : Int) = m := u64_in (by omega)
    rw [hu]
    have hpw : IntKind.u64.wrap ((1 : Int) * 2 ^ (min ((m : Nat) : Int).toNat IntKind.u64.bits)) = 2 ^ m := by
      rw [Int.toNat_natCast, Nat.min_eq_left (by show m ≤ 64; omega), Int.one_mul]
      have h1 := pow_mono (a := m) (b := 55) (by omega)
      have h2 : (2 : Int) ^ 55 = 36028797018963968 := by decide
      have h3 : (0 : Int) < 2 ^ m := Int.pow_pos (by omega)
      exact u64_in (by omega)
    rw [hpw]
    refine ⟨by omega, iteB_d (fun d => letV_mk ((m + 1 : Nat) : Int) (i64_succ (by omega)) ⟨⟨rfl, m + 1, rfl, by omega, ?_, .inr (by simpa using d)⟩, by dsimp only; omega⟩) (fun d => ⟨(wsz_of hok ⟨hm1, by omega, hm3⟩).symm, rfl⟩)⟩
    have h2 : (2 : Int) ^ 54 = 18014398509481984 := by decide
    by_cases hm54 : m ≤ 54
    · omega
    · have := pow_mono (a := 54) (b := m) (by omega)
      omega

end Go.Proofs.Ytnhhncjflnlfaaa
end

section
/-
  Classes: the contracts of prefAbove, classOf, Class, and of the reference's above, bar, Class.
-/
namespace Go.Proofs.Ytnhhncjflnlfaaa
open Go.Eng

def abF (T : List FS) : Nat → Int → Bool
  | 0, _ => true
  | n + 1, i => if i < 0 then true else if (fnAt T i.toNat).pref = false then false else abF T n (fnAt T i.toNat).parent
/-- All bridges above function 'i' have a wide window. -/
def aboveF (T : List FS) (i : Nat) : Bool := abF T (T.length + 1) (fnAt T i).parent

theorem abF_neg {T : List FS} {i : Int} (h : i < 0) : ∀ m, abF T m i = true
  | 0 => rfl
  | m + 1 => by unfold abF; rw [if_pos h]

theorem abF_fuel {T : List FS} (hv : ValidT T) (n : Nat) : ∀ (i : Int), i < T.length → i.toNat + 1 ≤ n → abF T n i = abF T (i.toNat + 1) i := by
  induction n using Nat.strongRecOn with
  | _ n ih =>
    intro i hi h
    obtain ⟨m, rfl⟩ : ∃ m, n = m + 1 := ⟨n - 1, by omega⟩
    by_cases c0 : i < 0
    · rw [abF_neg c0, abF_neg c0]
    · unfold abF
      rw [if_neg c0, if_neg c0]
      split
      · rfl
      · have hp := (hv.2 i.toNat (by omega)).pa
        by_cases c : (fnAt T i.toNat).parent < 0
        · rw [abF_neg c, abF_neg c]
        · rw [ih m (by omega) _ (by omega) (by omega), ih i.toNat (by omega) _ (by omega) (by omega)]

theorem abF_step {T : List FS} (hv : ValidT T) {m : Nat} (hm : m < T.length) (hp : (fnAt T m).pref = true) : abF T ((m : Int).toNat + 1) m = abF T ((fnAt T m).parent.toNat + 1) (fnAt T m).parent := by
  have hpa := (hv.2 m hm).pa
  conv => lhs; unfold abF
  rw [if_neg (by omega), Int.toNat_natCast, if_neg (by rw [hp]; simp)]
  by_cases c : (fnAt T m).parent < 0
  · rw [abF_neg c, abF_neg c]
  · exact abF_fuel hv m _ (by omega) (by omega)


theorem above_spec (T : List FS) (s : Sl) (i : Nat) (H : Heap) (h : Topo H s T) (hv : ValidT T) (hi : i < T.length) :
    CallsH Try.prog n_ref18_above #[.slice s.p s.n s.c, .int .i64 i] H (fun v H' => v = .bool (aboveF T i) ∧ H' = H) := by
  refine F_ref18_above_ok _ _ ?_
  unfold F_ref18_above
  have hn := h.len
  obtain ⟨a, hp, hr⟩ := h.at hi
  have hpa := (hv.2 i hi).pa
  refine ⟨by omega, by omega, unSome_mk hp ⟨_, (rdFn hr).1, fun j H' => H' = H ∧ -1 ≤ j ∧ j < T.length ∧ aboveF T i = abF T (j.toNat + 1) j, fun j _ => (j + 1).toNat, ⟨rfl, by omega, by omega, abF_fuel hv _ _ (by omega) (by omega)⟩, ?_⟩⟩
  rintro j H1 ⟨rfl, hj0, hj, hab⟩
  unfold F_ref18_above_r1
  refine iteB_d (fun c => ?_) (fun c => ⟨by rw [hab]; unfold abF; rw [if_pos (by omega)], rfl⟩)
  obtain ⟨m, rfl⟩ := Int.eq_ofNat_of_zero_le c
  obtain ⟨b, hq, hr2⟩ := h.at (i := m) (by omega)
  obtain ⟨r0, _, _, _, _, r5, _⟩ := rdFn hr2
  have hpm := (hv.2 m (by omega)).pa
  refine ⟨by omega, by omega, unSome_mk hq ⟨_, r5, iteB_not (fun c1 => ⟨?_, rfl⟩) (fun c1 => ⟨by omega, by omega, unSome_mk hq ⟨_, r0, ⟨rfl, by omega, by omega, ?_⟩, by dsimp only; omega⟩⟩)⟩⟩
  · rw [hab]; unfold abF; rw [if_neg (by omega), Int.toNat_natCast, if_pos c1]
  · rw [hab]; exact abF_step hv (by omega) c1

def classF (T : List FS) (high : Bool) (i : Nat) (k : Int) : Int := if k = 1 then 0 else if k = 4 ∧ high = true ∧ aboveF T i = true then 2 else 1


end Go.Proofs.Ytnhhncjflnlfaaa
end

section
/-
  The needs of one function: the contracts of registers and windows.
-/
namespace Go.Proofs.Ytnhhncjflnlfaaa
open Go.Eng

abbrev Need := Int × Int × Int × Int
def encN (x : Need) : List Value := [.int .i64 x.1, .int .i64 x.2.1, .int .i64 x.2.2.1, .int .i64 x.2.2.2]
theorem encN_len (x : Need) : (encN x).length = 4 := rfl
theorem encN_one (x : Need) : ∀ u ∈ encN x, oneC u = true := fun u hu => by simp [encN] at hu; rcases hu with rfl | rfl | rfl | rfl <;> rfl

def regL (T : List FS) (high : Bool) (i : Nat) (B : List Bar) : Nat → List Need
  | 0 => []
  | j + 1 => regL T high i B j ++ (if bk B j = 0 then [] else [((i : Int), (j : Int), classF T high i (bk B j), bz B j)])
theorem regL_len (T : List FS) (high : Bool) (i : Nat) (B : List Bar) : ∀ n, (regL T high i B n).length ≤ n
  | 0 => by simp [regL]
  | n + 1 => by
    have := regL_len T high i B n
    simp only [regL, List.length_append]
    split <;> simp <;> omega

/-- A list of needs of one's own. -/
structure NeedsP (lo : Nat) (L : List Need) (H : Heap) (v : Value) (H' : Heap) : Prop where
  ex : ∃ out : Sl, v = .slice out.p out.n out.c ∧ Own lo t_api_Need 4 H' out (L.flatMap encN) ∧ out.n = L.length ∧ Ext H H'


/-- Class 'c' of bridge 'i' may have a window. -/
def WCond (T : List FS) (high : Bool) (i c : Nat) : Prop := c = 2 → high = true ∧ (fnAt T i).pref = true ∧ aboveF T i = true
instance (T : List FS) (high : Bool) (i c : Nat) : Decidable (WCond T high i c) := by unfold WCond; infer_instance
def winN (T : List FS) (high : Bool) (i : Nat) (S : Nat → List Int) : Nat → List Need
  | 0 => []
  | c + 1 => winN T high i S c ++ (if WCond T high i c ∧ WOk (S c) c (fnAt T i).hot then [((i : Int), -1 - (c : Int), (c : Int), wszF (S c) c (fnAt T i).hot)] else [])
theorem winN_len (T : List FS) (high : Bool) (i : Nat) (S : Nat → List Int) : ∀ n, (winN T high i S n).length ≤ n
  | 0 => by simp [winN]
  | n + 1 => by
    have := winN_len T high i S n
    simp only [winN, List.length_append]
    split <;> simp <;> omega
def winAll (T : List FS) (high : Bool) (i : Nat) (S : Nat → List Int) : List Need := if (fnAt T i).bridge then winN T high i S 3 else []

abbrev WInv (T : List FS) (high : Bool) (i : Nat) (S : Nat → List Int) (H : Heap) (k : Nat) (out : Sl) (H' : Heap) : Prop :=
  Own H.size t_api_Need 4 H' out ((winN T high i S k).flatMap encN) ∧ out.n = (winN T high i S k).length ∧ Ext H H'



end Go.Proofs.Ytnhhncjflnlfaaa
end

section
/-
  Needs: the tables in memory; one need is counted.
-/
namespace Go.Proofs.Ytnhhncjflnlfaaa
open Go.Eng

abbrev slV (s : Sl) : Value := .slice s.p s.n s.c

def largestF (c : Int) : Int := if c = 0 then 15 else if c = 1 then 31 else 44





end Go.Proofs.Ytnhhncjflnlfaaa
end

section
/-
  Needs: the needs of one function are counted.
-/
namespace Go.Proofs.Ytnhhncjflnlfaaa
open Go.Eng

def addN (par : Int) (S : Nat → List Int) (x : Need) : Nat → List Int := if 0 ≤ par then upd S (par.toNat * 3 + x.2.2.1.toNat) (S (par.toNat * 3 + x.2.2.1.toNat) ++ [x.2.2.2]) else S
def addAll (par : Int) (S : Nat → List Int) (L : List Need) : Nat → List Int := L.foldl (addN par) S
def Over (L : List Need) : Prop := ∃ x ∈ L, x.2.2.2 > largestF x.2.2.1

theorem takeN_succ {L : List Need} {k : Nat} (h : k < L.length) : L.take (k + 1) = L.take k ++ [L.getD k (0, 0, 0, 0)] := by
  rw [List.take_add_one]
  simp [List.getD, h]


end Go.Proofs.Ytnhhncjflnlfaaa
end

section
/-
  The contract of Needs.
-/
namespace Go.Proofs.Ytnhhncjflnlfaaa
open Go.Eng

def ownL (T : List FS) (high : Bool) (i : Nat) (S : Nat → List Int) : List Need := regL T high i (fnAt T i).bars (fnAt T i).bars.length ++ winAll T high i (fun c => if c < 3 then S (i * 3 + c) else [])
/-- The tables after 'k' functions, from the last one on. -/
def nB (T : List FS) (high : Bool) : Nat → (Nat → List Need) × (Nat → List Int)
  | 0 => (fun _ => [], fun _ => [])
  | k + 1 => (upd (nB T high k).1 (T.length - 1 - k) (ownL T high (T.length - 1 - k) (nB T high k).2), addAll (fnAt T (T.length - 1 - k)).parent (nB T high k).2 (ownL T high (T.length - 1 - k) (nB T high k).2))

theorem regL_cl (T : List FS) (high : Bool) (i : Nat) (B : List Bar) : ∀ n, ∀ x ∈ regL T high i B n, 0 ≤ x.2.2.1 ∧ x.2.2.1 < 3
  | 0, x, h => by simp [regL] at h
  | n + 1, x, h => by
    simp only [regL, List.mem_append] at h
    rcases h with h | h
    · exact regL_cl T high i B n x h
    · split at h
      · simp at h
      · simp at h
        subst h
        show 0 ≤ classF T high i (bk B n) ∧ classF T high i (bk B n) < 3
        unfold classF
        split
        · omega
        · split <;> omega
theorem winN_cl (T : List FS) (high : Bool) (i : Nat) (S : Nat → List Int) : ∀ n, n ≤ 3 → ∀ x ∈ winN T high i S n, 0 ≤ x.2.2.1 ∧ x.2.2.1 < 3
  | 0, _, x, h => by simp [winN] at h
  | n + 1, hn, x, h => by
    simp only [winN, List.mem_append] at h
    rcases h with h | h
    · exact winN_cl T high i S n (by omega) x h
    · split at h
      · simp at h
        subst h
        show 0 ≤ (n : Int) ∧ (n : Int) < 3
        omega
      · simp at h
theorem ownL_cl (T : List FS) (high : Bool) (i : Nat) (S : Nat → List Int) : ∀ x ∈ ownL T high i S, 0 ≤ x.2.2.1 ∧ x.2.2.1 < 3 := by
  intro x hx
  simp only [ownL, List.mem_append] at hx
  rcases hx with hx | hx
  · exact regL_cl _ _ _ _ _ x hx
  · unfold winAll at hx
    split at hx
    · exact winN_cl _ _ _ _ 3 (by omega) x hx
    · simp at hx
theorem ownL_len {T : List FS} (hv : ValidT T) (high : Bool) {i : Nat} (hi : i < T.length) (S : Nat → List Int) : (ownL T high i S).length ≤ 9 := by
  have h1 := regL_len T high i (fnAt T i).bars (fnAt T i).bars.length
  have h2 := (hv.2 i hi).va.bl
  have h3 : regs (fnAt T i).bridge ≤ 6 := by unfold regs; split <;> omega
  have h4 : (winAll T high i (fun c => if c < 3 then S (i * 3 + c) else [])).length ≤ 3 := by
    unfold winAll
    split
    · exact winN_len _ _ _ _ 3
    · simp
  simp only [ownL, List.length_append]
  omega

/-- Own needs of function 'i'; all needs. -/
def needsAt (T : List FS) (high : Bool) (i : Nat) : List Need := (nB T high T.length).1 i
def needsAll (T : List FS) (high : Bool) : List Need := (List.range T.length).flatMap (needsAt T high)
def Ovf (T : List FS) (high : Bool) : Prop := ∃ i, i < T.length ∧ Over (needsAt T high i)

theorem nB_keep (T : List FS) (high : Bool) : ∀ d k i, T.length - k ≤ i → (nB T high (k + d)).1 i = (nB T high k).1 i ∨ T.length ≤ k
  | 0, k, i, _ => .inl rfl
  | d + 1, k, i, h => by
    by_cases hk : T.length ≤ k
    · exact .inr hk
    · left
      rcases nB_keep T high d k i h with e | e
      · show upd (nB T high (k + d)).1 (T.length - 1 - (k + d)) _ i = _
        rw [upd_ne (by omega), e]
      · omega

theorem needsAt_eq {T : List FS} {high : Bool} {k i : Nat} (hk : k ≤ T.length) (hi : T.length - k ≤ i) : (nB T high k).1 i = needsAt T high i := by
  have := nB_keep T high (T.length - k) k i hi
  rw [show k + (T.length - k) = T.length by omega] at this
  rcases this with e | e
  · exact e.symm
  · have : k = T.length := by omega
    subst this; rfl

inductive NeedsR (T : List FS) (high : Bool) (H : Heap) : Value → Heap → Prop
  | bad {H' : Heap} (hv : ¬ ValidT T) (he : Ext H H') : NeedsR T high H (.tuple #[.slice none 0 0, .int .i64 1]) H'
  | over {H' : Heap} (hv : ValidT T) (ho : Ovf T high) (he : Ext H H') : NeedsR T high H (.tuple #[.slice none 0 0, .int .i64 11]) H'
  | good {H' : Heap} (out : Sl) (hv : ValidT T) (ho : ¬ Ovf T high) (hs : Own H.size t_api_Need 4 H' out ((needsAll T high).flatMap encN)) (hn : out.n = (needsAll T high).length) (he : Ext H H') : NeedsR T high H (.tuple #[.slice out.p out.n out.c, .int .i64 0]) H'




end Go.Proofs.Ytnhhncjflnlfaaa
end

section
/-
  The contract of Needs, whole.
-/
namespace Go.Proofs.Ytnhhncjflnlfaaa
open Go.Eng

theorem range_flat_succ {α : Type} (f : Nat → List α) (k : Nat) : (List.range (k + 1)).flatMap f = (List.range k).flatMap f ++ f k := by
  rw [List.range_succ, List.flatMap_append]
  simp


theorem zero_vb {H : Heap} {e : TypeId} {z v : Value} {n c : Nat} (hc : z.cells.size = c) (hz : ∀ j, j < c → z.cells[j]! = v) (h0 : 0 < c) : VB (H.push (.cells (zeroRow z n) e (0, 0))) H.size e (n * c) (fun _ => v) := by
  have : zeroRow z n = (tab (n * c) (fun _ => v)).toArray := by
    unfold zeroRow tab
    rw [hc]
    apply Array.ext'
    simp only [Array.toList_map, Array.toList_range]
    apply List.map_congr_left
    intro i _
    exact hz _ (Nat.mod_lt _ h0)
  rw [this]
  exact ⟨[], by simpa using Blk.new H e _⟩


end Go.Proofs.Ytnhhncjflnlfaaa
end

section
/-
  Plain facts about needs: whose they are, and when they are prefetchable.
-/
namespace Go.Proofs.Ytnhhncjflnlfaaa
open Go.Eng

def PrefOk (T : List FS) (high : Bool) (i : Nat) (x : Need) : Prop := x.1 = i ∧ (x.2.2.1 = 2 → high = true ∧ aboveF T i = true)

theorem regL_pref (T : List FS) (high : Bool) (i : Nat) (B : List Bar) : ∀ n, ∀ x ∈ regL T high i B n, PrefOk T high i x
  | 0, x, h => by simp [regL] at h
  | n + 1, x, h => by
    simp only [regL, List.mem_append] at h
    rcases h with h | h
    · exact regL_pref T high i B n x h
    · split at h
      · simp at h
      · simp only [List.mem_singleton] at h
        subst h
        refine ⟨rfl, fun hc => ?_⟩
        have hc' : classF T high i (bk B n) = 2 := hc
        unfold classF at hc'
        split at hc'
        · omega
        · split at hc'
          · rename_i h2; exact ⟨h2.2.1, h2.2.2⟩
          · omega
theorem winN_pref (T : List FS) (high : Bool) (i : Nat) (S : Nat → List Int) : ∀ n, ∀ x ∈ winN T high i S n, PrefOk T high i x
  | 0, x, h => by simp [winN] at h
  | n + 1, x, h => by
    simp only [winN, List.mem_append] at h
    rcases h with h | h
    · exact winN_pref T high i S n x h
    · split at h
      · rename_i hw
        simp only [List.mem_singleton] at h
        subst h
        refine ⟨rfl, fun hc => ?_⟩
        have hc' : (n : Int) = 2 := hc
        have := hw.1 (by omega)
        exact ⟨this.1, this.2.2⟩
      · simp at h
theorem ownL_pref (T : List FS) (high : Bool) (i : Nat) (S : Nat → List Int) : ∀ x ∈ ownL T high i S, PrefOk T high i x := by
  intro x hx
  simp only [ownL, List.mem_append] at hx
  rcases hx with hx | hx
  · exact regL_pref _ _ _ _ _ x hx
  · unfold winAll at hx
    split at hx
    · exact winN_pref _ _ _ _ 3 x hx
    · simp at hx
theorem needsAt_own {T : List FS} {high : Bool} {i : Nat} (hi : i < T.length) : ∃ S, needsAt T high i = ownL T high i S := by
  obtain ⟨m, hm⟩ : ∃ m, T.length - i = m + 1 := ⟨T.length - i - 1, by omega⟩
  refine ⟨(nB T high m).2, ?_⟩
  rw [← needsAt_eq (k := T.length - i) (by omega) (by omega), hm]
  have : T.length - 1 - m = i := by omega
  show upd (nB T high m).1 (T.length - 1 - m) (ownL T high (T.length - 1 - m) (nB T high m).2) i = _
  rw [this, upd_same]
theorem needsAll_pref {T : List FS} {high : Bool} {x : Need} (hx : x ∈ needsAll T high) : ∃ i, i < T.length ∧ PrefOk T high i x := by
  obtain ⟨i, hi, hxi⟩ := List.mem_flatMap.1 hx
  have hi' : i < T.length := List.mem_range.1 hi
  obtain ⟨S, hS⟩ := needsAt_own (high := high) hi'
  rw [hS] at hxi
  exact ⟨i, hi', ownL_pref _ _ _ _ x hxi⟩

end Go.Proofs.Ytnhhncjflnlfaaa
end

section
/-
  ResourcesPrefetchable.
-/
namespace Go.Proofs.Ytnhhncjflnlfaaa
open Go.Eng

/-- What Needs answers for a valid topology. -/
theorem NeedsR.out {T : List FS} {high : Bool} {H H' : Heap} {v : Value} (h : NeedsR T high H v H') (hv : ValidT T) : ∃ (out : Sl) (e : Int) (L : List Need), v = .tuple #[.slice out.p out.n out.c, .int .i64 e] ∧ IsS 4 encN H' out L ∧ ((e = 0 ∧ L = needsAll T high) ∨ (e = 11 ∧ L = [])) ∧ Ext H H' := by
  rcases h with ⟨hn, he⟩ | ⟨_, ho, he⟩ | ⟨out, _, ho, hs, hn, he⟩
  · exact absurd hv hn
  · exact ⟨⟨none, 0, 0⟩, 11, [], rfl, IsS.nil _ _ _, .inr ⟨rfl, rfl⟩, he⟩
  · exact ⟨out, 0, needsAll T high, rfl, hs.isS encN_len (by omega), .inl ⟨rfl, rfl⟩, he⟩

theorem out_mem {T : List FS} {high : Bool} {e : Int} {L : List Need} (h : (e = 0 ∧ L = needsAll T high) ∨ (e = 11 ∧ L = [])) {x : Need} (hx : x ∈ L) : ∃ i, i < T.length ∧ PrefOk T high i x := by
  rcases h with ⟨_, rfl⟩ | ⟨_, rfl⟩
  · exact needsAll_pref hx
  · simp at hx

end Go.Proofs.Ytnhhncjflnlfaaa
end

section
/-
  ResourcesEveryRegister.
-/
namespace Go.Proofs.Ytnhhncjflnlfaaa
open Go.Eng

theorem range_flat_len {T : List FS} {high : Bool} (hv : ValidT T) : ∀ k, k ≤ T.length → ((List.range k).flatMap (needsAt T high)).length ≤ 9 * k
  | 0, _ => by simp
  | k + 1, hk => by
    have ih := range_flat_len (high := high) hv k (by omega)
    obtain ⟨S, hS⟩ := needsAt_own (T := T) (high := high) (i := k) (by omega)
    have := ownL_len hv high (i := k) (by omega) S
    rw [range_flat_succ, List.length_append, hS]
    omega
theorem out_len {T : List FS} {high : Bool} {e : Int} {L : List Need} (hv : ValidT T) (h : (e = 0 ∧ L = needsAll T high) ∨ (e = 11 ∧ L = [])) : L.length ≤ 1000 := by
  rcases h with ⟨_, rfl⟩ | ⟨_, rfl⟩
  · have h1 := range_flat_len (high := high) hv T.length (Nat.le_refl _)
    have h2 := hv.1
    unfold needsAll
    omega
  · simp

/-- How many needs functions before 'i' have. -/
def offN (T : List FS) (high : Bool) (i : Nat) : Nat := ((List.range i).flatMap (needsAt T high)).length

theorem offN_succ (T : List FS) (high : Bool) (i : Nat) : offN T high (i + 1) = offN T high i + (needsAt T high i).length := by
  unfold offN; rw [range_flat_succ, List.length_append]

theorem range_add (n d : Nat) (f : Nat → List Need) : (List.range (n + d)).flatMap f = (List.range n).flatMap f ++ (List.range d).flatMap (fun j => f (n + j)) := by
  rw [List.range_add, List.flatMap_append, List.flatMap_map]

/-- Where the needs of function 'i' stand. -/
theorem needsAll_split {T : List FS} {high : Bool} {i : Nat} (hi : i < T.length) : ∃ post, needsAll T high = (List.range i).flatMap (needsAt T high) ++ (needsAt T high i ++ post) ∧ ∀ x ∈ post, x.1 ≠ i := by
  refine ⟨(List.range (T.length - i - 1)).flatMap (fun j => needsAt T high (i + 1 + j)), ?_, ?_⟩
  · unfold needsAll
    have e : T.length = (i + 1) + (T.length - i - 1) := by omega
    conv => lhs; rw [e]
    rw [range_add, range_flat_succ, List.append_assoc]
  · intro x hx
    obtain ⟨j, hj, hxj⟩ := List.mem_flatMap.1 hx
    have hj' := List.mem_range.1 hj
    obtain ⟨S, hS⟩ := needsAt_own (T := T) (high := high) (i := i + 1 + j) (by omega)
    rw [hS] at hxj
    have := (ownL_pref _ _ _ _ x hxj).1
    omega

theorem needsAll_at {T : List FS} {high : Bool} {i w : Nat} (hi : i < T.length) (hw : w < (needsAt T high i).length) : (needsAll T high)[offN T high i + w]? = (needsAt T high i)[w]? := by
  obtain ⟨post, he, _⟩ := needsAll_split (high := high) hi
  rw [he]
  unfold offN
  rw [List.getElem?_append_right (by omega), Nat.add_sub_cancel_left, List.getElem?_append_left hw]

theorem needsAll_next {T : List FS} {high : Bool} {i : Nat} (hi : i < T.length) {x : Need} (hx : (needsAll T high)[offN T high (i + 1)]? = some x) : x.1 ≠ i := by
  obtain ⟨post, he, hp⟩ := needsAll_split (high := high) hi
  rw [he, offN_succ] at hx
  unfold offN at hx
  rw [List.getElem?_append_right (by omega), Nat.add_sub_cancel_left, List.getElem?_append_right (by omega), Nat.sub_self] at hx
  exact hp x (List.mem_of_getElem? hx)

theorem regL_mono (T : List FS) (high : Bool) (i : Nat) (B : List Bar) (j : Nat) : ∀ d, ∃ r, regL T high i B (j + d) = regL T high i B j ++ r
  | 0 => ⟨[], by simp⟩
  | d + 1 => by
    obtain ⟨r, hr⟩ := regL_mono T high i B j d
    refine ⟨r ++ (if bk B (j + d) = 0 then [] else [((i : Int), ((j + d : Nat) : Int), classF T high i (bk B (j + d)), bz B (j + d))]), ?_⟩
    show regL T high i B (j + d) ++ _ = _
    rw [hr, List.append_assoc]
    rfl

theorem regL_at {T : List FS} {high : Bool} {i : Nat} {B : List Bar} {j : Nat} (hj : j < B.length) (hk : bk B j ≠ 0) : (regL T high i B B.length)[(regL T high i B j).length]? = some ((i : Int), (j : Int), classF T high i (bk B j), bz B j) := by
  obtain ⟨r, hr⟩ := regL_mono T high i B (j + 1) (B.length - (j + 1))
  rw [show j + 1 + (B.length - (j + 1)) = B.length by omega] at hr
  rw [hr]
  simp only [regL]
  rw [if_neg hk, List.append_assoc, List.getElem?_append_right (by omega), Nat.sub_self]
  rfl
theorem regL_len_le {T : List FS} {high : Bool} {i : Nat} {B : List Bar} {j : Nat} (hj : j ≤ B.length) : (regL T high i B j).length ≤ (regL T high i B B.length).length := by
  obtain ⟨r, hr⟩ := regL_mono T high i B j (B.length - j)
  rw [show j + (B.length - j) = B.length by omega] at hr
  rw [hr, List.length_append]
  omega

theorem winN_neg (T : List FS) (high : Bool) (i : Nat) (S : Nat → List Int) : ∀ n, ∀ x ∈ winN T high i S n, x.2.1 < 0
  | 0, x, h => by simp [winN] at h
  | n + 1, x, h => by
    simp only [winN, List.mem_append] at h
    rcases h with h | h
    · exact winN_neg T high i S n x h
    · split at h
      · simp only [List.mem_singleton] at h
        subst h
        show -1 - (n : Int) < 0
        omega
      · simp at h
theorem winAll_neg {T : List FS} {high : Bool} {i : Nat} {S : Nat → List Int} {x : Need} (h : x ∈ winAll T high i S) : x.2.1 < 0 := by
  unfold winAll at h
  split at h
  · exact winN_neg _ _ _ _ 3 x h
  · simp at h

end Go.Proofs.Ytnhhncjflnlfaaa
end

section
/-
  The contracts of Below, the program's and the reference's.
-/
namespace Go.Proofs.Ytnhhncjflnlfaaa
open Go.Eng

theorem rkNeed : RK Try.prog t_sl_api_Need t_api_Need (.agg #[.int .i64 0, .int .i64 0, .int .i64 0, .int .i64 0]) 4 32 encN := ⟨by kernel_rfl, by kernel_rfl, rfl, by omega, by omega, encN_len, encN_one⟩

def belQ (T : List FS) (p c : Int) (x : Need) : Bool := decide (x.2.2.1 = c ∧ (0 ≤ x.1 ∧ x.1 < T.length) ∧ (fnAt T x.1.toNat).parent = p)
def BelOk (T : List FS) (p : Int) : Prop := (-1 ≤ p ∧ p < T.length) ∧ (0 ≤ p → (fnAt T p.toNat).bridge = true)
instance (T : List FS) (p : Int) : Decidable (BelOk T p) := by unfold BelOk; infer_instance
def belF (T : List FS) (N : List Need) (p c : Int) : List Need := if BelOk T p then N.filter (belQ T p c) else []

theorem belF_no {T : List FS} {N : List Need} {p c : Int} (h : ¬ BelOk T p) (lo : Nat) (H : Heap) : NeedsP lo (belF T N p c) H (.slice none 0 0) H := by
  unfold belF
  rw [if_neg h]
  exact ⟨⟨none, 0, 0⟩, rfl, Own.nil _ _ _ _, rfl, .refl _⟩


theorem rBelow_spec (T : List FS) (s ns : Sl) (N : List Need) (p c : Int) (H : Heap) (h : Topo H s T) (hN : IsS 4 encN H ns N) (hl : N.length ≤ 100000) :
    CallsH Try.prog n_ref18_NeedsBelow #[.slice s.p s.n s.c, .slice ns.p ns.n ns.c, .int .i64 p, .int .i64 c] H (NeedsP H.size (belF T N p c) H) := by
  refine F_ref18_NeedsBelow_ok _ _ _ _ ?_
  unfold F_ref18_NeedsBelow
  have hn := h.len
  have hnn := hN.len
  refine ⟨fun H' => H' = H ∧ BelOk T p, iteB_d (fun c1 => belF_no (fun ho => by have := ho.1; omega) _ _) (fun c1 => iteB_d (fun c2 => belF_no (fun ho => by have := ho.1; omega) _ _) (fun c2 => iteB_d (fun c3 => ?_) (fun c3 => ⟨rfl, by omega, fun h0 => absurd h0 c3⟩))), ?_⟩
  · obtain ⟨j, rfl⟩ := Int.eq_ofNat_of_zero_le c3
    obtain ⟨a, hp, hr⟩ := h.at (i := j) (by omega)
    have r4 := (rdFn hr).2.2.2.2.1
    exact ⟨by omega, by omega, unSome_mk hp ⟨_, r4, iteB_not (fun c4 => belF_no (fun ho => by have := ho.2 c3; rw [Int.toNat_natCast, c4] at this; cases this) _ _) (fun c4 => ⟨rfl, by omega, fun _ => by rw [Int.toNat_natCast]; exact c4⟩)⟩⟩
  rintro H1 ⟨rfl, hok⟩
  unfold F_ref18_NeedsBelow_k3
  have hF : belF T N p c = N.filter (belQ T p c) := by unfold belF; rw [if_pos hok]
  rw [hF]
  refine loop2 N.length (fun k out H' => Own H1.size t_api_Need 4 H' out (((N.take k).filter (belQ T p c)).flatMap encN) ∧ Ext H1 H') ⟨Own.nil _ _ _ _, .refl _⟩ ?_
  rintro k out H2 hk ⟨o2, e2⟩
  unfold F_ref18_NeedsBelow_r2
  have hlen := filter_take_len N k (belQ T p c)
  have n2 := Own.len rkNeed o2
  refine iteB_d (fun c1 => ?_) (fun c1 => ?_)
  · have hkn : k < N.length := by omega
    obtain ⟨a, hp, hr⟩ := IsS.atN (hN.ext e2) (0, 0, 0, 0) hkn
    have hfs := filter_succ (0, 0, 0, 0) (belQ T p c) hkn
    generalize N.getD k (0, 0, 0, 0) = x at *
    obtain ⟨x0, x1, x2, x3⟩ := x
    have hr0 := hr 0 _ rfl
    rw [add_add', Nat.add_zero] at hr0
    refine ⟨by omega, by omega, unSome_mk hp ⟨x0, hr0, fun b H' => b = belQ T p c (x0, x1, x2, x3) ∧ H' = H2, ⟨by omega, by omega, unSome_mk hp ⟨_, hr 2 _ rfl, iteB_beq (fun d1 => iteB_d (fun d2 => iteB_d (fun d3 => ⟨by omega, by omega, ?_⟩) (fun d3 => ⟨?_, rfl⟩)) (fun d2 => ⟨?_, rfl⟩)) (fun d1 => ⟨?_, rfl⟩)⟩⟩, ?_⟩⟩
    · obtain ⟨j, rfl⟩ := Int.eq_ofNat_of_zero_le (by omega : 0 ≤ x0)
      obtain ⟨b, hq, hrq⟩ := (h.ext e2).at (i := j) (by omega)
      refine unSome_mk hq ⟨_, (rdFn hrq).1, ?_, rfl⟩
      by_cases d4 : (fnAt T j).parent = p
      · rw [d4]
        symm
        simp only [beq_self_eq_true, belQ, decide_eq_true_eq]
        exact ⟨d1, by omega, d4⟩
      · have : ((fnAt T j).parent == p) = false := by simpa using d4
        rw [this]
        symm
        simp only [belQ, decide_eq_false_iff_not]
        exact fun hh => d4 hh.2.2
    · symm; simp only [belQ, decide_eq_false_iff_not]; intro hh; have := hh.2.1; omega
    · symm; simp only [belQ, decide_eq_false_iff_not]; intro hh; have := hh.2.1; omega
    · symm; simp only [belQ, decide_eq_false_iff_not]; intro hh; exact d1 hh.1
    · rintro b H3 ⟨rfl, rfl⟩
      unfold F_ref18_NeedsBelow_k1
      refine iteB_intro (fun d => ⟨by omega, by omega, unSome_mk hp ⟨_, hr0, _, hr 1 _ rfl, _, hr 2 _ rfl, _, hr 3 _ rfl, ?_⟩⟩) (fun d => letV_mk _ rfl (next2 hkn (by omega) ⟨?_, e2⟩))
      · refine apR rkNeed (x0, x1, x2, x3) (lo := H1.size) o2 (by omega) e2.size ?_
        intro s' H6 ho hn6 m6
        refine letV_mk _ rfl (next2 hkn (by omega) ⟨?_, Mods.ext e2 m6 (blkOf_new o2.new)⟩)
        rw [hfs, d]
        exact ho
      · rw [hfs, d]
        simpa using o2
  · obtain rfl : k = N.length := by omega
    rw [List.take_length] at o2 n2
    exact ⟨out, rfl, o2, n2, e2⟩

end Go.Proofs.Ytnhhncjflnlfaaa
end

section
/-
  The sizes below a bridge, as the tables hold them and as the list of needs tells them: the same but for their order.
-/
namespace Go.Proofs.Ytnhhncjflnlfaaa
open Go.Eng

theorem needsAt_own' {T : List FS} {high : Bool} {i : Nat} (hi : i < T.length) : needsAt T high i = ownL T high i (nB T high (T.length - 1 - i)).2 := by
  rw [← needsAt_eq (k := T.length - 1 - i + 1) (by omega) (by omega)]
  have : T.length - 1 - (T.length - 1 - i) = i := by omega
  show upd (nB T high (T.length - 1 - i)).1 (T.length - 1 - (T.length - 1 - i)) (ownL T high (T.length - 1 - (T.length - 1 - i)) (nB T high (T.length - 1 - i)).2) i = _
  rw [this, upd_same]

/-- The needs of the last 'k' functions. -/
def allFrom (T : List FS) (high : Bool) (k : Nat) : List Need := (List.range k).flatMap (fun j => needsAt T high (T.length - k + j))

theorem allFrom_succ {T : List FS} {high : Bool} {k : Nat} (hk : k < T.length) : allFrom T high (k + 1) = needsAt T high (T.length - 1 - k) ++ allFrom T high k := by
  unfold allFrom
  rw [Nat.add_comm k 1, range_add]
  have h1 : (List.range 1).flatMap (fun j => needsAt T high (T.length - (1 + k) + j)) = needsAt T high (T.length - 1 - k) := by
    simp [List.range_succ]
    congr 1
    omega
  rw [h1]
  congr 1
  congr 1
  funext j
  congr 1
  omega
theorem allFrom_all (T : List FS) (high : Bool) : allFrom T high T.length = needsAll T high := by
  unfold allFrom needsAll
  congr 1
  funext j
  congr 1
  omega

theorem addAll_at (par : Int) (p c : Nat) (hc : c < 3) : ∀ (L : List Need) (S : Nat → List Int), (∀ x ∈ L, 0 ≤ x.2.2.1 ∧ x.2.2.1 < 3) →
    addAll par S L (p * 3 + c) = S (p * 3 + c) ++ (L.filter (fun x : Need => decide (x.2.2.1 = (c : Int) ∧ par = (p : Int)))).map (fun x : Need => x.2.2.2) := by
  intro L
  induction L with
  | nil => intro S _; simp [addAll]
  | cons x L ih =>
    intro S hL
    have hx := hL x (by simp)
    show addAll par (addN par S x) L (p * 3 + c) = _
    rw [ih _ (fun y hy => hL y (by simp [hy]))]
    have key : addN par S x (p * 3 + c) = S (p * 3 + c) ++ (if x.2.2.1 = (c : Int) ∧ par = (p : Int) then [x.2.2.2] else []) := by
      unfold addN
      by_cases h0 : 0 ≤ par
      · rw [if_pos h0]
        by_cases he : x.2.2.1 = (c : Int) ∧ par = (p : Int)
        · have : par.toNat * 3 + x.2.2.1.toNat = p * 3 + c := by omega
          rw [this, upd_same, if_pos he]
        · have : p * 3 + c ≠ par.toNat * 3 + x.2.2.1.toNat := by omega
          rw [upd_ne this, if_neg he, List.append_nil]
      · rw [if_neg h0, if_neg (by omega), List.append_nil]
    rw [key, List.append_assoc]
    congr 1
    rw [List.filter_cons]
    by_cases he : x.2.2.1 = (c : Int) ∧ par = (p : Int)
    · rw [if_pos he, if_pos (by simpa using he)]; rfl
    · rw [if_neg he, if_neg (by simpa using he)]; rfl

theorem needsAt_fst {T : List FS} {high : Bool} {i : Nat} (hi : i < T.length) : ∀ x ∈ needsAt T high i, x.1 = i := fun x hx => by
  rw [needsAt_own' hi] at hx
  exact (ownL_pref _ _ _ _ x hx).1

theorem belQ_at {T : List FS} {high : Bool} {i : Nat} (hi : i < T.length) (p c : Int) : (needsAt T high i).filter (belQ T p c) = (needsAt T high i).filter (fun x => decide (x.2.2.1 = c ∧ (fnAt T i).parent = p)) := by
  apply List.filter_congr
  intro x hx
  have h1 := needsAt_fst hi x hx
  unfold belQ
  rw [h1, Int.toNat_natCast]
  congr 1
  apply propext
  constructor
  · rintro ⟨a, _, b⟩; exact ⟨a, b⟩
  · rintro ⟨a, b⟩; exact ⟨a, by omega, b⟩

theorem tab_perm (T : List FS) (high : Bool) (p c : Nat) (hc : c < 3) : ∀ k, k ≤ T.length → ((nB T high k).2 (p * 3 + c)).Perm (((allFrom T high k).filter (belQ T p c)).map (fun x => x.2.2.2)) := by
  intro k
  induction k with
  | zero => intro _; simp [nB, allFrom]
  | succ k ih =>
    intro hk
    have hi : T.length - 1 - k < T.length := by omega
    have hown : ownL T high (T.length - 1 - k) (nB T high k).2 = needsAt T high (T.length - 1 - k) := by
      rw [needsAt_own' hi]
      congr 1
      rw [show T.length - 1 - (T.length - 1 - k) = k by omega]
    have h1 : (nB T high (k + 1)).2 = addAll (fnAt T (T.length - 1 - k)).parent (nB T high k).2 (needsAt T high (T.length - 1 - k)) := by
      rw [← hown]; rfl
    rw [h1, addAll_at _ p c hc _ _ (by rw [← hown]; exact ownL_cl _ _ _ _), allFrom_succ (by omega), List.filter_append, List.map_append, belQ_at hi]
    exact (List.Perm.append_right _ (ih (by omega))).trans List.perm_append_comm

/-- Only later functions lie below a bridge. -/
theorem bel_later {T : List FS} {high : Bool} (hv : ValidT T) {i : Nat} (hi : i < T.length) (c : Int) : (needsAll T high).filter (belQ T i c) = (allFrom T high (T.length - 1 - i)).filter (belQ T i c) := by
  have step : ∀ d, T.length - 1 - i + d ≤ T.length → (allFrom T high (T.length - 1 - i + d)).filter (belQ T i c) = (allFrom T high (T.length - 1 - i)).filter (belQ T i c) := by
    intro d
    induction d with
    | zero => intro _; rfl
    | succ d ih =>
      intro hd
      rw [show T.length - 1 - i + (d + 1) = T.length - 1 - i + d + 1 by omega, allFrom_succ (by omega), List.filter_append, ih (by omega)]
      have hj : T.length - 1 - (T.length - 1 - i + d) < T.length := by omega
      have : (needsAt T high (T.length - 1 - (T.length - 1 - i + d))).filter (belQ T i c) = [] := by
        rw [belQ_at hj, List.filter_eq_nil_iff]
        intro x hx
        have := (hv.2 _ hj).pa
        simp
        omega
      rw [this, List.nil_append]
  rw [← allFrom_all]
  have := step (i + 1) (by omega)
  rw [show T.length - 1 - i + (i + 1) = T.length by omega] at this
  exact this

theorem sumW_perm {l m : List Int} (h : l.Perm m) : sumW l = sumW m := by
  induction h with
  | nil => rfl
  | cons x _ ih => simp only [sumW, ih]
  | swap x y l => simp only [sumW]; omega
  | trans _ _ a b => exact a.trans b
theorem WOk_perm {l m : List Int} (h : l.Perm m) (c : Int) (hot : Bool) : WOk l c hot ↔ WOk m c hot := by
  have key : ∀ {l m : List Int}, l.Perm m → WOk l c hot → WOk m c hot := fun {l m} h ⟨a, b, d, e⟩ =>
    ⟨fun ⟨x, y⟩ => a ⟨by subst x; exact h.eq_nil, y⟩, by rw [← h.length_eq]; exact b, d, fun x hx => e x (h.mem_iff.2 hx)⟩
  exact ⟨key h, key h.symm⟩
theorem wszF_perm {l m : List Int} (h : l.Perm m) (c : Int) (hot : Bool) : wszF l c hot = wszF m c hot := by
  unfold wszF
  rw [sumW_perm h]
  by_cases hw : WOk l c hot
  · rw [if_pos hw, if_pos ((WOk_perm h c hot).1 hw)]
  · rw [if_neg hw, if_neg (fun hh => hw ((WOk_perm h c hot).2 hh))]

/-- The sizes of the needs of a list below bridge 'i' in class 'c'. -/
def belS (T : List FS) (N : List Need) (i : Nat) (c : Int) : List Int := (N.filter (belQ T i c)).map (fun x => x.2.2.2)

theorem wszF_isW {l : List Int} {c : Int} {hot : Bool} (h : WOk l c hot) : ∃ w : Nat, wszF l c hot = w ∧ IsW (least c hot) (sumW l) w := by
  have hs := sum_lt h.2.2.2 h.2.1
  have h1 : sumW l ≤ 2 ^ (least c hot + 64) := by
    have := pow_mono (a := 64) (b := least c hot + 64) (by omega)
    have e : (2 : Int) ^ 64 = 18446744073709551616 := by decide
    omega
  exact ⟨_, by unfold wszF; rw [if_pos h], wup_isW _ 64 _ h1⟩

def NeedsIs (T : List FS) (high : Bool) (e : Int) (L : List Need) : Prop := (¬ ValidT T ∧ e = 1 ∧ L = []) ∨ (ValidT T ∧ Ovf T high ∧ e = 11 ∧ L = []) ∨ (ValidT T ∧ ¬ Ovf T high ∧ e = 0 ∧ L = needsAll T high)

theorem NeedsIs.uni {T : List FS} {high : Bool} {e e' : Int} {L L' : List Need} (h : NeedsIs T high e L) (h' : NeedsIs T high e' L') : e = e' ∧ L = L' := by
  rcases h with ⟨a, rfl, rfl⟩ | ⟨a, b, rfl, rfl⟩ | ⟨a, b, rfl, rfl⟩ <;> rcases h' with ⟨a', rfl, rfl⟩ | ⟨a', b', rfl, rfl⟩ | ⟨a', b', rfl, rfl⟩ <;> first | exact ⟨rfl, rfl⟩ | contradiction

theorem NeedsR.outI {T : List FS} {high : Bool} {H H' : Heap} {v : Value} (h : NeedsR T high H v H') : ∃ (out : Sl) (e : Int) (L : List Need), v = .tuple #[.slice out.p out.n out.c, .int .i64 e] ∧ IsS 4 encN H' out L ∧ NeedsIs T high e L ∧ Ext H H' := by
  rcases h with ⟨hn, he⟩ | ⟨hv, ho, he⟩ | ⟨out, hv, ho, hs, hn, he⟩
  · exact ⟨⟨none, 0, 0⟩, 1, [], rfl, IsS.nil _ _ _, .inl ⟨hn, rfl, rfl⟩, he⟩
  · exact ⟨⟨none, 0, 0⟩, 11, [], rfl, IsS.nil _ _ _, .inr (.inl ⟨hv, ho, rfl, rfl⟩), he⟩
  · exact ⟨out, 0, needsAll T high, rfl, hs.isS encN_len (by omega), .inr (.inr ⟨hv, ho, rfl, rfl⟩), he⟩
theorem NeedsIs.len {T : List FS} {high : Bool} {e : Int} {L : List Need} (h : NeedsIs T high e L) : L.length ≤ 1000 := by
  rcases h with ⟨a, rfl, rfl⟩ | ⟨a, b, rfl, rfl⟩ | ⟨a, b, rfl, rfl⟩
  · simp
  · simp
  · exact out_len (high := high) (e := 0) a (.inl ⟨rfl, rfl⟩)

end Go.Proofs.Ytnhhncjflnlfaaa
end

section
/-
  The contracts of Class, the program's and the reference's.
-/
namespace Go.Proofs.Ytnhhncjflnlfaaa
open Go.Eng

def bkI (B : List Bar) (i : Int) : Int := if 0 ≤ i then bk B i.toNat else 0
def bzI (B : List Bar) (i : Int) : Int := if 0 ≤ i then bz B i.toNat else 0
theorem bk_out {B : List Bar} {i : Nat} (h : B.length ≤ i) : bk B i = 0 ∧ bz B i = 0 := by
  unfold bk bz
  simp [List.getD, List.getElem?_eq_none h]

theorem rbar_spec (f : Fn) (s : Sl) (i : Int) (H : Heap) (h : Bars H s f.bars) :
    CallsH Try.prog n_ref18_bar #[fnV f s, .int .i64 i] H (fun v H' => v = .agg #[.int .i64 (bkI f.bars i), .int .i64 (bzI f.bars i)] ∧ Ext H H') := by
  refine F_ref18_bar_ok _ _ _ _ _ _ _ _ _ _ _ _ ?_
  unfold F_ref18_bar
  have hn := h.len
  refine push_mk (vs := fnL f s) fun H1 e1 z1 b1 => push_mk (vs := encBar (0, 0)) fun H2 e2 z2 b2 => ?_
  have x2 := e1.trans e2
  have wr : ∀ a b : Int, bkI f.bars i = a → bzI f.bars i = b → okRow H2 (⟨H1.size, 0, none⟩ : Addr) 2 ∧ (
      letH (wrs H2 (⟨H1.size, 0, none⟩ : Addr) [.int .i64 a, .int .i64 b]) (fun H3 : Heap =>
      ∃ r : Int, rd H3 (⟨H1.size, 0, none⟩ : Addr) = some (.int .i64 r) ∧ ∃ r1 : Int, rd H3 ((⟨H1.size, 0, none⟩ : Addr).add 1) = some (.int .i64 r1) ∧ (
      (.agg #[.int .i64 r, .int .i64 r1] : Value) = .agg #[.int .i64 (bkI f.bars i), .int .i64 (bzI f.bars i)] ∧ Ext H H3))) := by
    intro a b ha hb
    refine ⟨b2.ok0 (by simp [encBar]), letH_mk ?_⟩
    intro H3 h3
    have b3 : Blk H3 H1.size t_api_Bar (encBar (a, b)) := by rw [h3]; exact b2.wr
    have m3 : Mods [H1.size] H2 H3 := by rw [h3]; exact Mods.wrs (by simp)
    refine ⟨a, b3.rd0 rfl, b, b3.rd (i := 1) rfl, by rw [ha, hb], Mods.ext x2 m3 (by simp; omega)⟩
  refine iteB_d (fun c => wr 0 0 (by unfold bkI; rw [if_neg (by omega)]) (by unfold bzI; rw [if_neg (by omega)])) (fun c => ⟨s, (b1.ext e2).rd (i := 10) rfl, iteB_d (fun c1 => wr 0 0 ?_ ?_) (fun c1 => ?_)⟩)
  · unfold bkI; rw [if_pos (by omega)]; exact (bk_out (by omega)).1
  · unfold bzI; rw [if_pos (by omega)]; exact (bk_out (by omega)).2
  · obtain ⟨k, rfl⟩ := Int.eq_ofNat_of_zero_le (by omega : 0 ≤ i)
    obtain ⟨a, hp, r0, r1⟩ := Bars.atN (h.ext x2) (k := k) (by omega)
    exact ⟨s, (b1.ext e2).rd (i := 10) rfl, by omega, by omega, unSome_mk hp ⟨_, r0, _, r1, wr _ _ (by unfold bkI; rw [if_pos (by omega)]; rfl) (by unfold bzI; rw [if_pos (by omega)]; rfl)⟩⟩

def ClOk (T : List FS) (i k : Int) : Prop := ValidT T ∧ (0 ≤ i ∧ i < T.length) ∧ bkI (fnAt T i.toNat).bars k ≠ 0
instance (T : List FS) (i k : Int) : Decidable (ClOk T i k) := by unfold ClOk; infer_instance
def clsV (T : List FS) (high : Bool) (i k : Int) : Value := if ClOk T i k then .tuple #[.int .i64 (classF T high i.toNat (bkI (fnAt T i.toNat).bars k)), .bool true] else .tuple #[.int .i64 0, .bool false]


theorem rClass_spec (T : List FS) (s : Sl) (high : Bool) (i k : Int) (H : Heap) (h : Topo H s T) :
    CallsH Try.prog n_ref18_Class #[.slice s.p s.n s.c, .bool high, .int .i64 i, .int .i64 k] H (fun v H' => v = clsV T high i k ∧ Ext H H') := by
  refine F_ref18_Class_ok _ _ _ _ ?_
  unfold F_ref18_Class
  have no : ∀ H', Ext H H' → ¬ ClOk T i k → (.tuple #[.int .i64 0, .bool false] : Value) = clsV T high i k ∧ Ext H H' := fun H' he hn => ⟨by unfold clsV; rw [if_neg hn], he⟩
  have hn := h.len
  refine (rVal_spec T s H h).mono ?_
  rintro v H1 ⟨rfl, e1⟩
  refine ⟨_, rfl, iteB_not (fun c => no _ e1 (fun ho => by simp at c; exact c ho.1)) (fun c => iteB_d (fun c1 => no _ e1 (fun ho => by have := ho.2.1; omega)) (fun c1 => iteB_d (fun c2 => no _ e1 (fun ho => by have := ho.2.1; omega)) (fun c2 => ?_)))⟩
  have hv : ValidT T := by simpa using c
  obtain ⟨j, rfl⟩ := Int.eq_ofNat_of_zero_le (by omega : 0 ≤ i)
  have hj : j < T.length := by omega
  obtain ⟨a, hp, hr⟩ := (h.ext e1).at hj
  obtain ⟨p0, p1, p2, p3, p4, p5, p6, p7, p8, p9, p10⟩ := rdFn hr
  refine ⟨by omega, by omega, unSome_mk hp ⟨_, p0, _, p1, _, p2, _, p3, _, p4, _, p5, _, p6, _, p7, _, p8, _, p9, slAt T j, p10, (rbar_spec _ _ k H1 ((h.ext e1).barsAt hj)).mono ?_⟩⟩
  rintro v H2 ⟨rfl, e2⟩
  have x2 := e1.trans e2
  refine ⟨_, _, rfl, iteB_beq (fun c3 => no _ x2 (fun ho => ho.2.2 c3)) (fun c3 => ?_)⟩
  have yes : ∀ H' x, Ext H H' → classF T high j (bkI (fnAt T j).bars k) = x → (.tuple #[.int .i64 x, .bool true] : Value) = clsV T high j k ∧ Ext H H' := fun H' x he hx => ⟨by unfold clsV; rw [if_pos ⟨hv, by omega, c3⟩, Int.toNat_natCast, hx], he⟩
  refine ⟨by omega, by omega, unSome_mk hp ⟨_, e2.rd p0, _, e2.rd p1, _, e2.rd p2, _, e2.rd p3, _, e2.rd p4, _, e2.rd p5, _, e2.rd p6, _, e2.rd p7, _, e2.rd p8, _, e2.rd p9, slAt T j, e2.rd p10, (rbar_spec _ _ k H2 ((h.ext x2).barsAt hj)).mono ?_⟩⟩
  rintro v H3 ⟨rfl, e3⟩
  have x3 := x2.trans e3
  refine ⟨_, _, rfl, iteB_beq (fun c4 => yes _ _ x3 (by unfold classF; rw [if_pos c4])) (fun c4 => ?_)⟩
  have e23 := e2.trans e3
  refine ⟨by omega, by omega, unSome_mk hp ⟨_, e23.rd p0, _, e23.rd p1, _, e23.rd p2, _, e23.rd p3, _, e23.rd p4, _, e23.rd p5, _, e23.rd p6, _, e23.rd p7, _, e23.rd p8, _, e23.rd p9, slAt T j, e23.rd p10, (rbar_spec _ _ k H3 ((h.ext x3).barsAt hj)).mono ?_⟩⟩
  rintro v H4 ⟨rfl, e4⟩
  have x4 := x3.trans e4
  refine ⟨_, _, rfl, iteB_beq (fun c5 => iteB_intro (fun c6 => (above_spec T s j H4 (h.ext x4) hv hj).mono ?_) (fun c6 => yes _ _ x4 (by unfold classF; rw [if_neg c4, if_neg (by rw [c6]; simp)]))) (fun c5 => yes _ _ x4 (by unfold classF; rw [if_neg c4, if_neg (fun hh => c5 hh.1)]))⟩
  rintro v H5 ⟨rfl, rfl⟩
  exact ⟨_, rfl, iteB_intro (fun c7 => yes _ _ x4 (by unfold classF; rw [if_neg c4, if_pos ⟨c5, c6, c7⟩])) (fun c7 => yes _ _ x4 (by unfold classF; rw [if_neg c4, if_neg (by rw [c7]; simp)]))⟩

end Go.Proofs.Ytnhhncjflnlfaaa
end

section
/-
  The contract of the reference's window.
-/
namespace Go.Proofs.Ytnhhncjflnlfaaa
open Go.Eng

def Port (T : List FS) (high : Bool) (i c : Nat) : Prop := (fnAt T i).hot = true ∧ WCond T high i c
instance (T : List FS) (high : Bool) (i c : Nat) : Decidable (Port T high i c) := by unfold Port; infer_instance
def WinR (T : List FS) (high : Bool) (i c : Nat) (l : List Int) : Prop := ¬ (l = [] ∧ ¬ Port T high i c) ∧ WOk l c (fnAt T i).hot
instance (T : List FS) (high : Bool) (i c : Nat) (l : List Int) : Decidable (WinR T high i c l) := by unfold WinR; infer_instance

def winRP (T : List FS) (high : Bool) (i c : Nat) (l : List Int) (H : Heap) (v : Value) (H' : Heap) : Prop :=
  ∃ x b, v = .tuple #[.int .i64 x, .bool b] ∧ (b = true ↔ WinR T high i c l) ∧ (b = true → x = wszF l c (fnAt T i).hot) ∧ Ext H H'

theorem belS_succ {T : List FS} {N : List Need} {i : Nat} {c : Int} {k : Nat} (hk : k < N.length) : belS T (N.take (k + 1)) i c = belS T (N.take k) i c ++ (if belQ T i c (N.getD k (0, 0, 0, 0)) then [(N.getD k (0, 0, 0, 0)).2.2.2] else []) := by
  unfold belS
  rw [filter_succ (0, 0, 0, 0) _ hk, List.map_append]
  congr 1
  split <;> rfl
theorem belS_len (T : List FS) (N : List Need) (i : Nat) (c : Int) : (belS T N i c).length ≤ N.length := by
  unfold belS
  rw [List.length_map]
  exact List.length_filter_le _ _

theorem rwindow_spec (T : List FS) (s ns : Sl) (high : Bool) (i c : Nat) (N : List Need) (H : Heap) (h : Topo H s T) (hv : ValidT T) (hi : i < T.length) (hN : IsS 4 encN H ns N) (hl : N.length ≤ 100000) (hf : ∀ x ∈ N, 0 ≤ x.1 ∧ x.1 < T.length) :
    CallsH Try.prog n_ref18_window #[.slice s.p s.n s.c, .bool high, .int .i64 i, .int .i64 c, .slice ns.p ns.n ns.c] H (winRP T high i c (belS T N i c) H) := by
  refine F_ref18_window_ok _ _ _ _ _ ?_
  unfold F_ref18_window
  have hn := h.len
  have hnn := hN.len
  refine loop2 N.length (fun k out H' => Own H.size t_int 1 H' out ((belS T (N.take k) i c).flatMap (encI .i64)) ∧ Ext H H') ⟨Own.nil _ _ _ _, .refl _⟩ ?_
  rintro k out H1 hk ⟨o1, e1⟩
  unfold F_ref18_window_r4
  have hlen := belS_len T (N.take k) i c
  have hlk : (N.take k).length ≤ k := by simp; omega
  have n1 := Own.len rkInt o1
  refine iteB_d (fun c1 => ?_) (fun c1 => ?_)
  · have hkn : k < N.length := by omega
    obtain ⟨a, hp, hr⟩ := IsS.atN (hN.ext e1) (0, 0, 0, 0) hkn
    have hfs := belS_succ (T := T) (i := i) (c := c) hkn
    have hm := hf _ (getD_mem' (0, 0, 0, 0) hkn)
    generalize N.getD k (0, 0, 0, 0) = x at *
    obtain ⟨x0, x1, x2, x3⟩ := x
    have hr0 := hr 0 _ rfl
    rw [add_add', Nat.add_zero] at hr0
    obtain ⟨j, rfl⟩ := Int.eq_ofNat_of_zero_le (by have := hm.1; exact this : 0 ≤ x0)
    have hjT : j < T.length := by have := hm.2; dsimp only at this; omega
    obtain ⟨b, hq, hrq⟩ := (h.ext e1).at hjT
    refine ⟨fun b H' => b = belQ T i c ((j : Int), x1, x2, x3) ∧ H' = H1, ⟨by omega, by omega, unSome_mk hp ⟨x2, hr 2 _ rfl, iteB_beq (fun d1 => ⟨by omega, by omega, unSome_mk hp ⟨(j : Int), hr0, by omega, by omega, unSome_mk hq ⟨_, (rdFn hrq).1, ?_, rfl⟩⟩⟩) (fun d1 => ⟨?_, rfl⟩)⟩⟩, ?_⟩
    · by_cases d4 : (fnAt T j).parent = i
      · rw [d4]
        symm
        simp only [beq_self_eq_true, belQ, decide_eq_true_eq]
        exact ⟨d1, by omega, d4⟩
      · have : ((fnAt T j).parent == (i : Int)) = false := by simpa using d4
        rw [this]
        symm
        simp only [belQ, decide_eq_false_iff_not]
        exact fun hh => d4 hh.2.2
    · symm; simp only [belQ, decide_eq_false_iff_not]; intro hh; exact d1 hh.1
    · rintro b H3 ⟨rfl, rfl⟩
      unfold F_ref18_window_k1
      refine iteB_intro (fun d => ⟨by omega, by omega, unSome_mk hp ⟨x3, hr 3 _ rfl, ?_⟩⟩) (fun d => letV_mk _ rfl (next2 hkn (by omega) ⟨?_, e1⟩))
      · refine apR rkInt x3 (lo := H.size) o1 (by omega) e1.size ?_
        intro s' H6 ho hn6 m6
        refine letV_mk _ rfl (next2 hkn (by omega) ⟨?_, Mods.ext e1 m6 (blkOf_new o1.new)⟩)
        rw [hfs, d]
        exact ho
      · rw [hfs, d]
        simpa using o1
  · obtain rfl : k = N.length := by omega
    rw [List.take_length] at o1 n1 hlen
    generalize belS T N i c = l at *
    obtain ⟨b, hq, hrq⟩ := (h.ext e1).at hi
    obtain ⟨_, _, _, _, _, r5, r6, _⟩ := rdFn hrq
    refine ⟨fun b H' => (b = true ↔ Port T high i c) ∧ H' = H1, ⟨by omega, by omega, unSome_mk hq ⟨_, r6, iteB_intro (fun d1 => iteB_bne (fun d2 => ⟨?_, rfl⟩) (fun d2 => iteB_intro (fun d3 => ⟨by omega, by omega, unSome_mk hq ⟨_, r5, iteB_intro (fun d4 => (above_spec T s i H1 (h.ext e1) hv hi).mono ?_) (fun d4 => ⟨?_, rfl⟩)⟩⟩) (fun d3 => ⟨?_, rfl⟩))) (fun d1 => ⟨?_, rfl⟩)⟩⟩, ?_⟩
    · simp only [true_iff]
      exact ⟨d1, fun hh => absurd hh (by omega)⟩
    · rintro v H2 ⟨rfl, rfl⟩
      refine ⟨_, rfl, ⟨fun hh => ⟨d1, fun _ => ⟨d3, d4, hh⟩⟩, fun hh => (hh.2 (by omega)).2.2⟩, rfl⟩
    · simp only [Bool.false_eq_true, false_iff]
      intro hh
      have := (hh.2 (by omega)).2.1
      rw [d4] at this; cases this
    · simp only [Bool.false_eq_true, false_iff]
      intro hh
      have := (hh.2 (by omega)).1
      rw [d3] at this; cases this
    · simp only [Bool.false_eq_true, false_iff]
      intro hh
      have := hh.1
      rw [d1] at this; cases this
    · rintro port H6 ⟨hport, rfl⟩
      unfold F_ref18_window_k3
      refine ⟨fun H' => H' = H6 ∧ ¬ (l = [] ∧ ¬ Port T high i c), iteB_beq (fun d => iteB_not (fun d1 => ⟨0, false, rfl, ?_, (fun hh => by cases hh), e1⟩) (fun d1 => ⟨rfl, fun hh => hh.2 (hport.1 d1)⟩)) (fun d => ⟨rfl, fun hh => d (by rw [n1, hh.1]; rfl)⟩), ?_⟩
      · simp only [Bool.false_eq_true, false_iff]
        intro hh
        refine hh.1 ⟨List.eq_nil_of_length_eq_zero (by omega), fun hp => ?_⟩
        have := hport.2 hp
        rw [d1] at this; cases this
      · rintro H7 ⟨rfl, hne⟩
        unfold F_ref18_window_k2
        refine ⟨by omega, by omega, unSome_mk hq ⟨_, r6, (rWindowSize_spec H7 out l c _ (Own.is rkInt o1) (by omega)).mono ?_⟩⟩
        rintro v H8 ⟨rfl, rfl⟩
        exact ⟨_, _, rfl, _, _, rfl, ⟨fun hh => ⟨hne, by simpa using hh⟩, fun hh => by simpa using hh.2⟩, fun _ => rfl, e1⟩

/-- Below a bridge lies something prefetchable only if the bridge has such a window. -/
theorem WinR_iff {T : List FS} {high : Bool} (hv : ValidT T) {i c : Nat} (hi : i < T.length) (hc : c < 3) :
    WinR T high i c (belS T (allFrom T high (T.length - 1 - i)) i c) ↔ WCond T high i c ∧ WOk ((nB T high (T.length - 1 - i)).2 (i * 3 + c)) c (fnAt T i).hot := by
  have hp := tab_perm T high i c hc (T.length - 1 - i) (by omega)
  have hw := WOk_perm hp c (fnAt T i).hot
  constructor
  · rintro ⟨h1, h2⟩
    refine ⟨fun hc2 => ?_, hw.2 h2⟩
    by_cases hE : belS T (allFrom T high (T.length - 1 - i)) i c = []
    · exact (Decidable.by_contra fun hn => h1 ⟨hE, fun hp => hn (hp.2 hc2)⟩)
    · have : ∃ x, x ∈ (allFrom T high (T.length - 1 - i)).filter (belQ T i c) := by
        cases hL : (allFrom T high (T.length - 1 - i)).filter (belQ T i c) with
        | nil => exact absurd (by unfold belS; rw [hL]; rfl) hE
        | cons x _ => exact ⟨x, by simp⟩
      obtain ⟨x, hx⟩ := this
      obtain ⟨hx1, hx2⟩ := List.mem_filter.1 hx
      obtain ⟨d, hd, hxd⟩ := List.mem_flatMap.1 hx1
      have hd' := List.mem_range.1 hd
      have hj : T.length - (T.length - 1 - i) + d < T.length := by omega
      generalize T.length - (T.length - 1 - i) + d = j at *
      obtain ⟨S, hS⟩ := needsAt_own (high := high) hj
      rw [hS] at hxd
      obtain ⟨g1, g2⟩ := ownL_pref _ _ _ _ x hxd
      simp only [belQ, decide_eq_true_eq] at hx2
      obtain ⟨q1, _, q3⟩ := hx2
      rw [g1, Int.toNat_natCast] at q3
      obtain ⟨g3, g4⟩ := g2 (by omega)
      unfold aboveF at g4
      rw [q3] at g4
      have hpf : (fnAt T i).pref = true := by
        cases hq' : (fnAt T i).pref
        · unfold abF at g4
          rw [if_neg (by omega), Int.toNat_natCast, if_pos hq'] at g4
          cases g4
        · rfl
      refine ⟨g3, hpf, ?_⟩
      rw [abF_fuel hv _ _ (by omega) (by omega), abF_step hv hi hpf] at g4
      have hpa := (hv.2 i hi).pa
      unfold aboveF
      rw [abF_fuel hv _ _ (by omega) (by omega)]
      exact g4
  · rintro ⟨h1, h2⟩
    refine ⟨fun ⟨hE, hn⟩ => ?_, hw.1 h2⟩
    have hS : (nB T high (T.length - 1 - i)).2 (i * 3 + c) = [] := by unfold belS at hE; rw [hE] at hp; exact hp.eq_nil
    refine hn ⟨?_, h1⟩
    cases hq' : (fnAt T i).hot
    · exact absurd ⟨hS, hq'⟩ h2.1
    · rfl

end Go.Proofs.Ytnhhncjflnlfaaa
end

section
/-
  The contract of the reference's Needs.
-/
namespace Go.Proofs.Ytnhhncjflnlfaaa
open Go.Eng

/-- The state between the rounds. -/
def RNI (T : List FS) (high : Bool) (H0 : Heap) (k : Nat) (all : Sl) (bad : Bool) (H : Heap) : Prop :=
  bad = false ∧ Own H0.size t_api_Need 4 H all ((allFrom T high k).flatMap encN) ∧ Ext H0 H ∧ ∀ j, T.length - k ≤ j → j < T.length → ¬ Over (needsAt T high j)

theorem allFrom_fst {T : List FS} {high : Bool} {k : Nat} (hk : k ≤ T.length) : ∀ x ∈ allFrom T high k, 0 ≤ x.1 ∧ x.1 < T.length := by
  intro x hx
  obtain ⟨d, hd, hxd⟩ := List.mem_flatMap.1 hx
  have := List.mem_range.1 hd
  have h2 := needsAt_fst (T := T) (high := high) (i := T.length - k + d) (by omega) x hxd
  omega
theorem allFrom_len {T : List FS} {high : Bool} (hv : ValidT T) : ∀ k, k ≤ T.length → (allFrom T high k).length ≤ 9 * k
  | 0, _ => by simp [allFrom]
  | k + 1, hk => by
    have ih := allFrom_len (high := high) hv k (by omega)
    rw [allFrom_succ (by omega), List.length_append, needsAt_own' (by omega)]
    have := ownL_len hv high (i := T.length - 1 - k) (by omega) (nB T high (T.length - 1 - (T.length - 1 - k))).2
    omega

/-- The check of the sizes of one function, and the end of a round. -/
theorem rneeds_check {T : List FS} {high : Bool} {H0 H2 H11 : Heap} {k i : Nat} {all own : Sl} {I : Sl → Bool → Int → Heap → Prop} {M : Sl → Bool → Int → Heap → Nat} {R : Value → Heap → Prop} (hv : ValidT T) (hk : k < T.length) (hi : i = T.length - 1 - k)
    (ha : RNI T high H0 k all false H2) (e2 : Ext H2 H11) (ho : Own H2.size t_api_Need 4 H11 own ((needsAt T high i).flatMap encN))
    (hR : R = NeedsR T high H0) (hI : I = fun al b j H' => ∃ k : Nat, j = (T.length : Int) - 1 - k ∧ k ≤ T.length ∧ RNI T high H0 k al b H') (hM : M = fun _ _ j _ => (j + 1).toNat) :
    F_ref18_Needs_k3 R I M all false (i : Int) H2 own H11 := by
  subst hR hI hM
  unfold F_ref18_Needs_k3
  have hown := needsAt_own' (T := T) (high := high) (i := i) (by omega)
  have hcl : ∀ x ∈ needsAt T high i, 0 ≤ x.2.2.1 ∧ x.2.2.1 < 3 := by rw [hown]; exact ownL_cl _ _ _ _
  have hlen : (needsAt T high i).length ≤ 9 := by rw [hown]; exact ownL_len hv high (by omega) _
  have hfrom := allFrom_succ (high := high) hk
  rw [← hi] at hfrom
  obtain ⟨_, oa, ea, hno⟩ := ha
  have hal := allFrom_len (high := high) hv k (by omega)
  have n0 := Own.len rkNeed ho
  have is0 := Own.is rkNeed ho
  have hT64 := hv.1
  have hover : Over (needsAt T high i) → Ovf T high := fun h => ⟨i, by omega, h⟩
  generalize hL : needsAt T high i = L at *
  refine loop2 L.length (fun j b H' => (b = true ↔ Over (L.take j)) ∧ H' = H11) ⟨by simp [Over], rfl⟩ ?_
  rintro j b H12 hj ⟨hb, rfl⟩
  unfold F_ref18_Needs_r2
  refine iteB_d (fun c => ?_) (fun c => ?_)
  · have hjn : j < L.length := by omega
    obtain ⟨a, hp, hr⟩ := IsS.atN is0 (0, 0, 0, 0) hjn
    have hc := hcl _ (getD_mem' (0, 0, 0, 0) hjn)
    have htk := take_succ_d (0, 0, 0, 0) hjn
    generalize L.getD j (0, 0, 0, 0) = x at *
    obtain ⟨x0, x1, x2, x3⟩ := x
    dsimp only at hc
    have hstep : Over (L.take (j + 1)) ↔ Over (L.take j) ∨ x3 > largestF x2 := by
      rw [htk]
      unfold Over
      constructor
      · rintro ⟨y, hy, hg⟩
        simp only [List.mem_append, List.mem_singleton] at hy
        rcases hy with hy | rfl
        · exact .inl ⟨y, hy, hg⟩
        · exact .inr hg
      · rintro (⟨y, hy, hg⟩ | hg)
        · exact ⟨y, by simp [hy], hg⟩
        · exact ⟨(x0, x1, x2, x3), by simp, hg⟩
    refine ⟨by omega, by omega, unSome_mk hp ⟨x2, hr 2 _ rfl, by omega, by omega, ?_⟩⟩
    rcases (by omega : x2 = 0 ∨ x2 = 1 ∨ x2 = 2) with rfl | rfl | rfl
    · refine iteB_pos rfl (iteB_intro (fun d => letV_mk _ rfl (next2 hjn (by omega) ⟨by simp only [true_iff]; exact hstep.2 (.inl (hb.1 d)), rfl⟩)) (fun d => ⟨by omega, by omega, unSome_mk hp ⟨x3, hr 3 _ rfl, letV_mk _ rfl (next2 hjn (by omega) ⟨?_, rfl⟩)⟩⟩))
      rw [hstep, ← hb, d]
      simp [largestF]
    · refine iteB_neg rfl (iteB_pos rfl (iteB_intro (fun d => letV_mk _ rfl (next2 hjn (by omega) ⟨by simp only [true_iff]; exact hstep.2 (.inl (hb.1 d)), rfl⟩)) (fun d => ⟨by omega, by omega, unSome_mk hp ⟨x3, hr 3 _ rfl, letV_mk _ rfl (next2 hjn (by omega) ⟨?_, rfl⟩)⟩⟩)))
      rw [hstep, ← hb, d]
      simp [largestF]
    · refine iteB_neg rfl (iteB_neg rfl (iteB_pos rfl (iteB_intro (fun d => letV_mk _ rfl (next2 hjn (by omega) ⟨by simp only [true_iff]; exact hstep.2 (.inl (hb.1 d)), rfl⟩)) (fun d => ⟨by omega, by omega, unSome_mk hp ⟨x3, hr 3 _ rfl, letV_mk _ rfl (next2 hjn (by omega) ⟨?_, rfl⟩)⟩⟩))))
      rw [hstep, ← hb, d]
      simp [largestF]
  · obtain rfl : j = L.length := by omega
    rw [List.take_length] at hb
    have x12 := ea.trans e2
    refine iteB_intro (fun d => .over hv (hover (hb.1 d)) x12) (fun d => ?_)
    have hnover : ¬ Over L := fun hh => by have := hb.2 hh; rw [d] at this; cases this
    refine apA rkNeed (lo := H2.size) ho ((Own.is rkNeed oa).ext e2) (by omega) e2.size ?_
    intro s' H13 o13 n13 m13 _
    have x13 : Ext H2 H13 := Mods.ext e2 m13 (blkOf_new ho.new)
    refine ⟨s', rfl, letV_mk ((T.length : Int) - 1 - (k + 1 : Nat)) (by rw [i64_in (by omega)]; omega) ⟨⟨k + 1, rfl, by omega, d, ?_, ea.trans x13, fun q h1 h2 => ?_⟩, by dsimp only; omega⟩⟩
    · rw [hfrom]; exact own_lo o13 ea.size
    · by_cases e : q = i
      · subst e; rw [hL]; exact hnover
      · exact hno q (by omega) h2

theorem rneeds_round {T : List FS} {s : Sl} {high : Bool} {H0 H2 : Heap} {k i : Nat} {all : Sl} {I : Sl → Bool → Int → Heap → Prop} {M : Sl → Bool → Int → Heap → Nat} (hT : Topo H0 s T) (hv : ValidT T) (hk : k < T.length) (hi : i = T.length - 1 - k)
    (ha : RNI T high H0 k all false H2) (hI : I = fun al b j H' => ∃ k : Nat, j = (T.length : Int) - 1 - k ∧ k ≤ T.length ∧ RNI T high H0 k al b H') (hM : M = fun _ _ j _ => (j + 1).toNat) :
    F_ref18_Needs_r5 (NeedsR T high H0) s high I M all false (i : Int) H2 := by
  unfold F_ref18_Needs_r5
  have hiT : i < T.length := by omega
  have hn := hT.len
  have ea := ha.2.2.1
  have oa := ha.2.1
  have hT2 := hT.ext ea
  have hbl := (hv.2 i hiT).va.bl
  have hrg : regs (fnAt T i).bridge ≤ 6 := by unfold regs; split <;> omega
  have hal := allFrom_len (high := high) hv k (by omega)
  have hT64 := hv.1
  have hkk : T.length - 1 - i = k := by omega
  refine iteB_pos (by simp) ?_
  refine loop2 (fnAt T i).bars.length (fun j own H' => Own H2.size t_api_Need 4 H' own ((regL T high i (fnAt T i).bars j).flatMap encN) ∧ Ext H2 H') ⟨Own.nil _ _ _ _, .refl _⟩ ?_
  rintro j own H3 hj ⟨o3, e3⟩
  unfold F_ref18_Needs_r4
  obtain ⟨a, hp, hr⟩ := (hT2.ext e3).at hiT
  have r10 := (rdFn hr).2.2.2.2.2.2.2.2.2.2
  have hB := (hT2.ext e3).barsAt hiT
  have hbn := hB.len
  have hrl := regL_len T high i (fnAt T i).bars j
  have n3 := Own.len rkNeed o3
  refine ⟨by omega, by omega, unSome_mk hp ⟨_, r10, iteB_d (fun c => ?_) (fun c => ?_)⟩⟩
  · have hjn : j < (fnAt T i).bars.length := by omega
    refine (rClass_spec T s high i j H3 (hT2.ext e3)).mono ?_
    rintro v H4 ⟨rfl, e4⟩
    have hbk : bkI (fnAt T i).bars j = bk (fnAt T i).bars j := by unfold bkI; rw [if_pos (by omega)]; rfl
    by_cases hz : bk (fnAt T i).bars j = 0
    · have hcls : clsV T high i j = .tuple #[.int .i64 0, .bool false] := by unfold clsV; rw [if_neg (fun hh => hh.2.2 (by rw [Int.toNat_natCast, hbk]; exact hz))]
      refine ⟨_, _, hcls, iteB_neg rfl (letV_mk _ rfl (next2 hjn (by omega) ⟨?_, e3.trans e4⟩))⟩
      simp only [regL]; rw [if_pos hz, List.append_nil]; exact o3.ext e4
    · have hcls : clsV T high i j = .tuple #[.int .i64 (classF T high i (bk (fnAt T i).bars j)), .bool true] := by unfold clsV; rw [if_pos ⟨hv, by omega, by rw [Int.toNat_natCast, hbk]; exact hz⟩, Int.toNat_natCast, hbk]
      obtain ⟨b, hq, r0, r1⟩ := Bars.atN (hB.ext e4) hjn
      refine ⟨_, _, hcls, iteB_pos rfl ⟨by omega, by omega, unSome_mk hp ⟨_, e4.rd r10, by omega, by omega, unSome_mk hq ⟨_, r1, ?_⟩⟩⟩⟩
      refine apR rkNeed ((i : Int), (j : Int), classF T high i (bk (fnAt T i).bars j), bz (fnAt T i).bars j) (lo := H2.size) (o3.ext e4) (by omega) (e3.trans e4).size ?_
      intro s' H6 ho hn6 m6
      refine letV_mk _ rfl (next2 hjn (by omega) ⟨?_, Mods.ext (e3.trans e4) m6 (blkOf_new o3.new)⟩)
      simp only [regL]; rw [if_neg hz]; exact ho
  · obtain rfl : j = (fnAt T i).bars.length := by omega
    refine ⟨fun own H' => Own H2.size t_api_Need 4 H' own ((needsAt T high i).flatMap encN) ∧ Ext H2 H', ?_, ?_⟩
    · have hown := needsAt_own' (T := T) (high := high) hiT
      generalize hRL : regL T high i (fnAt T i).bars (fnAt T i).bars.length = RL at *
      have hownL : needsAt T high i = RL ++ winAll T high i (fun c => if c < 3 then (nB T high (T.length - 1 - i)).2 (i * 3 + c) else []) := by rw [hown, ← hRL]; rfl
      generalize hSf : (fun c => if c < 3 then (nB T high (T.length - 1 - i)).2 (i * 3 + c) else []) = Sf at *
      refine loop2 3 (fun c own H' => Own H2.size t_api_Need 4 H' own ((RL ++ (if (fnAt T i).bridge then winN T high i Sf c else [])).flatMap encN) ∧ Ext H2 H') ⟨by simpa [winN] using o3, e3⟩ ?_
      rintro c2 own2 H7 hc2 ⟨o7, e7⟩
      unfold F_ref18_Needs_r1
      obtain ⟨a, hp, hr⟩ := (hT2.ext e7).at hiT
      have r4 := (rdFn hr).2.2.2.2.1
      have n7 := Own.len rkNeed o7
      refine ⟨by omega, by omega, unSome_mk hp ⟨_, r4, iteB_intro (fun d1 => iteB_d (fun d2 => ?_) (fun d2 => ?_)) (fun d1 => ⟨?_, e7⟩)⟩⟩
      · have hc3 : c2 < 3 := by omega
        rw [d1, if_pos rfl] at o7 n7
        have hwl := winN_len T high i Sf c2
        refine (rwindow_spec T s all high i c2 (allFrom T high k) H7 (hT2.ext e7) hv hiT ((Own.is rkNeed oa).ext e7) (by omega) (allFrom_fst (by omega))).mono ?_
        rintro v H8 ⟨x, b, rfl, hb1, hb2, e8⟩
        have hiff := WinR_iff (T := T) (high := high) hv hiT hc3
        have hperm := tab_perm T high i c2 hc3 k (by omega)
        have hSc : Sf c2 = (nB T high k).2 (i * 3 + c2) := by rw [← hSf]; dsimp only; rw [if_pos hc3, hkk]
        rw [hkk, ← hSc] at hiff
        rw [← hSc] at hperm
        refine ⟨x, b, rfl, iteB_intro (fun d3 => ?_) (fun d3 => letV_mk _ rfl (next2 hc3 (by omega) ⟨?_, e7.trans e8⟩))⟩
        · have hw := hiff.1 (hb1.1 d3)
          have hx : x = wszF (Sf c2) c2 (fnAt T i).hot := by rw [hb2 d3]; exact (wszF_perm hperm _ _).symm
          rw [i64_in (n := (-1 : Int) - c2) (by omega), hx]
          rw [List.length_append] at n7
          refine apR rkNeed ((i : Int), -1 - (c2 : Int), (c2 : Int), wszF (Sf c2) c2 (fnAt T i).hot) (lo := H2.size) (o7.ext e8) (by omega) (e7.trans e8).size ?_
          intro s' H10 ho hn10 m10
          refine letV_mk _ rfl (next2 hc3 (by omega) ⟨?_, Mods.ext (e7.trans e8) m10 (blkOf_new o7.new)⟩)
          rw [d1, if_pos rfl]
          simp only [winN]
          rw [if_pos hw, ← List.append_assoc]
          exact ho
        · have hw : ¬ (WCond T high i c2 ∧ WOk (Sf c2) c2 (fnAt T i).hot) := fun hh => by have := hb1.2 (hiff.2 hh); rw [d3] at this; cases this
          rw [d1, if_pos rfl]
          simp only [winN]
          rw [if_neg hw, List.append_nil]
          exact o7.ext e8
      · obtain rfl : c2 = 3 := by omega
        refine ⟨?_, e7⟩
        rw [hownL]
        unfold winAll
        exact o7
      · rw [hownL]
        unfold winAll
        rw [d1] at o7 ⊢
        simpa using o7
    · rintro own4 H11 ⟨o11, e11⟩
      exact rneeds_check hv hk hi ha e11 o11 rfl hI hM

theorem rNeeds_spec (T : List FS) (s : Sl) (high : Bool) (H : Heap) (h : Topo H s T) : CallsH Try.prog n_ref18_Needs #[.slice s.p s.n s.c, .bool high] H (NeedsR T high H) := by
  refine F_ref18_Needs_ok _ _ ?_
  unfold F_ref18_Needs
  refine (rVal_spec T s H h).mono ?_
  rintro v H1 ⟨rfl, e1⟩
  refine ⟨_, rfl, iteB_not (fun c => .bad (by simpa using c) e1) (fun c => ?_)⟩
  have hv : ValidT T := by simpa using c
  have hl64 := hv.1
  have hsn := h.len
  refine letV_mk ((T.length : Int) - 1) (by rw [hsn, i64_in (by omega)]) ⟨fun al b i H' => ∃ k : Nat, i = (T.length : Int) - 1 - k ∧ k ≤ T.length ∧ RNI T high H k al b H', fun _ _ i _ => (i + 1).toNat, ⟨0, by simp, by omega, rfl, Own.nil _ _ _ _, e1, fun j h1 h2 => by omega⟩, ?_⟩
  rintro al b i H4 ⟨k, rfl, hk, h4⟩
  obtain rfl : b = false := h4.1
  by_cases hkT : k = T.length
  · subst hkT
    unfold F_ref18_Needs_r5
    refine iteB_neg (by simp; omega) ?_
    obtain ⟨_, o4, e4, hno⟩ := h4
    rw [allFrom_all] at o4
    refine .good al hv ?_ o4 (Own.len rkNeed o4) e4
    rintro ⟨j, hj, ho⟩
    exact hno j (by omega) hj ho
  · have he : (T.length : Int) - 1 - k = ((T.length - 1 - k : Nat) : Int) := by omega
    rw [he]
    exact rneeds_round h hv (by omega) rfl h4 rfl rfl

end Go.Proofs.Ytnhhncjflnlfaaa
end
