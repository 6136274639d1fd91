/-
  The contracts of the reference's up, Blocks, demand, items, refusal.
-/
import Derived.Test.YtinhkngomojheaaDoorM2
namespace Go.Proofs.YtinhkngomojheaaDoor
open Go.Eng
set_option linter.unusedVariables false

theorem pw_small {w : Nat} (h : w ≤ 60) : (2 : Int) ^ w ≤ 1152921504606846976 := by
  have := pow_mono (a := w) (b := 60) h
  have e : (2 : Int) ^ 60 = 1152921504606846976 := by decide
  omega
theorem pw_52 {w : Nat} (h : w ≤ 52) : (2 : Int) ^ w ≤ 4503599627370496 := by
  have := pow_mono (a := w) (b := 52) h
  have e : (2 : Int) ^ 52 = 4503599627370496 := by decide
  omega
theorem min64 {k : Int} (h0 : 0 ≤ k) (h1 : k ≤ 60) : min (IntKind.u64.wrap k).toNat IntKind.u64.bits = k.toNat := by
  rw [u64_in (n := k) (by omega)]
  exact Nat.min_eq_left (by show k.toNat ≤ 64; omega)
theorem shl1 {k : Int} (h0 : 0 ≤ k) (h1 : k ≤ 60) : IntKind.u64.wrap ((1 : Int) * 2 ^ (min (IntKind.u64.wrap k).toNat IntKind.u64.bits)) = 2 ^ k.toNat := by
  rw [min64 h0 h1, Int.one_mul]
  have := pw_small (w := k.toNat) (by omega)
  have := pow_pos2 k.toNat
  exact u64_in (by omega)


/-! ### counting blocks -/

theorem blkP_le {P : Int} (hP : 0 < P) {r : Rg} (hr : 0 ≤ r.2) : blkP P r * P ≤ r.2 := by
  unfold blkP
  have h1 := (cd_spec (a := r.1) hP).1
  have h2 := (fl_spec (a := r.1 + r.2) hP).1
  by_cases h : 0 ≤ (r.1 + r.2) / P - cd r.1 P
  · rw [show max 0 ((r.1 + r.2) / P - cd r.1 P) = (r.1 + r.2) / P - cd r.1 P by omega, Int.sub_mul]
    omega
  · rw [show max 0 ((r.1 + r.2) / P - cd r.1 P) = 0 by omega, Int.zero_mul]
    exact hr
theorem blkN_le {P B : Int} (hP : 0 < P) : ∀ (l : List Rg) (lo : Int), lo ≤ B → Asc l → (∀ r ∈ l, lo ≤ r.1 ∧ r.1 + r.2 ≤ B) → blkN P l * P ≤ B - lo
  | [], lo, hlo, _, _ => by simp [blkN]; omega
  | r :: l, lo, _, ha, hb => by
    have hr := hb r (by simp)
    have h1 := blkP_le hP (r := r) (by have := ha.1; omega)
    have ih := blkN_le (B := B) hP l (r.1 + r.2) (by omega) ha.2.2 (fun s hs => ⟨by have := ha.2.1 s hs; omega, (hb s (by simp [hs])).2⟩)
    simp only [blkN]
    rw [Int.add_mul]
    omega
theorem blkN_take_le (P : Int) (l : List Rg) (k : Nat) : blkN P (l.take k) ≤ blkN P l := by
  have e := blkN_append P (l.take k) (l.drop k)
  rw [List.take_append_drop] at e
  have := blkN_nn P (l.drop k)
  omega
theorem blkN_succ {P : Int} {l : List Rg} {k : Nat} (hk : k < l.length) : blkN P (l.take (k + 1)) = blkN P (l.take k) + blkP P (l.getD k (0, 0)) := by
  rw [take_succ_d (0, 0) hk, blkN_append]
  simp [blkN]
theorem le_mul_pow (n : Int) (k : Nat) (h : 0 ≤ n) : n ≤ n * 2 ^ k := by
  have h1 := pow_ge1 k
  have := Int.mul_le_mul_of_nonneg_left h1 h
  omega
theorem valid_blk {l : List Rg} (hv : ValidR l) (ha : Asc l) (k : Nat) : blkN (2 ^ k) l * 2 ^ k ≤ 4503599627370496 ∧ blkN (2 ^ k) l ≤ 4503599627370496 := by
  have h1 := blkN_le (B := 4503599627370496) (pow_pos2 k) l 0 (by omega) ha (fun r hr => by have := hv.2 r hr; unfold RgOk at this; omega)
  have h2 := le_mul_pow _ k (blkN_nn (2 ^ k) l)
  omega

/-- The number of blocks, as the reference reckons it. -/
theorem blkP_ref {P : Int} {r : Rg} (hP : 0 < P) : blkP P r = if cd r.1 P * P < r.1 + r.2 then (r.1 + r.2 - cd r.1 P * P) / P else 0 := by
  unfold blkP
  have h2 := fl_spec (a := r.1 + r.2) hP
  split
  · rename_i h
    have e : (r.1 + r.2 - cd r.1 P * P) / P = (r.1 + r.2) / P - cd r.1 P := by
      rw [Int.sub_eq_add_neg, ← Int.neg_mul, Int.add_mul_ediv_right _ _ (by omega), Int.sub_eq_add_neg]
    rw [e]
    have := le_fl (P := P) hP (show cd r.1 P * P ≤ r.1 + r.2 by omega)
    omega
  · rename_i h
    have : (r.1 + r.2) / P * P ≤ cd r.1 P * P := by omega
    have := mul_le_of hP this
    omega

def blkV (l : List Rg) (k : Int) : Int := if (0 ≤ k ∧ k ≤ 52) ∧ ValidR l then blkN (2 ^ k.toNat) (mergeF l) else 0


/-! ### items -/

def ItemsOk (S : List Int) : Prop := S.length ≤ 1024 ∧ InS S
instance (S : List Int) : Decidable (ItemsOk S) := by unfold ItemsOk; infer_instance


/-- The bytes that items of size at least 'k' want. -/
def demI (k : Int) : List Int → Int
  | [] => 0
  | x :: S => (if x ≥ k then 2 ^ x.toNat else 0) + demI k S
theorem demI_append (k : Int) (A B : List Int) : demI k (A ++ B) = demI k A + demI k B := by
  induction A with
  | nil => simp [demI]
  | cons x A ih => simp only [List.cons_append, demI, ih]; omega
theorem demI_range (k : Int) {S : List Int} (h : InS S) : 0 ≤ demI k S ∧ demI k S ≤ S.length * 17592186044416 := by
  induction S with
  | nil => simp [demI]
  | cons x S ih =>
    have hx := pow44 (h x (by simp))
    obtain ⟨h1, h2⟩ := ih (fun y hy => h y (by simp [hy]))
    simp only [demI, List.length_cons]
    split <;> (push_cast; omega)
theorem demI_big {k : Int} {S : List Int} (h : InS S) (hk : 44 < k) : demI k S = 0 := by
  induction S with
  | nil => rfl
  | cons x S ih =>
    have hx := h x (by simp)
    simp only [demI]
    rw [if_neg (by omega), ih (fun y hy => h y (by simp [hy]))]
    rfl
theorem InS.takeN {S : List Int} (h : InS S) (k : Nat) : InS (S.take k) := fun x hx => h x (List.mem_of_mem_take hx)


/-! ### certificates -/

abbrev Cert := Int × Int × Int × Int
abbrev encC (c : Cert) : List Value := [.int .i64 c.1, .int .i64 c.2.1, .int .u64 c.2.2.1, .int .u64 c.2.2.2]
abbrev certV (c : Cert) : Value := .agg #[.int .i64 c.1, .int .i64 c.2.1, .int .u64 c.2.2.1, .int .u64 c.2.2.2]
def noCert : Cert := (0, 0, 0, 0)
def Bad (M : List Rg) (S : List Int) (k : Nat) : Prop := demI k S > blkN (2 ^ k) M * 2 ^ k
instance (M : List Rg) (S : List Int) (k : Nat) : Decidable (Bad M S k) := by unfold Bad; infer_instance
def certF (M : List Rg) (S : List Int) : Nat → Cert
  | 0 => if Bad M S 0 then (0, 0, demI 0 S, blkN (2 ^ 0) M) else noCert
  | k + 1 => if Bad M S (k + 1) then (0, ((k + 1 : Nat) : Int), demI ((k + 1 : Nat) : Int) S, blkN (2 ^ (k + 1)) M) else certF M S k

theorem certF_step (M : List Rg) (S : List Int) (k : Nat) : certF M S k = if Bad M S k then (0, (k : Int), demI k S, blkN (2 ^ k) M) else (if k = 0 then noCert else certF M S (k - 1)) := by
  cases k with
  | zero => rfl
  | succ k => rw [certF, Nat.add_sub_cancel, if_neg (by omega : ¬ k + 1 = 0)]

/-- A result variable of a certificate's kind is written and read. -/
theorem cert_wr {H : Heap} {b : Nat} {c0 c : Cert} {K : Value → Heap → Prop} (hb : Blk H b t_api_Certificate (encC c0)) (hK : ∀ H', Mods [b] H H' → Blk H' b t_api_Certificate (encC c) → K (certV c) H') :
    okRow H (⟨b, 0, none⟩ : Addr) 4 ∧ (letH (wrs H (⟨b, 0, none⟩ : Addr) (encC c)) (fun H5 : Heap =>
      ∃ r : Int, rd H5 (⟨b, 0, none⟩ : Addr) = some (.int .i64 r) ∧ ∃ r1 : Int, rd H5 ((⟨b, 0, none⟩ : Addr).add 1) = some (.int .i64 r1) ∧ ∃ r2 : Int, rd H5 ((⟨b, 0, none⟩ : Addr).add 2) = some (.int .u64 r2) ∧ ∃ r3 : Int, rd H5 ((⟨b, 0, none⟩ : Addr).add 3) = some (.int .u64 r3) ∧ K (certV (r, r1, r2, r3)) H5)) := by
  refine ⟨hb.ok0 (by simp), letH_mk ?_⟩
  intro H' h'
  have b' : Blk H' b t_api_Certificate (encC c) := by rw [h']; exact hb.wr
  have m' : Mods [b] H H' := by rw [h']; exact Mods.wrs (by simp)
  exact ⟨_, b'.rd0 rfl, _, b'.rd (i := 1) rfl, _, b'.rd (i := 2) rfl, _, b'.rd (i := 3) rfl, hK H' m' b'⟩


end Go.Proofs.YtinhkngomojheaaDoor
