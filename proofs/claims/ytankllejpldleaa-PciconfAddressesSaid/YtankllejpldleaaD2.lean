/-
  Contracts of Read and Write.
-/
import Derived.Test.YtankllejpldleaaD1
namespace Go.Proofs.Ytankllejpldleaa
open Go.Eng

def Formed (o w : Int) : Prop := (w = 1 ∨ w = 2 ∨ w = 4) ∧ 0 ≤ o ∧ o < 256 ∧ o % w = 0
instance (o w : Int) : Decidable (Formed o w) := by unfold Formed; infer_instance

theorem Formed.nat {o w : Int} (h : Formed o w) : ∃ a b : Nat, o = a ∧ w = b ∧ a + b ≤ 256 ∧ b ≤ 4 := by
  obtain ⟨h1, h2, h3, h4⟩ := h
  refine ⟨o.toNat, w.toNat, by omega, by omega, ?_, by omega⟩
  rcases h1 with rfl | rfl | rfl <;> omega

theorem wellFormed_spec (o w : Int) (H : Heap) : CallsH Try.prog n_pciconf_wellFormed #[.int .i64 o, .int .i64 w] H (fun v H' => v = .bool (decide (Formed o w)) ∧ H' = H) := by
  refine F_pciconf_wellFormed_ok _ _ ?_
  unfold F_pciconf_wellFormed
  have no : ¬ Formed o w → Value.bool false = Value.bool (decide (Formed o w)) ∧ H = H := fun h => ⟨by rw [decide_eq_false h], rfl⟩
  refine ⟨fun H' => H' = H ∧ (w = 1 ∨ w = 2 ∨ w = 4), ?_, ?_⟩
  · exact iteB_bne (fun c1 => iteB_bne (fun c2 => iteB_bne (fun c3 => no (fun h => by have := h.1; omega)) (fun c3 => ⟨rfl, by omega⟩)) (fun c2 => ⟨rfl, by omega⟩)) (fun c1 => ⟨rfl, by omega⟩)
  rintro H1 ⟨rfl, hw⟩
  unfold F_pciconf_wellFormed_k1
  refine iteB_dec (fun c1 => iteB_dec (fun c2 => ⟨by omega, ?_, rfl⟩) (fun c2 => no (fun h => by have := h.2; omega))) (fun c1 => no (fun h => by have := h.2; omega))
  rw [Int.tmod_eq_emod_of_nonneg c1]
  congr 1
  by_cases hf : o % w = 0
  · rw [decide_eq_true ⟨hw, c1, c2, hf⟩]; simpa using hf
  · rw [decide_eq_false (fun h => hf h.2.2.2)]; simpa using hf

theorem formed_spec (o w : Int) (H : Heap) : CallsH Try.prog n_ref18_formed #[.int .i64 o, .int .i64 w] H (fun v H' => v = .bool (decide (Formed o w)) ∧ H' = H) := by
  refine F_ref18_formed_ok _ _ ?_
  unfold F_ref18_formed
  have no : ¬ Formed o w → Value.bool false = Value.bool (decide (Formed o w)) ∧ H = H := fun h => ⟨by rw [decide_eq_false h], rfl⟩
  have go : (w = 1 ∨ w = 2 ∨ w = 4) → iteB (decide (o ≥ (0 : Int))) (iteB (decide (o ≤ (255 : Int))) (w ≠ 0 ∧ (Value.bool ((o.tmod w) == (0 : Int)) = Value.bool (decide (Formed o w)) ∧ H = H)) (Value.bool false = Value.bool (decide (Formed o w)) ∧ H = H)) (Value.bool false = Value.bool (decide (Formed o w)) ∧ H = H) := by
    intro hw
    refine iteB_dec (fun c1 => iteB_dec (fun c2 => ⟨by omega, ?_, rfl⟩) (fun c2 => no (fun h => by have := h.2; omega))) (fun c1 => no (fun h => by have := h.2; omega))
    rw [Int.tmod_eq_emod_of_nonneg c1]
    congr 1
    by_cases hf : o % w = 0
    · rw [decide_eq_true ⟨hw, c1, by omega, hf⟩]; simpa using hf
    · rw [decide_eq_false (fun h => hf h.2.2.2)]; simpa using hf
  exact iteB_beq (fun c1 => go (by omega)) (fun c1 => iteB_beq (fun c2 => go (by omega)) (fun c2 => iteB_beq (fun c3 => go (by omega)) (fun c3 => no (fun h => by have := h.1; omega))))

theorem number_spec (b : Nat) (ys ms : Nat → Int) (r : Nat → Value) (o w : Nat) (H : Heap) (h : PD H b ys ms r) (hy : Bytes ys) (ho : o + w ≤ 256) (hw : w ≤ 8) :
    CallsH Try.prog n_pciconf_Device_number #[.pointer (some ⟨b, 0, none⟩), .int .i64 o, .int .i64 w] H (fun x H' => x = .int .u64 (numB ys o w) ∧ H' = H) := by
  refine F_pciconf_Device_number_ok _ _ _ ?_
  unfold F_pciconf_Device_number
  refine loop2 w (fun k (v : Int) H' => v = numP ys o k ∧ H' = H) ⟨rfl, rfl⟩ ?_
  rintro k v H1 hk ⟨rfl, rfl⟩
  unfold F_pciconf_Device_number_r1
  refine iteB_dec (fun c => ?_) (fun c => ?_)
  · have hkn : k < w := by omega
    rw [i64_in (n := (8 : Int) * k) (by omega), i64_in (n := (o : Int) + k) (by omega)]
    have e1 : ((o : Int) + k).toNat = o + k := by omega
    have e2 : ((8 : Int) * k).toNat = 8 * k := by omega
    rw [e1, e2, Nat.min_eq_left (by simp [IntKind.bits]; omega)]
    have hb := hy (o + k)
    have hp := numP_range hy o (k + 1)
    have hp0 := numP_range hy o k
    have hpow : (2 : Int) ^ (8 * (k + 1)) ≤ 18446744073709551616 := by
      have : (2 : Int) ^ (8 * (k + 1)) ≤ 2 ^ 64 := by
        have h2 : (2 : Nat) ^ (8 * (k + 1)) ≤ 2 ^ 64 := Nat.pow_le_pow_right (by omega) (by omega)
        exact_mod_cast h2
      have : (2 : Int) ^ 64 = 18446744073709551616 := by decide
      omega
    have hm0 : 0 ≤ ys (o + k) * 2 ^ (8 * k) := Int.mul_nonneg hb.1 (Int.pow_nonneg (by omega))
    simp only [numP] at hp
    refine ⟨by omega, by omega, _, h.rdY (i := o + k) (by omega), by omega, letV_mk (numP ys o (k + 1)) ?_ (next2 hkn (by omega) ⟨rfl, rfl⟩)⟩
    rw [u64_in (n := ys (o + k)) (by omega), u64_in (n := ys (o + k) * 2 ^ (8 * k)) (by omega)]
    exact bitsOr_u64 hp0 hb.1 (by omega)
  · obtain rfl : k = w := by omega
    exact ⟨by rw [numP_numB], rfl⟩

def readF (ys : Nat → Int) (o w : Int) : Int := if Formed o w then numB ys o.toNat w.toNat else 0

theorem Read_spec (b : Nat) (ys ms : Nat → Int) (r : Nat → Value) (o w : Int) (H : Heap) (h : PD H b ys ms r) (hy : Bytes ys) :
    CallsH Try.prog n_pciconf_Device_Read #[.pointer (some ⟨b, 0, none⟩), .int .i64 o, .int .i64 w] H (fun x H' => x = .int .u64 (readF ys o w) ∧ H' = H) := by
  refine F_pciconf_Device_Read_ok _ _ _ ?_
  unfold F_pciconf_Device_Read
  refine (wellFormed_spec o w H).mono ?_
  rintro v H1 ⟨rfl, rfl⟩
  refine ⟨_, rfl, iteB_not (fun c => ?_) (fun c => ?_)⟩
  · have hf : ¬ Formed o w := by simpa using c
    exact ⟨by unfold readF; rw [if_neg hf], rfl⟩
  · have hf : Formed o w := by simpa using c
    obtain ⟨a, b', rfl, rfl, h1, h2⟩ := hf.nat
    refine (number_spec b ys ms r a b' H1 h hy h1 (by omega)).mono ?_
    rintro v H2 ⟨rfl, rfl⟩
    exact ⟨_, rfl, by unfold readF; rw [if_pos hf]; simp, rfl⟩

theorem numT_range {ys : Nat → Int} (h : Bytes ys) (o w : Nat) : ∀ d, 0 ≤ numT ys o w d ∧ numT ys o w d < 256 ^ d := by
  intro d
  induction d with
  | zero => simp [numT]
  | succ d ih =>
    have hy := h (o + (w - (d + 1)))
    simp only [numT]
    rw [Int.pow_succ]
    omega

theorem rRead_spec (b : Nat) (ys ms : Nat → Int) (r : Nat → Value) (o w : Int) (H : Heap) (h : RD H b ys ms r) (hy : Bytes ys) (hw : w = 1 ∨ w = 4) :
    CallsH Try.prog n_ref18_Device_Read #[.pointer (some ⟨b, 0, none⟩), .int .i64 o, .int .i64 w] H (fun x H' => x = .int .u64 (readF ys o w) ∧ H' = H) := by
  refine F_ref18_Device_Read_ok _ _ _ ?_
  unfold F_ref18_Device_Read
  refine letV_mk (w - 1) (i64_in (by omega)) ?_
  refine ⟨fun v i H' => H' = H ∧ (¬ Formed o w → v = 0) ∧ ∃ d : Nat, i = w - 1 - d ∧ (d : Int) ≤ w ∧ (Formed o w → v = numT ys o.toNat w.toNat d), fun _ i _ => (i + 1).toNat, ⟨rfl, fun _ => rfl, 0, by simp, by omega, fun _ => rfl⟩, ?_⟩
  rintro v i H1 ⟨rfl, hv0, d, rfl, hd, hv⟩
  unfold F_ref18_Device_Read_r1
  refine (formed_spec o w H1).mono ?_
  rintro x H2 ⟨rfl, rfl⟩
  refine ⟨_, rfl, iteB_dec (fun hf => ?_) (fun hf => ?_)⟩
  · have hv' := hv hf
    subst hv'
    obtain ⟨h1, h2, h3, h4⟩ := hf
    have how : o + w ≤ 256 := by rcases hw with rfl | rfl <;> omega
    refine iteB_dec (fun c => ?_) (fun c => ?_)
    · have hdw : (d : Int) < w := by omega
      have e1 : IntKind.i64.wrap (o + (w - 1 - d)) = o + (w - 1 - d) := i64_in (by omega)
      have e2 : (o + (w - 1 - d)).toNat = o.toNat + (w.toNat - (d + 1)) := by omega
      rw [e1, e2]
      have hb := hy (o.toNat + (w.toNat - (d + 1)))
      have hr := numT_range hy o.toNat w.toNat d
      have hp : (256 : Int) ^ d ≤ 16777216 := by
        have : d = 0 ∨ d = 1 ∨ d = 2 ∨ d = 3 := by omega
        rcases this with rfl | rfl | rfl | rfl <;> decide
      refine ⟨by omega, by omega, by omega, _, h.rdY (i := o.toNat + (w.toNat - (d + 1))) (by omega), letV_mk (numT ys o.toNat w.toNat (d + 1)) ?_ (letV_mk (w - 1 - ((d + 1 : Nat) : Int)) ?_ ⟨⟨rfl, fun hn => absurd ⟨h1, h2, h3, h4⟩ hn, d + 1, rfl, by omega, fun _ => rfl⟩, ?_⟩)⟩
      · rw [show min (8 : Int).toNat IntKind.u64.bits = 8 from rfl, show (2 : Int) ^ 8 = 256 by decide, u64_in (n := numT ys o.toNat w.toNat d * 256) (by omega), u64_in (n := ys _) (by omega), bitsOr_u64' (by omega) hb (by omega)]
        simp only [numT]
        omega
      · rw [i64_in (by omega)]; omega
      · dsimp only; omega
    · refine ⟨?_, rfl⟩
      have : d = w.toNat := by omega
      unfold readF
      rw [if_pos ⟨h1, h2, h3, h4⟩, this]
      rfl
  · exact ⟨by unfold readF; rw [if_neg hf, hv0 hf], rfl⟩

def wrB (y m x : Int) : Int := bitsOr .u8 (bitsAndNot .u8 y m) (bitsAnd .u8 x m)
theorem wrB_range (y m x : Int) : 0 ≤ wrB y m x ∧ wrB y m x ≤ 255 := by unfold wrB bitsOr; exact u8_range _
theorem wrB_zero {y : Int} (x : Int) (h : 0 ≤ y ∧ y ≤ 255) : wrB y 0 x = y := by
  unfold wrB
  have h1 : bitsAnd .u8 x 0 = 0 := by
    unfold bitsAnd
    rw [show BitVec.ofInt IntKind.u8.bits 0 = 0#_ from rfl, BitVec.and_zero]
    rfl
  have h2 : bitsAndNot .u8 y 0 = y := by
    unfold bitsAndNot
    rw [show BitVec.ofInt IntKind.u8.bits 0 = 0#_ from rfl, BitVec.not_zero, BitVec.and_allOnes]
    rw [BitVec.toNat_ofInt]
    rw [u8_wrap]
    simp [IntKind.bits]
    omega
  rw [h1, h2]
  unfold bitsOr
  rw [show BitVec.ofInt IntKind.u8.bits 0 = 0#_ from rfl, BitVec.or_zero, BitVec.toNat_ofInt, u8_wrap]
  simp [IntKind.bits]
  omega

def wrA (ys ms : Nat → Int) (o w : Nat) (v : Int) (i : Nat) : Int := if o ≤ i ∧ i < o + w then wrB (ys i) (ms i) (byteOf v (i - o)) else ys i
def writeF (ys ms : Nat → Int) (o w v : Int) : Nat → Int := if Formed o w then wrA ys ms o.toNat w.toNat v else ys

theorem wrA_bytes {ys ms : Nat → Int} (h : Bytes ys) (o w : Nat) (v : Int) : Bytes (wrA ys ms o w v) := by
  intro i; unfold wrA; split
  · exact wrB_range _ _ _
  · exact h i
theorem writeF_bytes {ys ms : Nat → Int} (h : Bytes ys) (o w v : Int) : Bytes (writeF ys ms o w v) := by
  unfold writeF; split
  · exact wrA_bytes h _ _ _
  · exact h
theorem writeF_ro {ys ms : Nat → Int} (h : Bytes ys) {o w v : Int} {i : Nat} (hm : ms i = 0) : writeF ys ms o w v i = ys i := by
  unfold writeF
  split
  · unfold wrA
    split
    · rw [hm, wrB_zero _ (h i)]
    · rfl
  · rfl

theorem Write_spec (b : Nat) (ys ms : Nat → Int) (r : Nat → Value) (o w v : Int) (H : Heap) (h : PD H b ys ms r) :
    CallsH Try.prog n_pciconf_Device_Write #[.pointer (some ⟨b, 0, none⟩), .int .i64 o, .int .i64 w, .int .u64 v] H (fun x H' => x = .tuple #[] ∧ PD H' b (writeF ys ms o w v) ms r ∧ Mods [b] H H') := by
  refine F_pciconf_Device_Write_ok _ _ _ _ ?_
  unfold F_pciconf_Device_Write
  refine (wellFormed_spec o w H).mono ?_
  rintro x H1 ⟨rfl, rfl⟩
  refine ⟨_, rfl, iteB_not (fun c => ?_) (fun c => ?_)⟩
  · have hf : ¬ Formed o w := by simpa using c
    exact ⟨rfl, by unfold writeF; rw [if_neg hf]; exact h, .refl _ _⟩
  have hf : Formed o w := by simpa using c
  obtain ⟨a, n, rfl, rfl, h1, h2⟩ := hf.nat
  have hwr : writeF ys ms a n v = wrA ys ms a n v := by unfold writeF; rw [if_pos hf]; simp
  rw [hwr]
  refine loop1 n (fun k H' => PD H' b (wrA ys ms a k v) ms r ∧ Mods [b] H1 H') ⟨h.congr (fun i _ => by unfold wrA; rw [if_neg (by omega)]) (fun i _ => rfl), .refl _ _⟩ ?_
  rintro k H2 hk ⟨d2, m2⟩
  unfold F_pciconf_Device_Write_r1
  refine iteB_dec (fun c1 => ?_) (fun c1 => ?_)
  · have hkn : k < n := by omega
    rw [i64_in (n := (8 : Int) * k) (by omega), i64_in (n := (a : Int) + k) (by omega)]
    have e1 : ((a : Int) + k).toNat = a + k := by omega
    rw [e1]
    have rY := d2.rdY (i := a + k) (by omega)
    have rM := d2.rdM (i := a + k) (by omega)
    refine ⟨by omega, by omega, _, rM, by omega, by omega, _, rY, by omega, by omega, by omega, d2.okY (i := a + k) (by omega), letH_mk ?_⟩
    rw [shr_code v rfl (by omega)]
    rintro H3 rfl
    have d3 := d2.wrY (i := a + k) (by omega) (wrB (wrA ys ms a k v (a + k)) (ms (a + k)) (byteOf v k))
    refine next1 hkn (by omega) ⟨d3.congr (fun i _ => ?_) (fun i _ => rfl), m2.trans (mods_dv (o := 0) (by simp))⟩
    unfold upd
    by_cases e : i = a + k
    · subst e
      rw [if_pos rfl]
      unfold wrA
      rw [if_neg (by omega), if_pos (by omega), show a + k - a = k by omega]
    · rw [if_neg e]
      unfold wrA
      by_cases e2 : a ≤ i ∧ i < a + k
      · rw [if_pos e2, if_pos (by omega)]
      · rw [if_neg e2, if_neg (by omega)]
  · obtain rfl : k = n := by omega
    exact ⟨rfl, d2, m2⟩

end Go.Proofs.Ytankllejpldleaa
