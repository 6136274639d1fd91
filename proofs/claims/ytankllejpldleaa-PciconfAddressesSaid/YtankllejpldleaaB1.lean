/-
  Bits of bytes: a register that is programmed reads back as it was written.
-/
import Derived.Test.YtankllejpldleaaD5
namespace Go.Proofs.Ytankllejpldleaa
open Go.Eng

theorem byteOf_nat (n k : Nat) : (byteOf (n : Int) k).toNat = n / 2 ^ (8 * k) % 2 ^ 8 := by
  unfold byteOf
  rw [u8_wrap, Int.fdiv_eq_ediv_of_nonneg _ (Int.pow_nonneg (by omega))]
  have : ((n : Int) / 2 ^ (8 * k)) = ((n / 2 ^ (8 * k) : Nat) : Int) := by push_cast; rfl
  rw [this]
  omega

theorem byteOf_bit {v : Int} (hv : 0 ≤ v) (k t : Nat) : (byteOf v k).toNat.testBit t = (decide (t < 8) && v.toNat.testBit (8 * k + t)) := by
  obtain ⟨n, rfl⟩ := Int.eq_ofNat_of_zero_le hv
  rw [byteOf_nat, Nat.testBit_mod_two_pow, Nat.testBit_div_two_pow]
  simp [Nat.add_comm]

theorem byte_bit_hi {y : Int} (h : 0 ≤ y ∧ y ≤ 255) {t : Nat} (ht : 8 ≤ t) : y.toNat.testBit t = false := by
  apply Nat.testBit_lt_two_pow
  calc y.toNat < 2 ^ 8 := by omega
    _ ≤ 2 ^ t := Nat.pow_le_pow_right (by omega) ht

theorem numP_bit {ys : Nat → Int} (h : Bytes ys) (o : Nat) : ∀ k q, (numP ys o k).toNat.testBit q = (decide (q < 8 * k) && (ys (o + q / 8)).toNat.testBit (q % 8)) := by
  intro k
  induction k with
  | zero => intro q; simp [numP]
  | succ k ih =>
    intro q
    have hr := numP_range h o k
    have hy := h (o + k)
    have e : (numP ys o (k + 1)).toNat = 2 ^ (8 * k) * (ys (o + k)).toNat + (numP ys o k).toNat := by
      obtain ⟨a, ha⟩ := Int.eq_ofNat_of_zero_le hr.1
      obtain ⟨b, hb⟩ := Int.eq_ofNat_of_zero_le hy.1
      simp only [numP]
      rw [ha, hb]
      have : ((a : Int) + (b : Int) * 2 ^ (8 * k)) = ((2 ^ (8 * k) * b + a : Nat) : Int) := by push_cast; rw [Int.mul_comm (b : Int)]; omega
      rw [this]
      simp only [Int.toNat_natCast]
    have hlt : (numP ys o k).toNat < 2 ^ (8 * k) := by
      have h2 := hr.2
      obtain ⟨a, ha⟩ := Int.eq_ofNat_of_zero_le hr.1
      rw [ha] at h2 ⊢
      have : (a : Int) < ((2 ^ (8 * k) : Nat) : Int) := by push_cast; exact h2
      exact Int.ofNat_lt.1 this
    rw [e, Nat.testBit_two_pow_mul_add _ hlt]
    by_cases c : q < 8 * k
    · rw [if_pos c, ih q, decide_eq_true c, decide_eq_true (by omega)]
    · rw [if_neg c]
      by_cases c2 : q < 8 * (k + 1)
      · have h1 : q / 8 = k := by omega
        have h2 : q - 8 * k = q % 8 := by omega
        rw [decide_eq_true c2, h1, h2]
        simp
      · rw [decide_eq_false c2, byte_bit_hi hy (by omega)]
        simp

theorem numB_bit {ys : Nat → Int} (h : Bytes ys) (o w q : Nat) : (numB ys o w).toNat.testBit q = (decide (q < 8 * w) && (ys (o + q / 8)).toNat.testBit (q % 8)) := by
  rw [← numP_numB]; exact numP_bit h o w q

theorem u8_toNat (x : BitVec IntKind.u8.bits) : IntKind.u8.wrap (x.toNat : Int) = (x.toNat : Int) := by
  have := x.isLt
  rw [u8_wrap]
  have h8 : 2 ^ IntKind.u8.bits = 256 := rfl
  rw [h8] at this
  exact Int.emod_eq_of_lt (by omega) (by omega)

theorem wrB_bit {y m x : Int} (hy : 0 ≤ y ∧ y ≤ 255) (hm : 0 ≤ m ∧ m ≤ 255) (hx : 0 ≤ x ∧ x ≤ 255) {t : Nat} (ht : t < 8) : (wrB y m x).toNat.testBit t = if m.toNat.testBit t then x.toNat.testBit t else y.toNat.testBit t := by
  obtain ⟨a, rfl⟩ := Int.eq_ofNat_of_zero_le hy.1
  obtain ⟨b, rfl⟩ := Int.eq_ofNat_of_zero_le hm.1
  obtain ⟨c, rfl⟩ := Int.eq_ofNat_of_zero_le hx.1
  unfold wrB bitsOr bitsAndNot bitsAnd
  rw [u8_toNat, u8_toNat, u8_toNat]
  simp only [BitVec.ofInt_natCast, Int.toNat_natCast]
  rw [BitVec.testBit_toNat]
  simp only [BitVec.ofNat_toNat, BitVec.setWidth_eq, BitVec.getLsbD_or, BitVec.getLsbD_and, BitVec.getLsbD_not, BitVec.getLsbD_ofNat]
  have h8 : decide (t < IntKind.u8.bits) = true := decide_eq_true ht
  rw [h8]
  cases b.testBit t <;> cases a.testBit t <;> cases c.testBit t <;> rfl

theorem u64_wrap (n : Int) : IntKind.u64.wrap n = n % 18446744073709551616 := by
  simp [IntKind.wrap, IntKind.bits, IntKind.signed]

theorem kept_nat {z : Int} (hz : 0 ≤ z ∧ z ≤ 63) : (kept z).toNat = (2 ^ 64 - 1) * 2 ^ z.toNat % 2 ^ 64 ∧ 0 ≤ kept z := by
  unfold kept
  rw [Nat.min_eq_left (by show z.toNat ≤ 64; omega)]
  have e : (18446744073709551615 : Int) * 2 ^ z.toNat = (((2 ^ 64 - 1) * 2 ^ z.toNat : Nat) : Int) := by rw [Int.natCast_mul, Int.natCast_pow]; rfl
  rw [e, u64_wrap, show (2 : Nat) ^ 64 = 18446744073709551616 from rfl]
  generalize (18446744073709551616 - 1) * 2 ^ z.toNat = A
  omega

theorem kept_bit {z : Int} (hz : 0 ≤ z ∧ z ≤ 63) (q : Nat) : (kept z).toNat.testBit q = (decide (q < 64) && decide (z.toNat ≤ q)) := by
  rw [(kept_nat hz).1, Nat.testBit_mod_two_pow, Nat.testBit_mul_two_pow, Nat.testBit_two_pow_sub_one]
  by_cases h1 : q < 64 <;> by_cases h2 : z.toNat ≤ q <;> simp [h1, h2]
  omega

/-- What a register of 'w' bytes reads as after 'base' was written to it. -/
theorem reg_back {ys ms : Nat → Int} {y0 : Nat → Int} {o w : Nat} {z base : Int} (hy0 : Bytes y0) (hys : Bytes ys) (hw : w = 4 ∨ w = 8) (hz : 0 ≤ z ∧ z ≤ 63) (hb : 0 ≤ base ∧ base < 2 ^ (8 * w)) (hd : (2 ^ z.toNat : Nat) ∣ base.toNat)
    (hm : ∀ j, j < w → ms (o + j) = byteOf (kept z) j) (h : ∀ j, j < w → ys (o + j) = wrB (y0 (o + j)) (ms (o + j)) (byteOf base j)) : winB (numB ys o w) z = base := by
  have hk0 := (kept_nat hz).2
  have hN := numP_range hys o w
  rw [numP_numB] at hN
  have hbit : ∀ q, z.toNat ≤ q → (numB ys o w).toNat.testBit q = base.toNat.testBit q := by
    intro q hq
    rw [numB_bit hys]
    by_cases c : q < 8 * w
    · rw [decide_eq_true c, Bool.true_and, h (q / 8) (by omega), hm (q / 8) (by omega), wrB_bit (hy0 _) (byteOf_range _ _) (byteOf_range _ _) (by omega), byteOf_bit hk0, byteOf_bit hb.1, kept_bit hz]
      rw [show 8 * (q / 8) + q % 8 = q by omega]
      rw [decide_eq_true (show q % 8 < 8 by omega), decide_eq_true (show q < 64 by omega), decide_eq_true hq]
      simp
    · rw [decide_eq_false c, Bool.false_and]
      symm
      apply Nat.testBit_lt_two_pow
      have h1 : base.toNat < 2 ^ (8 * w) := by
        obtain ⟨n, rfl⟩ := Int.eq_ofNat_of_zero_le hb.1
        have h2 := hb.2
        have : ((n : Nat) : Int) < ((2 ^ (8 * w) : Nat) : Int) := by push_cast; exact h2
        exact Int.ofNat_lt.1 this
      exact Nat.lt_of_lt_of_le h1 (Nat.pow_le_pow_right (by omega) (by omega))
  have hdiv : (numB ys o w).toNat / 2 ^ z.toNat = base.toNat / 2 ^ z.toNat := by
    apply Nat.eq_of_testBit_eq
    intro q
    rw [Nat.testBit_div_two_pow, Nat.testBit_div_two_pow]
    exact hbit _ (by omega)
  obtain ⟨n, hn⟩ := Int.eq_ofNat_of_zero_le hN.1
  obtain ⟨m, hm'⟩ := Int.eq_ofNat_of_zero_le hb.1
  rw [hn, hm'] at hdiv
  rw [hm'] at hd hb ⊢
  rw [hn]
  simp only [Int.toNat_natCast] at hdiv hd
  unfold winB
  rw [Nat.min_eq_left (by show z.toNat ≤ 64; omega), Int.fdiv_eq_ediv_of_nonneg _ (Int.pow_nonneg (by omega))]
  have e : ((n : Int) / 2 ^ z.toNat * 2 ^ z.toNat) = ((n / 2 ^ z.toNat * 2 ^ z.toNat : Nat) : Int) := by push_cast; rfl
  rw [e, hdiv, Nat.div_mul_cancel hd]
  apply u64_in
  rcases hw with rfl | rfl
  · have := hb.2
    simp at this
    omega
  · have := hb.2
    simp at this
    omega

theorem and_bit {v : Int} (hv : 0 ≤ v ∧ v ≤ 255) : ((bitsAnd .u8 v 1 != 0) = v.toNat.testBit 0) ∧ ((bitsAnd .u8 v 2 != 0) = v.toNat.testBit 1) := by
  obtain ⟨n, rfl⟩ := Int.eq_ofNat_of_zero_le hv.1
  have key : ∀ t : Nat, t < 8 → (bitsAnd .u8 (n : Int) ((2 ^ t : Nat) : Int) != 0) = n.testBit t := by
    intro t ht
    unfold bitsAnd
    rw [u8_toNat, BitVec.ofInt_natCast, BitVec.ofInt_natCast, BitVec.toNat_and, BitVec.toNat_ofNat, BitVec.toNat_ofNat]
    have h2 : 2 ^ t < 2 ^ 8 := Nat.pow_lt_pow_right (by omega) ht
    rw [Nat.mod_eq_of_lt (show n < 2 ^ IntKind.u8.bits by simp [IntKind.bits]; omega), Nat.mod_eq_of_lt (show 2 ^ t < 2 ^ IntKind.u8.bits by simpa [IntKind.bits] using h2), bne]
    cases hb : n.testBit t
    · have : n &&& 2 ^ t = 0 := by
        apply Nat.eq_of_testBit_eq
        intro q
        rw [Nat.testBit_and, Nat.testBit_two_pow]
        by_cases e : t = q
        · subst e; simp [hb]
        · simp [e]
      rw [this]; rfl
    · have h1 : (n &&& 2 ^ t).testBit t = true := by rw [Nat.testBit_and, Nat.testBit_two_pow, hb]; simp
      have h0 : n &&& 2 ^ t ≠ 0 := by intro e; rw [e] at h1; simp at h1
      simp
      exact h0
  exact ⟨key 0 (by omega), key 1 (by omega)⟩

theorem and_low {n : Nat} (hn : n < 18446744073709551616) : bitsAnd .u64 (n : Int) 4294967295 = ((n % 4294967296 : Nat) : Int) := by
  unfold bitsAnd
  rw [show (4294967295 : Int) = ((4294967295 : Nat) : Int) from rfl, BitVec.ofInt_natCast, BitVec.ofInt_natCast, BitVec.toNat_and, BitVec.toNat_ofNat, BitVec.toNat_ofNat]
  rw [Nat.mod_eq_of_lt (show n < 2 ^ IntKind.u64.bits from hn), Nat.mod_eq_of_lt (show 4294967295 < 2 ^ IntKind.u64.bits by decide)]
  rw [show (4294967295 : Nat) = 2 ^ 32 - 1 from rfl, Nat.and_two_pow_sub_one_eq_mod]
  apply u64_in
  omega

theorem byteOf_low {n j : Nat} (hj : j < 4) : byteOf ((n % 4294967296 : Nat) : Int) j = byteOf (n : Int) j := by
  have h1 := byteOf_nat (n % 4294967296) j
  have h2 := byteOf_nat n j
  have r1 := byteOf_range ((n % 4294967296 : Nat) : Int) j
  have r2 := byteOf_range (n : Int) j
  have : n % 4294967296 / 2 ^ (8 * j) % 2 ^ 8 = n / 2 ^ (8 * j) % 2 ^ 8 := by
    rcases (by omega : j = 0 ∨ j = 1 ∨ j = 2 ∨ j = 3) with rfl | rfl | rfl | rfl <;> simp <;> omega
  omega

theorem byteOf_high {n j : Nat} (hj : j < 4) : byteOf ((n : Int).fdiv (2 ^ 32)) j = byteOf (n : Int) (4 + j) := by
  have e : (n : Int).fdiv (2 ^ 32) = ((n / 4294967296 : Nat) : Int) := by rw [Int.fdiv_eq_ediv_of_nonneg _ (by decide)]; show (n : Int) / 4294967296 = _; omega
  rw [e]
  have h1 := byteOf_nat (n / 4294967296) j
  have h2 := byteOf_nat n (4 + j)
  have r1 := byteOf_range ((n / 4294967296 : Nat) : Int) j
  have r2 := byteOf_range (n : Int) (4 + j)
  have : n / 4294967296 / 2 ^ (8 * j) % 2 ^ 8 = n / 2 ^ (8 * (4 + j)) % 2 ^ 8 := by
    rcases (by omega : j = 0 ∨ j = 1 ∨ j = 2 ∨ j = 3) with rfl | rfl | rfl | rfl <;> simp <;> omega
  omega

/-! ### the masks of a register -/

theorem sbar_at {s : St} {o j : Nat} {k z : Int} (hk : 1 ≤ k ∧ k ≤ 4) (hj : j < wwd k) : (sbar s o k z).2 (o + j) = byteOf (kept z) j := by
  have e : ∀ (w : Nat) (v : Int), j < w → (sdef s o w v (kept z)).2 (o + j) = byteOf (kept z) j := by
    intro w v hw
    show setB _ _ _ _ _ = _
    unfold setB
    rw [if_pos (by omega), show o + j - o = j by omega]
  unfold wwd at hj
  unfold sbar
  rcases (by omega : k = 1 ∨ k = 2 ∨ k = 3 ∨ k = 4) with rfl | rfl | rfl | rfl
  · exact e 4 1 (by simpa using hj)
  · exact e 4 0 (by simpa using hj)
  · exact e 8 4 (by simpa using hj)
  · exact e 8 12 (by simpa using hj)

theorem sbars_at {s : St} {f : Fn} (hv : ValidF f) {i j : Nat} (hk : 1 ≤ bk f.bars i ∧ bk f.bars i ≤ 4) (hj : j < wwd (bk f.bars i)) : ∀ n, i < n → (sbars s f.bars n).2 (16 + 4 * i + j) = byteOf (kept (bz f.bars i)) j
  | 0, h => by omega
  | n + 1, h => by
    by_cases e : i = n
    · subst e; exact sbar_at hk hj
    · have ih := sbars_at (s := s) hv hk hj n (by omega)
      show (sbar _ _ _ _).2 _ = _
      by_cases w : (bk f.bars i = 3 ∨ bk f.bars i = 4) ∧ n = i + 1
      · obtain ⟨w1, rfl⟩ := w
        have hl : i < f.bars.length := by
          by_cases c : i < f.bars.length
          · exact c
          · have : f.bars[i]? = none := List.getElem?_eq_none (by omega)
            simp [bk, List.getD, this] at hk
        have hb := hv.ba i hl
        have h0 : bk f.bars (i + 1) = 0 := by unfold BarOk at hb; omega
        rw [h0]
        exact ih
      · have hj2 : 16 + 4 * i + j < 16 + 4 * n := by
          unfold wwd at hj
          split at hj <;> omega
        rw [(sbar_out (.inl hj2)).2]
        exact ih

theorem sinit_at {f : Fn} (hv : ValidF f) {i j : Nat} (hi : i < f.bars.length) (hk : bk f.bars i ≠ 0) (hj : j < wwd (bk f.bars i)) : (sinit f).2 (16 + 4 * i + j) = byteOf (kept (bz f.bars i)) j := by
  have hb := hv.ba i hi
  have hbl := hv.bl
  have hkk : 1 ≤ bk f.bars i ∧ bk f.bars i ≤ 4 := by unfold BarOk at hb; omega
  have h1 := sbars_at (s := sbase f) hv hkk hj (regs f.bridge) (by omega)
  unfold sinit sbridge
  by_cases hbr : f.bridge = true
  · have hx : 16 + 4 * i + j < 24 := by
      rw [hbr] at hbl
      simp only [regs] at hbl
      unfold wwd at hj
      unfold BarOk at hb
      split at hj
      · rename_i hw
        simp at hbl
        omega
      · simp at hbl
        omega
    have h2 : (sbr (sbars (sbase f) f.bars (regs f.bridge))).2 (16 + 4 * i + j) = (sbars (sbase f) f.bars (regs f.bridge)).2 (16 + 4 * i + j) := by
      unfold sbr sdef setB
      dsimp only
      repeat rw [if_neg (by omega)]
    rw [if_pos hbr]
    split
    · rw [(spf_out (by omega)).2, h2]; exact h1
    · rw [h2]; exact h1
  · rw [if_neg hbr]; exact h1

theorem sinit_cmd (f : Fn) : (sinit f).2 4 = 7 := by
  rw [(sinit_out f (by omega)).2]
  unfold sbase sdef setB
  simp
  decide

end Go.Proofs.Ytankllejpldleaa
