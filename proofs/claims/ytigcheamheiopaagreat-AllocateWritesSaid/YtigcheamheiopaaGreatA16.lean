/-
 AllocateWrites (plain): the arithmetic of a bridge's windows.
-/
import Derived.Test.YtigcheamheiopaaGreatV
namespace Go.Proofs.YtigcheamheiopaaGreat
open Go.Eng
set_option linter.unusedVariables false

theorem and_nat (n k : Nat) (hn : n < 18446744073709551616) (hk : k < 18446744073709551616) : bitsAnd .u64 (n : Int) (k : Int) = ((n &&& k : Nat) : Int) := by
 unfold bitsAnd
 rw [BitVec.ofInt_natCast, BitVec.ofInt_natCast, BitVec.toNat_and, BitVec.toNat_ofNat, BitVec.toNat_ofNat]
 rw [Nat.mod_eq_of_lt (show n < 2 ^ IntKind.u64.bits from hn), Nat.mod_eq_of_lt (show k < 2 ^ IntKind.u64.bits from hk)]
 apply u64_in
 have := Nat.and_le_left (n := n) (m := k)
 omega
theorem and_run (n a b : Nat) : n &&& ((2 ^ b - 1) * 2 ^ a) = n / 2 ^ a % 2 ^ b * 2 ^ a := by
 apply Nat.eq_of_testBit_eq
 intro t
 rw [Nat.testBit_and, Nat.testBit_mul_two_pow, Nat.testBit_mul_two_pow, Nat.testBit_mod_two_pow, Nat.testBit_two_pow_sub_one, Nat.testBit_div_two_pow]
 by_cases h : a ≤ t
 ·simp [h]
  exact Bool.and_comm _ _
 ·simp [h]
theorem and_240 {v : Int} (h : 0 ≤ v ∧ v < 18446744073709551616) : bitsAnd .u64 v 240 = v / 16 % 16 * 16 := by
 obtain ⟨n, rfl⟩ : ∃ n : Nat, v = n := ⟨v.toNat, by omega⟩
 have h1 := and_nat n 240 (by omega) (by omega)
 have h2 := and_run n 4 4
 rw [show (2 ^ 4 - 1) * 2 ^ 4 = 240 from rfl] at h2
 rw [h2] at h1
 rw [show (240 : Int) = ((240 : Nat) : Int) from rfl, h1]
 show ((n / 16 % 16 * 16 : Nat) : Int) = _
 omega
theorem and_65520 {v : Int} (h : 0 ≤ v ∧ v < 18446744073709551616) : bitsAnd .u64 v 65520 = v / 16 % 4096 * 16 := by
 obtain ⟨n, rfl⟩ : ∃ n : Nat, v = n := ⟨v.toNat, by omega⟩
 have h1 := and_nat n 65520 (by omega) (by omega)
 have h2 := and_run n 4 12
 rw [show (2 ^ 12 - 1) * 2 ^ 4 = 65520 from rfl] at h2
 rw [h2] at h1
 rw [show (65520 : Int) = ((65520 : Nat) : Int) from rfl, h1]
 show ((n / 16 % 4096 * 16 : Nat) : Int) = _
 omega
theorem or_low {x v : Int} {k : Nat} (hv : 0 ≤ v ∧ v < 2 ^ k) (hx : 0 ≤ x) (hn : v + x * 2 ^ k < 18446744073709551616) : bitsOr .u64 (x * 2 ^ k) v = x * 2 ^ k + v := by
 have h := bitsOr_u64 hv hx hn
 rw [show bitsOr .u64 (x * 2 ^ k) v = bitsOr .u64 v (x * 2 ^ k) by unfold bitsOr; rw [BitVec.or_comm], h]
 omega
theorem fd {x : Int} (a : Nat) (h : 0 ≤ x) : x.fdiv (2 ^ a) = x / 2 ^ a := Int.fdiv_eq_ediv_of_nonneg _ (Int.pow_nonneg (by omega))
theorem byteOf_0 (v : Int) (h : 0 ≤ v) : byteOf v 0 = v % 256 := by
 unfold byteOf
 rw [fd _ h, u8_wrap]
 simp
theorem byteOf_1 (v : Int) (h : 0 ≤ v) : byteOf v 1 = v / 256 % 256 := by
 unfold byteOf
 rw [fd _ h, u8_wrap]
 rfl
theorem byteOf_2 (v : Int) (h : 0 ≤ v) : byteOf v 2 = v / 65536 % 256 := by
 unfold byteOf
 rw [fd _ h, u8_wrap]
 rfl
theorem byteOf_3 (v : Int) (h : 0 ≤ v) : byteOf v 3 = v / 16777216 % 256 := by
 unfold byteOf
 rw [fd _ h, u8_wrap]
 rfl

theorem wrB0_240 {x : Int} (h : 0 ≤ x ∧ x ≤ 255) : wrB 0 240 x = x / 16 * 16 := by
 have key : ∀ n : Fin 256, wrB 0 240 ((n.val : Nat) : Int) = ((n.val : Nat) : Int) / 16 * 16 := by decide +kernel
 have := key ⟨x.toNat, by omega⟩
 simpa [show ((x.toNat : Nat) : Int) = x by omega] using this
theorem wrB1_240 {x : Int} (h : 0 ≤ x ∧ x ≤ 255) : wrB 1 240 x = x / 16 * 16 + 1 := by
 have key : ∀ n : Fin 256, wrB 1 240 ((n.val : Nat) : Int) = ((n.val : Nat) : Int) / 16 * 16 + 1 := by decide +kernel
 have := key ⟨x.toNat, by omega⟩
 simpa [show ((x.toNat : Nat) : Int) = x by omega] using this
theorem wrB0_255 {x : Int} (h : 0 ≤ x ∧ x ≤ 255) : wrB 0 255 x = x := by
 have key : ∀ n : Fin 256, wrB 0 255 ((n.val : Nat) : Int) = ((n.val : Nat) : Int) := by decide +kernel
 have := key ⟨x.toNat, by omega⟩
 simpa [show ((x.toNat : Nat) : Int) = x by omega] using this

theorem num1 (ys : Nat → Int) (o : Nat) : numB ys o 1 = ys o := by
 unfold numB
 simp [numT]
theorem num2 (ys : Nat → Int) (o : Nat) : numB ys o 2 = ys o + 256 * ys (o + 1) := by
 unfold numB
 simp [numT]
theorem num4 (ys : Nat → Int) (o : Nat) : numB ys o 4 = ys o + 256 * (ys (o + 1) + 256 * (ys (o + 2) + 256 * ys (o + 3))) := by
 unfold numB
 simp [numT]

def winW (ys : Nat → Int) (c : Nat) (a b : Int) : List WR :=
 if c = 0 then awF ys 0 (a / 4096 % 16 * 4096) (b / 4096 % 16 * 4096 + 4095)
 else if c = 1 then awF ys 1 (a / 1048576 % 4096 * 1048576) (b / 1048576 % 4096 * 1048576 + 1048575)
 else awF ys 2 (a / 1048576 * 1048576) (b / 1048576 * 1048576 + 1048575)
abbrev U6 (a : Int) : Prop := 0 ≤ a ∧ a < 18446744073709551616
theorem w_aw0 {ys : Nat → Int} {a b : Int} (h : U6 a ∧ U6 b) (h1 : ys 28 = wrB 0 240 (byteOf (bitsAnd .u64 (a.fdiv (2 ^ 8)) 240) 0)) (h2 : ys 29 = wrB 0 240 (byteOf (bitsAnd .u64 (b.fdiv (2 ^ 8)) 240) 0)) : d_aw0 ys = winW ys 0 a b := by
 obtain ⟨ha, hb⟩ := h
 unfold d_aw0 winW
 rw [if_pos rfl, num1, num1]
 have e (x : Int) (hx : U6 x) : wrB 0 240 (byteOf (bitsAnd .u64 (x.fdiv (2 ^ 8)) 240) 0) = x / 4096 % 16 * 16 := by
  rw [fd _ hx.1, show (2 : Int) ^ 8 = 256 by decide, and_240 (by omega), byteOf_0 _ (by omega), wrB0_240 (by omega)]
  omega
 rw [h1, h2, e a ha, e b hb]
 have f (x : Int) (hx : U6 x) : shlF (shrF (x / 4096 % 16 * 16) 4) 12 = x / 4096 % 16 * 2 ^ 12 := by
  unfold shlF shrF
  rw [show min (4 : Int).toNat IntKind.u64.bits = 4 by decide, show min (12 : Int).toNat IntKind.u64.bits = 12 by decide, fd _ (by omega)]
  have : (2 : Int) ^ 4 = 16 := by decide
  have : (2 : Int) ^ 12 = 4096 := by decide
  rw [u64_in (by omega)]
  omega
 rw [f a ha, f b hb, or_low (by decide) (by omega) (by omega)]
 rfl
theorem w_v16 {x : Int} (hx : U6 x) : bitsAnd .u64 (x.fdiv (2 ^ 16)) 65520 = x / 1048576 % 4096 * 16 := by
 rw [fd _ hx.1, show (2 : Int) ^ 16 = 65536 by decide, and_65520 (by omega)]
 omega
theorem w_shl20 {x : Int} (hx : 0 ≤ x ∧ x < 65536) : shlF (shrF x 4) 20 = x / 16 * 2 ^ 20 := by
 unfold shlF shrF
 rw [show min (4 : Int).toNat IntKind.u64.bits = 4 by decide, show min (20 : Int).toNat IntKind.u64.bits = 20 by decide, fd _ (by omega)]
 have : (2 : Int) ^ 4 = 16 := by decide
 have : (2 : Int) ^ 20 = 1048576 := by decide
 rw [u64_in (by omega)]
 omega
theorem w_aw1 {ys : Nat → Int} {a b : Int} (h : U6 a ∧ U6 b) (h1 : ∀ j, j < 2 → ys (32 + j) = wrB 0 (if j = 0 then 240 else 255) (byteOf (bitsAnd .u64 (a.fdiv (2 ^ 16)) 65520) j)) (h2 : ∀ j, j < 2 → ys (34 + j) = wrB 0 (if j = 0 then 240 else 255) (byteOf (bitsAnd .u64 (b.fdiv (2 ^ 16)) 65520) j)) : d_aw1 ys = winW ys 1 a b := by
 obtain ⟨ha, hb⟩ := h
 unfold d_aw1 winW
 rw [if_neg (by omega), if_pos rfl, num2, num2]
 have k0 := h1 0 (by omega)
 have k1 := h1 1 (by omega)
 have k2 := h2 0 (by omega)
 have k3 := h2 1 (by omega)
 simp only [Nat.add_zero, if_true, Nat.one_ne_zero, if_false] at k0 k1 k2 k3
 rw [w_v16 ha, byteOf_0 _ (by omega), wrB0_240 (by omega)] at k0
 rw [w_v16 ha, byteOf_1 _ (by omega), wrB0_255 (by omega)] at k1
 rw [w_v16 hb, byteOf_0 _ (by omega), wrB0_240 (by omega)] at k2
 rw [w_v16 hb, byteOf_1 _ (by omega), wrB0_255 (by omega)] at k3
 rw [k0, k1, k2, k3, w_shl20 (by omega), w_shl20 (by omega)]
 have e (x : Int) (hx : U6 x) : (x / 1048576 % 4096 * 16 % 256 / 16 * 16 + 256 * (x / 1048576 % 4096 * 16 / 256 % 256)) / 16 = x / 1048576 % 4096 := by omega
 rw [e a ha, e b hb, or_low (by decide) (by omega) (by omega)]
 rfl
theorem w_aw2 {ys : Nat → Int} {a b : Int} (h : U6 a ∧ U6 b)
  (h1 : ∀ j, j < 2 → ys (36 + j) = wrB (if j = 0 then 1 else 0) (if j = 0 then 240 else 255) (byteOf (bitsAnd .u64 (a.fdiv (2 ^ 16)) 65520) j))
  (h2 : ∀ j, j < 2 → ys (38 + j) = wrB (if j = 0 then 1 else 0) (if j = 0 then 240 else 255) (byteOf (bitsAnd .u64 (b.fdiv (2 ^ 16)) 65520) j))
  (h3 : ∀ j, j < 4 → ys (40 + j) = wrB 0 255 (byteOf (a.fdiv (2 ^ 32)) j)) (h4 : ∀ j, j < 4 → ys (44 + j) = wrB 0 255 (byteOf (b.fdiv (2 ^ 32)) j)) : d_aw2 ys = winW ys 2 a b := by
 obtain ⟨ha, hb⟩ := h
 unfold d_aw2 winW
 rw [if_neg (by omega), if_neg (by omega), num2, num2, num4, num4]
 have k0 := h1 0 (by omega)
 have k1 := h1 1 (by omega)
 have k2 := h2 0 (by omega)
 have k3 := h2 1 (by omega)
 simp only [Nat.add_zero, if_true, Nat.one_ne_zero, if_false] at k0 k1 k2 k3
 rw [w_v16 ha, byteOf_0 _ (by omega), wrB1_240 (by omega)] at k0
 rw [w_v16 ha, byteOf_1 _ (by omega), wrB0_255 (by omega)] at k1
 rw [w_v16 hb, byteOf_0 _ (by omega), wrB1_240 (by omega)] at k2
 rw [w_v16 hb, byteOf_1 _ (by omega), wrB0_255 (by omega)] at k3
 have hi (x : Int) (hx : U6 x) (o : Nat) (hh : ∀ j, j < 4 → ys (o + j) = wrB 0 255 (byteOf (x.fdiv (2 ^ 32)) j)) : ys o + 256 * (ys (o + 1) + 256 * (ys (o + 2) + 256 * ys (o + 3))) = x / 4294967296 := by
  have q0 := hh 0 (by omega)
  have q1 := hh 1 (by omega)
  have q2 := hh 2 (by omega)
  have q3 := hh 3 (by omega)
  rw [fd _ hx.1, show (2 : Int) ^ 32 = 4294967296 by decide] at q0 q1 q2 q3
  rw [byteOf_0 _ (by omega), wrB0_255 (by omega)] at q0
  rw [byteOf_1 _ (by omega), wrB0_255 (by omega)] at q1
  rw [byteOf_2 _ (by omega), wrB0_255 (by omega)] at q2
  rw [byteOf_3 _ (by omega), wrB0_255 (by omega)] at q3
  rw [show o + 0 = o from rfl] at q0
  rw [q0, q1, q2, q3]
  omega
 rw [hi a ha 40 h3, hi b hb 44 h4, k0, k1, k2, k3, w_shl20 (by omega), w_shl20 (by omega)]
 have e (x : Int) (hx : U6 x) : (x / 1048576 % 4096 * 16 % 256 / 16 * 16 + 1 + 256 * (x / 1048576 % 4096 * 16 / 256 % 256)) / 16 = x / 1048576 % 4096 := by omega
 have f (x : Int) (hx : U6 x) : bitsOr .u64 (x / 1048576 % 4096 * 2 ^ 20) (shlF (x / 4294967296) 32) = x / 1048576 * 2 ^ 20 := by
  unfold shlF
  rw [show min (32 : Int).toNat IntKind.u64.bits = 32 by decide]
  have p : (2 : Int) ^ 32 = 4294967296 := by decide
  have p2 : (2 : Int) ^ 20 = 1048576 := by decide
  rw [u64_in (by omega), bitsOr_u64 (by omega) (by omega) (by omega)]
  omega
 rw [e a ha, e b hb, f a ha, f b hb, or_low (by decide) (by omega) (by omega)]
 rfl

theorem winW_some {ys : Nat → Int} {c : Nat} (hc : c < 3) {a : Int} {k : Nat} (hk : (if c = 0 then 12 else 20) ≤ k) (ha : (2 ^ k : Nat) ∣ a.toNat) (h0 : 0 ≤ a) (hb : a + 2 ^ k ≤ (if c = 0 then 65536 else if c = 1 then 4294967296 else 4503599627370496)) :
  winW ys c a (IntKind.u64.wrap (IntKind.u64.wrap (a + 2 ^ k) - 1)) = [(-1 - (c : Int), (c : Int), a, 2 ^ k, enF ys c)] := by
 have hp : (0 : Int) < 2 ^ k := Int.pow_pos (by omega)
 have hr : a + 2 ^ k ≤ 4503599627370496 := by split at hb <;> (try split at hb) <;> omega
 have e : IntKind.u64.wrap (IntKind.u64.wrap (a + 2 ^ k) - 1) = a + 2 ^ k - 1 := by rw [u64_in (n := a + 2 ^ k) (by omega), u64_in (by omega)]
 rw [e]
 have hl : IntKind.u64.wrap (IntKind.u64.wrap (a + 2 ^ k - 1 - a) + 1) = 2 ^ k := by rw [u64_in (n := a + 2 ^ k - 1 - a) (by omega), u64_in (by omega)]; omega
 have hd : ∀ m, m ≤ k → ((2 ^ m : Nat) : Int) ∣ a ∧ ((2 ^ m : Nat) : Int) ∣ 2 ^ k := fun m hm => by
  have h1 : 2 ^ m ∣ 2 ^ k := Nat.pow_dvd_pow 2 hm
  refine ⟨?_, ?_⟩
  ·have h2 := Nat.dvd_trans h1 ha
   have := Int.natCast_dvd_natCast.2 h2
   rwa [show ((a.toNat : Nat) : Int) = a by omega] at this
  ·have := Int.natCast_dvd_natCast.2 h1
   simpa using this
 unfold winW
 split
 ·rename_i hc0
  subst hc0
  simp only [if_true] at hk hb
  obtain ⟨d1, d2⟩ := hd 12 hk
  simp only [show ((2 ^ 12 : Nat) : Int) = 4096 by decide] at d1 d2
  have e1 : a / 4096 % 16 * 4096 = a := by omega
  have e2 : (a + 2 ^ k - 1) / 4096 % 16 * 4096 + 4095 = a + 2 ^ k - 1 := by omega
  unfold awF
  rw [e1, e2, if_neg (by omega), hl]
  rfl
 ·split
  ·rename_i hc0 hc1
   subst hc1
   simp only [Nat.one_ne_zero, if_false, if_true] at hk hb
   obtain ⟨d1, d2⟩ := hd 20 hk
   simp only [show ((2 ^ 20 : Nat) : Int) = 1048576 by decide] at d1 d2
   have e1 : a / 1048576 % 4096 * 1048576 = a := by omega
   have e2 : (a + 2 ^ k - 1) / 1048576 % 4096 * 1048576 + 1048575 = a + 2 ^ k - 1 := by omega
   unfold awF
   rw [e1, e2, if_neg (by omega), hl]
   rfl
  ·obtain rfl : c = 2 := by omega
   simp only [show ¬ (2 = 0) by omega, if_false] at hk
   obtain ⟨d1, d2⟩ := hd 20 hk
   simp only [show ((2 ^ 20 : Nat) : Int) = 1048576 by decide] at d1 d2
   have e1 : a / 1048576 * 1048576 = a := by omega
   have e2 : (a + 2 ^ k - 1) / 1048576 * 1048576 + 1048575 = a + 2 ^ k - 1 := by omega
   unfold awF
   rw [e1, e2, if_neg (by omega), hl]
   rfl
theorem winW_none {ys : Nat → Int} {c : Nat} : winW ys c 18446744073709551615 0 = [] := by
 unfold winW awF
 split
 ·rfl
 ·split <;> rfl

end Go.Proofs.YtigcheamheiopaaGreat
