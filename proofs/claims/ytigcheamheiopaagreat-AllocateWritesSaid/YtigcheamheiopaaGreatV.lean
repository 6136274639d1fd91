/-
 The device of pciconf (from wip/pciconf, by mkV.py).
-/
import Derived.Test.YtigcheamheiopaaGreatEngC
import Derived.Test.YtigcheamheiopaaGreatH1
import Derived.Test.YtigcheamheiopaaGreatG2
namespace Go.Proofs.YtigcheamheiopaaGreat
open Go.Eng
set_option linter.unusedVariables false

section

/-! ### bytes -/

theorem u8_wrap (n : Int) : IntKind.u8.wrap n = n % 256 := by
 simp [IntKind.wrap, IntKind.bits, IntKind.signed]
theorem u8_range (n : Int) : 0 ≤ IntKind.u8.wrap n ∧ IntKind.u8.wrap n ≤ 255 := by rw [u8_wrap]; omega

def byteOf (v : Int) (k : Nat) : Int := IntKind.u8.wrap (v.fdiv (2 ^ (8 * k)))
theorem byteOf_range (v : Int) (k : Nat) : 0 ≤ byteOf v k ∧ byteOf v k ≤ 255 := u8_range _

def d_setB (ys : Nat → Int) (o w : Nat) (v : Int) (i : Nat) : Int := if o ≤ i ∧ i < o + w then byteOf v (i - o) else ys i
def Bytes (ys : Nat → Int) : Prop := ∀ i, 0 ≤ ys i ∧ ys i ≤ 255
theorem setB_bytes {ys : Nat → Int} (h : Bytes ys) (o w : Nat) (v : Int) : Bytes (d_setB ys o w v) := by
 intro i; unfold d_setB; split
 ·exact byteOf_range _ _
 ·exact h i

theorem or_add {n : Nat} (v x : Int) (k : Nat) (hv : 0 ≤ v ∧ v < 2 ^ k) (hx : 0 ≤ x) (hn : v + x * 2 ^ k < 2 ^ n) : ((BitVec.ofInt n v ||| BitVec.ofInt n (x * 2 ^ k)).toNat : Int) = v + x * 2 ^ k := by
 obtain ⟨a, rfl⟩ := Int.eq_ofNat_of_zero_le hv.1
 obtain ⟨b, rfl⟩ := Int.eq_ofNat_of_zero_le hx
 have h1 : (a : Int) < 2 ^ k := hv.2
 have h1' : a < 2 ^ k := by exact_mod_cast h1
 have h2 : a + b * 2 ^ k < 2 ^ n := by exact_mod_cast hn
 have e2 : ((b : Int) * 2 ^ k) = ((b * 2 ^ k : Nat) : Int) := by push_cast; rfl
 rw [e2]
 have ha : a < 2 ^ n := by omega
 have hb : b * 2 ^ k < 2 ^ n := by omega
 rw [BitVec.toNat_or, BitVec.ofInt_natCast, BitVec.ofInt_natCast, BitVec.toNat_ofNat, BitVec.toNat_ofNat, Nat.mod_eq_of_lt ha, Nat.mod_eq_of_lt hb]
 have h3 := Nat.shiftLeft_add_eq_or_of_lt h1' b
 rw [Nat.shiftLeft_eq] at h3
 rw [Nat.or_comm, ← h3]
 push_cast
 omega

theorem bitsOr_u64 {v x : Int} {k : Nat} (hv : 0 ≤ v ∧ v < 2 ^ k) (hx : 0 ≤ x) (hn : v + x * 2 ^ k < 18446744073709551616) : bitsOr .u64 v (x * 2 ^ k) = v + x * 2 ^ k := by
 unfold bitsOr
 have h := or_add (n := IntKind.u64.bits) v x k hv hx (by simpa [IntKind.bits] using hn)
 rw [h]
 have h0 : 0 ≤ x * 2 ^ k := Int.mul_nonneg hx (Int.pow_nonneg (by omega))
 exact u64_in (by omega)

/-! ### the number in bytes -/

def numT (ys : Nat → Int) (o w : Nat) : Nat → Int
 | 0 => 0
 | d + 1 => ys (o + (w - (d + 1))) + 256 * numT ys o w d
def numB (ys : Nat → Int) (o w : Nat) : Int := numT ys o w w
def numP (ys : Nat → Int) (o : Nat) : Nat → Int
 | 0 => 0
 | k + 1 => numP ys o k + ys (o + k) * 2 ^ (8 * k)

theorem pow8 (k : Nat) : (2 : Int) ^ (8 * (k + 1)) = 2 ^ (8 * k) * 256 := by
 rw [show 8 * (k + 1) = 8 * k + 8 by omega, Int.pow_add]; rfl

theorem numP_range {ys : Nat → Int} (h : Bytes ys) (o : Nat) : ∀ k, 0 ≤ numP ys o k ∧ numP ys o k < 2 ^ (8 * k) := by
 intro k
 induction k with
 | zero => simp [numP]
 | succ k ih =>
  have hy := h (o + k)
  have hp : (0 : Int) < 2 ^ (8 * k) := Int.pow_pos (by omega)
  have m1 : ys (o + k) * 2 ^ (8 * k) ≤ 255 * 2 ^ (8 * k) := Int.mul_le_mul_of_nonneg_right hy.2 (by omega)
  have m0 : 0 ≤ ys (o + k) * 2 ^ (8 * k) := Int.mul_nonneg hy.1 (by omega)
  rw [pow8]
  simp only [numP]
  omega

theorem numT_numP {ys : Nat → Int} (o w : Nat) : ∀ k, k ≤ w → numP ys o k + 2 ^ (8 * k) * numT ys o w (w - k) = numT ys o w w := by
 intro k
 induction k with
 | zero => intro _; simp [numP]
 | succ k ih =>
  intro hk
  have h1 := ih (by omega)
  obtain ⟨d, hd⟩ : ∃ d, w - k = d + 1 := ⟨w - k - 1, by omega⟩
  rw [hd] at h1
  simp only [numT] at h1
  rw [show w - (d + 1) = k by omega] at h1
  rw [show w - (k + 1) = d by omega, ← h1, pow8]
  simp only [numP]
  rw [Int.mul_add, Int.mul_assoc]
  have : ys (o + k) * 2 ^ (8 * k) = 2 ^ (8 * k) * ys (o + k) := Int.mul_comm _ _
  omega

theorem numP_numB {ys : Nat → Int} (o w : Nat) : numP ys o w = numB ys o w := by
 have := numT_numP (ys := ys) o w w (Nat.le_refl _)
 rw [Nat.sub_self] at this
 simp only [numT] at this
 unfold numB
 omega

/-! ### a device's block: bytes at 'oy', masks at 'om' -/

def dvF (oy om : Nat) (ys ms : Nat → Int) (r : Nat → Value) (i : Nat) : Value :=
 if oy ≤ i ∧ i < oy + 256 then .int .u8 (ys (i - oy)) else if om ≤ i ∧ i < om + 256 then .int .u8 (ms (i - om)) else r i

structure DV (H : Heap) (b : Nat) (e : TypeId) (N oy om : Nat) (ys ms : Nat → Int) (r : Nat → Value) : Prop where
 vb : VB H b e N (dvF oy om ys ms r)
 le : oy + 256 ≤ om
 lm : om + 256 ≤ N

section
variable {H H' : Heap} {b N oy om : Nat} {e : TypeId} {ys ms : Nat → Int} {r : Nat → Value}

theorem DV.lt (h : DV H b e N oy om ys ms r) : b < H.size := h.vb.lt
theorem DV.ext (h : DV H b e N oy om ys ms r) (he : Ext H H') : DV H' b e N oy om ys ms r := ⟨h.vb.ext he, h.le, h.lm⟩
theorem DV.mods {S : List Nat} (h : DV H b e N oy om ys ms r) (he : Mods S H H') (hb : b ∉ S) : DV H' b e N oy om ys ms r := ⟨h.vb.mods he hb, h.le, h.lm⟩
theorem DV.congr {ys' ms' : Nat → Int} (h : DV H b e N oy om ys ms r) (h1 : ∀ i, i < 256 → ys i = ys' i) (h2 : ∀ i, i < 256 → ms i = ms' i) : DV H b e N oy om ys' ms' r := by
 refine ⟨h.vb.congr (fun i _ => ?_), h.le, h.lm⟩
 unfold dvF
 split
 ·rw [h1 _ (by omega)]
 ·split
  ·rw [h2 _ (by omega)]
  ·rfl
theorem DV.rdY (h : DV H b e N oy om ys ms r) {i : Nat} (hi : i < 256) : rd H (((⟨b, 0, none⟩ : Addr).add oy).add (i * 1)) = some (.int .u8 (ys i)) := by
 have := h.vb.rd (i := oy + i) (by have := h.le; have := h.lm; omega)
 rw [add_add, Nat.mul_one, this]
 unfold dvF
 rw [if_pos (by omega), show oy + i - oy = i by omega]
theorem DV.rdM (h : DV H b e N oy om ys ms r) {i : Nat} (hi : i < 256) : rd H (((⟨b, 0, none⟩ : Addr).add om).add (i * 1)) = some (.int .u8 (ms i)) := by
 have := h.vb.rd (i := om + i) (by have := h.lm; omega)
 rw [add_add, Nat.mul_one, this]
 unfold dvF
 have := h.le
 rw [if_neg (by omega), if_pos (by omega), show om + i - om = i by omega]
theorem DV.rdR (h : DV H b e N oy om ys ms r) {i : Nat} (hi : i < N) (h1 : ¬ (oy ≤ i ∧ i < oy + 256)) (h2 : ¬ (om ≤ i ∧ i < om + 256)) : rd H ((⟨b, 0, none⟩ : Addr).add i) = some (r i) := by
 rw [h.vb.rd hi]
 unfold dvF
 rw [if_neg h1, if_neg h2]
theorem DV.okY (h : DV H b e N oy om ys ms r) {i : Nat} (hi : i < 256) : okRow H (((⟨b, 0, none⟩ : Addr).add oy).add (i * 1)) 1 := by
 rw [add_add, Nat.mul_one]
 exact h.vb.ok (by have := h.le; have := h.lm; omega)
theorem DV.okM (h : DV H b e N oy om ys ms r) {i : Nat} (hi : i < 256) : okRow H (((⟨b, 0, none⟩ : Addr).add om).add (i * 1)) 1 := by
 rw [add_add, Nat.mul_one]
 exact h.vb.ok (by have := h.lm; omega)
theorem DV.wrY (h : DV H b e N oy om ys ms r) {i : Nat} (hi : i < 256) (v : Int) : DV (wrs H (((⟨b, 0, none⟩ : Addr).add oy).add (i * 1)) [.int .u8 v]) b e N oy om (upd ys i v) ms r := by
 have h1 := h.le
 have h2 := h.lm
 rw [add_add, Nat.mul_one]
 refine ⟨(h.vb.wr (i := oy + i) (by omega) (.int .u8 v)).congr (fun j hj => ?_), h1, h2⟩
 by_cases e : j = oy + i
 ·subst e
  unfold dvF
  rw [upd_same, if_pos (by omega), show oy + i - oy = i by omega, upd_same]
 ·rw [upd_ne e]
  unfold dvF
  split
  ·rw [upd_ne (by omega)]
  ·rfl
theorem DV.wrM (h : DV H b e N oy om ys ms r) {i : Nat} (hi : i < 256) (v : Int) : DV (wrs H (((⟨b, 0, none⟩ : Addr).add om).add (i * 1)) [.int .u8 v]) b e N oy om ys (upd ms i v) r := by
 have h1 := h.le
 have h2 := h.lm
 rw [add_add, Nat.mul_one]
 refine ⟨(h.vb.wr (i := om + i) (by omega) (.int .u8 v)).congr (fun j hj => ?_), h1, h2⟩
 by_cases e : j = om + i
 ·subst e
  unfold dvF
  rw [upd_same, if_neg (by omega), if_pos (by omega), show om + i - om = i by omega, upd_same]
 ·rw [upd_ne e]
  unfold dvF
  split
  ·rfl
  ·split
   ·rw [upd_ne (by omega)]
   ·rfl
theorem mods_dv {o i : Nat} {vs : List Value} {S : List Nat} (hb : b ∈ S) : Mods S H (wrs H (((⟨b, 0, none⟩ : Addr).add o).add i) vs) := by
 rw [add_add]; exact mods_wr_add hb
end

theorem shr_code {x : Int} {k : Nat} (v : Int) (hx : x = 8 * k) (hk : k < 8) : IntKind.u8.wrap (v.fdiv (2 ^ (min x.toNat IntKind.u64.bits))) = byteOf v k := by
 subst hx
 unfold byteOf
 rw [show (8 * (k : Int)).toNat = 8 * k by omega, Nat.min_eq_left (by simp [IntKind.bits]; omega)]

abbrev PD (H : Heap) (b : Nat) (ys ms : Nat → Int) (r : Nat → Value) : Prop := DV H b t_pciconf_Device 515 0 256 ys ms r
theorem define_spec (b : Nat) (ys ms : Nat → Int) (r : Nat → Value) (o w : Nat) (v m : Int) (H : Heap) (h : PD H b ys ms r) (ho : o + w ≤ 256) (hw : w ≤ 8) :
  CallsH Tryz.prog n_pciconf_Device_define #[.pointer (some ⟨b, 0, none⟩), .int .i64 o, .int .i64 w, .int .u64 v, .int .u64 m] H (fun x H' => x = .tuple #[] ∧ PD H' b (d_setB ys o w v) (d_setB ms o w m) r ∧ Mods [b] H H') := by
 refine F_pciconf_Device_define_ok _ _ _ _ _ ?_
 unfold F_pciconf_Device_define
 refine loop1 w (fun k H' => PD H' b (d_setB ys o k v) (d_setB ms o k m) r ∧ Mods [b] H H') ⟨h.congr (fun i _ => by unfold d_setB; rw [if_neg (by omega)]) (fun i _ => by unfold d_setB; rw [if_neg (by omega)]), .refl _ _⟩ ?_
 rintro k H1 hk ⟨d1, m1⟩
 unfold F_pciconf_Device_define_r1
 refine iteB_dec (fun c => ?_) (fun c => ?_)
 ·have hkn : k < w := by omega
  rw [i64_in (n := (8 : Int) * k) (by omega), i64_in (n := (o : Int) + k) (by omega), shr_code v rfl (by omega), shr_code m rfl (by omega)]
  have e1 : ((o : Int) + k).toNat = o + k := by omega
  rw [e1]
  refine ⟨by omega, by omega, by omega, d1.okY (i := o + k) (by omega), letH_mk ?_⟩
  rintro H2 rfl
  have d2 := d1.wrY (i := o + k) (by omega) (byteOf v k)
  refine ⟨by omega, by omega, by omega, d2.okM (i := o + k) (by omega), letH_mk ?_⟩
  rintro H3 rfl
  have d3 := d2.wrM (i := o + k) (by omega) (byteOf m k)
  refine next1 hkn (by omega) ⟨d3.congr (fun i _ => ?_) (fun i _ => ?_), (m1.trans (mods_dv (o := 0) (by simp))).trans (mods_dv (by simp))⟩
  ·unfold upd d_setB
   by_cases e : i = o + k
   ·rw [if_pos e, if_pos (by omega), show i - o = k by omega]
   ·rw [if_neg e]
    by_cases e2 : o ≤ i ∧ i < o + k
    ·rw [if_pos e2, if_pos (by omega)]
    ·rw [if_neg e2, if_neg (by omega)]
  ·unfold upd d_setB
   by_cases e : i = o + k
   ·rw [if_pos e, if_pos (by omega), show i - o = k by omega]
   ·rw [if_neg e]
    by_cases e2 : o ≤ i ∧ i < o + k
    ·rw [if_pos e2, if_pos (by omega)]
    ·rw [if_neg e2, if_neg (by omega)]
 ·obtain rfl : k = w := by omega
  exact ⟨rfl, d1, m1⟩

end
section

def Formed (o w : Int) : Prop := (w = 1 ∨ w = 2 ∨ w = 4) ∧ 0 ≤ o ∧ o < 256 ∧ o % w = 0
instance (o w : Int) : Decidable (Formed o w) := by unfold Formed; infer_instance

theorem Formed.nat {o w : Int} (h : Formed o w) : ∃ a b : Nat, o = a ∧ w = b ∧ a + b ≤ 256 ∧ b ≤ 4 := by
 obtain ⟨h1, h2, h3, h4⟩ := h
 refine ⟨o.toNat, w.toNat, by omega, by omega, ?_, by omega⟩
 rcases h1 with rfl | rfl | rfl <;> omega

theorem wellFormed_spec (o w : Int) (H : Heap) : CallsH Tryz.prog n_pciconf_wellFormed #[.int .i64 o, .int .i64 w] H (fun v H' => v = .bool (decide (Formed o w)) ∧ H' = H) := by
 refine F_pciconf_wellFormed_ok _ _ ?_
 unfold F_pciconf_wellFormed
 have no : ¬ Formed o w → Value.bool false = Value.bool (decide (Formed o w)) ∧ H = H := fun h => ⟨by rw [decide_eq_false h], rfl⟩
 refine ⟨fun H' => H' = H ∧ (w = 1 ∨ w = 2 ∨ w = 4), ?_, ?_⟩
 ·exact iteB_bne (fun c1 => iteB_bne (fun c2 => iteB_bne (fun c3 => no (fun h => by have := h.1; omega)) (fun c3 => ⟨rfl, by omega⟩)) (fun c2 => ⟨rfl, by omega⟩)) (fun c1 => ⟨rfl, by omega⟩)
 rintro H1 ⟨rfl, hw⟩
 unfold F_pciconf_wellFormed_k1
 refine iteB_dec (fun c1 => iteB_dec (fun c2 => ⟨by omega, ?_, rfl⟩) (fun c2 => no (fun h => by have := h.2; omega))) (fun c1 => no (fun h => by have := h.2; omega))
 rw [Int.tmod_eq_emod_of_nonneg c1]
 congr 1
 by_cases hf : o % w = 0
 ·rw [decide_eq_true ⟨hw, c1, c2, hf⟩]; simpa using hf
 ·rw [decide_eq_false (fun h => hf h.2.2.2)]; simpa using hf

theorem number_spec (b : Nat) (ys ms : Nat → Int) (r : Nat → Value) (o w : Nat) (H : Heap) (h : PD H b ys ms r) (hy : Bytes ys) (ho : o + w ≤ 256) (hw : w ≤ 8) :
  CallsH Tryz.prog n_pciconf_Device_number #[.pointer (some ⟨b, 0, none⟩), .int .i64 o, .int .i64 w] H (fun x H' => x = .int .u64 (numB ys o w) ∧ H' = H) := by
 refine F_pciconf_Device_number_ok _ _ _ ?_
 unfold F_pciconf_Device_number
 refine loop2 w (fun k (v : Int) H' => v = numP ys o k ∧ H' = H) ⟨rfl, rfl⟩ ?_
 rintro k v H1 hk ⟨rfl, rfl⟩
 unfold F_pciconf_Device_number_r1
 refine iteB_dec (fun c => ?_) (fun c => ?_)
 ·have hkn : k < w := by omega
  rw [i64_in (n := (8 : Int) * k) (by omega), i64_in (n := (o : Int) + k) (by omega)]
  have e1 : ((o : Int) + k).toNat = o + k := by omega
  have e2 : ((8 : Int) * k).toNat = 8 * k := by omega
  rw [e1, e2, Nat.min_eq_left (by simp [IntKind.bits]; omega)]
  have hb := hy (o + k)
  have hp := numP_range hy o (k + 1)
  have hp0 := numP_range hy o k
  have hpow : (2 : Int) ^ (8 * (k + 1)) ≤ 18446744073709551616 := by
   have : (2 : Int) ^ (8 * (k + 1)) ≤ 2 ^ 64 := by
    have h2 : (2 : Nat) ^ (8 * (k + 1)) ≤ 2 ^ 64 := Nat.pow_le_pow_right (by omega) (by omega)
    exact_mod_cast h2
   have : (2 : Int) ^ 64 = 18446744073709551616 := by decide
   omega
  have hm0 : 0 ≤ ys (o + k) * 2 ^ (8 * k) := Int.mul_nonneg hb.1 (Int.pow_nonneg (by omega))
  simp only [numP] at hp
  refine ⟨by omega, by omega, _, h.rdY (i := o + k) (by omega), by omega, letV_mk (numP ys o (k + 1)) ?_ (next2 hkn (by omega) ⟨rfl, rfl⟩)⟩
  rw [u64_in (n := ys (o + k)) (by omega), u64_in (n := ys (o + k) * 2 ^ (8 * k)) (by omega)]
  exact bitsOr_u64 hp0 hb.1 (by omega)
 ·obtain rfl : k = w := by omega
  exact ⟨by rw [numP_numB], rfl⟩

def wrB (y m x : Int) : Int := bitsOr .u8 (bitsAndNot .u8 y m) (bitsAnd .u8 x m)
theorem wrB_range (y m x : Int) : 0 ≤ wrB y m x ∧ wrB y m x ≤ 255 := by unfold wrB bitsOr; exact u8_range _
def wrA (ys ms : Nat → Int) (o w : Nat) (v : Int) (i : Nat) : Int := if o ≤ i ∧ i < o + w then wrB (ys i) (ms i) (byteOf v (i - o)) else ys i
def writeF (ys ms : Nat → Int) (o w v : Int) : Nat → Int := if Formed o w then wrA ys ms o.toNat w.toNat v else ys

theorem wrA_bytes {ys ms : Nat → Int} (h : Bytes ys) (o w : Nat) (v : Int) : Bytes (wrA ys ms o w v) := by
 intro i; unfold wrA; split
 ·exact wrB_range _ _ _
 ·exact h i
theorem writeF_bytes {ys ms : Nat → Int} (h : Bytes ys) (o w v : Int) : Bytes (writeF ys ms o w v) := by
 unfold writeF; split
 ·exact wrA_bytes h _ _ _
 ·exact h
theorem Write_spec (b : Nat) (ys ms : Nat → Int) (r : Nat → Value) (o w v : Int) (H : Heap) (h : PD H b ys ms r) :
  CallsH Tryz.prog n_pciconf_Device_Write #[.pointer (some ⟨b, 0, none⟩), .int .i64 o, .int .i64 w, .int .u64 v] H (fun x H' => x = .tuple #[] ∧ PD H' b (writeF ys ms o w v) ms r ∧ Mods [b] H H') := by
 refine F_pciconf_Device_Write_ok _ _ _ _ ?_
 unfold F_pciconf_Device_Write
 refine (wellFormed_spec o w H).mono ?_
 rintro x H1 ⟨rfl, rfl⟩
 refine ⟨_, rfl, iteB_not (fun c => ?_) (fun c => ?_)⟩
 ·have hf : ¬ Formed o w := by simpa using c
  exact ⟨rfl, by unfold writeF; rw [if_neg hf]; exact h, .refl _ _⟩
 have hf : Formed o w := by simpa using c
 obtain ⟨a, n, rfl, rfl, h1, h2⟩ := hf.nat
 have hwr : writeF ys ms a n v = wrA ys ms a n v := by unfold writeF; rw [if_pos hf]; simp
 rw [hwr]
 refine loop1 n (fun k H' => PD H' b (wrA ys ms a k v) ms r ∧ Mods [b] H1 H') ⟨h.congr (fun i _ => by unfold wrA; rw [if_neg (by omega)]) (fun i _ => rfl), .refl _ _⟩ ?_
 rintro k H2 hk ⟨d2, m2⟩
 unfold F_pciconf_Device_Write_r1
 refine iteB_dec (fun c1 => ?_) (fun c1 => ?_)
 ·have hkn : k < n := by omega
  rw [i64_in (n := (8 : Int) * k) (by omega), i64_in (n := (a : Int) + k) (by omega)]
  have e1 : ((a : Int) + k).toNat = a + k := by omega
  rw [e1]
  have rY := d2.rdY (i := a + k) (by omega)
  have rM := d2.rdM (i := a + k) (by omega)
  refine ⟨by omega, by omega, _, rM, by omega, by omega, _, rY, by omega, by omega, by omega, d2.okY (i := a + k) (by omega), letH_mk ?_⟩
  rw [shr_code v rfl (by omega)]
  rintro H3 rfl
  have d3 := d2.wrY (i := a + k) (by omega) (wrB (wrA ys ms a k v (a + k)) (ms (a + k)) (byteOf v k))
  refine next1 hkn (by omega) ⟨d3.congr (fun i _ => ?_) (fun i _ => rfl), m2.trans (mods_dv (o := 0) (by simp))⟩
  unfold upd
  by_cases e : i = a + k
  ·subst e
   rw [if_pos rfl]
   unfold wrA
   rw [if_neg (by omega), if_pos (by omega), show a + k - a = k by omega]
  ·rw [if_neg e]
   unfold wrA
   by_cases e2 : a ≤ i ∧ i < a + k
   ·rw [if_pos e2, if_pos (by omega)]
   ·rw [if_neg e2, if_neg (by omega)]
 ·obtain rfl : k = n := by omega
  exact ⟨rfl, d2, m2⟩

end
section

abbrev d_St := (Nat → Int) × (Nat → Int)
def sdef (s : d_St) (o w : Nat) (v m : Int) : d_St := (d_setB s.1 o w v, d_setB s.2 o w m)
def kept (z : Int) : Int := IntKind.u64.wrap (18446744073709551615 * 2 ^ (min z.toNat IntKind.u64.bits))
def sbar (s : d_St) (o : Nat) (k z : Int) : d_St :=
 if k = 1 then sdef s o 4 1 (kept z) else if k = 2 then sdef s o 4 0 (kept z) else if k = 3 then sdef s o 8 4 (kept z) else if k = 4 then sdef s o 8 12 (kept z) else s
def sbars (s : d_St) (B : List Bar) : Nat → d_St
 | 0 => s
 | i + 1 => sbar (sbars s B i) (16 + 4 * i) (bk B i) (bz B i)
def sbase (f : Fn) : d_St := sdef (sdef (sdef (sdef (sdef (fun _ => 0, fun _ => 0) 0 2 (IntKind.u64.wrap f.vendor) 0) 2 2 (IntKind.u64.wrap f.device) 0) 4 2 0 7) 60 1 0 255) 61 1 (IntKind.u64.wrap f.pin) 0
def sbr (s : d_St) : d_St := sdef (sdef (sdef (sdef s 14 1 1 0) 24 3 0 16777215) 28 2 0 61680) 32 4 0 4293984240
def spf (s : d_St) : d_St := sdef (sdef s 36 4 65537 4293984240) 40 8 0 18446744073709551615
def sbridge (s : d_St) (pref : Bool) : d_St := if pref then spf (sbr s) else sbr s
def sinit (f : Fn) : d_St := if f.bridge then sbridge (sbars (sbase f) f.bars (regs f.bridge)) f.pref else sbars (sbase f) f.bars (regs f.bridge)

theorem sdef_bytes {s : d_St} (h : Bytes s.1) (o w : Nat) (v m : Int) : Bytes (sdef s o w v m).1 := setB_bytes h _ _ _
theorem sbar_bytes {s : d_St} (h : Bytes s.1) (o : Nat) (k z : Int) : Bytes (sbar s o k z).1 := by
 unfold sbar
 repeat' split
 all_goals first | exact sdef_bytes h _ _ _ _ | exact h
theorem sbars_bytes {s : d_St} (h : Bytes s.1) (B : List Bar) : ∀ n, Bytes (sbars s B n).1
 | 0 => h
 | n + 1 => sbar_bytes (sbars_bytes h B n) _ _ _
theorem sbase_bytes (f : Fn) : Bytes (sbase f).1 := by
 unfold sbase
 exact sdef_bytes (sdef_bytes (sdef_bytes (sdef_bytes (sdef_bytes (fun _ => by dsimp only; omega) _ _ _ _) _ _ _ _) _ _ _ _) _ _ _ _) _ _ _ _
theorem sbr_bytes {s : d_St} (h : Bytes s.1) : Bytes (sbr s).1 := sdef_bytes (sdef_bytes (sdef_bytes (sdef_bytes h _ _ _ _) _ _ _ _) _ _ _ _) _ _ _ _
theorem spf_bytes {s : d_St} (h : Bytes s.1) : Bytes (spf s).1 := sdef_bytes (sdef_bytes h _ _ _ _) _ _ _ _
theorem sinit_bytes (f : Fn) : Bytes (sinit f).1 := by
 have hb := sbars_bytes (sbase_bytes f) f.bars (regs f.bridge)
 unfold sinit sbridge
 repeat' split
 ·exact spf_bytes (sbr_bytes hb)
 ·exact sbr_bytes hb
 ·exact hb

theorem push_vb {e : TypeId} {cs : Array Value} {N : Nat} {F : Nat → Value} {K : Heap → Prop} {H : Heap} (hc : cs = (tab N F).toArray) (h : ∀ H', Ext H H' → H'.size = H.size + 1 → VB H' H.size e N F → K H') :
  letH (H.push (.cells cs e (0, 0))) K := by
 subst hc
 exact push_mk fun H' e s b => h H' e s ⟨[], by simpa using b⟩

theorem defineBar_spec (b : Nat) (s : d_St) (r : Nat → Value) (o : Nat) (k z : Int) (H : Heap) (h : PD H b s.1 s.2 r) (ho : o + 8 ≤ 256) (hz : 0 ≤ z) :
  CallsH Tryz.prog n_pciconf_Device_defineBar #[.pointer (some ⟨b, 0, none⟩), .int .i64 o, .agg #[.int .i64 k, .int .i64 z]] H (fun x H' => x = .tuple #[] ∧ PD H' b (sbar s o k z).1 (sbar s o k z).2 r ∧ Mods [b] H H') := by
 refine F_pciconf_Device_defineBar_ok _ _ _ _ ?_
 unfold F_pciconf_Device_defineBar
 refine push_mk (vs := [.int .i64 k, .int .i64 z]) fun H1 e1 _ b1 => ⟨_, b1.rd (i := 1) rfl, hz, letV_mk (kept z) rfl ⟨_, b1.rd0 rfl, ?_⟩⟩
 have d1 := h.ext e1
 refine iteB_beq (fun c => ?_) (fun c1 => iteB_beq (fun c => ?_) (fun c2 => iteB_beq (fun c => ?_) (fun c3 => iteB_beq (fun c => ?_) (fun c4 => ?_))))
 ·refine (define_spec b s.1 s.2 r o 4 1 (kept z) H1 d1 (by omega) (by omega)).mono ?_
  rintro x H2 ⟨rfl, d2, m2⟩
  refine ⟨rfl, rfl, ?_, e1.mods.trans m2⟩
  unfold sbar; rw [if_pos c]; exact d2
 ·refine (define_spec b s.1 s.2 r o 4 0 (kept z) H1 d1 (by omega) (by omega)).mono ?_
  rintro x H2 ⟨rfl, d2, m2⟩
  refine ⟨rfl, rfl, ?_, e1.mods.trans m2⟩
  unfold sbar; rw [if_neg c1, if_pos c]; exact d2
 ·refine (define_spec b s.1 s.2 r o 8 4 (kept z) H1 d1 (by omega) (by omega)).mono ?_
  rintro x H2 ⟨rfl, d2, m2⟩
  refine ⟨rfl, rfl, ?_, e1.mods.trans m2⟩
  unfold sbar; rw [if_neg c1, if_neg c2, if_pos c]; exact d2
 ·refine (define_spec b s.1 s.2 r o 8 12 (kept z) H1 d1 (by omega) (by omega)).mono ?_
  rintro x H2 ⟨rfl, d2, m2⟩
  refine ⟨rfl, rfl, ?_, e1.mods.trans m2⟩
  unfold sbar; rw [if_neg c1, if_neg c2, if_neg c3, if_pos c]; exact d2
 ·refine ⟨rfl, ?_, e1.mods⟩
  unfold sbar; rw [if_neg c1, if_neg c2, if_neg c3, if_neg c4]; exact d1

def prest (g : Nat) (f : Fn) (i : Nat) : Value := if i = 512 then .slice (some ⟨g, 0, none⟩) (regs f.bridge) (regs f.bridge) else if i = 513 then .bool f.bridge else .bool f.pref

theorem defineBridge_spec (b g : Nat) (s : d_St) (f : Fn) (H : Heap) (h : PD H b s.1 s.2 (prest g f)) :
  CallsH Tryz.prog n_pciconf_Device_defineBridge #[.pointer (some ⟨b, 0, none⟩)] H (fun x H' => x = .tuple #[] ∧ PD H' b (sbridge s f.pref).1 (sbridge s f.pref).2 (prest g f) ∧ Mods [b] H H') := by
 refine F_pciconf_Device_defineBridge_ok _ ?_
 unfold F_pciconf_Device_defineBridge
 refine (define_spec b _ _ _ 14 1 1 0 H h (by omega) (by omega)).mono ?_
 rintro x H1 ⟨rfl, d1, m1⟩
 refine ⟨rfl, (define_spec b _ _ _ 24 3 0 16777215 H1 d1 (by omega) (by omega)).mono ?_⟩
 rintro x H2 ⟨rfl, d2, m2⟩
 refine ⟨rfl, (define_spec b _ _ _ 28 2 0 61680 H2 d2 (by omega) (by omega)).mono ?_⟩
 rintro x H3 ⟨rfl, d3, m3⟩
 refine ⟨rfl, (define_spec b _ _ _ 32 4 0 4293984240 H3 d3 (by omega) (by omega)).mono ?_⟩
 rintro x H4 ⟨rfl, d4, m4⟩
 have m4' := ((m1.trans m2).trans m3).trans m4
 refine ⟨rfl, f.pref, d4.rdR (i := 514) (by omega) (by omega) (by omega), iteB_intro (fun c => ?_) (fun c => ?_)⟩
 ·refine (define_spec b _ _ _ 36 4 65537 4293984240 H4 d4 (by omega) (by omega)).mono ?_
  rintro x H5 ⟨rfl, d5, m5⟩
  refine ⟨rfl, (define_spec b _ _ _ 40 8 0 18446744073709551615 H5 d5 (by omega) (by omega)).mono ?_⟩
  rintro x H6 ⟨rfl, d6, m6⟩
  refine ⟨rfl, rfl, ?_, (m4'.trans m5).trans m6⟩
  unfold sbridge; rw [if_pos c]; exact d6
 ·refine ⟨rfl, ?_, m4'⟩
  unfold sbridge; rw [if_neg (by rw [c]; simp)]; exact d4

def xbars (f : Fn) : List Bar := f.bars ++ (List.replicate (regs f.bridge) ((0, 0) : Bar)).drop f.bars.length
theorem xbars_get {f : Fn} (_h : f.bars.length ≤ regs f.bridge) {k : Nat} (hk : k < regs f.bridge) : (xbars f)[k]? = some (bk f.bars k, bz f.bars k) := by
 unfold xbars bk bz
 by_cases c : k < f.bars.length
 ·rw [List.getElem?_append_left c, List.getElem?_eq_getElem c]
  simp [List.getD, c]
 ·rw [List.getElem?_append_right (by omega), List.getElem?_drop, List.getElem?_replicate, if_pos (by omega)]
  have : f.bars[k]? = none := List.getElem?_eq_none (by omega)
  simp [List.getD, this]

inductive DevP (f : Fn) (H : Heap) : Value → Heap → Prop
 | yes {H' : Heap} (b g : Nat) (hv : ValidF f) (hb : H.size ≤ b) (hg : H.size ≤ g) (hgb : g ≠ b) (d : PD H' b (sinit f).1 (sinit f).2 (prest g f)) (hx : RB H' g t_api_Bar 2 encBar (xbars f)) (he : Ext H H') : DevP f H (.tuple #[.pointer (some ⟨b, 0, none⟩), .int .i64 0]) H'
 | no {H' : Heap} (hv : ¬ ValidF f) (he : Ext H H') : DevP f H (.tuple #[.pointer none, .int .i64 1]) H'

theorem BarOk.nonneg {B : List Bar} {i : Nat} (h : BarOk B i) : 0 ≤ bz B i := by unfold BarOk at h; omega
theorem bz_nonneg {f : Fn} (h : ValidF f) (i : Nat) : 0 ≤ bz f.bars i := by
 by_cases c : i < f.bars.length
 ·exact (h.ba i c).nonneg
 ·unfold bz; simp [List.getD, c]

theorem New_spec (f : Fn) (s : Sl) (H : Heap) (h : Bars H s f.bars) : CallsH Tryz.prog n_pciconf_New #[fnV f s] H (DevP f H) := by
 refine F_pciconf_New_ok _ _ _ _ _ _ _ _ _ _ _ ?_
 unfold F_pciconf_New
 refine push_mk (vs := fnL f s) fun H1 e1 z1 b1 => ?_
 obtain ⟨p0, p1, p2, p3, p4, p5, p6, p7, p8, p9, p10⟩ := Blk.fn b1
 refine ⟨_, p0, _, p1, _, p2, _, p3, _, p4, _, p5, _, p6, _, p7, _, p8, _, p9, s, p10, (Valid_spec f s H1 (h.ext e1)).mono ?_⟩
 rintro v H2 ⟨rfl, e2⟩
 refine ⟨_, rfl, iteB_not (fun c => .no (by simpa using c) (e1.trans e2)) (fun c => ?_)⟩
 have hv : ValidF f := by simpa using c
 have hr : regs f.bridge ≤ 6 := by unfold regs; split <;> omega
 have b2 := b1.ext e2
 obtain ⟨q0, q1, q2, q3, q4, q5, q6, q7, q8, q9, q10⟩ := Blk.fn b2
 refine ⟨_, q4, _, q4, _, q5, (registers_spec _ H2).mono ?_⟩
 rintro v H3 ⟨rfl, rfl⟩
 refine ⟨_, rfl, .refl _ _, by omega, by omega, by omega, letH_mk ?_⟩
 intro H4 h4
 rw [Int.toNat_natCast] at h4 ⊢
 have e4 : Ext H3 H4 := by rw [h4]; exact Ext.push _ _
 have z4 : H4.size = H3.size + 1 := by rw [h4]; simp
 have g4 : RB H4 H3.size t_api_Bar 2 encBar (List.replicate (regs f.bridge) (0, 0)) := by rw [h4]; exact RB.zero _ _ encBar_len _ _ _ rfl
 clear h4
 refine ⟨e4.keeps, push_vb (N := 515) (F := dvF 0 256 (fun _ => 0) (fun _ => 0) (prest H3.size f)) (by kernel_rfl) fun H5 e5 z5 b5 => ?_⟩
 have l1 := b1.lt
 have d5 : PD H5 H4.size (fun _ => 0) (fun _ => 0) (prest H3.size f) := ⟨b5, by omega, by omega⟩
 have e35 := e4.trans e5
 have x5 := (e1.trans e2).trans e35
 have b5 := b2.ext e35
 have g5 := g4.ext e5
 have bars5 := h.ext x5
 obtain ⟨_, _, _, _, _, _, _, _, _, _, q10⟩ := Blk.fn b5
 have ls := e2.size
 refine ⟨⟨some ⟨H3.size, 0, none⟩, regs f.bridge, regs f.bridge⟩, d5.rdR (i := 512) (by omega) (by omega) (by omega), s, q10, ?_⟩
 have hcp := copy_rb (P := Tryz.prog) (st := t_sl_api_Bar) (st' := t_sl_api_Bar) (ty := t_int) (e := t_api_Bar) (dc := regs f.bridge) (L := List.replicate (regs f.bridge) ((0, 0) : Bar)) (K := fun v2 H6 => v2 = .int .i64 f.bars.length ∧ RB H6 H3.size t_api_Bar 2 encBar (xbars f) ∧ Mods [H3.size] H5 H6 ∧ H6.size = H5.size) (by kernel_rfl) (by kernel_rfl) g5 bars5 (by simpa using hv.bl) encBar_one (fun H' h1 h2 h3 => ⟨rfl, h1, h2, h3⟩)
 rw [List.length_replicate] at hcp
 refine runH_mono hcp ?_
 rintro v H6 ⟨rfl, g6, m6, z6⟩
 have b6 := b5.mods m6 (by simp; omega)
 have d6 := d5.mods m6 (by simp; omega)
 have x6 : Ext H H6 := Mods.ext x5 m6 (by simp; omega)
 obtain ⟨_, _, q2, _, _, _, _, _, _, _, _⟩ := Blk.fn b6
 refine ⟨_, rfl, _, q2, (define_spec H4.size _ _ _ 0 2 _ 0 H6 d6 (by omega) (by omega)).mono ?_⟩
 rintro v H7 ⟨rfl, d7, m7⟩
 have b7 := b6.mods m7 (by simp; omega)
 obtain ⟨_, _, _, q3, _, _, _, _, _, _, _⟩ := Blk.fn b7
 refine ⟨rfl, _, q3, (define_spec H4.size _ _ _ 2 2 _ 0 H7 d7 (by omega) (by omega)).mono ?_⟩
 rintro v H8 ⟨rfl, d8, m8⟩
 refine ⟨rfl, (define_spec H4.size _ _ _ 4 2 _ 7 H8 d8 (by omega) (by omega)).mono ?_⟩
 rintro v H9 ⟨rfl, d9, m9⟩
 refine ⟨rfl, (define_spec H4.size _ _ _ 60 1 _ 255 H9 d9 (by omega) (by omega)).mono ?_⟩
 rintro v H10 ⟨rfl, d10, m10⟩
 have m10' := ((m7.trans m8).trans m9).trans m10
 have b10 := b6.mods m10' (by simp; omega)
 obtain ⟨_, _, _, _, _, _, _, _, q8, _, _⟩ := Blk.fn b10
 refine ⟨rfl, _, q8, (define_spec H4.size _ _ _ 61 1 _ 0 H10 d10 (by omega) (by omega)).mono ?_⟩
 rintro v H11 ⟨rfl, d11, m11⟩
 have m11' := m10'.trans m11
 have d11' : PD H11 H4.size (sbase f).1 (sbase f).2 (prest H3.size f) := d11
 clear d11
 refine ⟨rfl, ⟨some ⟨H3.size, 0, none⟩, regs f.bridge, regs f.bridge⟩, d11'.rdR (i := 512) (by omega) (by omega) (by omega), ?_⟩
 refine loop1 (regs f.bridge) (fun k H' => PD H' H4.size (sbars (sbase f) f.bars k).1 (sbars (sbase f) f.bars k).2 (prest H3.size f) ∧ Mods [H4.size] H6 H') ⟨d11', m11'⟩ ?_
 rintro k H12 hk ⟨d12, m12⟩
 unfold F_pciconf_New_r1
 have b12 := b6.mods m12 (by simp; omega)
 have g12 := g6.mods m12 (by simp; omega)
 have x12 : Ext H H12 := Mods.ext x6 m12 (by simp; omega)
 refine iteB_dec (fun c1 => ?_) (fun c1 => ?_)
 ·have hkn : k < regs f.bridge := by simpa using c1
  have hg := xbars_get hv.bl hkn
  have r0 := g12.rd0 (v := .int .i64 (bk f.bars k)) hg rfl
  have r1 := g12.rd (j := 1) (v := .int .i64 (bz f.bars k)) hg rfl
  refine ⟨by omega, by simpa using hkn, unSome_mk rfl ⟨_, r0, _, r1, local_mk rfl rfl fun H14 e14 _ b14 => ⟨_, b14.rd0 rfl, _, b14.rd (i := 1) rfl, ?_⟩⟩⟩
  rw [i64_in (n := (4 : Int) * k) (by omega), i64_in (n := (16 : Int) + 4 * k) (by omega), show (16 : Int) + 4 * k = ((16 + 4 * k : Nat) : Int) by omega]
  refine (defineBar_spec H4.size _ _ _ _ _ H14 (d12.ext e14) (by omega) (bz_nonneg hv k)).mono ?_
  rintro v H15 ⟨rfl, d15, m15⟩
  exact ⟨rfl, next1 hkn (by omega) ⟨d15, (m12.trans e14.mods).trans m15⟩⟩
 ·have : k = regs f.bridge := by simp at c1; omega
  subst this
  obtain ⟨_, _, _, _, q4, _, _, _, _, _, _⟩ := Blk.fn b12
  have l4 := e4.size
  refine ⟨_, q4, iteB_intro (fun c2 => ?_) (fun c2 => ?_)⟩
  ·refine (defineBridge_spec H4.size H3.size _ f H12 d12).mono ?_
   rintro v H16 ⟨rfl, d16, m16⟩
   refine ⟨rfl, .yes H4.size H3.size hv (by omega) (by omega) (by omega) ?_ (g12.mods m16 (by simp; omega)) (Mods.ext x12 m16 (by simp; omega))⟩
   unfold sinit; rw [if_pos c2]; exact d16
  ·refine .yes H4.size H3.size hv (by omega) (by omega) (by omega) ?_ g12 x12
   unfold sinit; rw [if_neg (by rw [c2]; simp)]; exact d12

end
section
theorem setB_out {ys : Nat → Int} {o w i : Nat} {v : Int} (h : i < o ∨ o + w ≤ i) : d_setB ys o w v i = ys i := by
 unfold d_setB; rw [if_neg (by omega)]
theorem sdef_out {s : d_St} {o w i : Nat} {v m : Int} (h : i < o ∨ o + w ≤ i) : (sdef s o w v m).1 i = s.1 i ∧ (sdef s o w v m).2 i = s.2 i := ⟨setB_out h, setB_out h⟩
theorem sbar_out {s : d_St} {o i : Nat} {k z : Int} (h : i < o ∨ o + 8 ≤ i) : (sbar s o k z).1 i = s.1 i ∧ (sbar s o k z).2 i = s.2 i := by
 unfold sbar
 repeat' split
 all_goals first | exact sdef_out (by omega) | exact ⟨rfl, rfl⟩
theorem sbars_out {s : d_St} {B : List Bar} {i : Nat} : ∀ n, n ≤ 6 → (i < 16 ∨ 44 ≤ i) → (sbars s B n).1 i = s.1 i ∧ (sbars s B n).2 i = s.2 i
 | 0, _, _ => ⟨rfl, rfl⟩
 | n + 1, hn, h => by
  have h1 := sbars_out (s := s) (B := B) n (by omega) h
  have h2 := sbar_out (s := sbars s B n) (o := 16 + 4 * n) (k := bk B n) (z := bz B n) (i := i) (by omega)
  exact ⟨h2.1.trans h1.1, h2.2.trans h1.2⟩
theorem sbr_out {s : d_St} {i : Nat} (h : i < 14 ∨ 36 ≤ i) : (sbr s).1 i = s.1 i ∧ (sbr s).2 i = s.2 i := by
 unfold sbr sdef d_setB
 dsimp only
 repeat rw [if_neg (by omega)]
 exact ⟨rfl, rfl⟩
theorem spf_out {s : d_St} {i : Nat} (h : i < 36 ∨ 48 ≤ i) : (spf s).1 i = s.1 i ∧ (spf s).2 i = s.2 i := by
 unfold spf sdef d_setB
 dsimp only
 repeat rw [if_neg (by omega)]
 exact ⟨rfl, rfl⟩
theorem regs_le (b : Bool) : regs b ≤ 6 := by unfold regs; split <;> omega
theorem sinit_out (f : Fn) {i : Nat} (h : i < 14 ∨ 48 ≤ i) : (sinit f).1 i = (sbase f).1 i ∧ (sinit f).2 i = (sbase f).2 i := by
 have h1 := sbars_out (s := sbase f) (B := f.bars) (i := i) _ (regs_le f.bridge) (by omega)
 have h2 := sbr_out (s := sbars (sbase f) f.bars (regs f.bridge)) (i := i) (by omega)
 have h3 := spf_out (s := sbr (sbars (sbase f) f.bars (regs f.bridge))) (i := i) (by omega)
 unfold sinit sbridge
 repeat' split
 ·exact ⟨h3.1.trans (h2.1.trans h1.1), h3.2.trans (h2.2.trans h1.2)⟩
 ·exact ⟨h2.1.trans h1.1, h2.2.trans h1.2⟩
 ·exact h1
theorem byteOf_zero (k : Nat) : byteOf 0 k = 0 := by unfold byteOf; rw [u8_wrap]; simp
end
section

abbrev WR := Int × Int × Int × Int × Bool
def encW (w : WR) : List Value := [.int .i64 w.1, .int .i64 w.2.1, .int .u64 w.2.2.1, .int .u64 w.2.2.2.1, .bool w.2.2.2.2]
theorem encW_len (w : WR) : (encW w).length = 5 := rfl
theorem encW_one (w : WR) : ∀ u ∈ encW w, oneC u = true := fun u hu => by simp [encW] at hu; rcases hu with rfl | rfl | rfl | rfl | rfl <;> rfl

def enF (ys : Nat → Int) (c : Int) : Bool := if c = 0 then bitsAnd .u8 (ys 4) 1 != 0 else bitsAnd .u8 (ys 4) 2 != 0
def wcl (k : Int) : Int := if k = 1 then 0 else if k = 4 then 2 else 1
def wwd (k : Int) : Nat := if k = 3 ∨ k = 4 then 8 else 4
def winB (n z : Int) : Int := IntKind.u64.wrap (n.fdiv (2 ^ (min z.toNat IntKind.u64.bits)) * 2 ^ (min z.toNat IntKind.u64.bits))
def winL (z : Int) : Int := IntKind.u64.wrap (1 * 2 ^ (min z.toNat IntKind.u64.bits))
def winOf (ys : Nat → Int) (B : List Bar) (i : Nat) : WR := (i, wcl (bk B i), winB (numB ys (16 + 4 * i) (wwd (bk B i))) (bz B i), winL (bz B i), enF ys (wcl (bk B i)))
def winsF (ys : Nat → Int) (B : List Bar) : Nat → List WR
 | 0 => []
 | i + 1 => winsF ys B i ++ (if bk B i = 0 then [] else [winOf ys B i])

theorem winsF_len (ys : Nat → Int) (B : List Bar) : ∀ n, (winsF ys B n).length ≤ n
 | 0 => by simp [winsF]
 | n + 1 => by
  have := winsF_len ys B n
  simp only [winsF, List.length_append]
  split <;> simp <;> omega
theorem enabled_spec (b : Nat) (ys ms : Nat → Int) (r : Nat → Value) (c : Int) (H : Heap) (h : PD H b ys ms r) :
  CallsH Tryz.prog n_pciconf_Device_enabled #[.pointer (some ⟨b, 0, none⟩), .int .i64 c] H (fun v H' => v = .bool (enF ys c) ∧ H' = H) := by
 refine F_pciconf_Device_enabled_ok _ _ ?_
 unfold F_pciconf_Device_enabled
 have r4 := h.rdY (i := 4) (by omega)
 refine iteB_beq (fun c0 => ⟨by omega, by omega, _, r4, ?_, rfl⟩) (fun c0 => ⟨by omega, by omega, _, r4, ?_, rfl⟩)
 ·unfold enF; rw [if_pos c0]
 ·unfold enF; rw [if_neg c0]

def awF (ys : Nat → Int) (c first last : Int) : List WR := if first > last then [] else [(-1 - c, c, first, IntKind.u64.wrap (IntKind.u64.wrap (last - first) + 1), enF ys c)]
theorem awF_len (ys : Nat → Int) (c a b : Int) : (awF ys c a b).length ≤ 1 := by unfold awF; split <;> simp
abbrev shrF (x k : Int) : Int := x.fdiv (2 ^ (min k.toNat IntKind.u64.bits))
abbrev shlF (x k : Int) : Int := IntKind.u64.wrap (x * 2 ^ (min k.toNat IntKind.u64.bits))
def d_aw0 (ys : Nat → Int) : List WR := awF ys 0 (shlF (shrF (numB ys 28 1) 4) 12) (bitsOr .u64 (shlF (shrF (numB ys 29 1) 4) 12) 4095)
def d_aw1 (ys : Nat → Int) : List WR := awF ys 1 (shlF (shrF (numB ys 32 2) 4) 20) (bitsOr .u64 (shlF (shrF (numB ys 34 2) 4) 20) 1048575)
def d_aw2 (ys : Nat → Int) : List WR := awF ys 2 (bitsOr .u64 (shlF (shrF (numB ys 36 2) 4) 20) (shlF (numB ys 40 4) 32)) (bitsOr .u64 (bitsOr .u64 (shlF (shrF (numB ys 38 2) 4) 20) (shlF (numB ys 44 4) 32)) 1048575)
def brX (ys : Nat → Int) (f : Fn) : List WR := if f.bridge = true then d_aw0 ys ++ d_aw1 ys ++ (if f.pref = true then d_aw2 ys else []) else []
theorem appendWindow_spec (lo b : Nat) (ys ms : Nat → Int) (r : Nat → Value) (c first last : Int) (l : Sl) (ws : List WR) (H : Heap) (h : PD H b ys ms r) (hc : 0 ≤ c ∧ c ≤ 2) (ho : Own lo t_api_Window 5 H l (ws.flatMap encW)) (hn : l.n = ws.length) (hw : ws.length ≤ 100) (hlo : lo ≤ H.size) :
  CallsH Tryz.prog n_pciconf_Device_appendWindow #[.pointer (some ⟨b, 0, none⟩), .slice l.p l.n l.c, .int .i64 c, .int .u64 first, .int .u64 last] H
   (fun v H' => ∃ l' : Sl, v = .slice l'.p l'.n l'.c ∧ Own lo t_api_Window 5 H' l' ((ws ++ awF ys c first last).flatMap encW) ∧ l'.n = (ws ++ awF ys c first last).length ∧ Mods (blkOf l.p) H H') := by
 refine F_pciconf_Device_appendWindow_ok _ _ _ _ _ ?_
 unfold F_pciconf_Device_appendWindow
 unfold awF
 refine iteB_dec (fun c1 => ⟨l, rfl, by rw [if_pos c1, List.append_nil]; exact ho, by rw [if_pos c1, List.append_nil]; exact hn, .refl _ _⟩) (fun c1 => (enabled_spec b ys ms r c H h).mono ?_)
 rw [if_neg c1]
 rintro v H1 ⟨rfl, rfl⟩
 refine ⟨_, rfl, append_row (enc := encW) (l := ws) (z := .agg #[.int .i64 0, .int .i64 0, .int .u64 0, .int .u64 0, .bool false]) (sz := 5) (bytes := 40) (lo := lo) (IntKind.i64.wrap (-1 - c), c, first, IntKind.u64.wrap (IntKind.u64.wrap (last - first) + 1), enF ys c) (by kernel_rfl) (by kernel_rfl) rfl (by omega) encW_len encW_one ho (by simp [maxLen]; omega) (by omega) hlo ?_⟩
 intro s' H2 ho2 hn2 m2
 rw [i64_in (n := -1 - c) (by omega)] at ho2
 exact ⟨s', rfl, ho2, by simp; omega, m2⟩

structure WinX (ys : Nat → Int) (f : Fn) (H : Heap) (v : Value) (H' : Heap) : Prop where
 ex : ∃ l : Sl, v = .slice l.p l.n l.c ∧ IsS 5 encW H' l (winsF ys f.bars (regs f.bridge) ++ brX ys f) ∧ Ext H H'

set_option maxHeartbeats 1000000 in
theorem WindowsX_spec (b g : Nat) (f : Fn) (ys ms : Nat → Int) (H : Heap) (hv : ValidF f) (h : PD H b ys ms (prest g f)) (hy : Bytes ys) (hx : RB H g t_api_Bar 2 encBar (xbars f)) :
  CallsH Tryz.prog n_pciconf_Device_Windows #[.pointer (some ⟨b, 0, none⟩)] H (WinX ys f H) := by
 refine F_pciconf_Device_Windows_ok _ ?_
 unfold F_pciconf_Device_Windows
 have hr := regs_le f.bridge
 have lb := h.lt
 have lg := hx.lt
 refine ⟨⟨some ⟨g, 0, none⟩, regs f.bridge, regs f.bridge⟩, h.rdR (i := 512) (by omega) (by omega) (by omega), ?_⟩
 refine loop2 (regs f.bridge) (fun k l H' => Own H.size t_api_Window 5 H' l ((winsF ys f.bars k).flatMap encW) ∧ l.n = (winsF ys f.bars k).length ∧ Ext H H') ⟨Own.nil _ _ _ _, rfl, .refl _⟩ ?_
 rintro k l H1 hk ⟨o1, hn1, x1⟩
 unfold F_pciconf_Device_Windows_r2
 have wl := winsF_len ys f.bars k
 have z1 := x1.size
 refine iteB_lt (fun c => ?_) (fun c => ?_)
 ·have hkn : k < regs f.bridge := by simpa using c
  have hg := xbars_get hv.bl hkn
  have hx1 := hx.ext x1
  have hz := bz_nonneg hv k
  refine ⟨by omega, by simpa using hkn, unSome_mk rfl ⟨_, hx1.rd0 (v := .int .i64 (bk f.bars k)) hg rfl, _, hx1.rd (j := 1) (v := .int .i64 (bz f.bars k)) hg rfl, local_mk rfl rfl fun H3 e3 z3 b3 => local_mk rfl rfl fun H5 e5 z5 w5 => ?_⟩⟩
  have b5 := b3.ext e5
  have y5 := e3.trans e5
  refine ⟨fun width H' => width = wwd (bk f.bars k) ∧ bk f.bars k ≠ 0 ∧ Blk H' H3.size t_api_Window [.int .i64 k, .int .i64 (wcl (bk f.bars k)), .int .u64 0, .int .u64 0, .bool false] ∧ Mods [H3.size] H5 H', ⟨_, b5.rd0 rfl, ?_⟩, ?_⟩
  ·refine iteB_beq (fun c0 => next2 hkn (by omega) ?_) (fun c0 => ?_)
   ·refine ⟨?_, ?_, x1.trans y5⟩
    ·simp only [winsF]; rw [if_pos c0, List.append_nil]; exact o1.ext y5
    ·simp only [winsF]; rw [if_pos c0, List.append_nil]; exact hn1
   refine iteB_beq (fun c1 => ?_) (fun c1 => iteB_beq (fun c3 => ?_) (fun c3 => iteB_beq (fun c4 => ?_) (fun c4 => ?_)))
   ·refine ⟨w5.ok (i := 1) (n := 1) (by simp), letH_mk ?_⟩
    rintro H6 rfl
    refine ⟨by rw [c1]; rfl, by omega, ?_, mods_wr_add (by simp)⟩
    rw [c1]
    exact w5.wr1 (i := 1) (w := .int .i64 0)
   ·refine ⟨by rw [c3]; rfl, by omega, ?_, .refl _ _⟩
    rw [c3]
    exact w5
   ·refine ⟨w5.ok (i := 1) (n := 1) (by simp), letH_mk ?_⟩
    rintro H6 rfl
    refine ⟨by rw [c4]; rfl, by omega, ?_, mods_wr_add (by simp)⟩
    rw [c4]
    exact w5.wr1 (i := 1) (w := .int .i64 2)
   ·refine ⟨?_, by omega, ?_, .refl _ _⟩
    ·unfold wwd; rw [if_neg (by omega)]; rfl
    ·unfold wcl; rw [if_neg c1, if_neg c4]; exact w5
  ·rintro width H8 ⟨rfl, hk0, w8, m8⟩
   unfold F_pciconf_Device_Windows_k1
   have b8 := b5.mods m8 (by simp; omega)
   have x8 : Ext H H8 := Mods.ext (x1.trans y5) m8 (by simp; omega)
   have r1 := b8.rd (i := 1) (v := .int .i64 (bz f.bars k)) rfl
   have hwd : wwd (bk f.bars k) ≤ 8 := by unfold wwd; split <;> omega
   refine ⟨_, r1, _, r1, ?_⟩
   rw [i64_in (n := (4 : Int) * k) (by omega), i64_in (n := (16 : Int) + 4 * k) (by omega), show (16 : Int) + 4 * k = ((16 + 4 * k : Nat) : Int) by omega]
   refine (number_spec b ys ms _ (16 + 4 * k) (wwd (bk f.bars k)) H8 (h.ext x8) hy (by omega) hwd).mono ?_
   rintro v H9 ⟨rfl, rfl⟩
   refine ⟨_, rfl, .refl _ _, hz, hz, w8.ok (i := 2) (n := 1) (by simp), letH_mk ?_⟩
   intro H10 h10
   have w10 := w8.wr1 (i := 2) (w := .int .u64 (winB (numB ys (16 + 4 * k) (wwd (bk f.bars k))) (bz f.bars k)))
   have m10 : Mods [H3.size] H9 H10 := by rw [h10]; exact mods_wr_add (by simp)
   rw [show (wrs H9 ((⟨H3.size, 0, none⟩ : Addr).add 2) [.int .u64 (winB (numB ys (16 + 4 * k) (wwd (bk f.bars k))) (bz f.bars k))]) = H10 from h10.symm] at w10
   clear h10
   refine ⟨_, (b8.mods m10 (by simp; omega)).rd (i := 1) rfl, hz, w10.ok (i := 3) (n := 1) (by simp), letH_mk ?_⟩
   intro H11 h11
   rw [add_add] at h11
   have w11 := w10.wr1 (i := 3) (w := .int .u64 (winL (bz f.bars k)))
   have m11 : Mods [H3.size] H10 H11 := by rw [h11]; exact mods_wr_add (by simp)
   rw [show (wrs H10 ((⟨H3.size, 0, none⟩ : Addr).add 3) [.int .u64 (winL (bz f.bars k))]) = H11 from h11.symm] at w11
   clear h11
   have x11 : Ext H H11 := Mods.ext x8 (m10.trans m11) (by simp; omega)
   refine ⟨_, w11.rd (i := 1) rfl, (enabled_spec b ys ms _ _ H11 (h.ext x11)).mono ?_⟩
   rintro v H12 ⟨rfl, rfl⟩
   refine ⟨_, rfl, w11.ok (i := 4) (n := 1) (by simp), letH_mk ?_⟩
   intro H13 h13
   have w13 := w11.wr1 (i := 4) (w := .bool (enF ys (wcl (bk f.bars k))))
   have m13 : Mods [H3.size] H12 H13 := by rw [h13]; exact mods_wr_add (by simp)
   rw [← h13] at w13
   clear h13
   have mm : Mods [H3.size] H5 H13 := ((m8.trans m10).trans m11).trans m13
   have x13 : Ext H H13 := Mods.ext (x1.trans y5) mm (by simp; omega)
   have o13 := (o1.ext y5).mods mm (fun a ha => by have := o1.lt a ha; simp; omega)
   refine ⟨_, w13.rd0 rfl, _, w13.rd (i := 1) rfl, _, w13.rd (i := 2) rfl, _, w13.rd (i := 3) rfl, _, w13.rd (i := 4) rfl, ?_⟩
   refine append_row (enc := encW) (l := winsF ys f.bars k) (z := .agg #[.int .i64 0, .int .i64 0, .int .u64 0, .int .u64 0, .bool false]) (sz := 5) (bytes := 40) (lo := H.size) (winOf ys f.bars k) (by kernel_rfl) (by kernel_rfl) rfl (by omega) encW_len encW_one o13 (by simp [maxLen]; omega) (by omega) x13.size ?_
   intro s' H15 ho15 hn15 m15
   refine next2 hkn (by omega) ⟨?_, ?_, Mods.ext x13 m15 (blkOf_new o13.new)⟩
   ·simp only [winsF]; rw [if_neg hk0]; exact ho15
   ·simp only [winsF]; rw [if_neg hk0, hn15, hn1]; simp
 ·have hkr : k = regs f.bridge := by simp at c; omega
  subst hkr
  have d1 := h.ext x1
  refine ⟨f.bridge, d1.rdR (i := 513) (by omega) (by omega) (by omega), iteB_not (fun c1 => ⟨l, rfl, by unfold brX; rw [if_neg (by simp [c1]), List.append_nil]; exact o1.isS encW_len (by omega), x1⟩) (fun c1 => ?_)⟩
  refine (number_spec b ys ms _ 28 1 H1 d1 hy (by omega) (by omega)).mono ?_
  rintro v H16 ⟨rfl, rfl⟩
  refine ⟨_, rfl, by omega, (number_spec b ys ms _ 29 1 H16 d1 hy (by omega) (by omega)).mono ?_⟩
  rintro v H17 ⟨rfl, rfl⟩
  refine ⟨_, rfl, by omega, letV_mk _ rfl (letV_mk _ rfl ⟨by omega, by omega, (appendWindow_spec H.size b ys ms _ 0 _ _ l _ H17 d1 (by omega) o1 hn1 (by omega) x1.size).mono ?_⟩)⟩
  rintro v H18 ⟨l2, rfl, o2, hn2, m2⟩
  have x18 : Ext H H18 := Mods.ext x1 m2 (blkOf_new o1.new)
  have d18 := h.ext x18
  have a0 := awF_len ys 0 (shlF (shrF (numB ys 28 1) 4) 12) (bitsOr .u64 (shlF (shrF (numB ys 29 1) 4) 12) 4095)
  have hL2 : (winsF ys f.bars (regs f.bridge) ++ d_aw0 ys).length ≤ 7 := by unfold d_aw0; rw [List.length_append]; omega
  have o2' : Own H.size t_api_Window 5 H18 l2 ((winsF ys f.bars (regs f.bridge) ++ d_aw0 ys).flatMap encW) := o2
  have hn2' : l2.n = (winsF ys f.bars (regs f.bridge) ++ d_aw0 ys).length := hn2
  refine ⟨l2, rfl, (number_spec b ys ms _ 32 2 H18 d18 hy (by omega) (by omega)).mono ?_⟩
  rintro v H19 ⟨rfl, rfl⟩
  refine ⟨_, rfl, by omega, (number_spec b ys ms _ 34 2 H19 d18 hy (by omega) (by omega)).mono ?_⟩
  rintro v H20 ⟨rfl, rfl⟩
  refine ⟨_, rfl, by omega, letV_mk _ rfl (letV_mk _ rfl ⟨by omega, by omega, (appendWindow_spec H.size b ys ms _ 1 _ _ l2 _ H20 d18 (by omega) o2' hn2' (by omega) x18.size).mono ?_⟩)⟩
  rintro v H21 ⟨l3, rfl, o3, hn3, m3⟩
  have x21 : Ext H H21 := Mods.ext x18 m3 (blkOf_new o2.new)
  have d21 := h.ext x21
  have a1 := awF_len ys 1 (shlF (shrF (numB ys 32 2) 4) 20) (bitsOr .u64 (shlF (shrF (numB ys 34 2) 4) 20) 1048575)
  have hL3 : (winsF ys f.bars (regs f.bridge) ++ d_aw0 ys ++ d_aw1 ys).length ≤ 8 := by rw [List.length_append]; unfold d_aw1; omega
  have o3' : Own H.size t_api_Window 5 H21 l3 ((winsF ys f.bars (regs f.bridge) ++ d_aw0 ys ++ d_aw1 ys).flatMap encW) := o3
  have hn3' : l3.n = (winsF ys f.bars (regs f.bridge) ++ d_aw0 ys ++ d_aw1 ys).length := hn3
  refine ⟨l3, rfl, f.pref, d21.rdR (i := 514) (by omega) (by omega) (by omega), iteB_intro (fun c2 => ?_) (fun c2 => ⟨l3, rfl, by unfold brX; rw [if_pos c1, if_neg (by simp [c2]), List.append_nil, ← List.append_assoc]; exact o3'.isS encW_len (by omega), x21⟩)⟩
  refine (number_spec b ys ms _ 36 2 H21 d21 hy (by omega) (by omega)).mono ?_
  rintro v H22 ⟨rfl, rfl⟩
  refine ⟨_, rfl, by omega, by omega, (number_spec b ys ms _ 40 4 H22 d21 hy (by omega) (by omega)).mono ?_⟩
  rintro v H23 ⟨rfl, rfl⟩
  refine ⟨_, rfl, by omega, letV_mk _ rfl ((number_spec b ys ms _ 38 2 H23 d21 hy (by omega) (by omega)).mono ?_)⟩
  rintro v H24 ⟨rfl, rfl⟩
  refine ⟨_, rfl, by omega, by omega, (number_spec b ys ms _ 44 4 H24 d21 hy (by omega) (by omega)).mono ?_⟩
  rintro v H25 ⟨rfl, rfl⟩
  refine ⟨_, rfl, by omega, letV_mk _ rfl ((appendWindow_spec H.size b ys ms _ 2 _ _ l3 _ H25 d21 (by omega) o3' hn3' (by omega) x21.size).mono ?_)⟩
  rintro v H26 ⟨l4, rfl, o4, hn4, m4⟩
  have x26 : Ext H H26 := Mods.ext x21 m4 (blkOf_new o3.new)
  have o4' : Own H.size t_api_Window 5 H26 l4 ((winsF ys f.bars (regs f.bridge) ++ d_aw0 ys ++ d_aw1 ys ++ d_aw2 ys).flatMap encW) := o4
  exact ⟨l4, rfl, l4, rfl, by unfold brX; rw [if_pos c1, if_pos c2, ← List.append_assoc, ← List.append_assoc]; exact o4'.isS encW_len (by omega), x26⟩

theorem brX_len (ys : Nat → Int) (f : Fn) : (brX ys f).length ≤ 3 := by
 unfold brX
 split
 ·rw [List.length_append, List.length_append]
  have := awF_len ys 0 (shlF (shrF (numB ys 28 1) 4) 12) (bitsOr .u64 (shlF (shrF (numB ys 29 1) 4) 12) 4095)
  have := awF_len ys 1 (shlF (shrF (numB ys 32 2) 4) 20) (bitsOr .u64 (shlF (shrF (numB ys 34 2) 4) 20) 1048575)
  have h2 : (d_aw2 ys).length ≤ 1 := awF_len ys 2 _ _
  unfold d_aw0 d_aw1
  split
  ·omega
  ·simp only [List.length_nil]; omega
 ·simp

end
section

theorem byteOf_nat (n k : Nat) : (byteOf (n : Int) k).toNat = n / 2 ^ (8 * k) % 2 ^ 8 := by
 unfold byteOf
 rw [u8_wrap, Int.fdiv_eq_ediv_of_nonneg _ (Int.pow_nonneg (by omega))]
 have : ((n : Int) / 2 ^ (8 * k)) = ((n / 2 ^ (8 * k) : Nat) : Int) := by push_cast; rfl
 rw [this]
 omega

theorem byteOf_bit {v : Int} (hv : 0 ≤ v) (k t : Nat) : (byteOf v k).toNat.testBit t = (decide (t < 8) && v.toNat.testBit (8 * k + t)) := by
 obtain ⟨n, rfl⟩ := Int.eq_ofNat_of_zero_le hv
 rw [byteOf_nat, Nat.testBit_mod_two_pow, Nat.testBit_div_two_pow]
 simp [Nat.add_comm]

theorem byte_bit_hi {y : Int} (h : 0 ≤ y ∧ y ≤ 255) {t : Nat} (ht : 8 ≤ t) : y.toNat.testBit t = false := by
 apply Nat.testBit_lt_two_pow
 calc y.toNat < 2 ^ 8 := by omega
  _ ≤ 2 ^ t := Nat.pow_le_pow_right (by omega) ht

theorem numP_bit {ys : Nat → Int} (h : Bytes ys) (o : Nat) : ∀ k q, (numP ys o k).toNat.testBit q = (decide (q < 8 * k) && (ys (o + q / 8)).toNat.testBit (q % 8)) := by
 intro k
 induction k with
 | zero => intro q; simp [numP]
 | succ k ih =>
  intro q
  have hr := numP_range h o k
  have hy := h (o + k)
  have e : (numP ys o (k + 1)).toNat = 2 ^ (8 * k) * (ys (o + k)).toNat + (numP ys o k).toNat := by
   obtain ⟨a, ha⟩ := Int.eq_ofNat_of_zero_le hr.1
   obtain ⟨b, hb⟩ := Int.eq_ofNat_of_zero_le hy.1
   simp only [numP]
   rw [ha, hb]
   have : ((a : Int) + (b : Int) * 2 ^ (8 * k)) = ((2 ^ (8 * k) * b + a : Nat) : Int) := by push_cast; rw [Int.mul_comm (b : Int)]; omega
   rw [this]
   simp only [Int.toNat_natCast]
  have hlt : (numP ys o k).toNat < 2 ^ (8 * k) := by
   have h2 := hr.2
   obtain ⟨a, ha⟩ := Int.eq_ofNat_of_zero_le hr.1
   rw [ha] at h2 ⊢
   have : (a : Int) < ((2 ^ (8 * k) : Nat) : Int) := by push_cast; exact h2
   exact Int.ofNat_lt.1 this
  rw [e, Nat.testBit_two_pow_mul_add _ hlt]
  by_cases c : q < 8 * k
  ·rw [if_pos c, ih q, decide_eq_true c, decide_eq_true (by omega)]
  ·rw [if_neg c]
   by_cases c2 : q < 8 * (k + 1)
   ·have h1 : q / 8 = k := by omega
    have h2 : q - 8 * k = q % 8 := by omega
    rw [decide_eq_true c2, h1, h2]
    simp
   ·rw [decide_eq_false c2, byte_bit_hi hy (by omega)]
    simp

theorem numB_bit {ys : Nat → Int} (h : Bytes ys) (o w q : Nat) : (numB ys o w).toNat.testBit q = (decide (q < 8 * w) && (ys (o + q / 8)).toNat.testBit (q % 8)) := by
 rw [← numP_numB]; exact numP_bit h o w q

theorem u8_toNat (x : BitVec IntKind.u8.bits) : IntKind.u8.wrap (x.toNat : Int) = (x.toNat : Int) := by
 have := x.isLt
 rw [u8_wrap]
 have h8 : 2 ^ IntKind.u8.bits = 256 := rfl
 rw [h8] at this
 exact Int.emod_eq_of_lt (by omega) (by omega)

theorem wrB_bit {y m x : Int} (hy : 0 ≤ y ∧ y ≤ 255) (hm : 0 ≤ m ∧ m ≤ 255) (hx : 0 ≤ x ∧ x ≤ 255) {t : Nat} (ht : t < 8) : (wrB y m x).toNat.testBit t = if m.toNat.testBit t then x.toNat.testBit t else y.toNat.testBit t := by
 obtain ⟨a, rfl⟩ := Int.eq_ofNat_of_zero_le hy.1
 obtain ⟨b, rfl⟩ := Int.eq_ofNat_of_zero_le hm.1
 obtain ⟨c, rfl⟩ := Int.eq_ofNat_of_zero_le hx.1
 unfold wrB bitsOr bitsAndNot bitsAnd
 rw [u8_toNat, u8_toNat, u8_toNat]
 simp only [BitVec.ofInt_natCast, Int.toNat_natCast]
 rw [BitVec.testBit_toNat]
 simp only [BitVec.ofNat_toNat, BitVec.setWidth_eq, BitVec.getLsbD_or, BitVec.getLsbD_and, BitVec.getLsbD_not, BitVec.getLsbD_ofNat]
 have h8 : decide (t < IntKind.u8.bits) = true := decide_eq_true ht
 rw [h8]
 cases b.testBit t <;> cases a.testBit t <;> cases c.testBit t <;> rfl

theorem d_u64_wrap (n : Int) : IntKind.u64.wrap n = n % 18446744073709551616 := by
 simp [IntKind.wrap, IntKind.bits, IntKind.signed]

theorem kept_nat {z : Int} (hz : 0 ≤ z ∧ z ≤ 63) : (kept z).toNat = (2 ^ 64 - 1) * 2 ^ z.toNat % 2 ^ 64 ∧ 0 ≤ kept z := by
 unfold kept
 rw [Nat.min_eq_left (by show z.toNat ≤ 64; omega)]
 have e : (18446744073709551615 : Int) * 2 ^ z.toNat = (((2 ^ 64 - 1) * 2 ^ z.toNat : Nat) : Int) := by rw [Int.natCast_mul, Int.natCast_pow]; rfl
 rw [e, d_u64_wrap, show (2 : Nat) ^ 64 = 18446744073709551616 from rfl]
 generalize (18446744073709551616 - 1) * 2 ^ z.toNat = A
 omega

theorem kept_bit {z : Int} (hz : 0 ≤ z ∧ z ≤ 63) (q : Nat) : (kept z).toNat.testBit q = (decide (q < 64) && decide (z.toNat ≤ q)) := by
 rw [(kept_nat hz).1, Nat.testBit_mod_two_pow, Nat.testBit_mul_two_pow, Nat.testBit_two_pow_sub_one]
 by_cases h1 : q < 64 <;> by_cases h2 : z.toNat ≤ q <;> simp [h1, h2]
 omega

theorem reg_back {ys ms : Nat → Int} {y0 : Nat → Int} {o w : Nat} {z base : Int} (hy0 : Bytes y0) (hys : Bytes ys) (hw : w = 4 ∨ w = 8) (hz : 0 ≤ z ∧ z ≤ 63) (hb : 0 ≤ base ∧ base < 2 ^ (8 * w)) (hd : (2 ^ z.toNat : Nat) ∣ base.toNat)
  (hm : ∀ j, j < w → ms (o + j) = byteOf (kept z) j) (h : ∀ j, j < w → ys (o + j) = wrB (y0 (o + j)) (ms (o + j)) (byteOf base j)) : winB (numB ys o w) z = base := by
 have hk0 := (kept_nat hz).2
 have hN := numP_range hys o w
 rw [numP_numB] at hN
 have hbit : ∀ q, z.toNat ≤ q → (numB ys o w).toNat.testBit q = base.toNat.testBit q := by
  intro q hq
  rw [numB_bit hys]
  by_cases c : q < 8 * w
  ·rw [decide_eq_true c, Bool.true_and, h (q / 8) (by omega), hm (q / 8) (by omega), wrB_bit (hy0 _) (byteOf_range _ _) (byteOf_range _ _) (by omega), byteOf_bit hk0, byteOf_bit hb.1, kept_bit hz]
   rw [show 8 * (q / 8) + q % 8 = q by omega]
   rw [decide_eq_true (show q % 8 < 8 by omega), decide_eq_true (show q < 64 by omega), decide_eq_true hq]
   simp
  ·rw [decide_eq_false c, Bool.false_and]
   symm
   apply Nat.testBit_lt_two_pow
   have h1 : base.toNat < 2 ^ (8 * w) := by
    obtain ⟨n, rfl⟩ := Int.eq_ofNat_of_zero_le hb.1
    have h2 := hb.2
    have : ((n : Nat) : Int) < ((2 ^ (8 * w) : Nat) : Int) := by push_cast; exact h2
    exact Int.ofNat_lt.1 this
   exact Nat.lt_of_lt_of_le h1 (Nat.pow_le_pow_right (by omega) (by omega))
 have hdiv : (numB ys o w).toNat / 2 ^ z.toNat = base.toNat / 2 ^ z.toNat := by
  apply Nat.eq_of_testBit_eq
  intro q
  rw [Nat.testBit_div_two_pow, Nat.testBit_div_two_pow]
  exact hbit _ (by omega)
 obtain ⟨n, hn⟩ := Int.eq_ofNat_of_zero_le hN.1
 obtain ⟨m, hm'⟩ := Int.eq_ofNat_of_zero_le hb.1
 rw [hn, hm'] at hdiv
 rw [hm'] at hd hb ⊢
 rw [hn]
 simp only [Int.toNat_natCast] at hdiv hd
 unfold winB
 rw [Nat.min_eq_left (by show z.toNat ≤ 64; omega), Int.fdiv_eq_ediv_of_nonneg _ (Int.pow_nonneg (by omega))]
 have e : ((n : Int) / 2 ^ z.toNat * 2 ^ z.toNat) = ((n / 2 ^ z.toNat * 2 ^ z.toNat : Nat) : Int) := by push_cast; rfl
 rw [e, hdiv, Nat.div_mul_cancel hd]
 apply u64_in
 rcases hw with rfl | rfl
 ·have := hb.2
  simp at this
  omega
 ·have := hb.2
  simp at this
  omega

theorem and_bit {v : Int} (hv : 0 ≤ v ∧ v ≤ 255) : ((bitsAnd .u8 v 1 != 0) = v.toNat.testBit 0) ∧ ((bitsAnd .u8 v 2 != 0) = v.toNat.testBit 1) := by
 obtain ⟨n, rfl⟩ := Int.eq_ofNat_of_zero_le hv.1
 have key : ∀ t : Nat, t < 8 → (bitsAnd .u8 (n : Int) ((2 ^ t : Nat) : Int) != 0) = n.testBit t := by
  intro t ht
  unfold bitsAnd
  rw [u8_toNat, BitVec.ofInt_natCast, BitVec.ofInt_natCast, BitVec.toNat_and, BitVec.toNat_ofNat, BitVec.toNat_ofNat]
  have h2 : 2 ^ t < 2 ^ 8 := Nat.pow_lt_pow_right (by omega) ht
  rw [Nat.mod_eq_of_lt (show n < 2 ^ IntKind.u8.bits by simp [IntKind.bits]; omega), Nat.mod_eq_of_lt (show 2 ^ t < 2 ^ IntKind.u8.bits by simpa [IntKind.bits] using h2), bne]
  cases hb : n.testBit t
  ·have : n &&& 2 ^ t = 0 := by
    apply Nat.eq_of_testBit_eq
    intro q
    rw [Nat.testBit_and, Nat.testBit_two_pow]
    by_cases e : t = q
    ·subst e; simp [hb]
    ·simp [e]
   rw [this]; rfl
  ·have h1 : (n &&& 2 ^ t).testBit t = true := by rw [Nat.testBit_and, Nat.testBit_two_pow, hb]; simp
   have h0 : n &&& 2 ^ t ≠ 0 := by intro e; rw [e] at h1; simp at h1
   simp
   exact h0
 exact ⟨key 0 (by omega), key 1 (by omega)⟩

theorem and_low {n : Nat} (hn : n < 18446744073709551616) : bitsAnd .u64 (n : Int) 4294967295 = ((n % 4294967296 : Nat) : Int) := by
 unfold bitsAnd
 rw [show (4294967295 : Int) = ((4294967295 : Nat) : Int) from rfl, BitVec.ofInt_natCast, BitVec.ofInt_natCast, BitVec.toNat_and, BitVec.toNat_ofNat, BitVec.toNat_ofNat]
 rw [Nat.mod_eq_of_lt (show n < 2 ^ IntKind.u64.bits from hn), Nat.mod_eq_of_lt (show 4294967295 < 2 ^ IntKind.u64.bits by decide)]
 rw [show (4294967295 : Nat) = 2 ^ 32 - 1 from rfl, Nat.and_two_pow_sub_one_eq_mod]
 apply u64_in
 omega

theorem byteOf_low {n j : Nat} (hj : j < 4) : byteOf ((n % 4294967296 : Nat) : Int) j = byteOf (n : Int) j := by
 have h1 := byteOf_nat (n % 4294967296) j
 have h2 := byteOf_nat n j
 have r1 := byteOf_range ((n % 4294967296 : Nat) : Int) j
 have r2 := byteOf_range (n : Int) j
 have : n % 4294967296 / 2 ^ (8 * j) % 2 ^ 8 = n / 2 ^ (8 * j) % 2 ^ 8 := by
  rcases (by omega : j = 0 ∨ j = 1 ∨ j = 2 ∨ j = 3) with rfl | rfl | rfl | rfl <;> simp <;> omega
 omega

theorem byteOf_high {n j : Nat} (hj : j < 4) : byteOf ((n : Int).fdiv (2 ^ 32)) j = byteOf (n : Int) (4 + j) := by
 have e : (n : Int).fdiv (2 ^ 32) = ((n / 4294967296 : Nat) : Int) := by rw [Int.fdiv_eq_ediv_of_nonneg _ (by decide)]; show (n : Int) / 4294967296 = _; omega
 rw [e]
 have h1 := byteOf_nat (n / 4294967296) j
 have h2 := byteOf_nat n (4 + j)
 have r1 := byteOf_range ((n / 4294967296 : Nat) : Int) j
 have r2 := byteOf_range (n : Int) (4 + j)
 have : n / 4294967296 / 2 ^ (8 * j) % 2 ^ 8 = n / 2 ^ (8 * (4 + j)) % 2 ^ 8 := by
  rcases (by omega : j = 0 ∨ j = 1 ∨ j = 2 ∨ j = 3) with rfl | rfl | rfl | rfl <;> simp <;> omega
 omega

/-! ### the masks of a register -/

theorem sbar_at {s : d_St} {o j : Nat} {k z : Int} (hk : 1 ≤ k ∧ k ≤ 4) (hj : j < wwd k) : (sbar s o k z).2 (o + j) = byteOf (kept z) j := by
 have e : ∀ (w : Nat) (v : Int), j < w → (sdef s o w v (kept z)).2 (o + j) = byteOf (kept z) j := by
  intro w v hw
  show d_setB _ _ _ _ _ = _
  unfold d_setB
  rw [if_pos (by omega), show o + j - o = j by omega]
 unfold wwd at hj
 unfold sbar
 rcases (by omega : k = 1 ∨ k = 2 ∨ k = 3 ∨ k = 4) with rfl | rfl | rfl | rfl
 ·exact e 4 1 (by simpa using hj)
 ·exact e 4 0 (by simpa using hj)
 ·exact e 8 4 (by simpa using hj)
 ·exact e 8 12 (by simpa using hj)

theorem sbars_at {s : d_St} {f : Fn} (hv : ValidF f) {i j : Nat} (hk : 1 ≤ bk f.bars i ∧ bk f.bars i ≤ 4) (hj : j < wwd (bk f.bars i)) : ∀ n, i < n → (sbars s f.bars n).2 (16 + 4 * i + j) = byteOf (kept (bz f.bars i)) j
 | 0, h => by omega
 | n + 1, h => by
  by_cases e : i = n
  ·subst e; exact sbar_at hk hj
  ·have ih := sbars_at (s := s) hv hk hj n (by omega)
   show (sbar _ _ _ _).2 _ = _
   by_cases w : (bk f.bars i = 3 ∨ bk f.bars i = 4) ∧ n = i + 1
   ·obtain ⟨w1, rfl⟩ := w
    have hl : i < f.bars.length := by
     by_cases c : i < f.bars.length
     ·exact c
     ·have : f.bars[i]? = none := List.getElem?_eq_none (by omega)
      simp [bk, List.getD, this] at hk
    have hb := hv.ba i hl
    have h0 : bk f.bars (i + 1) = 0 := by unfold BarOk at hb; omega
    rw [h0]
    exact ih
   ·have hj2 : 16 + 4 * i + j < 16 + 4 * n := by
     unfold wwd at hj
     split at hj <;> omega
    rw [(sbar_out (.inl hj2)).2]
    exact ih

theorem sinit_at {f : Fn} (hv : ValidF f) {i j : Nat} (hi : i < f.bars.length) (hk : bk f.bars i ≠ 0) (hj : j < wwd (bk f.bars i)) : (sinit f).2 (16 + 4 * i + j) = byteOf (kept (bz f.bars i)) j := by
 have hb := hv.ba i hi
 have hbl := hv.bl
 have hkk : 1 ≤ bk f.bars i ∧ bk f.bars i ≤ 4 := by unfold BarOk at hb; omega
 have h1 := sbars_at (s := sbase f) hv hkk hj (regs f.bridge) (by omega)
 unfold sinit sbridge
 by_cases hbr : f.bridge = true
 ·have hx : 16 + 4 * i + j < 24 := by
   rw [hbr] at hbl
   simp only [regs] at hbl
   unfold wwd at hj
   unfold BarOk at hb
   split at hj
   ·rename_i hw
    simp at hbl
    omega
   ·simp at hbl
    omega
  have h2 : (sbr (sbars (sbase f) f.bars (regs f.bridge))).2 (16 + 4 * i + j) = (sbars (sbase f) f.bars (regs f.bridge)).2 (16 + 4 * i + j) := by
   unfold sbr sdef d_setB
   dsimp only
   repeat rw [if_neg (by omega)]
  rw [if_pos hbr]
  split
  ·rw [(spf_out (by omega)).2, h2]; exact h1
  ·rw [h2]; exact h1
 ·rw [if_neg hbr]; exact h1

theorem sinit_cmd (f : Fn) : (sinit f).2 4 = 7 := by
 rw [(sinit_out f (by omega)).2]
 unfold sbase sdef d_setB
 simp
 decide

end

end Go.Proofs.YtigcheamheiopaaGreat
