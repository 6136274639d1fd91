/-
  A function's configuration space in memory: bytes and masks; define, set, reads.
-/
import Derived.Test.YtankllejpldleaaS2
import Derived.Test.YtankllejpldleaaEngC
namespace Go.Proofs.Ytankllejpldleaa
open Go.Eng

/-! ### bytes -/

theorem u8_wrap (n : Int) : IntKind.u8.wrap n = n % 256 := by
  simp [IntKind.wrap, IntKind.bits, IntKind.signed]
theorem u8_range (n : Int) : 0 ≤ IntKind.u8.wrap n ∧ IntKind.u8.wrap n ≤ 255 := by rw [u8_wrap]; omega

def byteOf (v : Int) (k : Nat) : Int := IntKind.u8.wrap (v.fdiv (2 ^ (8 * k)))
theorem byteOf_range (v : Int) (k : Nat) : 0 ≤ byteOf v k ∧ byteOf v k ≤ 255 := u8_range _

def setB (ys : Nat → Int) (o w : Nat) (v : Int) (i : Nat) : Int := if o ≤ i ∧ i < o + w then byteOf v (i - o) else ys i
def Bytes (ys : Nat → Int) : Prop := ∀ i, 0 ≤ ys i ∧ ys i ≤ 255
theorem setB_bytes {ys : Nat → Int} (h : Bytes ys) (o w : Nat) (v : Int) : Bytes (setB ys o w v) := by
  intro i; unfold setB; split
  · exact byteOf_range _ _
  · exact h i

theorem or_add {n : Nat} (v x : Int) (k : Nat) (hv : 0 ≤ v ∧ v < 2 ^ k) (hx : 0 ≤ x) (hn : v + x * 2 ^ k < 2 ^ n) : ((BitVec.ofInt n v ||| BitVec.ofInt n (x * 2 ^ k)).toNat : Int) = v + x * 2 ^ k := by
  obtain ⟨a, rfl⟩ := Int.eq_ofNat_of_zero_le hv.1
  obtain ⟨b, rfl⟩ := Int.eq_ofNat_of_zero_le hx
  have h1 : (a : Int) < 2 ^ k := hv.2
  have h1' : a < 2 ^ k := by exact_mod_cast h1
  have h2 : a + b * 2 ^ k < 2 ^ n := by exact_mod_cast hn
  have e2 : ((b : Int) * 2 ^ k) = ((b * 2 ^ k : Nat) : Int) := by push_cast; rfl
  rw [e2]
  have ha : a < 2 ^ n := by omega
  have hb : b * 2 ^ k < 2 ^ n := by omega
  rw [BitVec.toNat_or, BitVec.ofInt_natCast, BitVec.ofInt_natCast, BitVec.toNat_ofNat, BitVec.toNat_ofNat, Nat.mod_eq_of_lt ha, Nat.mod_eq_of_lt hb]
  have h3 := Nat.shiftLeft_add_eq_or_of_lt h1' b
  rw [Nat.shiftLeft_eq] at h3
  rw [Nat.or_comm, ← h3]
  push_cast
  omega

theorem bitsOr_u64 {v x : Int} {k : Nat} (hv : 0 ≤ v ∧ v < 2 ^ k) (hx : 0 ≤ x) (hn : v + x * 2 ^ k < 18446744073709551616) : bitsOr .u64 v (x * 2 ^ k) = v + x * 2 ^ k := by
  unfold bitsOr
  have h := or_add (n := IntKind.u64.bits) v x k hv hx (by simpa [IntKind.bits] using hn)
  rw [h]
  have h0 : 0 ≤ x * 2 ^ k := Int.mul_nonneg hx (Int.pow_nonneg (by omega))
  exact u64_in (by omega)

theorem bitsOr_u64' {v x : Int} (hv : 0 ≤ v) (hx : 0 ≤ x ∧ x ≤ 255) (hn : v * 256 + x < 18446744073709551616) : bitsOr .u64 (v * 256) x = v * 256 + x := by
  unfold bitsOr
  have h := or_add (n := IntKind.u64.bits) x v 8 (by omega) hv (by simp [IntKind.bits]; omega)
  rw [show (2 : Int) ^ 8 = 256 by decide] at h
  have e : (BitVec.ofInt IntKind.u64.bits (v * 256) ||| BitVec.ofInt IntKind.u64.bits x) = (BitVec.ofInt IntKind.u64.bits x ||| BitVec.ofInt IntKind.u64.bits (v * 256)) := BitVec.or_comm _ _
  rw [e, h, u64_in (by omega)]
  omega

/-! ### the number in bytes -/

def numT (ys : Nat → Int) (o w : Nat) : Nat → Int
  | 0 => 0
  | d + 1 => ys (o + (w - (d + 1))) + 256 * numT ys o w d
/-- The number in 'w' bytes from 'o' on. -/
def numB (ys : Nat → Int) (o w : Nat) : Int := numT ys o w w
def numP (ys : Nat → Int) (o : Nat) : Nat → Int
  | 0 => 0
  | k + 1 => numP ys o k + ys (o + k) * 2 ^ (8 * k)

theorem pow8 (k : Nat) : (2 : Int) ^ (8 * (k + 1)) = 2 ^ (8 * k) * 256 := by
  rw [show 8 * (k + 1) = 8 * k + 8 by omega, Int.pow_add]; rfl

theorem numP_range {ys : Nat → Int} (h : Bytes ys) (o : Nat) : ∀ k, 0 ≤ numP ys o k ∧ numP ys o k < 2 ^ (8 * k) := by
  intro k
  induction k with
  | zero => simp [numP]
  | succ k ih =>
    have hy := h (o + k)
    have hp : (0 : Int) < 2 ^ (8 * k) := Int.pow_pos (by omega)
    have m1 : ys (o + k) * 2 ^ (8 * k) ≤ 255 * 2 ^ (8 * k) := Int.mul_le_mul_of_nonneg_right hy.2 (by omega)
    have m0 : 0 ≤ ys (o + k) * 2 ^ (8 * k) := Int.mul_nonneg hy.1 (by omega)
    rw [pow8]
    simp only [numP]
    omega

theorem numT_numP {ys : Nat → Int} (o w : Nat) : ∀ k, k ≤ w → numP ys o k + 2 ^ (8 * k) * numT ys o w (w - k) = numT ys o w w := by
  intro k
  induction k with
  | zero => intro _; simp [numP]
  | succ k ih =>
    intro hk
    have h1 := ih (by omega)
    obtain ⟨d, hd⟩ : ∃ d, w - k = d + 1 := ⟨w - k - 1, by omega⟩
    rw [hd] at h1
    simp only [numT] at h1
    rw [show w - (d + 1) = k by omega] at h1
    rw [show w - (k + 1) = d by omega, ← h1, pow8]
    simp only [numP]
    rw [Int.mul_add, Int.mul_assoc]
    have : ys (o + k) * 2 ^ (8 * k) = 2 ^ (8 * k) * ys (o + k) := Int.mul_comm _ _
    omega

theorem numP_numB {ys : Nat → Int} (o w : Nat) : numP ys o w = numB ys o w := by
  have := numT_numP (ys := ys) o w w (Nat.le_refl _)
  rw [Nat.sub_self] at this
  simp only [numT] at this
  unfold numB
  omega

theorem numT_congr {ys zs : Nat → Int} {o w : Nat} : ∀ d, d ≤ w → (∀ i, o ≤ i → i < o + w → ys i = zs i) → numT ys o w d = numT zs o w d := by
  intro d
  induction d with
  | zero => intro _ _; rfl
  | succ d ih =>
    intro hd h
    simp only [numT]
    rw [ih (by omega) h, h _ (by omega) (by omega)]

theorem numB_congr {ys zs : Nat → Int} {o w : Nat} (h : ∀ i, o ≤ i → i < o + w → ys i = zs i) : numB ys o w = numB zs o w := numT_congr w (Nat.le_refl _) h

/-! ### a device's block: bytes at 'oy', masks at 'om' -/

def dvF (oy om : Nat) (ys ms : Nat → Int) (r : Nat → Value) (i : Nat) : Value :=
  if oy ≤ i ∧ i < oy + 256 then .int .u8 (ys (i - oy)) else if om ≤ i ∧ i < om + 256 then .int .u8 (ms (i - om)) else r i

structure DV (H : Heap) (b : Nat) (e : TypeId) (N oy om : Nat) (ys ms : Nat → Int) (r : Nat → Value) : Prop where
  vb : VB H b e N (dvF oy om ys ms r)
  le : oy + 256 ≤ om
  lm : om + 256 ≤ N

section
variable {H H' : Heap} {b N oy om : Nat} {e : TypeId} {ys ms : Nat → Int} {r : Nat → Value}

theorem DV.lt (h : DV H b e N oy om ys ms r) : b < H.size := h.vb.lt
theorem DV.ext (h : DV H b e N oy om ys ms r) (he : Ext H H') : DV H' b e N oy om ys ms r := ⟨h.vb.ext he, h.le, h.lm⟩
theorem DV.mods {S : List Nat} (h : DV H b e N oy om ys ms r) (he : Mods S H H') (hb : b ∉ S) : DV H' b e N oy om ys ms r := ⟨h.vb.mods he hb, h.le, h.lm⟩
theorem DV.congr {ys' ms' : Nat → Int} (h : DV H b e N oy om ys ms r) (h1 : ∀ i, i < 256 → ys i = ys' i) (h2 : ∀ i, i < 256 → ms i = ms' i) : DV H b e N oy om ys' ms' r := by
  refine ⟨h.vb.congr (fun i _ => ?_), h.le, h.lm⟩
  unfold dvF
  split
  · rw [h1 _ (by omega)]
  · split
    · rw [h2 _ (by omega)]
    · rfl
theorem DV.rdY (h : DV H b e N oy om ys ms r) {i : Nat} (hi : i < 256) : rd H (((⟨b, 0, none⟩ : Addr).add oy).add (i * 1)) = some (.int .u8 (ys i)) := by
  have := h.vb.rd (i := oy + i) (by have := h.le; have := h.lm; omega)
  rw [add_add, Nat.mul_one, this]
  unfold dvF
  rw [if_pos (by omega), show oy + i - oy = i by omega]
theorem DV.rdM (h : DV H b e N oy om ys ms r) {i : Nat} (hi : i < 256) : rd H (((⟨b, 0, none⟩ : Addr).add om).add (i * 1)) = some (.int .u8 (ms i)) := by
  have := h.vb.rd (i := om + i) (by have := h.lm; omega)
  rw [add_add, Nat.mul_one, this]
  unfold dvF
  have := h.le
  rw [if_neg (by omega), if_pos (by omega), show om + i - om = i by omega]
theorem DV.rdR (h : DV H b e N oy om ys ms r) {i : Nat} (hi : i < N) (h1 : ¬ (oy ≤ i ∧ i < oy + 256)) (h2 : ¬ (om ≤ i ∧ i < om + 256)) : rd H ((⟨b, 0, none⟩ : Addr).add i) = some (r i) := by
  rw [h.vb.rd hi]
  unfold dvF
  rw [if_neg h1, if_neg h2]
theorem DV.okY (h : DV H b e N oy om ys ms r) {i : Nat} (hi : i < 256) : okRow H (((⟨b, 0, none⟩ : Addr).add oy).add (i * 1)) 1 := by
  rw [add_add, Nat.mul_one]
  exact h.vb.ok (by have := h.le; have := h.lm; omega)
theorem DV.okM (h : DV H b e N oy om ys ms r) {i : Nat} (hi : i < 256) : okRow H (((⟨b, 0, none⟩ : Addr).add om).add (i * 1)) 1 := by
  rw [add_add, Nat.mul_one]
  exact h.vb.ok (by have := h.lm; omega)
theorem DV.wrY (h : DV H b e N oy om ys ms r) {i : Nat} (hi : i < 256) (v : Int) : DV (wrs H (((⟨b, 0, none⟩ : Addr).add oy).add (i * 1)) [.int .u8 v]) b e N oy om (upd ys i v) ms r := by
  have h1 := h.le
  have h2 := h.lm
  rw [add_add, Nat.mul_one]
  refine ⟨(h.vb.wr (i := oy + i) (by omega) (.int .u8 v)).congr (fun j hj => ?_), h1, h2⟩
  by_cases e : j = oy + i
  · subst e
    unfold dvF
    rw [upd_same, if_pos (by omega), show oy + i - oy = i by omega, upd_same]
  · rw [upd_ne e]
    unfold dvF
    split
    · rw [upd_ne (by omega)]
    · rfl
theorem DV.wrM (h : DV H b e N oy om ys ms r) {i : Nat} (hi : i < 256) (v : Int) : DV (wrs H (((⟨b, 0, none⟩ : Addr).add om).add (i * 1)) [.int .u8 v]) b e N oy om ys (upd ms i v) r := by
  have h1 := h.le
  have h2 := h.lm
  rw [add_add, Nat.mul_one]
  refine ⟨(h.vb.wr (i := om + i) (by omega) (.int .u8 v)).congr (fun j hj => ?_), h1, h2⟩
  by_cases e : j = om + i
  · subst e
    unfold dvF
    rw [upd_same, if_neg (by omega), if_pos (by omega), show om + i - om = i by omega, upd_same]
  · rw [upd_ne e]
    unfold dvF
    split
    · rfl
    · split
      · rw [upd_ne (by omega)]
      · rfl
theorem mods_dv {o i : Nat} {vs : List Value} {S : List Nat} (hb : b ∈ S) : Mods S H (wrs H (((⟨b, 0, none⟩ : Addr).add o).add i) vs) := by
  rw [add_add]; exact mods_wr_add hb
end

theorem shr_code {x : Int} {k : Nat} (v : Int) (hx : x = 8 * k) (hk : k < 8) : IntKind.u8.wrap (v.fdiv (2 ^ (min x.toNat IntKind.u64.bits))) = byteOf v k := by
  subst hx
  unfold byteOf
  rw [show (8 * (k : Int)).toNat = 8 * k by omega, Nat.min_eq_left (by simp [IntKind.bits]; omega)]

/-- A device of the program. -/
abbrev PD (H : Heap) (b : Nat) (ys ms : Nat → Int) (r : Nat → Value) : Prop := DV H b t_pciconf_Device 515 0 256 ys ms r
/-- A device of the reference. -/
abbrev RD (H : Heap) (b : Nat) (ys ms : Nat → Int) (r : Nat → Value) : Prop := DV H b t_ref18_Device 523 11 267 ys ms r

theorem define_spec (b : Nat) (ys ms : Nat → Int) (r : Nat → Value) (o w : Nat) (v m : Int) (H : Heap) (h : PD H b ys ms r) (ho : o + w ≤ 256) (hw : w ≤ 8) :
    CallsH Try.prog n_pciconf_Device_define #[.pointer (some ⟨b, 0, none⟩), .int .i64 o, .int .i64 w, .int .u64 v, .int .u64 m] H (fun x H' => x = .tuple #[] ∧ PD H' b (setB ys o w v) (setB ms o w m) r ∧ Mods [b] H H') := by
  refine F_pciconf_Device_define_ok _ _ _ _ _ ?_
  unfold F_pciconf_Device_define
  refine loop1 w (fun k H' => PD H' b (setB ys o k v) (setB ms o k m) r ∧ Mods [b] H H') ⟨h.congr (fun i _ => by unfold setB; rw [if_neg (by omega)]) (fun i _ => by unfold setB; rw [if_neg (by omega)]), .refl _ _⟩ ?_
  rintro k H1 hk ⟨d1, m1⟩
  unfold F_pciconf_Device_define_r1
  refine iteB_dec (fun c => ?_) (fun c => ?_)
  · have hkn : k < w := by omega
    rw [i64_in (n := (8 : Int) * k) (by omega), i64_in (n := (o : Int) + k) (by omega), shr_code v rfl (by omega), shr_code m rfl (by omega)]
    have e1 : ((o : Int) + k).toNat = o + k := by omega
    rw [e1]
    refine ⟨by omega, by omega, by omega, d1.okY (i := o + k) (by omega), letH_mk ?_⟩
    rintro H2 rfl
    have d2 := d1.wrY (i := o + k) (by omega) (byteOf v k)
    refine ⟨by omega, by omega, by omega, d2.okM (i := o + k) (by omega), letH_mk ?_⟩
    rintro H3 rfl
    have d3 := d2.wrM (i := o + k) (by omega) (byteOf m k)
    refine next1 hkn (by omega) ⟨d3.congr (fun i _ => ?_) (fun i _ => ?_), (m1.trans (mods_dv (o := 0) (by simp))).trans (mods_dv (by simp))⟩
    · unfold upd setB
      by_cases e : i = o + k
      · rw [if_pos e, if_pos (by omega), show i - o = k by omega]
      · rw [if_neg e]
        by_cases e2 : o ≤ i ∧ i < o + k
        · rw [if_pos e2, if_pos (by omega)]
        · rw [if_neg e2, if_neg (by omega)]
    · unfold upd setB
      by_cases e : i = o + k
      · rw [if_pos e, if_pos (by omega), show i - o = k by omega]
      · rw [if_neg e]
        by_cases e2 : o ≤ i ∧ i < o + k
        · rw [if_pos e2, if_pos (by omega)]
        · rw [if_neg e2, if_neg (by omega)]
  · obtain rfl : k = w := by omega
    exact ⟨rfl, d1, m1⟩

theorem set_spec (b : Nat) (ys ms : Nat → Int) (r : Nat → Value) (o w : Nat) (v m : Int) (H : Heap) (h : RD H b ys ms r) (ho : o + w ≤ 256) (hw : w ≤ 8) :
    CallsH Try.prog n_ref18_Device_set #[.pointer (some ⟨b, 0, none⟩), .int .i64 o, .int .i64 w, .int .u64 v, .int .u64 m] H (fun x H' => x = .tuple #[] ∧ RD H' b (setB ys o w v) (setB ms o w m) r ∧ Mods [b] H H') := by
  refine F_ref18_Device_set_ok _ _ _ _ _ ?_
  unfold F_ref18_Device_set
  refine loop1 w (fun k H' => RD H' b (setB ys o k v) (setB ms o k m) r ∧ Mods [b] H H') ⟨h.congr (fun i _ => by unfold setB; rw [if_neg (by omega)]) (fun i _ => by unfold setB; rw [if_neg (by omega)]), .refl _ _⟩ ?_
  rintro k H1 hk ⟨d1, m1⟩
  unfold F_ref18_Device_set_r1
  refine iteB_dec (fun c => ?_) (fun c => ?_)
  · have hkn : k < w := by omega
    rw [i64_in (n := (8 : Int) * k) (by omega), u64_in (n := (8 : Int) * k) (by omega), i64_in (n := (o : Int) + k) (by omega), shr_code v rfl (by omega), shr_code m rfl (by omega)]
    have e1 : ((o : Int) + k).toNat = o + k := by omega
    rw [e1]
    refine ⟨by omega, by omega, by omega, by omega, d1.okY (i := o + k) (by omega), letH_mk ?_⟩
    rintro H2 rfl
    have d2 := d1.wrY (i := o + k) (by omega) (byteOf v k)
    refine ⟨by omega, by omega, d2.okM (i := o + k) (by omega), letH_mk ?_⟩
    rintro H3 rfl
    have d3 := d2.wrM (i := o + k) (by omega) (byteOf m k)
    refine next1 hkn (by omega) ⟨d3.congr (fun i _ => ?_) (fun i _ => ?_), (m1.trans (mods_dv (by simp))).trans (mods_dv (by simp))⟩
    · unfold upd setB
      by_cases e : i = o + k
      · rw [if_pos e, if_pos (by omega), show i - o = k by omega]
      · rw [if_neg e]
        by_cases e2 : o ≤ i ∧ i < o + k
        · rw [if_pos e2, if_pos (by omega)]
        · rw [if_neg e2, if_neg (by omega)]
    · unfold upd setB
      by_cases e : i = o + k
      · rw [if_pos e, if_pos (by omega), show i - o = k by omega]
      · rw [if_neg e]
        by_cases e2 : o ≤ i ∧ i < o + k
        · rw [if_pos e2, if_pos (by omega)]
        · rw [if_neg e2, if_neg (by omega)]
  · obtain rfl : k = w := by omega
    exact ⟨rfl, d1, m1⟩

end Go.Proofs.Ytankllejpldleaa
