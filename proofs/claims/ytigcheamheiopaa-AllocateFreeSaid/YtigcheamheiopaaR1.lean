/-
  The size of a window: the program's and the reference's.
-/
import Derived.Test.YtigcheamheiopaaG7
namespace Go.Proofs.Ytigcheamheiopaa
open Go.Eng

def sumW : List Int → Int
  | [] => 0
  | x :: l => 2 ^ x.toNat + sumW l
theorem sumW_append (l : List Int) (x : Int) : sumW (l ++ [x]) = sumW l + 2 ^ x.toNat := by
  induction l with
  | nil => simp [sumW]
  | cons y l ih => simp only [List.cons_append, sumW, ih]; omega
def InS (l : List Int) : Prop := ∀ x ∈ l, 0 ≤ x ∧ x ≤ 44
instance (l : List Int) : Decidable (InS l) := by unfold InS; infer_instance

theorem pow44 {x : Int} (h : 0 ≤ x ∧ x ≤ 44) : (1 : Int) ≤ 2 ^ x.toNat ∧ (2 : Int) ^ x.toNat ≤ 17592186044416 := by
  have h1 : (2 : Nat) ^ x.toNat ≤ 2 ^ 44 := Nat.pow_le_pow_right (by omega) (by omega)
  have h2 : 1 ≤ (2 : Nat) ^ x.toNat := Nat.one_le_two_pow
  have e : ((2 : Int) ^ x.toNat) = ((2 ^ x.toNat : Nat) : Int) := by push_cast; rfl
  rw [e]
  omega

theorem sumW_range {l : List Int} (h : InS l) : 0 ≤ sumW l ∧ sumW l ≤ l.length * 17592186044416 ∧ (l ≠ [] → 1 ≤ sumW l) := by
  induction l with
  | nil => simp [sumW]
  | cons x l ih =>
    have hx := pow44 (h x (by simp))
    obtain ⟨h1, h2, _⟩ := ih (fun y hy => h y (by simp [hy]))
    simp only [sumW, List.length_cons]
    refine ⟨by omega, by push_cast; omega, fun _ => by omega⟩

def wup (sum : Int) : Nat → Nat → Nat
  | 0, w => w
  | n + 1, w => if (2 : Int) ^ w < sum then wup sum n (w + 1) else w

/-- 'w' is the least size from 'least' on that is enough. -/
structure IsW (least : Nat) (sum : Int) (w : Nat) : Prop where
  ge : least ≤ w
  fits : sum ≤ 2 ^ w
  tight : w = least ∨ (2 : Int) ^ (w - 1) < sum

theorem pow_mono {a b : Nat} (h : a ≤ b) : (2 : Int) ^ a ≤ 2 ^ b := by
  have : (2 : Nat) ^ a ≤ 2 ^ b := Nat.pow_le_pow_right (by omega) h
  exact_mod_cast this

theorem IsW.unique {least : Nat} {sum : Int} {w w' : Nat} (h : IsW least sum w) (h' : IsW least sum w') : w = w' := by
  rcases Nat.lt_trichotomy w w' with c | c | c
  · have := h'.tight
    have := h.ge
    have hp := pow_mono (a := w) (b := w' - 1) (by omega)
    have := h.fits
    omega
  · exact c
  · have := h.tight
    have := h'.ge
    have hp := pow_mono (a := w') (b := w - 1) (by omega)
    have := h'.fits
    omega

theorem wup_isW (sum : Int) : ∀ n w, sum ≤ 2 ^ (w + n) → IsW w sum (wup sum n w)
  | 0, w, h => ⟨Nat.le_refl _, by simpa [wup] using h, .inl rfl⟩
  | n + 1, w, h => by
    unfold wup
    split
    · rename_i c
      have ih := wup_isW sum n (w + 1) (by rw [show w + 1 + n = w + (n + 1) by omega]; exact h)
      have h1 := ih.ge
      refine ⟨by omega, ih.fits, .inr ?_⟩
      rcases ih.tight with e | e
      · rw [e]; simpa using c
      · exact e
    · rename_i c
      exact ⟨Nat.le_refl _, by omega, .inl rfl⟩

def least (c : Int) (hot : Bool) : Nat := if c = 0 then 12 else if hot then 22 else 20
def WOk (l : List Int) (c : Int) (hot : Bool) : Prop := ¬ (l = [] ∧ hot = false) ∧ l.length ≤ 1024 ∧ (0 ≤ c ∧ c < 3) ∧ InS l
instance (l : List Int) (c : Int) (hot : Bool) : Decidable (WOk l c hot) := by unfold WOk; infer_instance
def wszF (l : List Int) (c : Int) (hot : Bool) : Int := if WOk l c hot then (wup (sumW l) 64 (least c hot) : Int) else 0
abbrev wszV (l : List Int) (c : Int) (hot : Bool) : Value := .tuple #[.int .i64 (wszF l c hot), .bool (decide (WOk l c hot))]

theorem sum_lt {l : List Int} (h : InS l) (hl : l.length ≤ 1024) : sumW l ≤ 18014398509481984 := by
  have := (sumW_range h).2.1
  have : (l.length : Int) ≤ 1024 := by omega
  omega

theorem wsz_of {l : List Int} {c : Int} {hot : Bool} (h : WOk l c hot) {w : Nat} (hw : IsW (least c hot) (sumW l) w) : wszV l c hot = .tuple #[.int .i64 w, .bool true] := by
  have hs := sum_lt h.2.2.2 h.2.1
  have h1 : sumW l ≤ 2 ^ (least c hot + 64) := by
    have := pow_mono (a := 64) (b := least c hot + 64) (by omega)
    have e : (2 : Int) ^ 64 = 18446744073709551616 := by decide
    omega
  have := hw.unique (wup_isW _ 64 _ h1)
  unfold wszV wszF
  rw [if_pos h, decide_eq_true h, this]
theorem wsz_no {l : List Int} {c : Int} {hot : Bool} (h : ¬ WOk l c hot) : wszV l c hot = .tuple #[.int .i64 0, .bool false] := by
  unfold wszV wszF
  rw [if_neg h, decide_eq_false h]

/-! ### Len64 -/

structure IsBL (x : Int) (k : Nat) : Prop where
  lt : x < 2 ^ k
  ge : k = 0 ∨ (2 : Int) ^ (k - 1) ≤ x

theorem IsBL.shift {x : Int} {k j : Nat} (hx : (2 : Int) ^ j ≤ x) (h : IsBL (x / 2 ^ j) k) : IsBL x (j + k) := by
  have hp : (0 : Int) < 2 ^ j := Int.pow_pos (by omega)
  have e : (2 : Int) ^ (j + k) = 2 ^ k * 2 ^ j := by rw [Nat.add_comm, Int.pow_add]
  refine ⟨?_, ?_⟩
  · rw [e]
    exact Int.lt_mul_of_ediv_lt hp h.lt
  · rcases h.ge with hk | hk
    · exfalso
      have := h.lt
      rw [hk] at this
      have h1 : 1 ≤ x / 2 ^ j := by
        rw [Int.le_ediv_iff_mul_le hp]
        omega
      simp at this
      omega
    · by_cases hk0 : k = 0
      · subst hk0
        right
        have h3 := (Int.le_ediv_iff_mul_le hp).1 hk
        have : (2 : Int) ^ (j + 0 - 1) ≤ 2 ^ j := pow_mono (by omega)
        omega
      · right
        rw [show j + k - 1 = (k - 1) + j by omega, Int.pow_add]
        exact (Int.le_ediv_iff_mul_le hp).1 hk

theorem IsBL.shiftN {x Q : Int} {k : Nat} (j : Nat) (hQ : (2 : Int) ^ j = Q) (hx : x ≥ Q) (h : IsBL (x / Q) k) : IsBL x (j + k) := by
  subst hQ
  exact IsBL.shift hx h
theorem fdivN {y Q : Int} (x : Int) (j : Nat) (hQ : (2 : Int) ^ j = Q) (hx : min x.toNat IntKind.u64.bits = j) (_hy : 0 ≤ y) : y.fdiv (2 ^ (min x.toNat IntKind.u64.bits)) = y / Q := by
  rw [hx, Int.fdiv_eq_ediv_of_nonneg _ (Int.pow_nonneg (by omega)), hQ]

theorem iteB_d {p : Prop} {i : Decidable p} {A B : Prop} (h1 : p → A) (h2 : ¬ p → B) : iteB (@decide p i) A B := iteB_dec h1 h2

def okT (i k : Nat) : Bool := decide ((i : Int) < 2 ^ k) && decide (k = 0 ∨ (2 : Int) ^ (k - 1) ≤ i)
theorem okT_elim {i k : Nat} (h : okT i k = true) : IsBL i k := by
  unfold okT at h
  rw [Bool.and_eq_true] at h
  exact ⟨of_decide_eq_true h.1, of_decide_eq_true h.2⟩
theorem tab8 {i : Nat} (h : i < 256) : IsBL i (cstr_0[i]!.toNat) := by
  have h8 : ((List.range 256).all fun i => okT i (cstr_0[i]!.toNat)) = true := by decide +kernel
  exact okT_elim (List.all_eq_true.1 h8 i (List.mem_range.2 h))

theorem IsBL.le64 {x : Int} {k : Nat} (h : IsBL x k) (hx : x < 18446744073709551616) : k ≤ 64 := by
  rcases h.ge with e | e
  · omega
  · by_cases c : k ≤ 64
    · exact c
    · have := pow_mono (a := 64) (b := k - 1) (by omega)
      have e : (2 : Int) ^ 64 = 18446744073709551616 := by decide
      omega

theorem Len64_spec (x : Int) (H : Heap) (h0 : 0 ≤ x) (h1 : x < 18446744073709551616) : CallsH Try.prog n_math_bits_Len64 #[.int .u64 x] H (fun v H' => ∃ k : Nat, v = .int .i64 k ∧ IsBL x k ∧ H' = H) := by
  refine F_math_bits_Len64_ok _ ?_
  unfold F_math_bits_Len64
  have p32 : (2 : Int) ^ 32 = 4294967296 := by decide
  have p16 : (2 : Int) ^ 16 = 65536 := by decide
  have p8 : (2 : Int) ^ 8 = 256 := by decide
  refine ⟨fun y n H' => H' = H ∧ (0 ≤ y ∧ y < 4294967296) ∧ (0 ≤ n ∧ n ≤ 32) ∧ ∀ k, IsBL y k → IsBL x (n.toNat + k), iteB_d (fun c => ⟨by omega, letV_mk (x / 4294967296) (fdivN 32 32 p32 rfl h0) ⟨rfl, by omega, by omega, fun k hk => IsBL.shiftN 32 p32 c hk⟩⟩) (fun c => ⟨rfl, by omega, by omega, fun k hk => by simpa using hk⟩), ?_⟩
  rintro y n H1 ⟨rfl, hy, hn, hb⟩
  unfold F_math_bits_Len64_k3
  refine ⟨fun y n H' => H' = H1 ∧ (0 ≤ y ∧ y < 65536) ∧ (0 ≤ n ∧ n ≤ 48) ∧ ∀ k, IsBL y k → IsBL x (n.toNat + k), iteB_d (fun c => ⟨by omega, letV_mk (y / 65536) (fdivN 16 16 p16 rfl hy.1) (letV_mk (n + 16) (i64_in (by omega)) ⟨rfl, by omega, by omega, fun k hk => ?_⟩)⟩) (fun c => ⟨rfl, by omega, by omega, hb⟩), ?_⟩
  · have := hb _ (IsBL.shiftN 16 p16 c hk)
    rw [show (n + 16).toNat + k = n.toNat + (16 + k) by omega]; exact this
  rintro y2 n2 H2 ⟨rfl, hy2, hn2, hb2⟩
  unfold F_math_bits_Len64_k2
  refine ⟨fun y n H' => H' = H2 ∧ (0 ≤ y ∧ y < 256) ∧ (0 ≤ n ∧ n ≤ 56) ∧ ∀ k, IsBL y k → IsBL x (n.toNat + k), iteB_d (fun c => ⟨by omega, letV_mk (y2 / 256) (fdivN 8 8 p8 rfl hy2.1) (letV_mk (n2 + 8) (i64_in (by omega)) ⟨rfl, by omega, by omega, fun k hk => ?_⟩)⟩) (fun c => ⟨rfl, by omega, by omega, hb2⟩), ?_⟩
  · have := hb2 _ (IsBL.shiftN 8 p8 c hk)
    rw [show (n2 + 8).toNat + k = n2.toNat + (8 + k) by omega]; exact this
  rintro y3 n3 H3 ⟨rfl, hy3, hn3, hb3⟩
  unfold F_math_bits_Len64_k1
  have e1 : IntKind.u8.wrap y3 = y3 := by simp [IntKind.wrap, IntKind.bits, IntKind.signed]; omega
  rw [e1]
  obtain ⟨m, rfl⟩ := Int.eq_ofNat_of_zero_le hy3.1
  rw [Int.toNat_natCast]
  have ht := tab8 (i := m) (by omega)
  have hx := hb3 _ ht
  have h64 := hx.le64 h1
  have hsz : (cstr_0.size : Int) = 256 := by decide +kernel
  refine ⟨by omega, by omega, letV_mk ((n3.toNat + cstr_0[m]!.toNat : Nat) : Int) ?_ ⟨_, rfl, hx, rfl⟩⟩
  rw [i64_in (n := ((cstr_0[m]!.toNat : Nat) : Int)) (by omega), i64_in (by omega)]
  omega

theorem isW_of_bl {L : Nat} {sum : Int} {k : Nat} (h : IsBL (sum - 1) k) (_h0 : 1 ≤ sum) : IsW L sum (max L k) := by
  have hlt := h.lt
  refine ⟨by omega, ?_, ?_⟩
  · have := pow_mono (a := k) (b := max L k) (by omega)
    omega
  · by_cases c : k ≤ L
    · left; omega
    · right
      rw [Nat.max_eq_right (by omega)]
      rcases h.ge with e | e
      · omega
      · omega

end Go.Proofs.Ytigcheamheiopaa
