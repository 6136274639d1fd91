import Derived.Test.YtnhhncjflnlfaaaGreatJG
import Derived.Test.YtnhhncjflnlfaaaGreatEngQ
import Derived.Test.YtnhhncjflnlfaaaGreatEngC
import Derived.Test.YtnhhncjflnlfaaaGreatK1

section
/-
 The size of a window: the program's and the reference's.
-/
namespace Go.Proofs.YtnhhncjflnlfaaaGreat
open Go.Eng

def sumW : List Int -> Int
 | [] => 0
 | x :: l => 2 ^ x.toNat + sumW l
theorem sumW_append (l : List Int) (x : Int) : sumW (l ++ [x]) = sumW l + 2 ^ x.toNat := by
 induction l with
 | nil => simp [sumW]
 | cons y l ih => simp only [List.cons_append, sumW, ih]; omega
def InS (l : List Int) : Prop := ∀ x ∈ l, 0 <= x /\ x <= 44
instance (l : List Int) : Decidable (InS l) := by unfold InS; infer_instance

theorem pow44 {x : Int} (h : 0 <= x /\ x <= 44) : (1 : Int) <= 2 ^ x.toNat /\ (2 : Int) ^ x.toNat <= 17592186044416 := by
 have h1 : (2 : Nat) ^ x.toNat <= 2 ^ 44 := Nat.pow_le_pow_right (by omega) (by omega)
 have h2 : 1 <= (2 : Nat) ^ x.toNat := Nat.one_le_two_pow
 have e : ((2 : Int) ^ x.toNat) = ((2 ^ x.toNat : Nat) : Int) := by push_cast; rfl
 rw [e]
 omega

theorem sumW_range {l : List Int} (h : InS l) : 0 <= sumW l /\ sumW l <= l.length * 17592186044416 /\ (l ≠ [] -> 1 <= sumW l) := by
 induction l with
 | nil => simp [sumW]
 | cons x l ih =>
  have hx := pow44 (h x (by simp))
  obtain ⟨h1, h2, _⟩ := ih (fun y hy => h y (by simp [hy]))
  simp only [sumW, List.length_cons]
  refine ⟨by omega, by push_cast; omega, fun _ => by omega⟩

def wup (sum : Int) : Nat -> Nat -> Nat
 | 0, w => w
 | n + 1, w => if (2 : Int) ^ w < sum then wup sum n (w + 1) else w

structure IsW (least : Nat) (sum : Int) (w : Nat) : Prop where
 ge : least <= w
 fits : sum <= 2 ^ w
 tight : w = least \/ (2 : Int) ^ (w - 1) < sum

theorem pow_mono {a b : Nat} (h : a <= b) : (2 : Int) ^ a <= 2 ^ b := by
 have : (2 : Nat) ^ a <= 2 ^ b := Nat.pow_le_pow_right (by omega) h
 exact_mod_cast this

theorem IsW.unique {least : Nat} {sum : Int} {w w' : Nat} (h : IsW least sum w) (h' : IsW least sum w') : w = w' := by
 rcases Nat.lt_trichotomy w w' with c | c | c
 ·have := h'.tight
  have := h.ge
  have hp := pow_mono (a := w) (b := w' - 1) (by omega)
  have := h.fits
  omega
 ·exact c
 ·have := h.tight
  have := h'.ge
  have hp := pow_mono (a := w') (b := w - 1) (by omega)
  have := h'.fits
  omega

theorem wup_isW (sum : Int) : ∀ n w, sum <= 2 ^ (w + n) -> IsW w sum (wup sum n w)
 | 0, w, h => ⟨Nat.le_refl _, by simpa [wup] using h, .inl rfl⟩
 | n + 1, w, h => by
  unfold wup
  split
  ·rename_i c
   have ih := wup_isW sum n (w + 1) (by rw [show w + 1 + n = w + (n + 1) by omega]; exact h)
   have h1 := ih.ge
   refine ⟨by omega, ih.fits, .inr ?_⟩
   rcases ih.tight with e | e
   ·rw [e]; simpa using c
   ·exact e
  ·rename_i c
   exact ⟨Nat.le_refl _, by omega, .inl rfl⟩

def least (c : Int) (hot : Bool) : Nat := if c = 0 then 12 else if hot then 22 else 20
def WOk (l : List Int) (c : Int) (hot : Bool) : Prop := ¬ (l = [] /\ hot = false) /\ l.length <= 1024 /\ (0 <= c /\ c < 3) /\ InS l
instance (l : List Int) (c : Int) (hot : Bool) : Decidable (WOk l c hot) := by unfold WOk; infer_instance
def wszF (l : List Int) (c : Int) (hot : Bool) : Int := if WOk l c hot then (wup (sumW l) 64 (least c hot) : Int) else 0
abbrev wszV (l : List Int) (c : Int) (hot : Bool) : Value := .tuple #[.int .i64 (wszF l c hot), .bool (decide (WOk l c hot))]

theorem sum_lt {l : List Int} (h : InS l) (hl : l.length <= 1024) : sumW l <= 18014398509481984 := by
 have := (sumW_range h).2.1
 have : (l.length : Int) <= 1024 := by omega
 omega

theorem wsz_of {l : List Int} {c : Int} {hot : Bool} (h : WOk l c hot) {w : Nat} (hw : IsW (least c hot) (sumW l) w) : wszV l c hot = .tuple #[.int .i64 w, .bool true] := by
 have hs := sum_lt h.2.2.2 h.2.1
 have h1 : sumW l <= 2 ^ (least c hot + 64) := by
  have := pow_mono (a := 64) (b := least c hot + 64) (by omega)
  have e : (2 : Int) ^ 64 = 18446744073709551616 := by decide
  omega
 have := hw.unique (wup_isW _ 64 _ h1)
 unfold wszV wszF
 rw [if_pos h, decide_eq_true h, this]
theorem wsz_no {l : List Int} {c : Int} {hot : Bool} (h : ¬ WOk l c hot) : wszV l c hot = .tuple #[.int .i64 0, .bool false] := by
 unfold wszV wszF
 rw [if_neg h, decide_eq_false h]

/-! ### Len64 -/

structure IsBL (x : Int) (k : Nat) : Prop where
 lt : x < 2 ^ k
 ge : k = 0 \/ (2 : Int) ^ (k - 1) <= x

theorem IsBL.shift {x : Int} {k j : Nat} (hx : (2 : Int) ^ j <= x) (h : IsBL (x / 2 ^ j) k) : IsBL x (j + k) := by
 have hp : (0 : Int) < 2 ^ j := Int.pow_pos (by omega)
 have e : (2 : Int) ^ (j + k) = 2 ^ k * 2 ^ j := by rw [Nat.add_comm, Int.pow_add]
 refine ⟨?_, ?_⟩
 ·rw [e]
  exact Int.lt_mul_of_ediv_lt hp h.lt
 ·rcases h.ge with hk | hk
  ·exfalso
   have := h.lt
   rw [hk] at this
   have h1 : 1 <= x / 2 ^ j := by
    rw [Int.le_ediv_iff_mul_le hp]
    omega
   simp at this
   omega
  ·by_cases hk0 : k = 0
   ·subst hk0
    right
    have h3 := (Int.le_ediv_iff_mul_le hp).1 hk
    have : (2 : Int) ^ (j + 0 - 1) <= 2 ^ j := pow_mono (by omega)
    omega
   ·right
    rw [show j + k - 1 = (k - 1) + j by omega, Int.pow_add]
    exact (Int.le_ediv_iff_mul_le hp).1 hk

theorem IsBL.shiftN {x Q : Int} {k : Nat} (j : Nat) (hQ : (2 : Int) ^ j = Q) (hx : x >= Q) (h : IsBL (x / Q) k) : IsBL x (j + k) := by
 subst hQ
 exact IsBL.shift hx h
theorem fdivN {y Q : Int} (x : Int) (j : Nat) (hQ : (2 : Int) ^ j = Q) (hx : min x.toNat IntKind.u64.bits = j) (_hy : 0 <= y) : y.fdiv (2 ^ (min x.toNat IntKind.u64.bits)) = y / Q := by
 rw [hx, Int.fdiv_eq_ediv_of_nonneg _ (Int.pow_nonneg (by omega)), hQ]

theorem iteB_d {p : Prop} {i : Decidable p} {A B : Prop} (h1 : p -> A) (h2 : ¬ p -> B) : iteB (@decide p i) A B := iteB_dec h1 h2

def okT (i k : Nat) : Bool := decide ((i : Int) < 2 ^ k) && decide (k = 0 \/ (2 : Int) ^ (k - 1) <= i)
theorem okT_elim {i k : Nat} (h : okT i k = true) : IsBL i k := by
 unfold okT at h
 rw [Bool.and_eq_true] at h
 exact ⟨of_decide_eq_true h.1, of_decide_eq_true h.2⟩
theorem tab8 {i : Nat} (h : i < 256) : IsBL i (cstr_0[i]!.toNat) := by
 have h8 : ((List.range 256).all fun i => okT i (cstr_0[i]!.toNat)) = true := by decide +kernel
 exact okT_elim (List.all_eq_true.1 h8 i (List.mem_range.2 h))

theorem IsBL.le64 {x : Int} {k : Nat} (h : IsBL x k) (hx : x < 18446744073709551616) : k <= 64 := by
 rcases h.ge with e | e
 ·omega
 ·by_cases c : k <= 64
  ·exact c
  ·have := pow_mono (a := 64) (b := k - 1) (by omega)
   have e : (2 : Int) ^ 64 = 18446744073709551616 := by decide
   omega

theorem Len64_spec (x : Int) (H : Heap) (h0 : 0 <= x) (h1 : x < 18446744073709551616) : CallsH Tryz.prog n_115 #[.int .u64 x] H (fun v H' => ∃ k : Nat, v = .int .i64 k /\ IsBL x k /\ H' = H) := by
 refine F_115_ok _ ?_
 unfold F_115
 have p32 : (2 : Int) ^ 32 = 4294967296 := by decide
 have p16 : (2 : Int) ^ 16 = 65536 := by decide
 have p8 : (2 : Int) ^ 8 = 256 := by decide
 refine ⟨fun y n H' => H' = H /\ (0 <= y /\ y < 4294967296) /\ (0 <= n /\ n <= 32) /\ ∀ k, IsBL y k -> IsBL x (n.toNat + k), iteB_d (fun c => ⟨by omega, letV_mk (x / 4294967296) (fdivN 32 32 p32 rfl h0) ⟨rfl, by omega, by omega, fun k hk => IsBL.shiftN 32 p32 c hk⟩⟩) (fun c => ⟨rfl, by omega, by omega, fun k hk => by simpa using hk⟩), ?_⟩
 rintro y n H1 ⟨rfl, hy, hn, hb⟩
 unfold F_115_k3
 refine ⟨fun y n H' => H' = H1 /\ (0 <= y /\ y < 65536) /\ (0 <= n /\ n <= 48) /\ ∀ k, IsBL y k -> IsBL x (n.toNat + k), iteB_d (fun c => ⟨by omega, letV_mk (y / 65536) (fdivN 16 16 p16 rfl hy.1) (letV_mk (n + 16) (i64_in (by omega)) ⟨rfl, by omega, by omega, fun k hk => ?_⟩)⟩) (fun c => ⟨rfl, by omega, by omega, hb⟩), ?_⟩
 ·have := hb _ (IsBL.shiftN 16 p16 c hk)
  rw [show (n + 16).toNat + k = n.toNat + (16 + k) by omega]; exact this
 rintro y2 n2 H2 ⟨rfl, hy2, hn2, hb2⟩
 unfold F_115_k2
 refine ⟨fun y n H' => H' = H2 /\ (0 <= y /\ y < 256) /\ (0 <= n /\ n <= 56) /\ ∀ k, IsBL y k -> IsBL x (n.toNat + k), iteB_d (fun c => ⟨by omega, letV_mk (y2 / 256) (fdivN 8 8 p8 rfl hy2.1) (letV_mk (n2 + 8) (i64_in (by omega)) ⟨rfl, by omega, by omega, fun k hk => ?_⟩)⟩) (fun c => ⟨rfl, by omega, by omega, hb2⟩), ?_⟩
 ·have := hb2 _ (IsBL.shiftN 8 p8 c hk)
  rw [show (n2 + 8).toNat + k = n2.toNat + (8 + k) by omega]; exact this
 rintro y3 n3 H3 ⟨rfl, hy3, hn3, hb3⟩
 unfold F_115_k1
 have e1 : IntKind.u8.wrap y3 = y3 := by simp [IntKind.wrap, IntKind.bits, IntKind.signed]; omega
 rw [e1]
 obtain ⟨m, rfl⟩ := Int.eq_ofNat_of_zero_le hy3.1
 rw [Int.toNat_natCast]
 have ht := tab8 (i := m) (by omega)
 have hx := hb3 _ ht
 have h64 := hx.le64 h1
 have hsz : (cstr_0.size : Int) = 256 := by decide +kernel
 refine ⟨by omega, by omega, letV_mk ((n3.toNat + cstr_0[m]!.toNat : Nat) : Int) ?_ ⟨_, rfl, hx, rfl⟩⟩
 rw [i64_in (n := ((cstr_0[m]!.toNat : Nat) : Int)) (by omega), i64_in (by omega)]
 omega

theorem isW_of_bl {L : Nat} {sum : Int} {k : Nat} (h : IsBL (sum - 1) k) (_h0 : 1 <= sum) : IsW L sum (max L k) := by
 have hlt := h.lt
 refine ⟨by omega, ?_, ?_⟩
 ·have := pow_mono (a := k) (b := max L k) (by omega)
  omega
 ·by_cases c : k <= L
  ·left; omega
  ·right
   rw [Nat.max_eq_right (by omega)]
   rcases h.ge with e | e
   ·omega
   ·omega

end Go.Proofs.YtnhhncjflnlfaaaGreat
end

section
/-
 The contracts of WindowSize, the program's and the reference's.
-/
namespace Go.Proofs.YtnhhncjflnlfaaaGreat
open Go.Eng

theorem take_succ_getD {l : List Int} {k : Nat} (h : k < l.length) : l.take (k + 1) = l.take k ++ [l.getD k 0] := by
 rw [List.take_add_one]
 simp [List.getD, h]

theorem pw_code {x : Int} (h : 0 <= x /\ x <= 44) : IntKind.u64.wrap ((1 : Int) * 2 ^ (min x.toNat IntKind.u64.bits)) = 2 ^ x.toNat := by
 have hp := pow44 h
 rw [Nat.min_eq_left (by show x.toNat <= 64; omega), Int.one_mul]
 exact u64_in (by omega)

theorem InS.take {l : List Int} {k : Nat} (h : InS (l.take k)) (hk : k < l.length) (hx : 0 <= l.getD k 0 /\ l.getD k 0 <= 44) : InS (l.take (k + 1)) := by
 rw [take_succ_getD hk]
 intro x hm
 simp only [List.mem_append, List.mem_singleton] at hm
 rcases hm with hm | rfl
 ·exact h x hm
 ·exact hx

theorem inS_at {l : List Int} (h : InS l) {k : Nat} (hk : k < l.length) : 0 <= l.getD k 0 /\ l.getD k 0 <= 44 := h _ (by simp [List.getD, hk])

theorem WindowSize_spec (H : Heap) (s : Sl) (l : List Int) (c : Int) (hot : Bool) (h : Ints .i64 H s l) (hl9 : l.length <= 9223372036854775807) :
  CallsH Tryz.prog n_99 #[.slice s.p s.n s.c, .int .i64 c, .bool hot] H (fun v H' => v = wszV l c hot /\ H' = H) := by
 refine F_99_ok _ _ _ ?_
 unfold F_99
 have hn := h.len
 have no : ¬ WOk l c hot -> (.tuple #[.int .i64 0, .bool false] : Value) = wszV l c hot /\ H = H := fun hh => ⟨(wsz_no hh).symm, rfl⟩
 refine ⟨fun H' => H' = H /\ ¬ (l = [] /\ hot = false) /\ l.length <= 1024 /\ (0 <= c /\ c < 3), ?_, ?_⟩
 ·have tl : (¬ (l = [] /\ hot = false)) -> iteB (decide ((s.n : Int) > (1024 : Int))) ((.tuple #[.int .i64 (0 : Int), .bool false] : Value) = wszV l c hot /\ H = H) (iteB (decide (c < (0 : Int))) ((.tuple #[.int .i64 (0 : Int), .bool false] : Value) = wszV l c hot /\ H = H) (iteB (decide (c >= (3 : Int))) ((.tuple #[.int .i64 (0 : Int), .bool false] : Value) = wszV l c hot /\ H = H) (H = H /\ ¬ (l = [] /\ hot = false) /\ l.length <= 1024 /\ (0 <= c /\ c < 3)))) := fun h1 =>
   iteB_d (fun c1 => no (fun hw => by have := hw.2.1; omega)) (fun c1 => iteB_d (fun c2 => no (fun hw => by have := hw.2.2.1; omega)) (fun c2 => iteB_d (fun c3 => no (fun hw => by have := hw.2.2.1; omega)) (fun c3 => ⟨rfl, h1, by omega, by omega⟩)))
  refine iteB_beq (fun c0 => iteB_not (fun c1 => no (fun hw => hw.1 ⟨List.eq_nil_of_length_eq_zero (by omega), c1⟩)) (fun c1 => tl (fun hh => by rw [hh.2] at c1; cases c1))) (fun c0 => tl (fun hh => c0 (by rw [hn, hh.1]; rfl)))
 rintro H1 ⟨rfl, hne, hlen, hc⟩
 unfold F_99_k4
 refine loop2 l.length (fun k sum H' => H' = H1 /\ sum = sumW (l.take k) /\ InS (l.take k)) ⟨rfl, rfl, fun x hx => by simp at hx⟩ ?_
 rintro k sum H2 hk ⟨rfl, rfl, hin⟩
 unfold F_99_r3
 have hsum := sum_lt hin (by simp; omega)
 have hs0 := (sumW_range hin).1
 refine iteB_d (fun c1 => ?_) (fun c1 => ?_)
 ·have hkn : k < l.length := by omega
  obtain ⟨a, hp, hr⟩ := Ints.atN h hkn
  refine ⟨by omega, by omega, unSome_mk hp ⟨_, hr, iteB_d (fun c2 => no (fun hw => by have := inS_at hw.2.2.2 hkn; omega)) (fun c2 => iteB_d (fun c3 => no (fun hw => by have := inS_at hw.2.2.2 hkn; omega)) (fun c3 => ?_))⟩⟩
  have hx : 0 <= l.getD k 0 /\ l.getD k 0 <= 44 := by omega
  have hp44 := pow44 hx
  refine ⟨by omega, letV_mk (sumW (l.take (k + 1))) ?_ (next2 hkn (by omega) ⟨rfl, rfl, hin.take hkn hx⟩)⟩
  rw [pw_code hx, take_succ_getD hkn, sumW_append]
  exact u64_in (by omega)
 ·have hkl : k = l.length := by omega
  subst hkl
  rw [List.take_length] at *
  have hok : WOk l c hot := ⟨hne, hlen, hc, hin⟩
  refine ⟨fun sm sp H' => H' = H2 /\ sm = (if c = 0 then 12 else 20) /\ sp = (if c = 0 then 12 else 22), iteB_beq (fun d => ⟨rfl, by rw [if_pos d], by rw [if_pos d]⟩) (fun d => ⟨rfl, by rw [if_neg d], by rw [if_neg d]⟩), ?_⟩
  rintro sm sp H3 ⟨rfl, hsm, hsp⟩
  unfold F_99_k2
  refine ⟨fun w H' => H' = H3 /\ w = (least c hot : Int), iteB_intro (fun d => letV_mk (least c hot : Int) ?_ ⟨rfl, rfl⟩) (fun d => ⟨rfl, ?_⟩), ?_⟩
  ·unfold least
   by_cases c0 : c = 0
   ·rw [hsm, hsp, if_pos c0, if_pos c0, if_pos c0]; rfl
   ·rw [hsm, hsp, if_neg c0, if_neg c0, if_neg c0, if_pos d]; rfl
  ·unfold least
   by_cases c0 : c = 0
   ·rw [hsm, if_pos c0, if_pos c0]; rfl
   ·rw [hsm, if_neg c0, if_neg c0, if_neg (by rw [d]; simp)]; rfl
  rintro w H4 ⟨rfl, rfl⟩
  unfold F_99_k1
  refine iteB_d (fun d => ?_) (fun d => ?_)
  ·rw [u64_in (n := sumW l - 1) (by omega)]
   refine (Len64_spec (sumW l - 1) H4 (by omega) (by omega)).mono ?_
   rintro v H5 ⟨L, rfl, hL, rfl⟩
   refine ⟨_, rfl, letV_mk ((max (least c hot) L : Nat) : Int) ?_ ⟨(wsz_of hok (isW_of_bl hL (by omega))).symm, rfl⟩⟩
   split <;> omega
  ·have h0 : sumW l = 0 := by omega
   refine ⟨(wsz_of hok ⟨Nat.le_refl _, ?_, .inl rfl⟩).symm, rfl⟩
   rw [h0]
   exact Int.le_of_lt (Int.pow_pos (by omega))

theorem rWindowSize_spec (H : Heap) (s : Sl) (l : List Int) (c : Int) (hot : Bool) (h : Ints .i64 H s l) (hl9 : l.length <= 9223372036854775807) :
  CallsH Tryz.prog n_89 #[.slice s.p s.n s.c, .int .i64 c, .bool hot] H (fun v H' => v = wszV l c hot /\ H' = H) := by
 refine F_89_ok _ _ _ ?_
 unfold F_89
 have hn := h.len
 have no : ¬ WOk l c hot -> (.tuple #[.int .i64 0, .bool false] : Value) = wszV l c hot /\ H = H := fun hh => ⟨(wsz_no hh).symm, rfl⟩
 refine ⟨fun H' => H' = H /\ ¬ (l = [] /\ hot = false) /\ l.length <= 1024 /\ (0 <= c /\ c < 3), ?_, ?_⟩
 ·refine iteB_d (fun c1 => no (fun hw => by have := hw.2.2.1; omega)) (fun c1 => iteB_d (fun c2 => no (fun hw => by have := hw.2.2.1; omega)) (fun c2 => iteB_d (fun c3 => no (fun hw => by have := hw.2.1; omega)) (fun c3 => ?_)))
  refine iteB_beq (fun c0 => iteB_not (fun c1 => no (fun hw => hw.1 ⟨List.eq_nil_of_length_eq_zero (by omega), c1⟩)) (fun c1 => ⟨rfl, fun hh => (by rw [hh.2] at c1; cases c1), by omega, by omega⟩)) (fun c0 => ⟨rfl, fun hh => c0 (by rw [hn, hh.1]; rfl), by omega, by omega⟩)
 rintro H1 ⟨rfl, hne, hlen, hc⟩
 unfold F_89_k6
 refine loop2 l.length (fun k sum H' => H' = H1 /\ sum = sumW (l.take k) /\ InS (l.take k)) ⟨rfl, rfl, fun x hx => by simp at hx⟩ ?_
 rintro k sum H2 hk ⟨rfl, rfl, hin⟩
 unfold F_89_r5
 have hsum := sum_lt hin (by simp; omega)
 have hs0 := (sumW_range hin).1
 refine iteB_d (fun c1 => ?_) (fun c1 => ?_)
 ·have hkn : k < l.length := by omega
  obtain ⟨a, hp, hr⟩ := Ints.atN h hkn
  refine ⟨by omega, by omega, unSome_mk hp ⟨_, hr, iteB_d (fun c2 => no (fun hw => by have := inS_at hw.2.2.2 hkn; omega)) (fun c2 => ⟨by omega, by omega, unSome_mk hp ⟨_, hr, iteB_d (fun c3 => no (fun hw => by have := inS_at hw.2.2.2 hkn; omega)) (fun c3 => ⟨by omega, by omega, unSome_mk hp ⟨_, hr, ?_⟩⟩)⟩⟩)⟩⟩
  have hx : 0 <= l.getD k 0 /\ l.getD k 0 <= 44 := by omega
  have hp44 := pow44 hx
  rw [u64_in (n := l.getD k 0) (by omega)]
  refine ⟨by omega, letV_mk (sumW (l.take (k + 1))) ?_ (letV_mk _ rfl (next2 hkn (by omega) ⟨rfl, rfl, hin.take hkn hx⟩))⟩
  rw [pw_code hx, take_succ_getD hkn, sumW_append]
  exact u64_in (by omega)
 ·have hkl : k = l.length := by omega
  subst hkl
  rw [List.take_length] at *
  have hok : WOk l c hot := ⟨hne, hlen, hc, hin⟩
  refine ⟨fun w H' => H' = H2 /\ w = (if c = 0 then 12 else 20), iteB_beq (fun d => ⟨rfl, by rw [if_pos d]⟩) (fun d => ⟨rfl, by rw [if_neg d]⟩), ?_⟩
  rintro w H3 ⟨rfl, hw⟩
  unfold F_89_k4
  refine ⟨fun w H' => H' = H3 /\ w = (least c hot : Int), ⟨fun x H' => H' = H3 /\ x = (hot && (c == 0)), iteB_intro (fun d => ⟨rfl, by rw [d]; rfl⟩) (fun d => ⟨rfl, by rw [d]; rfl⟩), ?_⟩, ?_⟩
  ·rintro x H4 ⟨rfl, hx⟩
   unfold F_89_k1
   refine iteB_intro (fun d => letV_mk (least c hot : Int) ?_ ⟨rfl, rfl⟩) (fun d => iteB_intro (fun d2 => letV_mk (least c hot : Int) ?_ ⟨rfl, rfl⟩) (fun d2 => ⟨rfl, ?_⟩))
   ·rw [d] at hx
    have : hot = true /\ c = 0 := by simpa using hx.symm
    unfold least
    rw [hw, if_pos this.2, if_pos this.2]; rfl
   ·rw [d, d2] at hx
    have hc0 : c ≠ 0 := fun e => by rw [e] at hx; simp at hx
    unfold least
    rw [hw, if_neg hc0, if_neg hc0, if_pos d2]; rfl
   ·unfold least
    by_cases c0 : c = 0
    ·rw [hw, if_pos c0, if_pos c0]; rfl
    ·rw [hw, if_neg c0, if_neg c0, if_neg (by rw [d2]; simp)]; rfl
  rintro w3 H5 ⟨rfl, rfl⟩
  unfold F_89_k3
  have hle : least c hot <= 22 := by unfold least; split <;> (try split) <;> omega
  refine ⟨fun w H' => H' = H5 /\ ∃ m : Nat, w = m /\ least c hot <= m /\ m <= 55 /\ (m = least c hot \/ (2 : Int) ^ (m - 1) < sumW l), fun w _ => (100 - w).toNat, ⟨rfl, least c hot, rfl, Nat.le_refl _, by omega, .inl rfl⟩, ?_⟩
  rintro w4 H6 ⟨rfl, m, rfl, hm1, hm2, hm3⟩
  unfold F_89_r2
  have hu : IntKind.u64.wrap ((m : Nat) : Int) = m := u64_in (by omega)
  rw [hu]
  have hpw : IntKind.u64.wrap ((1 : Int) * 2 ^ (min ((m : Nat) : Int).toNat IntKind.u64.bits)) = 2 ^ m := by
   rw [Int.toNat_natCast, Nat.min_eq_left (by show m <= 64; omega), Int.one_mul]
   have h1 := pow_mono (a := m) (b := 55) (by omega)
   have h2 : (2 : Int) ^ 55 = 36028797018963968 := by decide
   have h3 : (0 : Int) < 2 ^ m := Int.pow_pos (by omega)
   exact u64_in (by omega)
  rw [hpw]
  refine ⟨by omega, iteB_d (fun d => letV_mk ((m + 1 : Nat) : Int) (i64_succ (by omega)) ⟨⟨rfl, m + 1, rfl, by omega, ?_, .inr (by simpa using d)⟩, by dsimp only; omega⟩) (fun d => ⟨(wsz_of hok ⟨hm1, by omega, hm3⟩).symm, rfl⟩)⟩
  have h2 : (2 : Int) ^ 54 = 18014398509481984 := by decide
  by_cases hm54 : m <= 54
  ·omega
  ·have := pow_mono (a := 54) (b := m) (by omega)
   omega

end Go.Proofs.YtnhhncjflnlfaaaGreat
end

section
/-
 Classes: the contracts of prefAbove, classOf, Class, and of the reference's above, bar, Class.
-/
namespace Go.Proofs.YtnhhncjflnlfaaaGreat
open Go.Eng

def abF (T : List FS) : Nat -> Int -> Bool
 | 0, _ => true
 | n + 1, i => if i < 0 then true else if (fnAt T i.toNat).pref = false then false else abF T n (fnAt T i.toNat).parent
def aboveF (T : List FS) (i : Nat) : Bool := abF T (T.length + 1) (fnAt T i).parent

theorem abF_neg {T : List FS} {i : Int} (h : i < 0) : ∀ m, abF T m i = true
 | 0 => rfl
 | m + 1 => by unfold abF; rw [if_pos h]

theorem abF_fuel {T : List FS} (hv : ValidT T) (n : Nat) : ∀ (i : Int), i < T.length -> i.toNat + 1 <= n -> abF T n i = abF T (i.toNat + 1) i := by
 induction n using Nat.strongRecOn with
 | _ n ih =>
  intro i hi h
  obtain ⟨m, rfl⟩ : ∃ m, n = m + 1 := ⟨n - 1, by omega⟩
  by_cases c0 : i < 0
  ·rw [abF_neg c0, abF_neg c0]
  ·unfold abF
   rw [if_neg c0, if_neg c0]
   split
   ·rfl
   ·have hp := (hv.2 i.toNat (by omega)).pa
    by_cases c : (fnAt T i.toNat).parent < 0
    ·rw [abF_neg c, abF_neg c]
    ·rw [ih m (by omega) _ (by omega) (by omega), ih i.toNat (by omega) _ (by omega) (by omega)]

theorem abF_step {T : List FS} (hv : ValidT T) {m : Nat} (hm : m < T.length) (hp : (fnAt T m).pref = true) : abF T ((m : Int).toNat + 1) m = abF T ((fnAt T m).parent.toNat + 1) (fnAt T m).parent := by
 have hpa := (hv.2 m hm).pa
 conv => lhs; unfold abF
 rw [if_neg (by omega), Int.toNat_natCast, if_neg (by rw [hp]; simp)]
 by_cases c : (fnAt T m).parent < 0
 ·rw [abF_neg c, abF_neg c]
 ·exact abF_fuel hv m _ (by omega) (by omega)

theorem prefAbove_spec (T : List FS) (s : Sl) (i : Nat) (H : Heap) (h : Topo H s T) (hv : ValidT T) (hi : i < T.length) :
  CallsH Tryz.prog n_98 #[.slice s.p s.n s.c, .int .i64 i] H (fun v H' => v = .bool (aboveF T i) /\ H' = H) := by
 refine F_98_ok _ _ ?_
 unfold F_98
 have hn := h.len
 obtain ⟨a, hp, hr⟩ := h.at hi
 have hpa := (hv.2 i hi).pa
 refine ⟨by omega, by omega, unSome_mk hp ⟨_, (rdFn hr).1, fun j H' => H' = H /\ -1 <= j /\ j < T.length /\ aboveF T i = abF T (j.toNat + 1) j, fun j _ => (j + 1).toNat, ⟨rfl, by omega, by omega, abF_fuel hv _ _ (by omega) (by omega)⟩, ?_⟩⟩
 rintro j H1 ⟨rfl, hj0, hj, hab⟩
 unfold F_98_r1
 refine iteB_d (fun c => ?_) (fun c => ⟨by rw [hab]; unfold abF; rw [if_pos (by omega)], rfl⟩)
 obtain ⟨m, rfl⟩ := Int.eq_ofNat_of_zero_le c
 obtain ⟨b, hq, hr2⟩ := h.at (i := m) (by omega)
 obtain ⟨r0, _, _, _, _, r5, _⟩ := rdFn hr2
 have hpm := (hv.2 m (by omega)).pa
 refine ⟨by omega, by omega, unSome_mk hq ⟨_, r5, iteB_not (fun c1 => ⟨?_, rfl⟩) (fun c1 => ⟨by omega, by omega, unSome_mk hq ⟨_, r0, ⟨rfl, by omega, by omega, ?_⟩, by dsimp only; omega⟩⟩)⟩⟩
 ·rw [hab]; unfold abF; rw [if_neg (by omega), Int.toNat_natCast, if_pos c1]
 ·rw [hab]; exact abF_step hv (by omega) c1

theorem above_spec (T : List FS) (s : Sl) (i : Nat) (H : Heap) (h : Topo H s T) (hv : ValidT T) (hi : i < T.length) :
  CallsH Tryz.prog n_88 #[.slice s.p s.n s.c, .int .i64 i] H (fun v H' => v = .bool (aboveF T i) /\ H' = H) := by
 refine F_88_ok _ _ ?_
 unfold F_88
 have hn := h.len
 obtain ⟨a, hp, hr⟩ := h.at hi
 have hpa := (hv.2 i hi).pa
 refine ⟨by omega, by omega, unSome_mk hp ⟨_, (rdFn hr).1, fun j H' => H' = H /\ -1 <= j /\ j < T.length /\ aboveF T i = abF T (j.toNat + 1) j, fun j _ => (j + 1).toNat, ⟨rfl, by omega, by omega, abF_fuel hv _ _ (by omega) (by omega)⟩, ?_⟩⟩
 rintro j H1 ⟨rfl, hj0, hj, hab⟩
 unfold F_88_r1
 refine iteB_d (fun c => ?_) (fun c => ⟨by rw [hab]; unfold abF; rw [if_pos (by omega)], rfl⟩)
 obtain ⟨m, rfl⟩ := Int.eq_ofNat_of_zero_le c
 obtain ⟨b, hq, hr2⟩ := h.at (i := m) (by omega)
 obtain ⟨r0, _, _, _, _, r5, _⟩ := rdFn hr2
 have hpm := (hv.2 m (by omega)).pa
 refine ⟨by omega, by omega, unSome_mk hq ⟨_, r5, iteB_not (fun c1 => ⟨?_, rfl⟩) (fun c1 => ⟨by omega, by omega, unSome_mk hq ⟨_, r0, ⟨rfl, by omega, by omega, ?_⟩, by dsimp only; omega⟩⟩)⟩⟩
 ·rw [hab]; unfold abF; rw [if_neg (by omega), Int.toNat_natCast, if_pos c1]
 ·rw [hab]; exact abF_step hv (by omega) c1

def classF (T : List FS) (high : Bool) (i : Nat) (k : Int) : Int := if k = 1 then 0 else if k = 4 /\ high = true /\ aboveF T i = true then 2 else 1

theorem classOf_spec (T : List FS) (s : Sl) (high : Bool) (i : Nat) (k : Int) (H : Heap) (h : Topo H s T) (hv : ValidT T) (hi : i < T.length) :
  CallsH Tryz.prog n_97 #[.slice s.p s.n s.c, .bool high, .int .i64 i, .int .i64 k] H (fun v H' => v = .int .i64 (classF T high i k) /\ H' = H) := by
 refine F_97_ok _ _ _ _ ?_
 unfold F_97
 refine iteB_beq (fun c => ⟨by unfold classF; rw [if_pos c], rfl⟩) (fun c => iteB_beq (fun c1 => iteB_intro (fun c2 => ?_) (fun c2 => ⟨by unfold classF; rw [if_neg c, if_neg (by rw [c2]; simp)], rfl⟩)) (fun c1 => ⟨by unfold classF; rw [if_neg c, if_neg (fun hh => c1 hh.1)], rfl⟩))
 refine (prefAbove_spec T s i H h hv hi).mono ?_
 rintro v H1 ⟨rfl, rfl⟩
 refine ⟨_, rfl, iteB_intro (fun c3 => ⟨?_, rfl⟩) (fun c3 => ⟨?_, rfl⟩)⟩
 ·unfold classF; rw [if_neg c, if_pos ⟨c1, c2, c3⟩]
 ·unfold classF; rw [if_neg c, if_neg (by rw [c3]; simp)]

end Go.Proofs.YtnhhncjflnlfaaaGreat
end

section
/-
 The needs of one function: the contracts of registers and windows.
-/
namespace Go.Proofs.YtnhhncjflnlfaaaGreat
open Go.Eng

abbrev Need := Int × Int × Int × Int
def encN (x : Need) : List Value := [.int .i64 x.1, .int .i64 x.2.1, .int .i64 x.2.2.1, .int .i64 x.2.2.2]
theorem encN_len (x : Need) : (encN x).length = 4 := rfl
theorem encN_one (x : Need) : ∀ u ∈ encN x, oneC u = true := fun u hu => by simp [encN] at hu; rcases hu with rfl | rfl | rfl | rfl <;> rfl

def regL (T : List FS) (high : Bool) (i : Nat) (B : List Bar) : Nat -> List Need
 | 0 => []
 | j + 1 => regL T high i B j ++ (if bk B j = 0 then [] else [((i : Int), (j : Int), classF T high i (bk B j), bz B j)])
theorem regL_len (T : List FS) (high : Bool) (i : Nat) (B : List Bar) : ∀ n, (regL T high i B n).length <= n
 | 0 => by simp [regL]
 | n + 1 => by
  have := regL_len T high i B n
  simp only [regL, List.length_append]
  split <;> simp <;> omega

structure NeedsP (lo : Nat) (L : List Need) (H : Heap) (v : Value) (H' : Heap) : Prop where
 ex : ∃ out : Sl, v = .slice out.p out.n out.c /\ Own lo t_29 4 H' out (L.flatMap encN) /\ out.n = L.length /\ Ext H H'

theorem registers_spec' (T : List FS) (s : Sl) (high : Bool) (i : Nat) (H : Heap) (h : Topo H s T) (hv : ValidT T) (hi : i < T.length) :
  CallsH Tryz.prog n_67 #[.slice s.p s.n s.c, .bool high, .int .i64 i] H (NeedsP H.size (regL T high i (fnAt T i).bars (fnAt T i).bars.length) H) := by
 refine F_67_ok _ _ _ ?_
 unfold F_67
 have hn := h.len
 obtain ⟨a, hp, hr⟩ := h.at hi
 have hB := h.barsAt hi
 have hbl := (hv.2 i hi).va.bl
 have hrg : regs (fnAt T i).bridge <= 6 := by unfold regs; split <;> omega
 have hbn := hB.len
 have r10 := (rdFn hr).2.2.2.2.2.2.2.2.2.2
 generalize hBB : (fnAt T i).bars = B at *
 generalize slAt T i = bs at *
 refine ⟨by omega, by omega, unSome_mk hp ⟨bs, r10, ?_⟩⟩
 refine loop2 B.length (fun k out H' => Own H.size t_29 4 H' out ((regL T high i B k).flatMap encN) /\ out.n = (regL T high i B k).length /\ Ext H H') ⟨Own.nil _ _ _ _, rfl, .refl _⟩ ?_
 rintro k out H1 hk ⟨o1, n1, x1⟩
 unfold F_67_r1
 have hlen := regL_len T high i B k
 refine iteB_d (fun c => ?_) (fun c => ?_)
 ·have hkn : k < B.length := by omega
  obtain ⟨b, hq, r0, r1⟩ := Bars.atN (hB.ext x1) hkn
  refine ⟨by omega, by omega, unSome_mk hq ⟨_, r0, _, r1, local_mk rfl rfl fun H3 e3 z3 b3 => ⟨_, b3.rd0 rfl, iteB_beq (fun c0 => next2 hkn (by omega) ⟨?_, ?_, x1.trans e3⟩) (fun c0 => ⟨_, b3.rd0 rfl, (classOf_spec T s high i _ H3 (h.ext (x1.trans e3)) hv hi).mono ?_⟩)⟩⟩⟩
  ·simp only [regL]; rw [if_pos c0, List.append_nil]; exact o1.ext e3
  ·simp only [regL]; rw [if_pos c0, List.append_nil]; exact n1
  ·rintro v H4 ⟨rfl, rfl⟩
   have x4 := x1.trans e3
   refine ⟨_, rfl, _, b3.rd (i := 1) rfl, ?_⟩
   refine append_row (enc := encN) (l := regL T high i B k) (z := .agg #[.int .i64 0, .int .i64 0, .int .i64 0, .int .i64 0]) (sz := 4) (bytes := 32) (lo := H.size) ((i : Int), (k : Int), classF T high i (bk B k), bz B k) (by kernel_rfl) (by kernel_rfl) rfl (by omega) encN_len encN_one (o1.ext e3) (by simp [maxLen]; omega) (by omega) x4.size ?_
   intro s' H6 ho hn6 m6
   refine next2 hkn (by omega) ⟨?_, ?_, Mods.ext x4 m6 (blkOf_new o1.new)⟩
   ·simp only [regL]; rw [if_neg c0]; exact ho
   ·simp only [regL]; rw [if_neg c0]; simp; omega
 ·obtain rfl : k = B.length := by omega
  exact ⟨out, rfl, o1, n1, x1⟩

def WCond (T : List FS) (high : Bool) (i c : Nat) : Prop := c = 2 -> high = true /\ (fnAt T i).pref = true /\ aboveF T i = true
instance (T : List FS) (high : Bool) (i c : Nat) : Decidable (WCond T high i c) := by unfold WCond; infer_instance
def winN (T : List FS) (high : Bool) (i : Nat) (S : Nat -> List Int) : Nat -> List Need
 | 0 => []
 | c + 1 => winN T high i S c ++ (if WCond T high i c /\ WOk (S c) c (fnAt T i).hot then [((i : Int), -1 - (c : Int), (c : Int), wszF (S c) c (fnAt T i).hot)] else [])
theorem winN_len (T : List FS) (high : Bool) (i : Nat) (S : Nat -> List Int) : ∀ n, (winN T high i S n).length <= n
 | 0 => by simp [winN]
 | n + 1 => by
  have := winN_len T high i S n
  simp only [winN, List.length_append]
  split <;> simp <;> omega
def winAll (T : List FS) (high : Bool) (i : Nat) (S : Nat -> List Int) : List Need := if (fnAt T i).bridge then winN T high i S 3 else []

abbrev WInv (T : List FS) (high : Bool) (i : Nat) (S : Nat -> List Int) (H : Heap) (k : Nat) (out : Sl) (H' : Heap) : Prop :=
 Own H.size t_29 4 H' out ((winN T high i S k).flatMap encN) /\ out.n = (winN T high i S k).length /\ Ext H H'

theorem windows_tail (T : List FS) (high : Bool) (i : Nat) (S : Nat -> List Int) (H H4 H6 : Heap) (b : Sl) (k : Nat) (hk : k < 3) (out : Sl) (hS : Ints .i64 H6 b (S k)) (hSl : (S k).length <= 9223372036854775807) (hw : WCond T high i k)
  (o4 : Own H.size t_29 4 H6 out ((winN T high i S k).flatMap encN)) (n4 : out.n = (winN T high i S k).length) (x6 : Ext H H6)
  {I : Sl -> Int -> Heap -> Prop} {M : Sl -> Int -> Heap -> Nat} (hI : I = CI2 3 (WInv T high i S H)) (hM : M = CM2 3) :
  CallsH Tryz.prog n_99 #[.slice b.p b.n b.c, .int .i64 k, .bool (fnAt T i).hot] H6 (fun v1 H7 =>
   ∃ x19 : Int, ∃ x20 : Bool, v1 = .tuple #[.int .i64 x19, .bool x20] /\ (iteB x20 (
    letH (H7.push (.cells #[.int .i64 (i : Int), .int .i64 (IntKind.i64.wrap ((-1 : Int) - (k : Int))), .int .i64 (k : Int), .int .i64 x19] t_29 (0, 0))) (fun H8 : Heap =>
    runH Tryz.prog (Builtin.append_ #[t_53, t_53] t_53 #[.slice out.p out.n out.c, .slice (some (⟨H7.size, 0, none⟩ : Addr)) 1 1]) H8 (fun v2 H9 =>
    ∃ needs1 : Sl, v2 = .slice needs1.p needs1.n needs1.c /\ (I needs1 (IntKind.i64.wrap ((k : Int) + (1 : Int))) H9 /\ M needs1 (IntKind.i64.wrap ((k : Int) + (1 : Int))) H9 < M out k H4)))) (
    I out (IntKind.i64.wrap ((k : Int) + (1 : Int))) H7 /\ M out (IntKind.i64.wrap ((k : Int) + (1 : Int))) H7 < M out k H4))) := by
 subst hI hM
 have hlen := winN_len T high i S k
 refine (WindowSize_spec H6 b (S k) k (fnAt T i).hot hS hSl).mono ?_
 rintro v H7 ⟨rfl, rfl⟩
 refine ⟨_, _, rfl, iteB_d (fun c => ?_) (fun c => next2 hk (by omega) ⟨?_, ?_, x6⟩)⟩
 ·rw [i64_in (n := (-1 : Int) - k) (by omega)]
  refine append_row (enc := encN) (l := winN T high i S k) (z := .agg #[.int .i64 0, .int .i64 0, .int .i64 0, .int .i64 0]) (sz := 4) (bytes := 32) (lo := H.size) ((i : Int), -1 - (k : Int), (k : Int), wszF (S k) k (fnAt T i).hot) (by kernel_rfl) (by kernel_rfl) rfl (by omega) encN_len encN_one o4 (by simp [maxLen]; omega) (by omega) x6.size ?_
  intro s' H9 ho hn9 m9
  refine next2 hk (by omega) ⟨?_, ?_, Mods.ext x6 m9 (blkOf_new o4.new)⟩
  ·simp only [winN]; rw [if_pos ⟨hw, c⟩]; exact ho
  ·simp only [winN]; rw [if_pos ⟨hw, c⟩]; simp; omega
 ·simp only [winN]; rw [if_neg (fun hh => c hh.2), List.append_nil]; exact o4
 ·simp only [winN]; rw [if_neg (fun hh => c hh.2), List.append_nil]; exact n4

theorem windows_spec (T : List FS) (s : Sl) (high : Bool) (i : Nat) (H : Heap) (h : Topo H s T) (hv : ValidT T) (hi : i < T.length) (b0 b1 b2 : Sl) (S : Nat -> List Int) (h0 : Ints .i64 H b0 (S 0)) (h1 : Ints .i64 H b1 (S 1)) (h2 : Ints .i64 H b2 (S 2)) (hl : ∀ c, (S c).length <= 9223372036854775807) :
  CallsH Tryz.prog n_68 #[.slice s.p s.n s.c, .bool high, .int .i64 i, .agg #[.slice b0.p b0.n b0.c, .slice b1.p b1.n b1.c, .slice b2.p b2.n b2.c]] H (NeedsP H.size (winAll T high i S) H) := by
 refine F_68_ok _ _ _ _ _ _ ?_
 unfold F_68
 refine push_mk (vs := [.slice b0.p b0.n b0.c, .slice b1.p b1.n b1.c, .slice b2.p b2.n b2.c]) fun H1 e1 z1 v1 => ?_
 have hn := h.len
 obtain ⟨a, hp, hr⟩ := (h.ext e1).at hi
 obtain ⟨p0, p1, p2, p3, p4, p5, p6, p7, p8, p9, p10⟩ := rdFn hr
 refine ⟨by omega, by omega, unSome_mk hp ⟨_, p0, _, p1, _, p2, _, p3, _, p4, _, p5, _, p6, _, p7, _, p8, _, p9, slAt T i, p10, local_mk (vs := fnL (fnAt T i) (slAt T i)) rfl rfl fun H3 e3 z3 b3 => ⟨_, (Blk.fn b3).2.2.2.2.1, iteB_not (fun c => ?_) (fun c => ?_)⟩⟩⟩
 ·refine ⟨⟨none, 0, 0⟩, rfl, ?_, ?_, e1.trans e3⟩
  ·unfold winAll; rw [if_neg (by rw [c]; simp)]; exact Own.nil _ _ _ _
  ·unfold winAll; rw [if_neg (by rw [c]; simp)]; rfl
 have v3 := v1.ext e3
 refine ⟨b0, v3.rd0 rfl, b1, v3.rd (i := 1) rfl, b2, v3.rd (i := 2) rfl, ?_⟩
 refine loop2 3 (WInv T high i S H3) ⟨Own.nil _ _ _ _, rfl, .refl _⟩ ?_
 rintro k out H4 hk ⟨o4, n4, x4⟩
 unfold F_68_r4
 have x3 := e1.trans e3
 have f4 := b3.ext x4
 obtain ⟨_, _, _, _, _, q5, q6, _, _, _, _⟩ := Blk.fn f4
 have skip : ∀ c, c < 3 -> ¬ WCond T high i c -> WInv T high i S H3 c out H4 -> WInv T high i S H3 (c + 1) out H4 := fun c _ hc ⟨u1, u2, u3⟩ => by
  refine ⟨?_, ?_, u3⟩
  ·simp only [winN]; rw [if_neg (fun hh => hc hh.1), List.append_nil]; exact u1
  ·simp only [winN]; rw [if_neg (fun hh => hc hh.1), List.append_nil]; exact u2
 refine iteB_d (fun c1 => ?_) (fun c1 => ?_)
 ·refine ⟨by omega, by omega, ?_⟩
  rcases (by omega : k = 0 \/ k = 1 \/ k = 2) with rfl | rfl | rfl
  ·refine iteB_pos rfl ⟨fun H' => H' = H4, iteB_neg rfl rfl, ?_⟩
   rintro H6 rfl
   unfold F_68_k1
   exact ⟨_, q6, windows_tail T high i S H3 H6 H6 b0 0 (by omega) out (h0.ext (x3.trans x4)) (hl 0) (fun hh => by omega) o4 n4 x4 rfl rfl⟩
  ·refine iteB_neg rfl (iteB_pos rfl ⟨fun H' => H' = H4, iteB_neg rfl rfl, ?_⟩)
   rintro H6 rfl
   unfold F_68_k2
   exact ⟨_, q6, windows_tail T high i S H3 H6 H6 b1 1 (by omega) out (h1.ext (x3.trans x4)) (hl 1) (fun hh => by omega) o4 n4 x4 rfl rfl⟩
  ·refine iteB_neg rfl (iteB_neg rfl (iteB_pos rfl ⟨fun H' => H' = H4 /\ WCond T high i 2, iteB_pos rfl (iteB_intro (fun d1 => ⟨_, q5, iteB_intro (fun d2 => (prefAbove_spec T s i H4 (h.ext (x3.trans x4)) hv hi).mono ?_) (fun d2 => next2 (by omega : 2 < 3) (by omega) (skip 2 (by omega) (fun hw => by have := (hw rfl).2.1; rw [d2] at this; cases this) ⟨o4, n4, x4⟩))⟩) (fun d1 => next2 (by omega : 2 < 3) (by omega) (skip 2 (by omega) (fun hw => by have := (hw rfl).1; rw [d1] at this; cases this) ⟨o4, n4, x4⟩))), ?_⟩))
   ·rintro v H5 ⟨rfl, rfl⟩
    exact ⟨_, rfl, iteB_not (fun d3 => next2 (by omega : 2 < 3) (by omega) (skip 2 (by omega) (fun hw => by have := (hw rfl).2.2; rw [d3] at this; cases this) ⟨o4, n4, x4⟩)) (fun d3 => ⟨rfl, fun _ => ⟨d1, d2, d3⟩⟩)⟩
   ·rintro H6 ⟨rfl, hw⟩
    unfold F_68_k3
    exact ⟨_, q6, windows_tail T high i S H3 H6 H6 b2 2 (by omega) out (h2.ext (x3.trans x4)) (hl 2) hw o4 n4 x4 rfl rfl⟩
 ·obtain rfl : k = 3 := by omega
  refine ⟨out, rfl, ?_, ?_, x3.trans x4⟩
  ·unfold winAll; rw [if_pos c]; exact own_lo o4 x3.size
  ·unfold winAll; rw [if_pos c]; exact n4

end Go.Proofs.YtnhhncjflnlfaaaGreat
end

section
/-
 Needs: the tables in memory; one need is counted.
-/
namespace Go.Proofs.YtnhhncjflnlfaaaGreat
open Go.Eng

abbrev slV (s : Sl) : Value := .slice s.p s.n s.c

def largestF (c : Int) : Int := if c = 0 then 15 else if c = 1 then 31 else 44
theorem largest_spec (c : Int) (H : Heap) : CallsH Tryz.prog n_69 #[.int .i64 c] H (fun v H' => v = .int .i64 (largestF c) /\ H' = H) := by
 refine F_69_ok _ ?_
 unfold F_69
 refine iteB_beq (fun h => ⟨by unfold largestF; rw [if_pos h], rfl⟩) (fun h => iteB_beq (fun h1 => ⟨by unfold largestF; rw [if_neg h, if_pos h1], rfl⟩) (fun h1 => ⟨by unfold largestF; rw [if_neg h, if_neg h1], rfl⟩))

structure NM (H0 : Heap) (n ob bb K : Nat) (H : Heap) (O B : Nat -> Sl) (S : Nat -> List Int) (m : Nat) (N : Nat -> List Need) : Prop where
 ext : Ext H0 H
 ov : VB H ob t_53 n (fun j => slV (O j))
 bv : VB H bb t_126 (3 * n) (fun q => slV (B q))
 bo : ∀ q, q < 3 * n -> Own H0.size t_3 1 H (B q) ((S q).flatMap (encI .i64)) /\ (B q).n = (S q).length /\ (S q).length <= K
 ap : ∀ q q', q < 3 * n -> q' < 3 * n -> q ≠ q' -> ∀ a, (B q).p = some a -> a.block ∉ blkOf (B q').p
 on : ∀ j, m <= j -> j < n -> IsS 4 encN H (O j) (N j) /\ TyB H (O j).p t_29
 lo : H0.size <= ob /\ H0.size <= bb /\ ob ≠ bb

theorem NM.bty {H0 H : Heap} {n ob bb K m : Nat} {O B : Nat -> Sl} {S : Nat -> List Int} {N : Nat -> List Need} (h : NM H0 n ob bb K H O B S m N) : TyB H (some ⟨bb, 0, none⟩) t_126 := fun a ha => by
 cases ha
 obtain ⟨x, hx⟩ := h.bv
 exact ⟨_, _, hx⟩
theorem NM.oty {H0 H : Heap} {n ob bb K m : Nat} {O B : Nat -> Sl} {S : Nat -> List Int} {N : Nat -> List Need} (h : NM H0 n ob bb K H O B S m N) : TyB H (some ⟨ob, 0, none⟩) t_53 := fun a ha => by
 cases ha
 obtain ⟨x, hx⟩ := h.ov
 exact ⟨_, _, hx⟩

theorem NM.ext' {H0 H H' : Heap} {n ob bb K m : Nat} {O B : Nat -> Sl} {S : Nat -> List Int} {N : Nat -> List Need} (h : NM H0 n ob bb K H O B S m N) (e : Ext H H') : NM H0 n ob bb K H' O B S m N :=
 ⟨h.ext.trans e, h.ov.ext e, h.bv.ext e, fun q hq => ⟨(h.bo q hq).1.ext e, (h.bo q hq).2⟩, h.ap, fun j h1 h2 => ⟨(h.on j h1 h2).1.ext e, (h.on j h1 h2).2.mods (S := []) e.mods (fun _ _ => by simp)⟩, h.lo⟩

theorem NM.add {H0 H H14 : Heap} {n ob bb K m : Nat} {O B : Nat -> Sl} {S : Nat -> List Int} {N : Nat -> List Need} (h : NM H0 n ob bb K H O B S m N) {q : Nat} (hq : q < 3 * n) {z : Int} {s' : Sl}
  (ho : Own H0.size t_3 1 H14 s' ((S q ++ [z]).flatMap (encI .i64))) (hn : s'.n = (B q).n + 1) (m14 : Mods (blkOf (B q).p) H H14) (hat : ∀ a, s'.p = some a -> a.block ∈ blkOf (B q).p \/ H.size <= a.block) :
  NM H0 n ob bb (K + 1) (wrs H14 ((⟨bb, 0, none⟩ : Addr).add q) [slV s']) O (upd B q s') (upd S q (S q ++ [z])) m N := by
 obtain ⟨oq, nq, lq⟩ := h.bo q hq
 have hty : ∀ (e : TypeId), e ≠ t_3 -> ∀ p, TyB H p e -> ∀ a, p = some a -> a.block ∉ blkOf (B q).p := fun e he p hp a ha => ty_ne hp (own_ty oq) he a ha
 have bb14 : TyB H14 (some ⟨bb, 0, none⟩) t_126 := h.bty.mods m14 (hty _ (by decide) _ h.bty)
 have hb14 : ∀ (e : TypeId), e ≠ t_126 -> ∀ p, TyB H14 p e -> ∀ a, p = some a -> a.block ∉ [bb] := fun e he p hp a ha => by
  have := ty_ne hp bb14 he a ha
  simpa [blkOf] using this
 have mw : Mods [bb] H14 (wrs H14 ((⟨bb, 0, none⟩ : Addr).add q) [slV s']) := mods_wr_add (by simp)
 have hob : ob ∉ blkOf (B q).p := hty _ (by decide) _ h.oty ⟨ob, 0, none⟩ rfl
 have hbb : bb ∉ blkOf (B q).p := hty _ (by decide) _ h.bty ⟨bb, 0, none⟩ rfl
 refine ⟨Mods.ext (Mods.ext h.ext m14 (blkOf_new oq.new)) mw (by have := h.lo; simp; omega), (h.ov.mods m14 hob).mods mw (by have := h.lo; simp; omega), ?_, ?_, ?_, ?_, h.lo⟩
 ·refine ((h.bv.mods m14 hbb).wr hq (slV s')).congr (fun i _ => ?_)
  by_cases e : i = q
  ·subst e; rw [upd_same, upd_same]
  ·rw [upd_ne e, upd_ne e]
 ·intro q' hq'
  by_cases e : q' = q
  ·subst e
   rw [upd_same, upd_same]
   exact ⟨ho.mods mw (hb14 _ (by decide) _ (own_ty ho)), by simp; omega, by simp; omega⟩
  ·rw [upd_ne e, upd_ne e]
   obtain ⟨o', n', l'⟩ := h.bo q' hq'
   have o14 := o'.mods m14 (h.ap q' q hq' hq e)
   exact ⟨o14.mods mw (hb14 _ (by decide) _ (own_ty o14)), n', by omega⟩
 ·intro q1 q2 h1 h2 hne a ha
  by_cases e1 : q1 = q
  ·subst e1
   rw [upd_same] at ha
   rw [upd_ne (Ne.symm hne)]
   rcases hat a ha with hin | hge
   ·cases hp : (B q1).p with
    | none => rw [hp] at hin; simp [blkOf] at hin
    | some b =>
     rw [hp] at hin
     simp only [blkOf, List.mem_singleton] at hin
     rw [hin]
     exact h.ap q1 q2 h1 h2 hne b hp
   ·cases hp : (B q2).p with
    | none => simp [blkOf]
    | some b =>
     have := (h.bo q2 h2).1.lt b hp
     simp only [blkOf, List.mem_singleton]
     omega
  ·rw [upd_ne e1] at ha
   by_cases e2 : q2 = q
   ·subst e2
    rw [upd_same]
    cases hp : s'.p with
    | none => simp [blkOf]
    | some b =>
     simp only [blkOf, List.mem_singleton]
     rcases hat b hp with hin | hge
     ·intro hab
      rw [<- hab] at hin
      exact h.ap q1 q2 h1 h2 hne a ha hin
     ·have := (h.bo q1 h1).1.lt a ha
      omega
   ·rw [upd_ne e2]
    exact h.ap q1 q2 h1 h2 hne a ha
 ·intro j h1 h2
  obtain ⟨u1, u2⟩ := h.on j h1 h2
  have a14 := u2.mods m14 (hty _ (by decide) _ u2)
  exact ⟨(u1.mods m14 (hty _ (by decide) _ u2)).mods mw (hb14 _ (by decide) _ a14), a14.mods mw (hb14 _ (by decide) _ a14)⟩

end Go.Proofs.YtnhhncjflnlfaaaGreat
end

section
/-
 Needs: the needs of one function are counted.
-/
namespace Go.Proofs.YtnhhncjflnlfaaaGreat
open Go.Eng

def addN (par : Int) (S : Nat -> List Int) (x : Need) : Nat -> List Int := if 0 <= par then upd S (par.toNat * 3 + x.2.2.1.toNat) (S (par.toNat * 3 + x.2.2.1.toNat) ++ [x.2.2.2]) else S
def addAll (par : Int) (S : Nat -> List Int) (L : List Need) : Nat -> List Int := L.foldl (addN par) S
def Over (L : List Need) : Prop := ∃ x ∈ L, x.2.2.2 > largestF x.2.2.1

theorem takeN_succ {L : List Need} {k : Nat} (h : k < L.length) : L.take (k + 1) = L.take k ++ [L.getD k (0, 0, 0, 0)] := by
 rw [List.take_add_one]
 simp [List.getD, h]

theorem needs_inner {R : Value -> Heap -> Prop} {T : List FS} {s : Sl} {H0 H4 H8 : Heap} {n ob : Nat} {H2 : Heap} {K i : Nat} {O B : Nat -> Sl} {S : Nat -> List Int} {N : Nat -> List Need} {I : Int -> Heap -> Prop} {M : Int -> Heap -> Nat}
  (hT : Topo H0 s T) (hv : ValidT T) (hi : i < T.length) (hn : n = T.length) (hK : K + (N i).length <= 100000) (h8 : NM H0 n ob H2.size K H8 O B S i N) (hcl : ∀ x ∈ N i, 0 <= x.2.2.1 /\ x.2.2.1 < 3)
  (hOver : ∀ H', Ext H0 H' -> Over (N i) -> R (.tuple #[.slice none 0 0, .int .i64 11]) H')
  (hDone : ∀ H' B', NM H0 n ob H2.size (K + (N i).length) H' O B' (addAll (fnAt T i).parent S (N i)) i N -> ¬ Over (N i) -> I (IntKind.i64.wrap ((i : Int) - 1)) H' /\ M (IntKind.i64.wrap ((i : Int) - 1)) H' < M i H4) :
  ∃ I_1 : Int -> Heap -> Prop, ∃ M_1 : Int -> Heap -> Nat, I_1 (0 : Int) H8 /\ (∀ x8 : Int, ∀ H9 : Heap, I_1 x8 H9 -> F_27_r1 R s H2 I M i H4 (O i) I_1 M_1 x8 H9) := by
 have hsn := hT.len
 have hOl := (h8.on i (Nat.le_refl _) (by omega)).1.len
 refine loop1 (N i).length (fun k H' => ∃ B', NM H0 n ob H2.size (K + k) H' O B' (addAll (fnAt T i).parent S ((N i).take k)) i N /\ ∀ x ∈ (N i).take k, x.2.2.2 <= largestF x.2.2.1) ⟨B, h8, fun x hx => by simp at hx⟩ ?_
 rintro k H9 hk ⟨B', h9, hle⟩
 unfold F_27_r1
 refine iteB_d (fun c => ?_) (fun c => ?_)
 ·have hkn : k < (N i).length := by omega
  obtain ⟨is9, ty9⟩ := h9.on i (Nat.le_refl _) (by omega)
  obtain ⟨a, hp, hr⟩ := IsS.atN is9 (0, 0, 0, 0) hkn
  have hmem : (N i).getD k (0, 0, 0, 0) ∈ N i := by simp [List.getD, hkn]
  have htk := takeN_succ hkn
  generalize (N i).getD k (0, 0, 0, 0) = x at *
  obtain ⟨x0, x1, x2, x3⟩ := x
  have hc := hcl _ hmem
  dsimp only at hc
  refine ⟨by omega, by omega, unSome_mk hp ⟨_, hr 0 _ rfl, _, hr 1 _ rfl, _, hr 2 _ rfl, _, hr 3 _ rfl, local_mk (vs := [.int .i64 x0, .int .i64 x1, .int .i64 x2, .int .i64 x3]) rfl rfl fun H11 e11 z11 b11 => ⟨_, b11.rd (i := 3) rfl, _, b11.rd (i := 2) rfl, (largest_spec x2 H11).mono ?_⟩⟩⟩
  rintro v H12 ⟨rfl, rfl⟩
  have h12 := h9.ext' e11
  refine ⟨_, rfl, .refl _ _, iteB_d (fun c1 => hOver _ h12.ext ⟨_, hmem, c1⟩) (fun c1 => ?_)⟩
  have hle' : ∀ y ∈ (N i).take (k + 1), y.2.2.2 <= largestF y.2.2.1 := by
   intro y hy
   rw [htk] at hy
   simp only [List.mem_append, List.mem_singleton] at hy
   rcases hy with hy | rfl
   ·exact hle y hy
   ·show x3 <= largestF x2; omega
  obtain ⟨a1, hp1, hr1⟩ := (hT.ext h12.ext).at hi
  have hpa := (hv.2 i hi).pa
  have hadd : addAll (fnAt T i).parent S ((N i).take (k + 1)) = addN (fnAt T i).parent (addAll (fnAt T i).parent S ((N i).take k)) (x0, x1, x2, x3) := by
   rw [htk]; unfold addAll; rw [List.foldl_append]; rfl
  refine ⟨by omega, by omega, unSome_mk hp1 ⟨_, (rdFn hr1).1, iteB_d (fun c2 => ?_) (fun c2 => next1 hkn (by omega) ⟨B', ?_, hle'⟩)⟩⟩
  rotate_left
  ·rw [hadd]; unfold addN; rw [if_neg c2]
   exact ⟨h12.ext, h12.ov, h12.bv, fun q hq => ⟨(h12.bo q hq).1, (h12.bo q hq).2.1, by have := (h12.bo q hq).2.2; omega⟩, h12.ap, h12.on, h12.lo⟩
  generalize hpar : (fnAt T i).parent = par at *
  have hpt : (par.toNat : Int) = par := by omega
  have hct : (x2.toNat : Int) = x2 := by omega
  have hq : par.toNat * 3 + x2.toNat < 3 * n := by omega
  obtain ⟨oq, nq, lq⟩ := h12.bo _ hq
  have hrdq := h12.bv.rd hq
  refine ⟨_, b11.rd (i := 2) rfl, _, b11.rd (i := 2) rfl, by omega, by omega, by omega, by omega, B' (par.toNat * 3 + x2.toNat), by rw [add_add, Nat.mul_one]; exact hrdq, _, b11.rd (i := 3) rfl, by omega, by omega, push_mk (vs := encI .i64 x3) fun H13 e13 z13 b13 => ⟨e13.keeps, ?_⟩⟩
  have h13 := h12.ext' e13
  obtain ⟨oq13, _, _⟩ := h13.bo _ hq
  have hsrc : Ints .i64 H13 ⟨some ⟨H12.size, 0, none⟩, 1, 1⟩ [x3] := Ints.of_blk b13 rfl
  refine append_at (src := ⟨some ⟨H12.size, 0, none⟩, 1, 1⟩) (ys := [x3]) (enc := encI .i64) (l := addAll par S ((N i).take k) (par.toNat * 3 + x2.toNat)) (z := .int .i64 0) (sz := 1) (bytes := 8) (lo := H0.size) (by kernel_rfl) (by kernel_rfl) rfl (by omega) (ints_row _) (ints_one _) oq13 hsrc (by simp) (by simp [maxLen]; omega) (by simp; omega) h13.ext.size ?_
  intro s' H14 ho hn14 m14 hat
  have tyl : TyB H13 (some ⟨H9.size, 0, none⟩) t_29 := fun a ha => by cases ha; exact ⟨_, _, b11.ext e13⟩
  have nl := ty_ne tyl (own_ty oq13) (by decide) ⟨H9.size, 0, none⟩ rfl
  have hbb : H2.size ∉ blkOf (B' (par.toNat * 3 + x2.toNat)).p := ty_ne h13.bty (own_ty oq13) (by decide) ⟨H2.size, 0, none⟩ rfl
  have bv14 := h13.bv.mods m14 hbb
  refine ⟨s', rfl, m14.keeps (by simpa [add_block] using nl), by omega, by omega, ?_, letH_mk ?_⟩
  ·rw [add_add, Nat.mul_one]; exact bv14.ok (by omega)
  ·rw [add_add, Nat.mul_one]
   rintro H15 rfl
   have := h13.add hq ho (by simpa using hn14) m14 (fun a ha => (hat a ha).elim .inl (fun e => .inr (by omega)))
   refine next1 hkn (by omega) ⟨upd B' (par.toNat * 3 + x2.toNat) s', ?_, hle'⟩
   rw [hadd]; unfold addN; rw [if_pos c2]
   exact this
 ·have hkl : k = (N i).length := by omega
  subst hkl
  rw [List.take_length] at h9 hle
  exact letV_mk _ rfl (hDone H9 B' h9 (fun ⟨x, hx, hgt⟩ => by have := hle x hx; omega))

end Go.Proofs.YtnhhncjflnlfaaaGreat
end

section
/-
 The contract of Needs.
-/
namespace Go.Proofs.YtnhhncjflnlfaaaGreat
open Go.Eng

def ownL (T : List FS) (high : Bool) (i : Nat) (S : Nat -> List Int) : List Need := regL T high i (fnAt T i).bars (fnAt T i).bars.length ++ winAll T high i (fun c => if c < 3 then S (i * 3 + c) else [])
def nB (T : List FS) (high : Bool) : Nat -> (Nat -> List Need) × (Nat -> List Int)
 | 0 => (fun _ => [], fun _ => [])
 | k + 1 => (upd (nB T high k).1 (T.length - 1 - k) (ownL T high (T.length - 1 - k) (nB T high k).2), addAll (fnAt T (T.length - 1 - k)).parent (nB T high k).2 (ownL T high (T.length - 1 - k) (nB T high k).2))

theorem regL_cl (T : List FS) (high : Bool) (i : Nat) (B : List Bar) : ∀ n, ∀ x ∈ regL T high i B n, 0 <= x.2.2.1 /\ x.2.2.1 < 3
 | 0, x, h => by simp [regL] at h
 | n + 1, x, h => by
  simp only [regL, List.mem_append] at h
  rcases h with h | h
  ·exact regL_cl T high i B n x h
  ·split at h
   ·simp at h
   ·simp at h
    subst h
    show 0 <= classF T high i (bk B n) /\ classF T high i (bk B n) < 3
    unfold classF
    split
    ·omega
    ·split <;> omega
theorem winN_cl (T : List FS) (high : Bool) (i : Nat) (S : Nat -> List Int) : ∀ n, n <= 3 -> ∀ x ∈ winN T high i S n, 0 <= x.2.2.1 /\ x.2.2.1 < 3
 | 0, _, x, h => by simp [winN] at h
 | n + 1, hn, x, h => by
  simp only [winN, List.mem_append] at h
  rcases h with h | h
  ·exact winN_cl T high i S n (by omega) x h
  ·split at h
   ·simp at h
    subst h
    show 0 <= (n : Int) /\ (n : Int) < 3
    omega
   ·simp at h
theorem ownL_cl (T : List FS) (high : Bool) (i : Nat) (S : Nat -> List Int) : ∀ x ∈ ownL T high i S, 0 <= x.2.2.1 /\ x.2.2.1 < 3 := by
 intro x hx
 simp only [ownL, List.mem_append] at hx
 rcases hx with hx | hx
 ·exact regL_cl _ _ _ _ _ x hx
 ·unfold winAll at hx
  split at hx
  ·exact winN_cl _ _ _ _ 3 (by omega) x hx
  ·simp at hx
theorem ownL_len {T : List FS} (hv : ValidT T) (high : Bool) {i : Nat} (hi : i < T.length) (S : Nat -> List Int) : (ownL T high i S).length <= 9 := by
 have h1 := regL_len T high i (fnAt T i).bars (fnAt T i).bars.length
 have h2 := (hv.2 i hi).va.bl
 have h3 : regs (fnAt T i).bridge <= 6 := by unfold regs; split <;> omega
 have h4 : (winAll T high i (fun c => if c < 3 then S (i * 3 + c) else [])).length <= 3 := by
  unfold winAll
  split
  ·exact winN_len _ _ _ _ 3
  ·simp
 simp only [ownL, List.length_append]
 omega

def needsAt (T : List FS) (high : Bool) (i : Nat) : List Need := (nB T high T.length).1 i
def needsAll (T : List FS) (high : Bool) : List Need := (List.range T.length).flatMap (needsAt T high)
def Ovf (T : List FS) (high : Bool) : Prop := ∃ i, i < T.length /\ Over (needsAt T high i)

theorem nB_keep (T : List FS) (high : Bool) : ∀ d k i, T.length - k <= i -> (nB T high (k + d)).1 i = (nB T high k).1 i \/ T.length <= k
 | 0, k, i, _ => .inl rfl
 | d + 1, k, i, h => by
  by_cases hk : T.length <= k
  ·exact .inr hk
  ·left
   rcases nB_keep T high d k i h with e | e
   ·show upd (nB T high (k + d)).1 (T.length - 1 - (k + d)) _ i = _
    rw [upd_ne (by omega), e]
   ·omega

theorem needsAt_eq {T : List FS} {high : Bool} {k i : Nat} (hk : k <= T.length) (hi : T.length - k <= i) : (nB T high k).1 i = needsAt T high i := by
 have := nB_keep T high (T.length - k) k i hi
 rw [show k + (T.length - k) = T.length by omega] at this
 rcases this with e | e
 ·exact e.symm
 ·have : k = T.length := by omega
  subst this; rfl

inductive NeedsR (T : List FS) (high : Bool) (H : Heap) : Value -> Heap -> Prop
 | bad {H' : Heap} (hv : ¬ ValidT T) (he : Ext H H') : NeedsR T high H (.tuple #[.slice none 0 0, .int .i64 1]) H'
 | over {H' : Heap} (hv : ValidT T) (ho : Ovf T high) (he : Ext H H') : NeedsR T high H (.tuple #[.slice none 0 0, .int .i64 11]) H'
 | good {H' : Heap} (out : Sl) (hv : ValidT T) (ho : ¬ Ovf T high) (hs : Own H.size t_29 4 H' out ((needsAll T high).flatMap encN)) (hn : out.n = (needsAll T high).length) (he : Ext H H') : NeedsR T high H (.tuple #[.slice out.p out.n out.c, .int .i64 0]) H'

abbrev NI (T : List FS) (high : Bool) (H0 : Heap) (ob bb : Nat) (k : Nat) (H : Heap) : Prop := ∃ O B, NM H0 T.length ob bb (9 * k) H O B (nB T high k).2 (T.length - k) (nB T high k).1 /\ ∀ j, T.length - k <= j -> j < T.length -> ¬ Over ((nB T high k).1 j)

theorem NM.store {H0 H : Heap} {n ob bb K m : Nat} {O B : Nat -> Sl} {S : Nat -> List Int} {N : Nat -> List Need} (h : NM H0 n ob bb K H O B S m N) {i : Nat} (hi : i < n) (him : i + 1 = m) {x : Sl} {L : List Need} (hx : IsS 4 encN H x L) (tx : TyB H x.p t_29) :
  NM H0 n ob bb K (wrs H ((⟨ob, 0, none⟩ : Addr).add i) [slV x]) (upd O i x) B S i (upd N i L) := by
 have mw : Mods [ob] H (wrs H ((⟨ob, 0, none⟩ : Addr).add i) [slV x]) := mods_wr_add (by simp)
 have hty : ∀ (e : TypeId), e ≠ t_53 -> ∀ p, TyB H p e -> ∀ a, p = some a -> a.block ∉ [ob] := fun e he p hp a ha => by
  have := ty_ne hp h.oty he a ha
  simpa [blkOf] using this
 refine ⟨Mods.ext h.ext mw (by have := h.lo; simp; omega), ?_, h.bv.mods mw (by have := h.lo; simp; omega), fun q hq => ⟨(h.bo q hq).1.mods mw (hty _ (by decide) _ (own_ty (h.bo q hq).1)), (h.bo q hq).2⟩, h.ap, ?_, h.lo⟩
 ·refine (h.ov.wr hi (slV x)).congr (fun j _ => ?_)
  by_cases e : j = i
  ·subst e; rw [upd_same, upd_same]
  ·rw [upd_ne e, upd_ne e]
 ·intro j h1 h2
  by_cases e : j = i
  ·subst e
   rw [upd_same, upd_same]
   exact ⟨hx.mods mw (hty _ (by decide) _ tx), tx.mods mw (hty _ (by decide) _ tx)⟩
  ·rw [upd_ne e, upd_ne e]
   obtain ⟨u1, u2⟩ := h.on j (by omega) h2
   exact ⟨u1.mods mw (hty _ (by decide) _ u2), u2.mods mw (hty _ (by decide) _ u2)⟩

theorem needs_round {T : List FS} {s : Sl} {high : Bool} {H0 H1 H2 H4 : Heap} {k : Nat} {I : Int -> Heap -> Prop} {M : Int -> Heap -> Nat} (hT : Topo H0 s T) (hv : ValidT T) (hk : k < T.length) (h4 : NI T high H0 H1.size H2.size k H4)
  (hI : I = fun i H' => ∃ k : Nat, i = (T.length : Int) - 1 - k /\ k <= T.length /\ NI T high H0 H1.size H2.size k H') (hM : M = fun i _ => (i + 1).toNat) :
  F_27_r3 (NeedsR T high H0) s high H1 H2 I M ((T.length - 1 - k : Nat) : Int) H4 := by
 unfold F_27_r3
 obtain ⟨O, B, hM4, hov⟩ := h4
 have hsn := hT.len
 have hl64 := hv.1
 generalize hi : T.length - 1 - k = i at *
 have hiT : i < T.length := by omega
 have x4 := hM4.ext
 have q0 : i * 3 + 0 < 3 * T.length := by omega
 have q1 : i * 3 + 1 < 3 * T.length := by omega
 have q2 : i * 3 + 2 < 3 * T.length := by omega
 refine iteB_pos (by simp) ⟨by omega, by omega, B (i * 3), hM4.bv.rd (i := i * 3) (by omega), B (i * 3 + 1), by rw [add_add, Int.toNat_natCast]; exact hM4.bv.rd q1, B (i * 3 + 2), by rw [add_add, Int.toNat_natCast]; exact hM4.bv.rd q2, (registers_spec' T s high i H4 (hT.ext x4) hv hiT).mono ?_⟩
 rintro v H5 ⟨r, rfl, or5, nr5, e5⟩
 have int5 : ∀ q, q < 3 * T.length -> Ints .i64 H5 (B q) ((nB T high k).2 q) := fun q hq => ((hM4.bo q hq).1.ext e5).isS (ints_row _) (by omega)
 have hbo : ∀ q, q < 3 * T.length -> ((nB T high k).2 q).length <= 9 * k := fun q hq => (hM4.bo q hq).2.2
 refine ⟨r, rfl, e5.keeps, (windows_spec T s high i H5 (hT.ext (x4.trans e5)) hv hiT (B (i * 3)) (B (i * 3 + 1)) (B (i * 3 + 2)) (fun c => if c < 3 then (nB T high k).2 (i * 3 + c) else []) (int5 _ q0) (int5 _ q1) (int5 _ q2) (fun c => ?_)).mono ?_⟩
 ·split
  ·rename_i hc
   have := hbo (i * 3 + c) (by omega)
   omega
  ·simp
 rintro v H6 ⟨w, rfl, ow6, nw6, e6⟩
 have hL : ownL T high i (nB T high k).2 = regL T high i (fnAt T i).bars (fnAt T i).bars.length ++ winAll T high i (fun c => if c < 3 then (nB T high k).2 (i * 3 + c) else []) := rfl
 have hLl := ownL_len hv high hiT (nB T high k).2
 have hrl : (regL T high i (fnAt T i).bars (fnAt T i).bars.length).length <= 9 := by rw [hL] at hLl; simp at hLl; omega
 have hwl : (regL T high i (fnAt T i).bars (fnAt T i).bars.length).length + (winAll T high i (fun c => if c < 3 then (nB T high k).2 (i * 3 + c) else [])).length <= 9 := by rw [hL] at hLl; simpa using hLl
 have fin : ∀ (x6 : Sl) (H7 : Heap), Own H4.size t_29 4 H7 x6 ((ownL T high i (nB T high k).2).flatMap encN) -> Ext H4 H7 ->
   (0 <= (i : Int) /\ (i : Int) < ((s.n : Int).toNat : Int) /\ (okRow H7 ((⟨H1.size, 0, none⟩ : Addr).add ((i : Int).toNat * 1)) 1 /\ (
   letH (wrs H7 ((⟨H1.size, 0, none⟩ : Addr).add ((i : Int).toNat * 1)) [.slice x6.p x6.n x6.c]) (fun H8 : Heap =>
   0 <= (i : Int) /\ (i : Int) < ((s.n : Int).toNat : Int) /\ (∃ x7 : Sl, rd H8 ((⟨H1.size, 0, none⟩ : Addr).add ((i : Int).toNat * 1)) = some (.slice x7.p x7.n x7.c) /\ (
   ∃ I_1 : Int -> Heap -> Prop, ∃ M_1 : Int -> Heap -> Nat, I_1 (0 : Int) H8 /\ (∀ x8 : Int, ∀ H9 : Heap, I_1 x8 H9 -> F_27_r1 (NeedsR T high H0) s H2 I M (i : Int) H4 x7 I_1 M_1 x8 H9))))))) := by
  intro x6 H7 o6 e7
  have h7 := hM4.ext' e7
  have his : IsS 4 encN H7 x6 (ownL T high i (nB T high k).2) := o6.isS encN_len (by omega)
  refine ⟨by omega, by omega, by rw [Int.toNat_natCast, Nat.mul_one]; exact h7.ov.ok (by omega), letH_mk ?_⟩
  rw [Int.toNat_natCast, Nat.mul_one]
  rintro H8 rfl
  have h8 := h7.store hiT (by omega) his (own_ty o6)
  refine ⟨by omega, by omega, upd O i x6 i, h8.ov.rd hiT, ?_⟩
  have hN : upd (nB T high k).1 i (ownL T high i (nB T high k).2) i = ownL T high i (nB T high k).2 := upd_same
  have hnB : nB T high (k + 1) = (upd (nB T high k).1 i (ownL T high i (nB T high k).2), addAll (fnAt T i).parent (nB T high k).2 (ownL T high i (nB T high k).2)) := by rw [<- hi]; rfl
  refine needs_inner hT hv hiT rfl (by rw [hN]; omega) h8 (by rw [hN]; exact ownL_cl _ _ _ _) ?_ ?_
  ·intro H' e' ho
   rw [hN] at ho
   refine .over hv ⟨i, hiT, ?_⟩ e'
   rw [<- needsAt_eq (k := k + 1) (by omega) (by omega), hnB]
   show Over (upd _ i _ i)
   rw [hN]; exact ho
  ·intro H' B' h' hno
   rw [hN] at h' hno
   subst hI hM
   have hik : T.length - (k + 1) = i := by omega
   refine ⟨⟨k + 1, by rw [i64_in (by omega)]; omega, by omega, upd O i x6, B', ?_, ?_⟩, ?_⟩
   ·rw [hnB, hik]
    exact ⟨h'.ext, h'.ov, h'.bv, fun q hq => ⟨(h'.bo q hq).1, (h'.bo q hq).2.1, Nat.le_trans (h'.bo q hq).2.2 (by omega)⟩, h'.ap, h'.on, h'.lo⟩
   ·intro j h1 h2
    rw [hnB]
    show ¬ Over (upd _ i _ j)
    by_cases e : j = i
    ·subst e; rw [hN]; exact hno
    ·rw [upd_ne e]; exact hov j (by omega) h2
   ·dsimp only
    rw [i64_in (by omega)]
    omega
 refine ⟨w, rfl, ?_⟩
 have e46 := e5.trans e6
 have or6 := or5.ext e6
 have nbr := blkOf_new or5.new
 cases hwp : w.p with
 | none =>
  have hw0 : winAll T high i (fun c => if c < 3 then (nB T high k).2 (i * 3 + c) else []) = [] := by
   have := ow6.isS encN_len (by omega) |>.row
   rcases this with e | ⟨a, ha, _⟩
   ·exact e
   ·rw [hwp] at ha; cases ha
  have hwn : w.n = 0 := by rw [nw6, hw0]; rfl
  rw [hwn]
  refine append_none (e := t_29) (sz := 4) (by kernel_rfl) (by kernel_rfl) ?_ ⟨r, rfl, fin r H6 ?_ e46⟩
  ·rcases or6.cases.2 with ⟨e, _⟩ | ⟨_, _, _, _, _, hc, _⟩
   ·rw [e]; simp
   ·exact hc
  ·rw [hL, hw0, List.append_nil]; exact or6
 | some ad =>
  rw [<- hwp]
  refine append_at (enc := encN) (z := .agg #[.int .i64 0, .int .i64 0, .int .i64 0, .int .i64 0]) (sz := 4) (bytes := 32) (lo := H4.size) (by kernel_rfl) (by kernel_rfl) rfl (by omega) encN_len encN_one or6 (ow6.isS encN_len (by omega)) (by rw [hwp]; simp) (by simp [maxLen]; omega) (by omega) e46.size ?_
  intro s' H7 ho hn7 m7 _
  exact ⟨s', rfl, fin s' H7 (by rw [hL]; exact ho) (Mods.ext e46 m7 nbr)⟩

end Go.Proofs.YtnhhncjflnlfaaaGreat
end

section
/-
 The contract of Needs, whole.
-/
namespace Go.Proofs.YtnhhncjflnlfaaaGreat
open Go.Eng

theorem range_flat_succ {α : Type} (f : Nat -> List α) (k : Nat) : (List.range (k + 1)).flatMap f = (List.range k).flatMap f ++ f k := by
 rw [List.range_succ, List.flatMap_append]
 simp

theorem needs_last {T : List FS} {s : Sl} {high : Bool} {H0 H1 H4 : Heap} {bb : Nat} (hT : Topo H0 s T) (hv : ValidT T) (h4 : NI T high H0 H1.size bb T.length H4) :
  ∃ I_2 : Sl -> Int -> Heap -> Prop, ∃ M_2 : Sl -> Int -> Heap -> Nat, I_2 (Sl.mk none 0 0) (0 : Int) H4 /\ (∀ needs : Sl, ∀ x21 : Int, ∀ H16 : Heap, I_2 needs x21 H16 -> F_27_r2 (NeedsR T high H0) s H1 I_2 M_2 needs x21 H16) := by
 obtain ⟨O, B, hM4, hov⟩ := h4
 have hsn := hT.len
 have hl64 := hv.1
 have hnA : ∀ j, j < T.length -> (nB T high T.length).1 j = needsAt T high j := fun j _ => rfl
 have hlen9 : ∀ j, j < T.length -> (needsAt T high j).length <= 9 := fun j hj => by
  rw [<- needsAt_eq (k := T.length - j) (by omega) (by omega)]
  obtain ⟨m, hm⟩ : ∃ m, T.length - j = m + 1 := ⟨T.length - j - 1, by omega⟩
  rw [hm]
  have : T.length - 1 - m = j := by omega
  show List.length (upd (nB T high m).1 (T.length - 1 - m) (ownL T high (T.length - 1 - m) (nB T high m).2) j) <= 9
  rw [this, upd_same]
  exact ownL_len hv high hj _
 refine loop2 T.length (fun k out H' => Own H4.size t_29 4 H' out (((List.range k).flatMap (needsAt T high)).flatMap encN) /\ out.n = ((List.range k).flatMap (needsAt T high)).length /\ ((List.range k).flatMap (needsAt T high)).length <= 9 * k /\ Ext H4 H') ⟨Own.nil _ _ _ _, rfl, by simp, .refl _⟩ ?_
 rintro k out H16 hk ⟨o, no, lo, e16⟩
 unfold F_27_r2
 have h16 := hM4.ext' e16
 refine iteB_d (fun c => ?_) (fun c => ?_)
 ·have hkn : k < T.length := by omega
  obtain ⟨isk, tyk⟩ := h16.on k (by omega) hkn
  rw [hnA k hkn] at isk
  have h9 := hlen9 k hkn
  refine ⟨by omega, by omega, O k, by rw [Int.toNat_natCast, Nat.mul_one]; exact h16.ov.rd hkn, ?_⟩
  have hstep : ∀ (s' : Sl) (H' : Heap), Own H4.size t_29 4 H' s' (((List.range k).flatMap (needsAt T high) ++ needsAt T high k).flatMap encN) -> s'.n = out.n + (needsAt T high k).length -> Ext H4 H' ->
    CI2 T.length (fun k out H' => Own H4.size t_29 4 H' out (((List.range k).flatMap (needsAt T high)).flatMap encN) /\ out.n = ((List.range k).flatMap (needsAt T high)).length /\ ((List.range k).flatMap (needsAt T high)).length <= 9 * k /\ Ext H4 H') s' (IntKind.i64.wrap ((k : Int) + 1)) H' /\ CM2 T.length s' (IntKind.i64.wrap ((k : Int) + 1)) H' < CM2 T.length out (k : Int) H16 := by
   intro s' H' ho hn he
   refine next2 hkn (by omega) ⟨?_, ?_, ?_, he⟩
   ·rw [range_flat_succ]; exact ho
   ·rw [range_flat_succ, List.length_append]; omega
   ·rw [range_flat_succ, List.length_append]; omega
  cases hp : (O k).p with
  | none =>
   have h0 : needsAt T high k = [] := by
    rcases isk.row with e | ⟨a, ha, _⟩
    ·exact e
    ·rw [hp] at ha; cases ha
   have hn0 : (O k).n = 0 := by rw [isk.len, h0]; rfl
   rw [hn0]
   refine append_none (e := t_29) (sz := 4) (by kernel_rfl) (by kernel_rfl) ?_ ⟨out, rfl, hstep out H16 ?_ ?_ e16⟩
   ·rcases o.cases.2 with ⟨e, _⟩ | ⟨_, _, _, _, _, hc, _⟩
    ·rw [e]; simp
    ·exact hc
   ·rw [h0, List.append_nil]; exact o
   ·rw [h0]; rfl
  | some ad =>
   rw [<- hp]
   refine append_at (enc := encN) (z := .agg #[.int .i64 0, .int .i64 0, .int .i64 0, .int .i64 0]) (sz := 4) (bytes := 32) (lo := H4.size) (by kernel_rfl) (by kernel_rfl) rfl (by omega) encN_len encN_one o isk (by rw [hp]; simp) (by simp [maxLen]; omega) (by omega) e16.size ?_
   intro s' H17 ho hn17 m17 _
   exact ⟨s', rfl, hstep s' H17 ho hn17 (Mods.ext e16 m17 (blkOf_new o.new))⟩
 ·obtain rfl : k = T.length := by omega
  refine .good out hv ?_ (own_lo o hM4.ext.size) no (hM4.ext.trans e16)
  rintro ⟨j, hj, ho⟩
  exact hov j (by omega) hj ho

theorem zero_vb {H : Heap} {e : TypeId} {z v : Value} {n c : Nat} (hc : z.cells.size = c) (hz : ∀ j, j < c -> z.cells[j]! = v) (h0 : 0 < c) : VB (H.push (.cells (zeroRow z n) e (0, 0))) H.size e (n * c) (fun _ => v) := by
 have : zeroRow z n = (tab (n * c) (fun _ => v)).toArray := by
  unfold zeroRow tab
  rw [hc]
  apply Array.ext'
  simp only [Array.toList_map, Array.toList_range]
  apply List.map_congr_left
  intro i _
  exact hz _ (Nat.mod_lt _ h0)
 rw [this]
 exact ⟨[], by simpa using Blk.new H e _⟩

theorem Needs_spec (T : List FS) (s : Sl) (high : Bool) (H : Heap) (h : Topo H s T) : CallsH Tryz.prog n_27 #[.slice s.p s.n s.c, .bool high] H (NeedsR T high H) := by
 refine F_27_ok _ _ ?_
 unfold F_27
 refine (eValid_spec T s H h).mono ?_
 rintro v H1 ⟨rfl, e1⟩
 refine ⟨_, rfl, iteB_not (fun c => .bad (by simpa using c) e1) (fun c => ?_)⟩
 have hv : ValidT T := by simpa using c
 have hl64 := hv.1
 have hsn := h.len
 refine ⟨by omega, by omega, by omega, letH_mk ?_⟩
 rw [Int.toNat_natCast]
 intro H2 h2
 have e2 : Ext H1 H2 := by rw [h2]; exact Ext.push _ _
 have z2 : H2.size = H1.size + 1 := by rw [h2]; simp
 have o2 : VB H2 H1.size t_53 (s.n * 1) (fun _ => .slice none 0 0) := by
  rw [h2]
  refine zero_vb (z := .slice none 0 0) (c := 1) rfl (fun j hj => ?_) (by omega)
  obtain rfl : j = 0 := by omega
  rfl
 clear h2
 refine ⟨by omega, by omega, by omega, letH_mk ?_⟩
 intro H3 h3
 have e3 : Ext H2 H3 := by rw [h3]; exact Ext.push _ _
 have b3 : VB H3 H2.size t_126 (s.n * 3) (fun _ => .slice none 0 0) := by
  rw [h3]
  refine zero_vb (z := .agg #[.slice none 0 0, .slice none 0 0, .slice none 0 0]) (c := 3) rfl (fun j hj => ?_) (by omega)
  rcases (by omega : j = 0 \/ j = 1 \/ j = 2) with rfl | rfl | rfl <;> rfl
 clear h3
 have x3 := (e1.trans e2).trans e3
 have hz1 := e1.size
 rw [hsn] at o2 b3
 rw [Nat.mul_one] at o2
 rw [Nat.mul_comm] at b3
 have hNM : NM H T.length H1.size H2.size 0 H3 (fun _ => ⟨none, 0, 0⟩) (fun _ => ⟨none, 0, 0⟩) (nB T high 0).2 T.length (nB T high 0).1 :=
  ⟨x3, o2.ext e3, b3, fun q _ => ⟨Own.nil _ _ _ _, rfl, by simp [nB]⟩, fun _ _ _ _ _ a ha => (by cases ha), fun j h1 h2 => (by omega), by omega⟩
 refine letV_mk ((T.length : Int) - 1) (by rw [hsn, i64_in (by omega)]) ⟨fun i H' => ∃ k : Nat, i = (T.length : Int) - 1 - k /\ k <= T.length /\ NI T high H H1.size H2.size k H', fun i _ => (i + 1).toNat, ⟨0, by simp, by omega, _, _, hNM, fun j h1 h2 => by omega⟩, ?_⟩
 rintro i H4 ⟨k, rfl, hk, h4⟩
 by_cases hkT : k = T.length
 ·subst hkT
  unfold F_27_r3
  exact iteB_neg (by simp; omega) (needs_last h hv h4)
 ·have hkl : k < T.length := by omega
  have he : (T.length : Int) - 1 - k = ((T.length - 1 - k : Nat) : Int) := by omega
  rw [he]
  exact needs_round h hv hkl h4 rfl rfl

end Go.Proofs.YtnhhncjflnlfaaaGreat
end

section
/-
 Plain facts about needs: whose they are, and when they are prefetchable.
-/
namespace Go.Proofs.YtnhhncjflnlfaaaGreat
open Go.Eng

def PrefOk (T : List FS) (high : Bool) (i : Nat) (x : Need) : Prop := x.1 = i /\ (x.2.2.1 = 2 -> high = true /\ aboveF T i = true)

theorem regL_pref (T : List FS) (high : Bool) (i : Nat) (B : List Bar) : ∀ n, ∀ x ∈ regL T high i B n, PrefOk T high i x
 | 0, x, h => by simp [regL] at h
 | n + 1, x, h => by
  simp only [regL, List.mem_append] at h
  rcases h with h | h
  ·exact regL_pref T high i B n x h
  ·split at h
   ·simp at h
   ·simp only [List.mem_singleton] at h
    subst h
    refine ⟨rfl, fun hc => ?_⟩
    have hc' : classF T high i (bk B n) = 2 := hc
    unfold classF at hc'
    split at hc'
    ·omega
    ·split at hc'
     ·rename_i h2; exact ⟨h2.2.1, h2.2.2⟩
     ·omega
theorem winN_pref (T : List FS) (high : Bool) (i : Nat) (S : Nat -> List Int) : ∀ n, ∀ x ∈ winN T high i S n, PrefOk T high i x
 | 0, x, h => by simp [winN] at h
 | n + 1, x, h => by
  simp only [winN, List.mem_append] at h
  rcases h with h | h
  ·exact winN_pref T high i S n x h
  ·split at h
   ·rename_i hw
    simp only [List.mem_singleton] at h
    subst h
    refine ⟨rfl, fun hc => ?_⟩
    have hc' : (n : Int) = 2 := hc
    have := hw.1 (by omega)
    exact ⟨this.1, this.2.2⟩
   ·simp at h
theorem ownL_pref (T : List FS) (high : Bool) (i : Nat) (S : Nat -> List Int) : ∀ x ∈ ownL T high i S, PrefOk T high i x := by
 intro x hx
 simp only [ownL, List.mem_append] at hx
 rcases hx with hx | hx
 ·exact regL_pref _ _ _ _ _ x hx
 ·unfold winAll at hx
  split at hx
  ·exact winN_pref _ _ _ _ 3 x hx
  ·simp at hx
theorem needsAt_own {T : List FS} {high : Bool} {i : Nat} (hi : i < T.length) : ∃ S, needsAt T high i = ownL T high i S := by
 obtain ⟨m, hm⟩ : ∃ m, T.length - i = m + 1 := ⟨T.length - i - 1, by omega⟩
 refine ⟨(nB T high m).2, ?_⟩
 rw [<- needsAt_eq (k := T.length - i) (by omega) (by omega), hm]
 have : T.length - 1 - m = i := by omega
 show upd (nB T high m).1 (T.length - 1 - m) (ownL T high (T.length - 1 - m) (nB T high m).2) i = _
 rw [this, upd_same]
end Go.Proofs.YtnhhncjflnlfaaaGreat
end

section
/-
 ResourcesPrefetchable.
-/
namespace Go.Proofs.YtnhhncjflnlfaaaGreat
open Go.Eng

end Go.Proofs.YtnhhncjflnlfaaaGreat
end

section
/-
 ResourcesEveryRegister.
-/
namespace Go.Proofs.YtnhhncjflnlfaaaGreat
open Go.Eng

theorem range_flat_len {T : List FS} {high : Bool} (hv : ValidT T) : ∀ k, k <= T.length -> ((List.range k).flatMap (needsAt T high)).length <= 9 * k
 | 0, _ => by simp
 | k + 1, hk => by
  have ih := range_flat_len (high := high) hv k (by omega)
  obtain ⟨S, hS⟩ := needsAt_own (T := T) (high := high) (i := k) (by omega)
  have := ownL_len hv high (i := k) (by omega) S
  rw [range_flat_succ, List.length_append, hS]
  omega
theorem out_len {T : List FS} {high : Bool} {e : Int} {L : List Need} (hv : ValidT T) (h : (e = 0 /\ L = needsAll T high) \/ (e = 11 /\ L = [])) : L.length <= 1000 := by
 rcases h with ⟨_, rfl⟩ | ⟨_, rfl⟩
 ·have h1 := range_flat_len (high := high) hv T.length (Nat.le_refl _)
  have h2 := hv.1
  unfold needsAll
  omega
 ·simp

theorem range_add (n d : Nat) (f : Nat -> List Need) : (List.range (n + d)).flatMap f = (List.range n).flatMap f ++ (List.range d).flatMap (fun j => f (n + j)) := by
 rw [List.range_add, List.flatMap_append, List.flatMap_map]

end Go.Proofs.YtnhhncjflnlfaaaGreat
end

section
/-
 The contracts of Class, the program's and the reference's.
-/
namespace Go.Proofs.YtnhhncjflnlfaaaGreat
open Go.Eng

def bkI (B : List Bar) (i : Int) : Int := if 0 <= i then bk B i.toNat else 0
def bzI (B : List Bar) (i : Int) : Int := if 0 <= i then bz B i.toNat else 0
theorem bk_out {B : List Bar} {i : Nat} (h : B.length <= i) : bk B i = 0 /\ bz B i = 0 := by
 unfold bk bz
 simp [List.getD, List.getElem?_eq_none h]

theorem rbar_spec (f : Fn) (s : Sl) (i : Int) (H : Heap) (h : Bars H s f.bars) :
  CallsH Tryz.prog n_87 #[fnV f s, .int .i64 i] H (fun v H' => v = .agg #[.int .i64 (bkI f.bars i), .int .i64 (bzI f.bars i)] /\ Ext H H') := by
 refine F_87_ok _ _ _ _ _ _ _ _ _ _ _ _ ?_
 unfold F_87
 have hn := h.len
 refine push_mk (vs := fnL f s) fun H1 e1 z1 b1 => push_mk (vs := encBar (0, 0)) fun H2 e2 z2 b2 => ?_
 have x2 := e1.trans e2
 have wr : ∀ a b : Int, bkI f.bars i = a -> bzI f.bars i = b -> okRow H2 (⟨H1.size, 0, none⟩ : Addr) 2 /\ (
   letH (wrs H2 (⟨H1.size, 0, none⟩ : Addr) [.int .i64 a, .int .i64 b]) (fun H3 : Heap =>
   ∃ r : Int, rd H3 (⟨H1.size, 0, none⟩ : Addr) = some (.int .i64 r) /\ ∃ r1 : Int, rd H3 ((⟨H1.size, 0, none⟩ : Addr).add 1) = some (.int .i64 r1) /\ (
   (.agg #[.int .i64 r, .int .i64 r1] : Value) = .agg #[.int .i64 (bkI f.bars i), .int .i64 (bzI f.bars i)] /\ Ext H H3))) := by
  intro a b ha hb
  refine ⟨b2.ok0 (by simp [encBar]), letH_mk ?_⟩
  intro H3 h3
  have b3 : Blk H3 H1.size t_101 (encBar (a, b)) := by rw [h3]; exact b2.wr
  have m3 : Mods [H1.size] H2 H3 := by rw [h3]; exact Mods.wrs (by simp)
  refine ⟨a, b3.rd0 rfl, b, b3.rd (i := 1) rfl, by rw [ha, hb], Mods.ext x2 m3 (by simp; omega)⟩
 refine iteB_d (fun c => wr 0 0 (by unfold bkI; rw [if_neg (by omega)]) (by unfold bzI; rw [if_neg (by omega)])) (fun c => ⟨s, (b1.ext e2).rd (i := 10) rfl, iteB_d (fun c1 => wr 0 0 ?_ ?_) (fun c1 => ?_)⟩)
 ·unfold bkI; rw [if_pos (by omega)]; exact (bk_out (by omega)).1
 ·unfold bzI; rw [if_pos (by omega)]; exact (bk_out (by omega)).2
 ·obtain ⟨k, rfl⟩ := Int.eq_ofNat_of_zero_le (by omega : 0 <= i)
  obtain ⟨a, hp, r0, r1⟩ := Bars.atN (h.ext x2) (k := k) (by omega)
  exact ⟨s, (b1.ext e2).rd (i := 10) rfl, by omega, by omega, unSome_mk hp ⟨_, r0, _, r1, wr _ _ (by unfold bkI; rw [if_pos (by omega)]; rfl) (by unfold bzI; rw [if_pos (by omega)]; rfl)⟩⟩

def ClOk (T : List FS) (i k : Int) : Prop := ValidT T /\ (0 <= i /\ i < T.length) /\ bkI (fnAt T i.toNat).bars k ≠ 0
instance (T : List FS) (i k : Int) : Decidable (ClOk T i k) := by unfold ClOk; infer_instance
def clsV (T : List FS) (high : Bool) (i k : Int) : Value := if ClOk T i k then .tuple #[.int .i64 (classF T high i.toNat (bkI (fnAt T i.toNat).bars k)), .bool true] else .tuple #[.int .i64 0, .bool false]

theorem rClass_spec (T : List FS) (s : Sl) (high : Bool) (i k : Int) (H : Heap) (h : Topo H s T) :
  CallsH Tryz.prog n_53 #[.slice s.p s.n s.c, .bool high, .int .i64 i, .int .i64 k] H (fun v H' => v = clsV T high i k /\ Ext H H') := by
 refine F_53_ok _ _ _ _ ?_
 unfold F_53
 have no : ∀ H', Ext H H' -> ¬ ClOk T i k -> (.tuple #[.int .i64 0, .bool false] : Value) = clsV T high i k /\ Ext H H' := fun H' he hn => ⟨by unfold clsV; rw [if_neg hn], he⟩
 have hn := h.len
 refine (rVal_spec T s H h).mono ?_
 rintro v H1 ⟨rfl, e1⟩
 refine ⟨_, rfl, iteB_not (fun c => no _ e1 (fun ho => by simp at c; exact c ho.1)) (fun c => iteB_d (fun c1 => no _ e1 (fun ho => by have := ho.2.1; omega)) (fun c1 => iteB_d (fun c2 => no _ e1 (fun ho => by have := ho.2.1; omega)) (fun c2 => ?_)))⟩
 have hv : ValidT T := by simpa using c
 obtain ⟨j, rfl⟩ := Int.eq_ofNat_of_zero_le (by omega : 0 <= i)
 have hj : j < T.length := by omega
 obtain ⟨a, hp, hr⟩ := (h.ext e1).at hj
 obtain ⟨p0, p1, p2, p3, p4, p5, p6, p7, p8, p9, p10⟩ := rdFn hr
 refine ⟨by omega, by omega, unSome_mk hp ⟨_, p0, _, p1, _, p2, _, p3, _, p4, _, p5, _, p6, _, p7, _, p8, _, p9, slAt T j, p10, (rbar_spec _ _ k H1 ((h.ext e1).barsAt hj)).mono ?_⟩⟩
 rintro v H2 ⟨rfl, e2⟩
 have x2 := e1.trans e2
 refine ⟨_, _, rfl, iteB_beq (fun c3 => no _ x2 (fun ho => ho.2.2 c3)) (fun c3 => ?_)⟩
 have yes : ∀ H' x, Ext H H' -> classF T high j (bkI (fnAt T j).bars k) = x -> (.tuple #[.int .i64 x, .bool true] : Value) = clsV T high j k /\ Ext H H' := fun H' x he hx => ⟨by unfold clsV; rw [if_pos ⟨hv, by omega, c3⟩, Int.toNat_natCast, hx], he⟩
 refine ⟨by omega, by omega, unSome_mk hp ⟨_, e2.rd p0, _, e2.rd p1, _, e2.rd p2, _, e2.rd p3, _, e2.rd p4, _, e2.rd p5, _, e2.rd p6, _, e2.rd p7, _, e2.rd p8, _, e2.rd p9, slAt T j, e2.rd p10, (rbar_spec _ _ k H2 ((h.ext x2).barsAt hj)).mono ?_⟩⟩
 rintro v H3 ⟨rfl, e3⟩
 have x3 := x2.trans e3
 refine ⟨_, _, rfl, iteB_beq (fun c4 => yes _ _ x3 (by unfold classF; rw [if_pos c4])) (fun c4 => ?_)⟩
 have e23 := e2.trans e3
 refine ⟨by omega, by omega, unSome_mk hp ⟨_, e23.rd p0, _, e23.rd p1, _, e23.rd p2, _, e23.rd p3, _, e23.rd p4, _, e23.rd p5, _, e23.rd p6, _, e23.rd p7, _, e23.rd p8, _, e23.rd p9, slAt T j, e23.rd p10, (rbar_spec _ _ k H3 ((h.ext x3).barsAt hj)).mono ?_⟩⟩
 rintro v H4 ⟨rfl, e4⟩
 have x4 := x3.trans e4
 refine ⟨_, _, rfl, iteB_beq (fun c5 => iteB_intro (fun c6 => (above_spec T s j H4 (h.ext x4) hv hj).mono ?_) (fun c6 => yes _ _ x4 (by unfold classF; rw [if_neg c4, if_neg (by rw [c6]; simp)]))) (fun c5 => yes _ _ x4 (by unfold classF; rw [if_neg c4, if_neg (fun hh => c5 hh.1)]))⟩
 rintro v H5 ⟨rfl, rfl⟩
 exact ⟨_, rfl, iteB_intro (fun c7 => yes _ _ x4 (by unfold classF; rw [if_neg c4, if_pos ⟨c5, c6, c7⟩])) (fun c7 => yes _ _ x4 (by unfold classF; rw [if_neg c4, if_neg (by rw [c7]; simp)]))⟩

end Go.Proofs.YtnhhncjflnlfaaaGreat
end

section
/-
 The contracts of Below, the program's and the reference's.
-/
namespace Go.Proofs.YtnhhncjflnlfaaaGreat
open Go.Eng

theorem rkNeed : RK Tryz.prog t_53 t_29 (.agg #[.int .i64 0, .int .i64 0, .int .i64 0, .int .i64 0]) 4 32 encN := ⟨by kernel_rfl, by kernel_rfl, rfl, by omega, by omega, encN_len, encN_one⟩

def belQ (T : List FS) (p c : Int) (x : Need) : Bool := decide (x.2.2.1 = c /\ (0 <= x.1 /\ x.1 < T.length) /\ (fnAt T x.1.toNat).parent = p)
def BelOk (T : List FS) (p : Int) : Prop := (-1 <= p /\ p < T.length) /\ (0 <= p -> (fnAt T p.toNat).bridge = true)
instance (T : List FS) (p : Int) : Decidable (BelOk T p) := by unfold BelOk; infer_instance
def belF (T : List FS) (N : List Need) (p c : Int) : List Need := if BelOk T p then N.filter (belQ T p c) else []

theorem belF_no {T : List FS} {N : List Need} {p c : Int} (h : ¬ BelOk T p) (lo : Nat) (H : Heap) : NeedsP lo (belF T N p c) H (.slice none 0 0) H := by
 unfold belF
 rw [if_neg h]
 exact ⟨⟨none, 0, 0⟩, rfl, Own.nil _ _ _ _, rfl, .refl _⟩

theorem rBelow_spec (T : List FS) (s ns : Sl) (N : List Need) (p c : Int) (H : Heap) (h : Topo H s T) (hN : IsS 4 encN H ns N) (hl : N.length <= 100000) :
  CallsH Tryz.prog n_17 #[.slice s.p s.n s.c, .slice ns.p ns.n ns.c, .int .i64 p, .int .i64 c] H (NeedsP H.size (belF T N p c) H) := by
 refine F_17_ok _ _ _ _ ?_
 unfold F_17
 have hn := h.len
 have hnn := hN.len
 refine ⟨fun H' => H' = H /\ BelOk T p, iteB_d (fun c1 => belF_no (fun ho => by have := ho.1; omega) _ _) (fun c1 => iteB_d (fun c2 => belF_no (fun ho => by have := ho.1; omega) _ _) (fun c2 => iteB_d (fun c3 => ?_) (fun c3 => ⟨rfl, by omega, fun h0 => absurd h0 c3⟩))), ?_⟩
 ·obtain ⟨j, rfl⟩ := Int.eq_ofNat_of_zero_le c3
  obtain ⟨a, hp, hr⟩ := h.at (i := j) (by omega)
  have r4 := (rdFn hr).2.2.2.2.1
  exact ⟨by omega, by omega, unSome_mk hp ⟨_, r4, iteB_not (fun c4 => belF_no (fun ho => by have := ho.2 c3; rw [Int.toNat_natCast, c4] at this; cases this) _ _) (fun c4 => ⟨rfl, by omega, fun _ => by rw [Int.toNat_natCast]; exact c4⟩)⟩⟩
 rintro H1 ⟨rfl, hok⟩
 unfold F_17_k3
 have hF : belF T N p c = N.filter (belQ T p c) := by unfold belF; rw [if_pos hok]
 rw [hF]
 refine loop2 N.length (fun k out H' => Own H1.size t_29 4 H' out (((N.take k).filter (belQ T p c)).flatMap encN) /\ Ext H1 H') ⟨Own.nil _ _ _ _, .refl _⟩ ?_
 rintro k out H2 hk ⟨o2, e2⟩
 unfold F_17_r2
 have hlen := filter_take_len N k (belQ T p c)
 have n2 := Own.len rkNeed o2
 refine iteB_d (fun c1 => ?_) (fun c1 => ?_)
 ·have hkn : k < N.length := by omega
  obtain ⟨a, hp, hr⟩ := IsS.atN (hN.ext e2) (0, 0, 0, 0) hkn
  have hfs := filter_succ (0, 0, 0, 0) (belQ T p c) hkn
  generalize N.getD k (0, 0, 0, 0) = x at *
  obtain ⟨x0, x1, x2, x3⟩ := x
  have hr0 := hr 0 _ rfl
  rw [add_add', Nat.add_zero] at hr0
  refine ⟨by omega, by omega, unSome_mk hp ⟨x0, hr0, fun b H' => b = belQ T p c (x0, x1, x2, x3) /\ H' = H2, ⟨by omega, by omega, unSome_mk hp ⟨_, hr 2 _ rfl, iteB_beq (fun d1 => iteB_d (fun d2 => iteB_d (fun d3 => ⟨by omega, by omega, ?_⟩) (fun d3 => ⟨?_, rfl⟩)) (fun d2 => ⟨?_, rfl⟩)) (fun d1 => ⟨?_, rfl⟩)⟩⟩, ?_⟩⟩
  ·obtain ⟨j, rfl⟩ := Int.eq_ofNat_of_zero_le (by omega : 0 <= x0)
   obtain ⟨b, hq, hrq⟩ := (h.ext e2).at (i := j) (by omega)
   refine unSome_mk hq ⟨_, (rdFn hrq).1, ?_, rfl⟩
   by_cases d4 : (fnAt T j).parent = p
   ·rw [d4]
    symm
    simp only [beq_self_eq_true, belQ, decide_eq_true_eq]
    exact ⟨d1, by omega, d4⟩
   ·have : ((fnAt T j).parent == p) = false := by simpa using d4
    rw [this]
    symm
    simp only [belQ, decide_eq_false_iff_not]
    exact fun hh => d4 hh.2.2
  ·symm; simp only [belQ, decide_eq_false_iff_not]; intro hh; have := hh.2.1; omega
  ·symm; simp only [belQ, decide_eq_false_iff_not]; intro hh; have := hh.2.1; omega
  ·symm; simp only [belQ, decide_eq_false_iff_not]; intro hh; exact d1 hh.1
  ·rintro b H3 ⟨rfl, rfl⟩
   unfold F_17_k1
   refine iteB_intro (fun d => ⟨by omega, by omega, unSome_mk hp ⟨_, hr0, _, hr 1 _ rfl, _, hr 2 _ rfl, _, hr 3 _ rfl, ?_⟩⟩) (fun d => letV_mk _ rfl (next2 hkn (by omega) ⟨?_, e2⟩))
   ·refine apR rkNeed (x0, x1, x2, x3) (lo := H1.size) o2 (by omega) e2.size ?_
    intro s' H6 ho hn6 m6
    refine letV_mk _ rfl (next2 hkn (by omega) ⟨?_, Mods.ext e2 m6 (blkOf_new o2.new)⟩)
    rw [hfs, d]
    exact ho
   ·rw [hfs, d]
    simpa using o2
 ·obtain rfl : k = N.length := by omega
  rw [List.take_length] at o2 n2
  exact ⟨out, rfl, o2, n2, e2⟩

end Go.Proofs.YtnhhncjflnlfaaaGreat
end

section
/-
 The sizes below a bridge, as the tables hold them and as the list of needs tells them: the same but for their order.
-/
namespace Go.Proofs.YtnhhncjflnlfaaaGreat
open Go.Eng

theorem needsAt_own' {T : List FS} {high : Bool} {i : Nat} (hi : i < T.length) : needsAt T high i = ownL T high i (nB T high (T.length - 1 - i)).2 := by
 rw [<- needsAt_eq (k := T.length - 1 - i + 1) (by omega) (by omega)]
 have : T.length - 1 - (T.length - 1 - i) = i := by omega
 show upd (nB T high (T.length - 1 - i)).1 (T.length - 1 - (T.length - 1 - i)) (ownL T high (T.length - 1 - (T.length - 1 - i)) (nB T high (T.length - 1 - i)).2) i = _
 rw [this, upd_same]

def allFrom (T : List FS) (high : Bool) (k : Nat) : List Need := (List.range k).flatMap (fun j => needsAt T high (T.length - k + j))

theorem allFrom_succ {T : List FS} {high : Bool} {k : Nat} (hk : k < T.length) : allFrom T high (k + 1) = needsAt T high (T.length - 1 - k) ++ allFrom T high k := by
 unfold allFrom
 rw [Nat.add_comm k 1, range_add]
 have h1 : (List.range 1).flatMap (fun j => needsAt T high (T.length - (1 + k) + j)) = needsAt T high (T.length - 1 - k) := by
  simp [List.range_succ]
  congr 1
  omega
 rw [h1]
 congr 1
 congr 1
 funext j
 congr 1
 omega
theorem allFrom_all (T : List FS) (high : Bool) : allFrom T high T.length = needsAll T high := by
 unfold allFrom needsAll
 congr 1
 funext j
 congr 1
 omega

theorem addAll_at (par : Int) (p c : Nat) (hc : c < 3) : ∀ (L : List Need) (S : Nat -> List Int), (∀ x ∈ L, 0 <= x.2.2.1 /\ x.2.2.1 < 3) ->
  addAll par S L (p * 3 + c) = S (p * 3 + c) ++ (L.filter (fun x : Need => decide (x.2.2.1 = (c : Int) /\ par = (p : Int)))).map (fun x : Need => x.2.2.2) := by
 intro L
 induction L with
 | nil => intro S _; simp [addAll]
 | cons x L ih =>
  intro S hL
  have hx := hL x (by simp)
  show addAll par (addN par S x) L (p * 3 + c) = _
  rw [ih _ (fun y hy => hL y (by simp [hy]))]
  have key : addN par S x (p * 3 + c) = S (p * 3 + c) ++ (if x.2.2.1 = (c : Int) /\ par = (p : Int) then [x.2.2.2] else []) := by
   unfold addN
   by_cases h0 : 0 <= par
   ·rw [if_pos h0]
    by_cases he : x.2.2.1 = (c : Int) /\ par = (p : Int)
    ·have : par.toNat * 3 + x.2.2.1.toNat = p * 3 + c := by omega
     rw [this, upd_same, if_pos he]
    ·have : p * 3 + c ≠ par.toNat * 3 + x.2.2.1.toNat := by omega
     rw [upd_ne this, if_neg he, List.append_nil]
   ·rw [if_neg h0, if_neg (by omega), List.append_nil]
  rw [key, List.append_assoc]
  congr 1
  rw [List.filter_cons]
  by_cases he : x.2.2.1 = (c : Int) /\ par = (p : Int)
  ·rw [if_pos he, if_pos (by simpa using he)]; rfl
  ·rw [if_neg he, if_neg (by simpa using he)]; rfl

theorem needsAt_fst {T : List FS} {high : Bool} {i : Nat} (hi : i < T.length) : ∀ x ∈ needsAt T high i, x.1 = i := fun x hx => by
 rw [needsAt_own' hi] at hx
 exact (ownL_pref _ _ _ _ x hx).1

theorem belQ_at {T : List FS} {high : Bool} {i : Nat} (hi : i < T.length) (p c : Int) : (needsAt T high i).filter (belQ T p c) = (needsAt T high i).filter (fun x => decide (x.2.2.1 = c /\ (fnAt T i).parent = p)) := by
 apply List.filter_congr
 intro x hx
 have h1 := needsAt_fst hi x hx
 unfold belQ
 rw [h1, Int.toNat_natCast]
 congr 1
 apply propext
 constructor
 ·rintro ⟨a, _, b⟩; exact ⟨a, b⟩
 ·rintro ⟨a, b⟩; exact ⟨a, by omega, b⟩

theorem tab_perm (T : List FS) (high : Bool) (p c : Nat) (hc : c < 3) : ∀ k, k <= T.length -> ((nB T high k).2 (p * 3 + c)).Perm (((allFrom T high k).filter (belQ T p c)).map (fun x => x.2.2.2)) := by
 intro k
 induction k with
 | zero => intro _; simp [nB, allFrom]
 | succ k ih =>
  intro hk
  have hi : T.length - 1 - k < T.length := by omega
  have hown : ownL T high (T.length - 1 - k) (nB T high k).2 = needsAt T high (T.length - 1 - k) := by
   rw [needsAt_own' hi]
   congr 1
   rw [show T.length - 1 - (T.length - 1 - k) = k by omega]
  have h1 : (nB T high (k + 1)).2 = addAll (fnAt T (T.length - 1 - k)).parent (nB T high k).2 (needsAt T high (T.length - 1 - k)) := by
   rw [<- hown]; rfl
  rw [h1, addAll_at _ p c hc _ _ (by rw [<- hown]; exact ownL_cl _ _ _ _), allFrom_succ (by omega), List.filter_append, List.map_append, belQ_at hi]
  exact (List.Perm.append_right _ (ih (by omega))).trans List.perm_append_comm

theorem bel_later {T : List FS} {high : Bool} (hv : ValidT T) {i : Nat} (hi : i < T.length) (c : Int) : (needsAll T high).filter (belQ T i c) = (allFrom T high (T.length - 1 - i)).filter (belQ T i c) := by
 have step : ∀ d, T.length - 1 - i + d <= T.length -> (allFrom T high (T.length - 1 - i + d)).filter (belQ T i c) = (allFrom T high (T.length - 1 - i)).filter (belQ T i c) := by
  intro d
  induction d with
  | zero => intro _; rfl
  | succ d ih =>
   intro hd
   rw [show T.length - 1 - i + (d + 1) = T.length - 1 - i + d + 1 by omega, allFrom_succ (by omega), List.filter_append, ih (by omega)]
   have hj : T.length - 1 - (T.length - 1 - i + d) < T.length := by omega
   have : (needsAt T high (T.length - 1 - (T.length - 1 - i + d))).filter (belQ T i c) = [] := by
    rw [belQ_at hj, List.filter_eq_nil_iff]
    intro x hx
    have := (hv.2 _ hj).pa
    simp
    omega
   rw [this, List.nil_append]
 rw [<- allFrom_all]
 have := step (i + 1) (by omega)
 rw [show T.length - 1 - i + (i + 1) = T.length by omega] at this
 exact this

theorem sumW_perm {l m : List Int} (h : l.Perm m) : sumW l = sumW m := by
 induction h with
 | nil => rfl
 | cons x _ ih => simp only [sumW, ih]
 | swap x y l => simp only [sumW]; omega
 | trans _ _ a b => exact a.trans b
theorem WOk_perm {l m : List Int} (h : l.Perm m) (c : Int) (hot : Bool) : WOk l c hot ↔ WOk m c hot := by
 have key : ∀ {l m : List Int}, l.Perm m -> WOk l c hot -> WOk m c hot := fun {l m} h ⟨a, b, d, e⟩ =>
  ⟨fun ⟨x, y⟩ => a ⟨by subst x; exact h.eq_nil, y⟩, by rw [<- h.length_eq]; exact b, d, fun x hx => e x (h.mem_iff.2 hx)⟩
 exact ⟨key h, key h.symm⟩
theorem wszF_perm {l m : List Int} (h : l.Perm m) (c : Int) (hot : Bool) : wszF l c hot = wszF m c hot := by
 unfold wszF
 rw [sumW_perm h]
 by_cases hw : WOk l c hot
 ·rw [if_pos hw, if_pos ((WOk_perm h c hot).1 hw)]
 ·rw [if_neg hw, if_neg (fun hh => hw ((WOk_perm h c hot).2 hh))]

def belS (T : List FS) (N : List Need) (i : Nat) (c : Int) : List Int := (N.filter (belQ T i c)).map (fun x => x.2.2.2)

theorem wszF_isW {l : List Int} {c : Int} {hot : Bool} (h : WOk l c hot) : ∃ w : Nat, wszF l c hot = w /\ IsW (least c hot) (sumW l) w := by
 have hs := sum_lt h.2.2.2 h.2.1
 have h1 : sumW l <= 2 ^ (least c hot + 64) := by
  have := pow_mono (a := 64) (b := least c hot + 64) (by omega)
  have e : (2 : Int) ^ 64 = 18446744073709551616 := by decide
  omega
 exact ⟨_, by unfold wszF; rw [if_pos h], wup_isW _ 64 _ h1⟩

def NeedsIs (T : List FS) (high : Bool) (e : Int) (L : List Need) : Prop := (¬ ValidT T /\ e = 1 /\ L = []) \/ (ValidT T /\ Ovf T high /\ e = 11 /\ L = []) \/ (ValidT T /\ ¬ Ovf T high /\ e = 0 /\ L = needsAll T high)

theorem NeedsIs.uni {T : List FS} {high : Bool} {e e' : Int} {L L' : List Need} (h : NeedsIs T high e L) (h' : NeedsIs T high e' L') : e = e' /\ L = L' := by
 rcases h with ⟨a, rfl, rfl⟩ | ⟨a, b, rfl, rfl⟩ | ⟨a, b, rfl, rfl⟩ <;> rcases h' with ⟨a', rfl, rfl⟩ | ⟨a', b', rfl, rfl⟩ | ⟨a', b', rfl, rfl⟩ <;> first | exact ⟨rfl, rfl⟩ | contradiction

theorem NeedsR.outI {T : List FS} {high : Bool} {H H' : Heap} {v : Value} (h : NeedsR T high H v H') : ∃ (out : Sl) (e : Int) (L : List Need), v = .tuple #[.slice out.p out.n out.c, .int .i64 e] /\ IsS 4 encN H' out L /\ NeedsIs T high e L /\ Ext H H' := by
 rcases h with ⟨hn, he⟩ | ⟨hv, ho, he⟩ | ⟨out, hv, ho, hs, hn, he⟩
 ·exact ⟨⟨none, 0, 0⟩, 1, [], rfl, IsS.nil _ _ _, .inl ⟨hn, rfl, rfl⟩, he⟩
 ·exact ⟨⟨none, 0, 0⟩, 11, [], rfl, IsS.nil _ _ _, .inr (.inl ⟨hv, ho, rfl, rfl⟩), he⟩
 ·exact ⟨out, 0, needsAll T high, rfl, hs.isS encN_len (by omega), .inr (.inr ⟨hv, ho, rfl, rfl⟩), he⟩
theorem NeedsIs.len {T : List FS} {high : Bool} {e : Int} {L : List Need} (h : NeedsIs T high e L) : L.length <= 1000 := by
 rcases h with ⟨a, rfl, rfl⟩ | ⟨a, b, rfl, rfl⟩ | ⟨a, b, rfl, rfl⟩
 ·simp
 ·simp
 ·exact out_len (high := high) (e := 0) a (.inl ⟨rfl, rfl⟩)

end Go.Proofs.YtnhhncjflnlfaaaGreat
end

section
/-
 The contract of the reference's window.
-/
namespace Go.Proofs.YtnhhncjflnlfaaaGreat
open Go.Eng

def Port (T : List FS) (high : Bool) (i c : Nat) : Prop := (fnAt T i).hot = true /\ WCond T high i c
instance (T : List FS) (high : Bool) (i c : Nat) : Decidable (Port T high i c) := by unfold Port; infer_instance
def WinR (T : List FS) (high : Bool) (i c : Nat) (l : List Int) : Prop := ¬ (l = [] /\ ¬ Port T high i c) /\ WOk l c (fnAt T i).hot
instance (T : List FS) (high : Bool) (i c : Nat) (l : List Int) : Decidable (WinR T high i c l) := by unfold WinR; infer_instance

def winRP (T : List FS) (high : Bool) (i c : Nat) (l : List Int) (H : Heap) (v : Value) (H' : Heap) : Prop :=
 ∃ x b, v = .tuple #[.int .i64 x, .bool b] /\ (b = true ↔ WinR T high i c l) /\ (b = true -> x = wszF l c (fnAt T i).hot) /\ Ext H H'

theorem belS_succ {T : List FS} {N : List Need} {i : Nat} {c : Int} {k : Nat} (hk : k < N.length) : belS T (N.take (k + 1)) i c = belS T (N.take k) i c ++ (if belQ T i c (N.getD k (0, 0, 0, 0)) then [(N.getD k (0, 0, 0, 0)).2.2.2] else []) := by
 unfold belS
 rw [filter_succ (0, 0, 0, 0) _ hk, List.map_append]
 congr 1
 split <;> rfl
theorem belS_len (T : List FS) (N : List Need) (i : Nat) (c : Int) : (belS T N i c).length <= N.length := by
 unfold belS
 rw [List.length_map]
 exact List.length_filter_le _ _

theorem rwindow_spec (T : List FS) (s ns : Sl) (high : Bool) (i c : Nat) (N : List Need) (H : Heap) (h : Topo H s T) (hv : ValidT T) (hi : i < T.length) (hN : IsS 4 encN H ns N) (hl : N.length <= 100000) (hf : ∀ x ∈ N, 0 <= x.1 /\ x.1 < T.length) :
  CallsH Tryz.prog n_54 #[.slice s.p s.n s.c, .bool high, .int .i64 i, .int .i64 c, .slice ns.p ns.n ns.c] H (winRP T high i c (belS T N i c) H) := by
 refine F_54_ok _ _ _ _ _ ?_
 unfold F_54
 have hn := h.len
 have hnn := hN.len
 refine loop2 N.length (fun k out H' => Own H.size t_3 1 H' out ((belS T (N.take k) i c).flatMap (encI .i64)) /\ Ext H H') ⟨Own.nil _ _ _ _, .refl _⟩ ?_
 rintro k out H1 hk ⟨o1, e1⟩
 unfold F_54_r4
 have hlen := belS_len T (N.take k) i c
 have hlk : (N.take k).length <= k := by simp; omega
 have n1 := Own.len rkInt o1
 refine iteB_d (fun c1 => ?_) (fun c1 => ?_)
 ·have hkn : k < N.length := by omega
  obtain ⟨a, hp, hr⟩ := IsS.atN (hN.ext e1) (0, 0, 0, 0) hkn
  have hfs := belS_succ (T := T) (i := i) (c := c) hkn
  have hm := hf _ (getD_mem' (0, 0, 0, 0) hkn)
  generalize N.getD k (0, 0, 0, 0) = x at *
  obtain ⟨x0, x1, x2, x3⟩ := x
  have hr0 := hr 0 _ rfl
  rw [add_add', Nat.add_zero] at hr0
  obtain ⟨j, rfl⟩ := Int.eq_ofNat_of_zero_le (by have := hm.1; exact this : 0 <= x0)
  have hjT : j < T.length := by have := hm.2; dsimp only at this; omega
  obtain ⟨b, hq, hrq⟩ := (h.ext e1).at hjT
  refine ⟨fun b H' => b = belQ T i c ((j : Int), x1, x2, x3) /\ H' = H1, ⟨by omega, by omega, unSome_mk hp ⟨x2, hr 2 _ rfl, iteB_beq (fun d1 => ⟨by omega, by omega, unSome_mk hp ⟨(j : Int), hr0, by omega, by omega, unSome_mk hq ⟨_, (rdFn hrq).1, ?_, rfl⟩⟩⟩) (fun d1 => ⟨?_, rfl⟩)⟩⟩, ?_⟩
  ·by_cases d4 : (fnAt T j).parent = i
   ·rw [d4]
    symm
    simp only [beq_self_eq_true, belQ, decide_eq_true_eq]
    exact ⟨d1, by omega, d4⟩
   ·have : ((fnAt T j).parent == (i : Int)) = false := by simpa using d4
    rw [this]
    symm
    simp only [belQ, decide_eq_false_iff_not]
    exact fun hh => d4 hh.2.2
  ·symm; simp only [belQ, decide_eq_false_iff_not]; intro hh; exact d1 hh.1
  ·rintro b H3 ⟨rfl, rfl⟩
   unfold F_54_k1
   refine iteB_intro (fun d => ⟨by omega, by omega, unSome_mk hp ⟨x3, hr 3 _ rfl, ?_⟩⟩) (fun d => letV_mk _ rfl (next2 hkn (by omega) ⟨?_, e1⟩))
   ·refine apR rkInt x3 (lo := H.size) o1 (by omega) e1.size ?_
    intro s' H6 ho hn6 m6
    refine letV_mk _ rfl (next2 hkn (by omega) ⟨?_, Mods.ext e1 m6 (blkOf_new o1.new)⟩)
    rw [hfs, d]
    exact ho
   ·rw [hfs, d]
    simpa using o1
 ·obtain rfl : k = N.length := by omega
  rw [List.take_length] at o1 n1 hlen
  generalize belS T N i c = l at *
  obtain ⟨b, hq, hrq⟩ := (h.ext e1).at hi
  obtain ⟨_, _, _, _, _, r5, r6, _⟩ := rdFn hrq
  refine ⟨fun b H' => (b = true ↔ Port T high i c) /\ H' = H1, ⟨by omega, by omega, unSome_mk hq ⟨_, r6, iteB_intro (fun d1 => iteB_bne (fun d2 => ⟨?_, rfl⟩) (fun d2 => iteB_intro (fun d3 => ⟨by omega, by omega, unSome_mk hq ⟨_, r5, iteB_intro (fun d4 => (above_spec T s i H1 (h.ext e1) hv hi).mono ?_) (fun d4 => ⟨?_, rfl⟩)⟩⟩) (fun d3 => ⟨?_, rfl⟩))) (fun d1 => ⟨?_, rfl⟩)⟩⟩, ?_⟩
  ·simp only [true_iff]
   exact ⟨d1, fun hh => absurd hh (by omega)⟩
  ·rintro v H2 ⟨rfl, rfl⟩
   refine ⟨_, rfl, ⟨fun hh => ⟨d1, fun _ => ⟨d3, d4, hh⟩⟩, fun hh => (hh.2 (by omega)).2.2⟩, rfl⟩
  ·simp only [Bool.false_eq_true, false_iff]
   intro hh
   have := (hh.2 (by omega)).2.1
   rw [d4] at this; cases this
  ·simp only [Bool.false_eq_true, false_iff]
   intro hh
   have := (hh.2 (by omega)).1
   rw [d3] at this; cases this
  ·simp only [Bool.false_eq_true, false_iff]
   intro hh
   have := hh.1
   rw [d1] at this; cases this
  ·rintro port H6 ⟨hport, rfl⟩
   unfold F_54_k3
   refine ⟨fun H' => H' = H6 /\ ¬ (l = [] /\ ¬ Port T high i c), iteB_beq (fun d => iteB_not (fun d1 => ⟨0, false, rfl, ?_, (fun hh => by cases hh), e1⟩) (fun d1 => ⟨rfl, fun hh => hh.2 (hport.1 d1)⟩)) (fun d => ⟨rfl, fun hh => d (by rw [n1, hh.1]; rfl)⟩), ?_⟩
   ·simp only [Bool.false_eq_true, false_iff]
    intro hh
    refine hh.1 ⟨List.eq_nil_of_length_eq_zero (by omega), fun hp => ?_⟩
    have := hport.2 hp
    rw [d1] at this; cases this
   ·rintro H7 ⟨rfl, hne⟩
    unfold F_54_k2
    refine ⟨by omega, by omega, unSome_mk hq ⟨_, r6, (rWindowSize_spec H7 out l c _ (Own.is rkInt o1) (by omega)).mono ?_⟩⟩
    rintro v H8 ⟨rfl, rfl⟩
    exact ⟨_, _, rfl, _, _, rfl, ⟨fun hh => ⟨hne, by simpa using hh⟩, fun hh => by simpa using hh.2⟩, fun _ => rfl, e1⟩

theorem WinR_iff {T : List FS} {high : Bool} (hv : ValidT T) {i c : Nat} (hi : i < T.length) (hc : c < 3) :
  WinR T high i c (belS T (allFrom T high (T.length - 1 - i)) i c) ↔ WCond T high i c /\ WOk ((nB T high (T.length - 1 - i)).2 (i * 3 + c)) c (fnAt T i).hot := by
 have hp := tab_perm T high i c hc (T.length - 1 - i) (by omega)
 have hw := WOk_perm hp c (fnAt T i).hot
 constructor
 ·rintro ⟨h1, h2⟩
  refine ⟨fun hc2 => ?_, hw.2 h2⟩
  by_cases hE : belS T (allFrom T high (T.length - 1 - i)) i c = []
  ·exact (Decidable.by_contra fun hn => h1 ⟨hE, fun hp => hn (hp.2 hc2)⟩)
  ·have : ∃ x, x ∈ (allFrom T high (T.length - 1 - i)).filter (belQ T i c) := by
    cases hL : (allFrom T high (T.length - 1 - i)).filter (belQ T i c) with
    | nil => exact absurd (by unfold belS; rw [hL]; rfl) hE
    | cons x _ => exact ⟨x, by simp⟩
   obtain ⟨x, hx⟩ := this
   obtain ⟨hx1, hx2⟩ := List.mem_filter.1 hx
   obtain ⟨d, hd, hxd⟩ := List.mem_flatMap.1 hx1
   have hd' := List.mem_range.1 hd
   have hj : T.length - (T.length - 1 - i) + d < T.length := by omega
   generalize T.length - (T.length - 1 - i) + d = j at *
   obtain ⟨S, hS⟩ := needsAt_own (high := high) hj
   rw [hS] at hxd
   obtain ⟨g1, g2⟩ := ownL_pref _ _ _ _ x hxd
   simp only [belQ, decide_eq_true_eq] at hx2
   obtain ⟨q1, _, q3⟩ := hx2
   rw [g1, Int.toNat_natCast] at q3
   obtain ⟨g3, g4⟩ := g2 (by omega)
   unfold aboveF at g4
   rw [q3] at g4
   have hpf : (fnAt T i).pref = true := by
    cases hq' : (fnAt T i).pref
    ·unfold abF at g4
     rw [if_neg (by omega), Int.toNat_natCast, if_pos hq'] at g4
     cases g4
    ·rfl
   refine ⟨g3, hpf, ?_⟩
   rw [abF_fuel hv _ _ (by omega) (by omega), abF_step hv hi hpf] at g4
   have hpa := (hv.2 i hi).pa
   unfold aboveF
   rw [abF_fuel hv _ _ (by omega) (by omega)]
   exact g4
 ·rintro ⟨h1, h2⟩
  refine ⟨fun ⟨hE, hn⟩ => ?_, hw.1 h2⟩
  have hS : (nB T high (T.length - 1 - i)).2 (i * 3 + c) = [] := by unfold belS at hE; rw [hE] at hp; exact hp.eq_nil
  refine hn ⟨?_, h1⟩
  cases hq' : (fnAt T i).hot
  ·exact absurd ⟨hS, hq'⟩ h2.1
  ·rfl

end Go.Proofs.YtnhhncjflnlfaaaGreat
end

section
/-
 The contract of the reference's Needs.
-/
namespace Go.Proofs.YtnhhncjflnlfaaaGreat
open Go.Eng

def RNI (T : List FS) (high : Bool) (H0 : Heap) (k : Nat) (all : Sl) (bad : Bool) (H : Heap) : Prop :=
 bad = false /\ Own H0.size t_29 4 H all ((allFrom T high k).flatMap encN) /\ Ext H0 H /\ ∀ j, T.length - k <= j -> j < T.length -> ¬ Over (needsAt T high j)

theorem allFrom_fst {T : List FS} {high : Bool} {k : Nat} (hk : k <= T.length) : ∀ x ∈ allFrom T high k, 0 <= x.1 /\ x.1 < T.length := by
 intro x hx
 obtain ⟨d, hd, hxd⟩ := List.mem_flatMap.1 hx
 have := List.mem_range.1 hd
 have h2 := needsAt_fst (T := T) (high := high) (i := T.length - k + d) (by omega) x hxd
 omega
theorem allFrom_len {T : List FS} {high : Bool} (hv : ValidT T) : ∀ k, k <= T.length -> (allFrom T high k).length <= 9 * k
 | 0, _ => by simp [allFrom]
 | k + 1, hk => by
  have ih := allFrom_len (high := high) hv k (by omega)
  rw [allFrom_succ (by omega), List.length_append, needsAt_own' (by omega)]
  have := ownL_len hv high (i := T.length - 1 - k) (by omega) (nB T high (T.length - 1 - (T.length - 1 - k))).2
  omega

theorem rneeds_check {T : List FS} {high : Bool} {H0 H2 H11 : Heap} {k i : Nat} {all own : Sl} {I : Sl -> Bool -> Int -> Heap -> Prop} {M : Sl -> Bool -> Int -> Heap -> Nat} {R : Value -> Heap -> Prop} (hv : ValidT T) (hk : k < T.length) (hi : i = T.length - 1 - k)
  (ha : RNI T high H0 k all false H2) (e2 : Ext H2 H11) (ho : Own H2.size t_29 4 H11 own ((needsAt T high i).flatMap encN))
  (hR : R = NeedsR T high H0) (hI : I = fun al b j H' => ∃ k : Nat, j = (T.length : Int) - 1 - k /\ k <= T.length /\ RNI T high H0 k al b H') (hM : M = fun _ _ j _ => (j + 1).toNat) :
  F_16_k3 R I M all false (i : Int) H2 own H11 := by
 subst hR hI hM
 unfold F_16_k3
 have hown := needsAt_own' (T := T) (high := high) (i := i) (by omega)
 have hcl : ∀ x ∈ needsAt T high i, 0 <= x.2.2.1 /\ x.2.2.1 < 3 := by rw [hown]; exact ownL_cl _ _ _ _
 have hlen : (needsAt T high i).length <= 9 := by rw [hown]; exact ownL_len hv high (by omega) _
 have hfrom := allFrom_succ (high := high) hk
 rw [<- hi] at hfrom
 obtain ⟨_, oa, ea, hno⟩ := ha
 have hal := allFrom_len (high := high) hv k (by omega)
 have n0 := Own.len rkNeed ho
 have is0 := Own.is rkNeed ho
 have hT64 := hv.1
 have hover : Over (needsAt T high i) -> Ovf T high := fun h => ⟨i, by omega, h⟩
 generalize hL : needsAt T high i = L at *
 refine loop2 L.length (fun j b H' => (b = true ↔ Over (L.take j)) /\ H' = H11) ⟨by simp [Over], rfl⟩ ?_
 rintro j b H12 hj ⟨hb, rfl⟩
 unfold F_16_r2
 refine iteB_d (fun c => ?_) (fun c => ?_)
 ·have hjn : j < L.length := by omega
  obtain ⟨a, hp, hr⟩ := IsS.atN is0 (0, 0, 0, 0) hjn
  have hc := hcl _ (getD_mem' (0, 0, 0, 0) hjn)
  have htk := take_succ_d (0, 0, 0, 0) hjn
  generalize L.getD j (0, 0, 0, 0) = x at *
  obtain ⟨x0, x1, x2, x3⟩ := x
  dsimp only at hc
  have hstep : Over (L.take (j + 1)) ↔ Over (L.take j) \/ x3 > largestF x2 := by
   rw [htk]
   unfold Over
   constructor
   ·rintro ⟨y, hy, hg⟩
    simp only [List.mem_append, List.mem_singleton] at hy
    rcases hy with hy | rfl
    ·exact .inl ⟨y, hy, hg⟩
    ·exact .inr hg
   ·rintro (⟨y, hy, hg⟩ | hg)
    ·exact ⟨y, by simp [hy], hg⟩
    ·exact ⟨(x0, x1, x2, x3), by simp, hg⟩
  refine ⟨by omega, by omega, unSome_mk hp ⟨x2, hr 2 _ rfl, by omega, by omega, ?_⟩⟩
  rcases (by omega : x2 = 0 \/ x2 = 1 \/ x2 = 2) with rfl | rfl | rfl
  ·refine iteB_pos rfl (iteB_intro (fun d => letV_mk _ rfl (next2 hjn (by omega) ⟨by simp only [true_iff]; exact hstep.2 (.inl (hb.1 d)), rfl⟩)) (fun d => ⟨by omega, by omega, unSome_mk hp ⟨x3, hr 3 _ rfl, letV_mk _ rfl (next2 hjn (by omega) ⟨?_, rfl⟩)⟩⟩))
   rw [hstep, <- hb, d]
   simp [largestF]
  ·refine iteB_neg rfl (iteB_pos rfl (iteB_intro (fun d => letV_mk _ rfl (next2 hjn (by omega) ⟨by simp only [true_iff]; exact hstep.2 (.inl (hb.1 d)), rfl⟩)) (fun d => ⟨by omega, by omega, unSome_mk hp ⟨x3, hr 3 _ rfl, letV_mk _ rfl (next2 hjn (by omega) ⟨?_, rfl⟩)⟩⟩)))
   rw [hstep, <- hb, d]
   simp [largestF]
  ·refine iteB_neg rfl (iteB_neg rfl (iteB_pos rfl (iteB_intro (fun d => letV_mk _ rfl (next2 hjn (by omega) ⟨by simp only [true_iff]; exact hstep.2 (.inl (hb.1 d)), rfl⟩)) (fun d => ⟨by omega, by omega, unSome_mk hp ⟨x3, hr 3 _ rfl, letV_mk _ rfl (next2 hjn (by omega) ⟨?_, rfl⟩)⟩⟩))))
   rw [hstep, <- hb, d]
   simp [largestF]
 ·obtain rfl : j = L.length := by omega
  rw [List.take_length] at hb
  have x12 := ea.trans e2
  refine iteB_intro (fun d => .over hv (hover (hb.1 d)) x12) (fun d => ?_)
  have hnover : ¬ Over L := fun hh => by have := hb.2 hh; rw [d] at this; cases this
  refine apA rkNeed (lo := H2.size) ho ((Own.is rkNeed oa).ext e2) (by omega) e2.size ?_
  intro s' H13 o13 n13 m13 _
  have x13 : Ext H2 H13 := Mods.ext e2 m13 (blkOf_new ho.new)
  refine ⟨s', rfl, letV_mk ((T.length : Int) - 1 - (k + 1 : Nat)) (by rw [i64_in (by omega)]; omega) ⟨⟨k + 1, rfl, by omega, d, ?_, ea.trans x13, fun q h1 h2 => ?_⟩, by dsimp only; omega⟩⟩
  ·rw [hfrom]; exact own_lo o13 ea.size
  ·by_cases e : q = i
   ·subst e; rw [hL]; exact hnover
   ·exact hno q (by omega) h2

theorem rneeds_round {T : List FS} {s : Sl} {high : Bool} {H0 H2 : Heap} {k i : Nat} {all : Sl} {I : Sl -> Bool -> Int -> Heap -> Prop} {M : Sl -> Bool -> Int -> Heap -> Nat} (hT : Topo H0 s T) (hv : ValidT T) (hk : k < T.length) (hi : i = T.length - 1 - k)
  (ha : RNI T high H0 k all false H2) (hI : I = fun al b j H' => ∃ k : Nat, j = (T.length : Int) - 1 - k /\ k <= T.length /\ RNI T high H0 k al b H') (hM : M = fun _ _ j _ => (j + 1).toNat) :
  F_16_r5 (NeedsR T high H0) s high I M all false (i : Int) H2 := by
 unfold F_16_r5
 have hiT : i < T.length := by omega
 have hn := hT.len
 have ea := ha.2.2.1
 have oa := ha.2.1
 have hT2 := hT.ext ea
 have hbl := (hv.2 i hiT).va.bl
 have hrg : regs (fnAt T i).bridge <= 6 := by unfold regs; split <;> omega
 have hal := allFrom_len (high := high) hv k (by omega)
 have hT64 := hv.1
 have hkk : T.length - 1 - i = k := by omega
 refine iteB_pos (by simp) ?_
 refine loop2 (fnAt T i).bars.length (fun j own H' => Own H2.size t_29 4 H' own ((regL T high i (fnAt T i).bars j).flatMap encN) /\ Ext H2 H') ⟨Own.nil _ _ _ _, .refl _⟩ ?_
 rintro j own H3 hj ⟨o3, e3⟩
 unfold F_16_r4
 obtain ⟨a, hp, hr⟩ := (hT2.ext e3).at hiT
 have r10 := (rdFn hr).2.2.2.2.2.2.2.2.2.2
 have hB := (hT2.ext e3).barsAt hiT
 have hbn := hB.len
 have hrl := regL_len T high i (fnAt T i).bars j
 have n3 := Own.len rkNeed o3
 refine ⟨by omega, by omega, unSome_mk hp ⟨_, r10, iteB_d (fun c => ?_) (fun c => ?_)⟩⟩
 ·have hjn : j < (fnAt T i).bars.length := by omega
  refine (rClass_spec T s high i j H3 (hT2.ext e3)).mono ?_
  rintro v H4 ⟨rfl, e4⟩
  have hbk : bkI (fnAt T i).bars j = bk (fnAt T i).bars j := by unfold bkI; rw [if_pos (by omega)]; rfl
  by_cases hz : bk (fnAt T i).bars j = 0
  ·have hcls : clsV T high i j = .tuple #[.int .i64 0, .bool false] := by unfold clsV; rw [if_neg (fun hh => hh.2.2 (by rw [Int.toNat_natCast, hbk]; exact hz))]
   refine ⟨_, _, hcls, iteB_neg rfl (letV_mk _ rfl (next2 hjn (by omega) ⟨?_, e3.trans e4⟩))⟩
   simp only [regL]; rw [if_pos hz, List.append_nil]; exact o3.ext e4
  ·have hcls : clsV T high i j = .tuple #[.int .i64 (classF T high i (bk (fnAt T i).bars j)), .bool true] := by unfold clsV; rw [if_pos ⟨hv, by omega, by rw [Int.toNat_natCast, hbk]; exact hz⟩, Int.toNat_natCast, hbk]
   obtain ⟨b, hq, r0, r1⟩ := Bars.atN (hB.ext e4) hjn
   refine ⟨_, _, hcls, iteB_pos rfl ⟨by omega, by omega, unSome_mk hp ⟨_, e4.rd r10, by omega, by omega, unSome_mk hq ⟨_, r1, ?_⟩⟩⟩⟩
   refine apR rkNeed ((i : Int), (j : Int), classF T high i (bk (fnAt T i).bars j), bz (fnAt T i).bars j) (lo := H2.size) (o3.ext e4) (by omega) (e3.trans e4).size ?_
   intro s' H6 ho hn6 m6
   refine letV_mk _ rfl (next2 hjn (by omega) ⟨?_, Mods.ext (e3.trans e4) m6 (blkOf_new o3.new)⟩)
   simp only [regL]; rw [if_neg hz]; exact ho
 ·obtain rfl : j = (fnAt T i).bars.length := by omega
  refine ⟨fun own H' => Own H2.size t_29 4 H' own ((needsAt T high i).flatMap encN) /\ Ext H2 H', ?_, ?_⟩
  ·have hown := needsAt_own' (T := T) (high := high) hiT
   generalize hRL : regL T high i (fnAt T i).bars (fnAt T i).bars.length = RL at *
   have hownL : needsAt T high i = RL ++ winAll T high i (fun c => if c < 3 then (nB T high (T.length - 1 - i)).2 (i * 3 + c) else []) := by rw [hown, <- hRL]; rfl
   generalize hSf : (fun c => if c < 3 then (nB T high (T.length - 1 - i)).2 (i * 3 + c) else []) = Sf at *
   refine loop2 3 (fun c own H' => Own H2.size t_29 4 H' own ((RL ++ (if (fnAt T i).bridge then winN T high i Sf c else [])).flatMap encN) /\ Ext H2 H') ⟨by simpa [winN] using o3, e3⟩ ?_
   rintro c2 own2 H7 hc2 ⟨o7, e7⟩
   unfold F_16_r1
   obtain ⟨a, hp, hr⟩ := (hT2.ext e7).at hiT
   have r4 := (rdFn hr).2.2.2.2.1
   have n7 := Own.len rkNeed o7
   refine ⟨by omega, by omega, unSome_mk hp ⟨_, r4, iteB_intro (fun d1 => iteB_d (fun d2 => ?_) (fun d2 => ?_)) (fun d1 => ⟨?_, e7⟩)⟩⟩
   ·have hc3 : c2 < 3 := by omega
    rw [d1, if_pos rfl] at o7 n7
    have hwl := winN_len T high i Sf c2
    refine (rwindow_spec T s all high i c2 (allFrom T high k) H7 (hT2.ext e7) hv hiT ((Own.is rkNeed oa).ext e7) (by omega) (allFrom_fst (by omega))).mono ?_
    rintro v H8 ⟨x, b, rfl, hb1, hb2, e8⟩
    have hiff := WinR_iff (T := T) (high := high) hv hiT hc3
    have hperm := tab_perm T high i c2 hc3 k (by omega)
    have hSc : Sf c2 = (nB T high k).2 (i * 3 + c2) := by rw [<- hSf]; dsimp only; rw [if_pos hc3, hkk]
    rw [hkk, <- hSc] at hiff
    rw [<- hSc] at hperm
    refine ⟨x, b, rfl, iteB_intro (fun d3 => ?_) (fun d3 => letV_mk _ rfl (next2 hc3 (by omega) ⟨?_, e7.trans e8⟩))⟩
    ·have hw := hiff.1 (hb1.1 d3)
     have hx : x = wszF (Sf c2) c2 (fnAt T i).hot := by rw [hb2 d3]; exact (wszF_perm hperm _ _).symm
     rw [i64_in (n := (-1 : Int) - c2) (by omega), hx]
     rw [List.length_append] at n7
     refine apR rkNeed ((i : Int), -1 - (c2 : Int), (c2 : Int), wszF (Sf c2) c2 (fnAt T i).hot) (lo := H2.size) (o7.ext e8) (by omega) (e7.trans e8).size ?_
     intro s' H10 ho hn10 m10
     refine letV_mk _ rfl (next2 hc3 (by omega) ⟨?_, Mods.ext (e7.trans e8) m10 (blkOf_new o7.new)⟩)
     rw [d1, if_pos rfl]
     simp only [winN]
     rw [if_pos hw, <- List.append_assoc]
     exact ho
    ·have hw : ¬ (WCond T high i c2 /\ WOk (Sf c2) c2 (fnAt T i).hot) := fun hh => by have := hb1.2 (hiff.2 hh); rw [d3] at this; cases this
     rw [d1, if_pos rfl]
     simp only [winN]
     rw [if_neg hw, List.append_nil]
     exact o7.ext e8
   ·obtain rfl : c2 = 3 := by omega
    refine ⟨?_, e7⟩
    rw [hownL]
    unfold winAll
    exact o7
   ·rw [hownL]
    unfold winAll
    rw [d1] at o7 ⊢
    simpa using o7
  ·rintro own4 H11 ⟨o11, e11⟩
   exact rneeds_check hv hk hi ha e11 o11 rfl hI hM

theorem rNeeds_spec (T : List FS) (s : Sl) (high : Bool) (H : Heap) (h : Topo H s T) : CallsH Tryz.prog n_16 #[.slice s.p s.n s.c, .bool high] H (NeedsR T high H) := by
 refine F_16_ok _ _ ?_
 unfold F_16
 refine (rVal_spec T s H h).mono ?_
 rintro v H1 ⟨rfl, e1⟩
 refine ⟨_, rfl, iteB_not (fun c => .bad (by simpa using c) e1) (fun c => ?_)⟩
 have hv : ValidT T := by simpa using c
 have hl64 := hv.1
 have hsn := h.len
 refine letV_mk ((T.length : Int) - 1) (by rw [hsn, i64_in (by omega)]) ⟨fun al b i H' => ∃ k : Nat, i = (T.length : Int) - 1 - k /\ k <= T.length /\ RNI T high H k al b H', fun _ _ i _ => (i + 1).toNat, ⟨0, by simp, by omega, rfl, Own.nil _ _ _ _, e1, fun j h1 h2 => by omega⟩, ?_⟩
 rintro al b i H4 ⟨k, rfl, hk, h4⟩
 obtain rfl : b = false := h4.1
 by_cases hkT : k = T.length
 ·subst hkT
  unfold F_16_r5
  refine iteB_neg (by simp; omega) ?_
  obtain ⟨_, o4, e4, hno⟩ := h4
  rw [allFrom_all] at o4
  refine .good al hv ?_ o4 (Own.len rkNeed o4) e4
  rintro ⟨j, hj, ho⟩
  exact hno j (by omega) hj ho
 ·have he : (T.length : Int) - 1 - k = ((T.length - 1 - k : Nat) : Int) := by omega
  rw [he]
  exact rneeds_round h hv (by omega) rfl h4 rfl rfl

end Go.Proofs.YtnhhncjflnlfaaaGreat
end
