/-
  The contracts of WindowSize, the program's and the reference's.
-/
import Derived.Test.YtfodidlecpiohaaR1
namespace Go.Proofs.Ytfodidlecpiohaa
open Go.Eng

theorem take_succ_getD {l : List Int} {k : Nat} (h : k < l.length) : l.take (k + 1) = l.take k ++ [l.getD k 0] := by
  rw [List.take_add_one]
  simp [List.getD, h]

theorem pw_code {x : Int} (h : 0 ≤ x ∧ x ≤ 44) : IntKind.u64.wrap ((1 : Int) * 2 ^ (min x.toNat IntKind.u64.bits)) = 2 ^ x.toNat := by
  have hp := pow44 h
  rw [Nat.min_eq_left (by show x.toNat ≤ 64; omega), Int.one_mul]
  exact u64_in (by omega)

theorem InS.take {l : List Int} {k : Nat} (h : InS (l.take k)) (hk : k < l.length) (hx : 0 ≤ l.getD k 0 ∧ l.getD k 0 ≤ 44) : InS (l.take (k + 1)) := by
  rw [take_succ_getD hk]
  intro x hm
  simp only [List.mem_append, List.mem_singleton] at hm
  rcases hm with hm | rfl
  · exact h x hm
  · exact hx

theorem inS_at {l : List Int} (h : InS l) {k : Nat} (hk : k < l.length) : 0 ≤ l.getD k 0 ∧ l.getD k 0 ≤ 44 := h _ (by simp [List.getD, hk])

theorem WindowSize_spec (H : Heap) (s : Sl) (l : List Int) (c : Int) (hot : Bool) (h : Ints .i64 H s l) (hl9 : l.length ≤ 9223372036854775807) :
    CallsH Try.prog n_resources_WindowSize #[.slice s.p s.n s.c, .int .i64 c, .bool hot] H (fun v H' => v = wszV l c hot ∧ H' = H) := by
  refine F_resources_WindowSize_ok _ _ _ ?_
  unfold F_resources_WindowSize
  have hn := h.len
  have no : ¬ WOk l c hot → (.tuple #[.int .i64 0, .bool false] : Value) = wszV l c hot ∧ H = H := fun hh => ⟨(wsz_no hh).symm, rfl⟩
  refine ⟨fun H' => H' = H ∧ ¬ (l = [] ∧ hot = false) ∧ l.length ≤ 1024 ∧ (0 ≤ c ∧ c < 3), ?_, ?_⟩
  · have tl : (¬ (l = [] ∧ hot = false)) → iteB (decide ((s.n : Int) > (1024 : Int))) ((.tuple #[.int .i64 (0 : Int), .bool false] : Value) = wszV l c hot ∧ H = H) (iteB (decide (c < (0 : Int))) ((.tuple #[.int .i64 (0 : Int), .bool false] : Value) = wszV l c hot ∧ H = H) (iteB (decide (c ≥ (3 : Int))) ((.tuple #[.int .i64 (0 : Int), .bool false] : Value) = wszV l c hot ∧ H = H) (H = H ∧ ¬ (l = [] ∧ hot = false) ∧ l.length ≤ 1024 ∧ (0 ≤ c ∧ c < 3)))) := fun h1 =>
      iteB_d (fun c1 => no (fun hw => by have := hw.2.1; omega)) (fun c1 => iteB_d (fun c2 => no (fun hw => by have := hw.2.2.1; omega)) (fun c2 => iteB_d (fun c3 => no (fun hw => by have := hw.2.2.1; omega)) (fun c3 => ⟨rfl, h1, by omega, by omega⟩)))
    refine iteB_beq (fun c0 => iteB_not (fun c1 => no (fun hw => hw.1 ⟨List.eq_nil_of_length_eq_zero (by omega), c1⟩)) (fun c1 => tl (fun hh => by rw [hh.2] at c1; cases c1))) (fun c0 => tl (fun hh => c0 (by rw [hn, hh.1]; rfl)))
  rintro H1 ⟨rfl, hne, hlen, hc⟩
  unfold F_resources_WindowSize_k4
  refine loop2 l.length (fun k sum H' => H' = H1 ∧ sum = sumW (l.take k) ∧ InS (l.take k)) ⟨rfl, rfl, fun x hx => by simp at hx⟩ ?_
  rintro k sum H2 hk ⟨rfl, rfl, hin⟩
  unfold F_resources_WindowSize_r3
  have hsum := sum_lt hin (by simp; omega)
  have hs0 := (sumW_range hin).1
  refine iteB_d (fun c1 => ?_) (fun c1 => ?_)
  · have hkn : k < l.length := by omega
    obtain ⟨a, hp, hr⟩ := Ints.atN h hkn
    refine ⟨by omega, by omega, unSome_mk hp ⟨_, hr, iteB_d (fun c2 => no (fun hw => by have := inS_at hw.2.2.2 hkn; omega)) (fun c2 => iteB_d (fun c3 => no (fun hw => by have := inS_at hw.2.2.2 hkn; omega)) (fun c3 => ?_))⟩⟩
    have hx : 0 ≤ l.getD k 0 ∧ l.getD k 0 ≤ 44 := by omega
    have hp44 := pow44 hx
    refine ⟨by omega, letV_mk (sumW (l.take (k + 1))) ?_ (next2 hkn (by omega) ⟨rfl, rfl, hin.take hkn hx⟩)⟩
    rw [pw_code hx, take_succ_getD hkn, sumW_append]
    exact u64_in (by omega)
  · have hkl : k = l.length := by omega
    subst hkl
    rw [List.take_length] at *
    have hok : WOk l c hot := ⟨hne, hlen, hc, hin⟩
    refine ⟨fun sm sp H' => H' = H2 ∧ sm = (if c = 0 then 12 else 20) ∧ sp = (if c = 0 then 12 else 22), iteB_beq (fun d => ⟨rfl, by rw [if_pos d], by rw [if_pos d]⟩) (fun d => ⟨rfl, by rw [if_neg d], by rw [if_neg d]⟩), ?_⟩
    rintro sm sp H3 ⟨rfl, hsm, hsp⟩
    unfold F_resources_WindowSize_k2
    refine ⟨fun w H' => H' = H3 ∧ w = (least c hot : Int), iteB_intro (fun d => letV_mk (least c hot : Int) ?_ ⟨rfl, rfl⟩) (fun d => ⟨rfl, ?_⟩), ?_⟩
    · unfold least
      by_cases c0 : c = 0
      · rw [hsm, hsp, if_pos c0, if_pos c0, if_pos c0]; rfl
      · rw [hsm, hsp, if_neg c0, if_neg c0, if_neg c0, if_pos d]; rfl
    · unfold least
      by_cases c0 : c = 0
      · rw [hsm, if_pos c0, if_pos c0]; rfl
      · rw [hsm, if_neg c0, if_neg c0, if_neg (by rw [d]; simp)]; rfl
    rintro w H4 ⟨rfl, rfl⟩
    unfold F_resources_WindowSize_k1
    refine iteB_d (fun d => ?_) (fun d => ?_)
    · rw [u64_in (n := sumW l - 1) (by omega)]
      refine (Len64_spec (sumW l - 1) H4 (by omega) (by omega)).mono ?_
      rintro v H5 ⟨L, rfl, hL, rfl⟩
      refine ⟨_, rfl, letV_mk ((max (least c hot) L : Nat) : Int) ?_ ⟨(wsz_of hok (isW_of_bl hL (by omega))).symm, rfl⟩⟩
      split <;> omega
    · have h0 : sumW l = 0 := by omega
      refine ⟨(wsz_of hok ⟨Nat.le_refl _, ?_, .inl rfl⟩).symm, rfl⟩
      rw [h0]
      exact Int.le_of_lt (Int.pow_pos (by omega))

theorem rWindowSize_spec (H : Heap) (s : Sl) (l : List Int) (c : Int) (hot : Bool) (h : Ints .i64 H s l) (hl9 : l.length ≤ 9223372036854775807) :
    CallsH Try.prog n_ref18_WindowSize #[.slice s.p s.n s.c, .int .i64 c, .bool hot] H (fun v H' => v = wszV l c hot ∧ H' = H) := by
  refine F_ref18_WindowSize_ok _ _ _ ?_
  unfold F_ref18_WindowSize
  have hn := h.len
  have no : ¬ WOk l c hot → (.tuple #[.int .i64 0, .bool false] : Value) = wszV l c hot ∧ H = H := fun hh => ⟨(wsz_no hh).symm, rfl⟩
  refine ⟨fun H' => H' = H ∧ ¬ (l = [] ∧ hot = false) ∧ l.length ≤ 1024 ∧ (0 ≤ c ∧ c < 3), ?_, ?_⟩
  · refine iteB_d (fun c1 => no (fun hw => by have := hw.2.2.1; omega)) (fun c1 => iteB_d (fun c2 => no (fun hw => by have := hw.2.2.1; omega)) (fun c2 => iteB_d (fun c3 => no (fun hw => by have := hw.2.1; omega)) (fun c3 => ?_)))
    refine iteB_beq (fun c0 => iteB_not (fun c1 => no (fun hw => hw.1 ⟨List.eq_nil_of_length_eq_zero (by omega), c1⟩)) (fun c1 => ⟨rfl, fun hh => (by rw [hh.2] at c1; cases c1), by omega, by omega⟩)) (fun c0 => ⟨rfl, fun hh => c0 (by rw [hn, hh.1]; rfl), by omega, by omega⟩)
  rintro H1 ⟨rfl, hne, hlen, hc⟩
  unfold F_ref18_WindowSize_k6
  refine loop2 l.length (fun k sum H' => H' = H1 ∧ sum = sumW (l.take k) ∧ InS (l.take k)) ⟨rfl, rfl, fun x hx => by simp at hx⟩ ?_
  rintro k sum H2 hk ⟨rfl, rfl, hin⟩
  unfold F_ref18_WindowSize_r5
  have hsum := sum_lt hin (by simp; omega)
  have hs0 := (sumW_range hin).1
  refine iteB_d (fun c1 => ?_) (fun c1 => ?_)
  · have hkn : k < l.length := by omega
    obtain ⟨a, hp, hr⟩ := Ints.atN h hkn
    refine ⟨by omega, by omega, unSome_mk hp ⟨_, hr, iteB_d (fun c2 => no (fun hw => by have := inS_at hw.2.2.2 hkn; omega)) (fun c2 => ⟨by omega, by omega, unSome_mk hp ⟨_, hr, iteB_d (fun c3 => no (fun hw => by have := inS_at hw.2.2.2 hkn; omega)) (fun c3 => ⟨by omega, by omega, unSome_mk hp ⟨_, hr, ?_⟩⟩)⟩⟩)⟩⟩
    have hx : 0 ≤ l.getD k 0 ∧ l.getD k 0 ≤ 44 := by omega
    have hp44 := pow44 hx
    rw [u64_in (n := l.getD k 0) (by omega)]
    refine ⟨by omega, letV_mk (sumW (l.take (k + 1))) ?_ (letV_mk _ rfl (next2 hkn (by omega) ⟨rfl, rfl, hin.take hkn hx⟩))⟩
    rw [pw_code hx, take_succ_getD hkn, sumW_append]
    exact u64_in (by omega)
  · have hkl : k = l.length := by omega
    subst hkl
    rw [List.take_length] at *
    have hok : WOk l c hot := ⟨hne, hlen, hc, hin⟩
    refine ⟨fun w H' => H' = H2 ∧ w = (if c = 0 then 12 else 20), iteB_beq (fun d => ⟨rfl, by rw [if_pos d]⟩) (fun d => ⟨rfl, by rw [if_neg d]⟩), ?_⟩
    rintro w H3 ⟨rfl, hw⟩
    unfold F_ref18_WindowSize_k4
    refine ⟨fun w H' => H' = H3 ∧ w = (least c hot : Int), ⟨fun x H' => H' = H3 ∧ x = (hot && (c == 0)), iteB_intro (fun d => ⟨rfl, by rw [d]; rfl⟩) (fun d => ⟨rfl, by rw [d]; rfl⟩), ?_⟩, ?_⟩
    · rintro x H4 ⟨rfl, hx⟩
      unfold F_ref18_WindowSize_k1
      refine iteB_intro (fun d => letV_mk (least c hot : Int) ?_ ⟨rfl, rfl⟩) (fun d => iteB_intro (fun d2 => letV_mk (least c hot : Int) ?_ ⟨rfl, rfl⟩) (fun d2 => ⟨rfl, ?_⟩))
      · rw [d] at hx
        have : hot = true ∧ c = 0 := by simpa using hx.symm
        unfold least
        rw [hw, if_pos this.2, if_pos this.2]; rfl
      · rw [d, d2] at hx
        have hc0 : c ≠ 0 := fun e => by rw [e] at hx; simp at hx
        unfold least
        rw [hw, if_neg hc0, if_neg hc0, if_pos d2]; rfl
      · unfold least
        by_cases c0 : c = 0
        · rw [hw, if_pos c0, if_pos c0]; rfl
        · rw [hw, if_neg c0, if_neg c0, if_neg (by rw [d2]; simp)]; rfl
    rintro w3 H5 ⟨rfl, rfl⟩
    unfold F_ref18_WindowSize_k3
    have hle : least c hot ≤ 22 := by unfold least; split <;> (try split) <;> omega
    refine ⟨fun w H' => H' = H5 ∧ ∃ m : Nat, w = m ∧ least c hot ≤ m ∧ m ≤ 55 ∧ (m = least c hot ∨ (2 : Int) ^ (m - 1) < sumW l), fun w _ => (100 - w).toNat, ⟨rfl, least c hot, rfl, Nat.le_refl _, by omega, .inl rfl⟩, ?_⟩
    rintro w4 H6 ⟨rfl, m, rfl, hm1, hm2, hm3⟩
    unfold F_ref18_WindowSize_r2
    have hu : IntKind.u64.wrap ((m : Nat) : Int) = m := u64_in (by omega)
    rw [hu]
    have hpw : IntKind.u64.wrap ((1 : Int) * 2 ^ (min ((m : Nat) : Int).toNat IntKind.u64.bits)) = 2 ^ m := by
      rw [Int.toNat_natCast, Nat.min_eq_left (by show m ≤ 64; omega), Int.one_mul]
      have h1 := pow_mono (a := m) (b := 55) (by omega)
      have h2 : (2 : Int) ^ 55 = 36028797018963968 := by decide
      have h3 : (0 : Int) < 2 ^ m := Int.pow_pos (by omega)
      exact u64_in (by omega)
    rw [hpw]
    refine ⟨by omega, iteB_d (fun d => letV_mk ((m + 1 : Nat) : Int) (i64_succ (by omega)) ⟨⟨rfl, m + 1, rfl, by omega, ?_, .inr (by simpa using d)⟩, by dsimp only; omega⟩) (fun d => ⟨(wsz_of hok ⟨hm1, by omega, hm3⟩).symm, rfl⟩)⟩
    have h2 : (2 : Int) ^ 54 = 18014398509481984 := by decide
    by_cases hm54 : m ≤ 54
    · omega
    · have := pow_mono (a := 54) (b := m) (by omega)
      omega

end Go.Proofs.Ytfodidlecpiohaa
