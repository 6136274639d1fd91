/-
  Contracts of the slot's functions and of the two laws, over the shallow readings.
-/
import Derived.Test.YtdiopeomnpfiaaaW
import Derived.Test.YtdiopeomnpfiaaaEngU
namespace Go.Proofs.Ytdiopeomnpfiaaa
open Go.Eng

theorem Mod_spec (v n : Int) (H : Heap) (hn : 0 < n) (hn2 : n ≤ 9223372036854775807) :
    CallsH Try.prog n_help_Mod #[.int .i64 v, .int .i64 n] H (fun r H' => (∃ x : Int, r = .int .i64 x ∧ 0 ≤ x ∧ x < n) ∧ H' = H) := by
  refine F_help_Mod_ok v n ?_
  unfold F_help_Mod
  have hw : IntKind.u64.wrap n = n := u64_in (by omega)
  rw [hw]
  have h0 := u64_nonneg v
  rw [Int.tmod_eq_emod_of_nonneg h0]
  have h1 := Int.emod_nonneg (IntKind.u64.wrap v) (show n ≠ 0 by omega)
  have h2 := Int.emod_lt_of_pos (IntKind.u64.wrap v) hn
  refine ⟨by omega, letV_mk _ rfl ?_⟩
  rw [i64_in (by omega)]
  exact ⟨⟨_, rfl, h1, h2⟩, rfl⟩

theorem Equal_int_spec (H : Heap) (a b : Sl) (la lb : List Int) (ha : IsI .i64 H a la) (hb : IsI .i64 H b lb) (hl : la.length ≤ 9223372036854775806) :
    CallsH Try.prog n_help_Equal_int #[.slice a.p a.n a.c, .slice b.p b.n b.c] H (fun r H' => r = .bool (la == lb) ∧ H' = H) := by
  refine F_help_Equal_int_ok a b ?_
  unfold F_help_Equal_int
  refine iteB_intro (fun h => ?_) (fun h => ?_)
  · refine ⟨?_, rfl⟩
    have hne : la.length ≠ lb.length := by
      rw [ha.len, hb.len] at h
      simp at h
      omega
    have : (la == lb) = false := by
      rw [beq_eq_false_iff_ne]; intro e; rw [e] at hne; exact hne rfl
    rw [this]
  · have hlen : la.length = lb.length := by
      rw [ha.len, hb.len] at h
      simp at h
      omega
    refine ⟨fun i H' => H' = H ∧ ∃ k : Nat, i = k ∧ k ≤ la.length ∧ la.take k = lb.take k, fun i _ => la.length - i.toNat, ⟨rfl, 0, rfl, Nat.zero_le _, by simp⟩, ?_⟩
    rintro i H1 ⟨rfl, k, rfl, hk, ht⟩
    unfold F_help_Equal_int_r1
    refine iteB_intro (fun h1 => ?_) (fun h1 => ?_)
    · have hlt : k < la.length := by rw [ha.len] at h1; simpa using h1
      have hlt2 : k < lb.length := by omega
      obtain ⟨a1, hp1, hr1⟩ := ha.get hlt
      obtain ⟨b1, hp2, hr2⟩ := hb.get hlt2
      refine ⟨by omega, by rw [ha.len]; omega, unSome_mk hp1 ⟨_, by simpa using hr1, by omega, by rw [hb.len]; omega, unSome_mk hp2 ⟨_, by simpa using hr2, ?_⟩⟩⟩
      refine iteB_intro (fun h2 => ?_) (fun h2 => ?_)
      · refine ⟨?_, rfl⟩
        have : (la == lb) = false := by
          rw [beq_eq_false_iff_ne]; intro e; subst e; simp at h2
        rw [this]
      · have e : la[k] = lb[k] := by simpa using h2
        refine letV_mk (k + 1 : Int) (i64_in (by omega)) ⟨⟨rfl, k + 1, by simp, by omega, ?_⟩, by simp only [Int.toNat_natCast]; omega⟩
        rw [List.take_succ_eq_append_getElem hlt, List.take_succ_eq_append_getElem hlt2, ht, e]
    · have hge : k = la.length := by rw [ha.len] at h1; simp at h1; omega
      refine ⟨?_, rfl⟩
      subst hge
      have : la = lb := by
        rw [List.take_of_length_le (Nat.le_refl _), hlen, List.take_of_length_le (Nat.le_refl _)] at ht
        exact ht
      subst this
      simp

/-! ### the slot -/

def slotO (t : TypeId) (st dl gd : Int) : Obj := .cells #[.int .i64 st, .int .u64 dl, .int .u64 gd] t (0, 0)

theorem slot_rd0 {H : Heap} {b : Nat} {t : TypeId} {st dl gd : Int} (h : H[b]? = some (slotO t st dl gd)) : rd H ⟨b, 0, none⟩ = some (.int .i64 st) := by rw [rd_mk h]; rfl
theorem slot_rd1 {H : Heap} {b : Nat} {t : TypeId} {st dl gd : Int} (h : H[b]? = some (slotO t st dl gd)) : rd H ((⟨b, 0, none⟩ : Addr).add 1) = some (.int .u64 dl) := by rw [add_mk, rd_mk h]; rfl
theorem slot_rd2 {H : Heap} {b : Nat} {t : TypeId} {st dl gd : Int} (h : H[b]? = some (slotO t st dl gd)) : rd H ((⟨b, 0, none⟩ : Addr).add 2) = some (.int .u64 gd) := by rw [add_mk, rd_mk h]; rfl
theorem slot_ok0 {H : Heap} {b : Nat} {t : TypeId} {st dl gd : Int} (h : H[b]? = some (slotO t st dl gd)) : okRow H ⟨b, 0, none⟩ 1 := okRow_mk h (by simp)
theorem slot_ok2 {H : Heap} {b : Nat} {t : TypeId} {st dl gd : Int} (h : H[b]? = some (slotO t st dl gd)) : okRow H ((⟨b, 0, none⟩ : Addr).add 2) 1 := by rw [add_mk]; exact okRow_mk h (by simp)
theorem slot_wr0 {H : Heap} {b : Nat} {t : TypeId} {st dl gd : Int} (x : Int) (h : H[b]? = some (slotO t st dl gd)) : (wrs H ⟨b, 0, none⟩ [.int .i64 x])[b]? = some (slotO t x dl gd) := by rw [wrs_get h]; rfl
theorem slot_wr2 {H : Heap} {b : Nat} {t : TypeId} {st dl gd : Int} (x : Int) (h : H[b]? = some (slotO t st dl gd)) : (wrs H ((⟨b, 0, none⟩ : Addr).add 2) [.int .u64 x])[b]? = some (slotO t st dl x) := by rw [add_mk, wrs_get h]; rfl
theorem upd_add {H : Heap} {b n : Nat} {vs : List Value} : Upd b H (wrs H ((⟨b, 0, none⟩ : Addr).add n) vs) := by rw [add_mk]; exact Upd.wrs (a := ⟨b, 0 + n, none⟩)
theorem upd_0 {H : Heap} {b : Nat} {vs : List Value} : Upd b H (wrs H ⟨b, 0, none⟩ vs) := Upd.wrs (a := ⟨b, 0, none⟩)

theorem enter_spec (b : Nat) (st dl gd st' : Int) (acts : Sl) (H : Heap) (h : H[b]? = some (slotO t_hotplug_Slot st dl gd)) :
    CallsH Try.prog n_hotplug_Slot_enter #[.pointer (some ⟨b, 0, none⟩), .int .i64 st', .slice acts.p acts.n acts.c] H (fun v H' =>
      v = .tuple #[.slice acts.p acts.n acts.c, .int .i64 0] ∧ H'[b]? = some (slotO t_hotplug_Slot st' dl (if st' = 3 then gd else 0)) ∧ Upd b H H') := by
  refine F_hotplug_Slot_enter_ok _ _ _ ?_
  unfold F_hotplug_Slot_enter
  refine ⟨slot_ok0 h, letH_mk ?_⟩
  rintro H1 rfl
  have h1 := slot_wr0 st' h
  refine iteB_intro (fun c => ?_) (fun c => ?_)
  · have c' : st' ≠ 3 := by simpa using c
    rw [if_neg c']
    refine ⟨slot_ok2 h1, letH_mk ?_⟩
    rintro H2 rfl
    exact ⟨rfl, slot_wr2 0 h1, upd_0.trans upd_add⟩
  · have c' : st' = 3 := by simpa using c
    rw [if_pos c']
    exact ⟨rfl, h1, upd_0⟩

def satSum (a b : Int) : Int := if a + b > 18446744073709551615 then 18446744073709551615 else a + b

theorem saturatingSum_spec (a b : Int) (H : Heap) (ha : 0 ≤ a ∧ a ≤ 18446744073709551615) (hb : 0 ≤ b ∧ b ≤ 18446744073709551615) :
    CallsH Try.prog n_hotplug_saturatingSum #[.int .u64 a, .int .u64 b] H (fun v H' => v = .int .u64 (satSum a b) ∧ H' = H) := by
  refine F_hotplug_saturatingSum_ok _ _ ?_
  unfold F_hotplug_saturatingSum satSum
  rw [u64_in (by omega)]
  refine iteB_intro (fun c => ?_) (fun c => ?_)
  · have c' : a > 18446744073709551615 - b := by simpa using c
    rw [if_pos (by omega)]
    exact ⟨rfl, rfl⟩
  · have c' : ¬ a > 18446744073709551615 - b := by simpa using c
    rw [if_neg (by omega)]
    exact letV_mk (a + b) (u64_in (by omega)) ⟨rfl, rfl⟩

theorem State_spec (b : Nat) (st dl gd : Int) (H : Heap) (h : H[b]? = some (slotO t_hotplug_Slot st dl gd)) :
    CallsH Try.prog n_hotplug_Slot_State #[.pointer (some ⟨b, 0, none⟩)] H (fun v H' => v = .int .i64 st ∧ H' = H) := by
  refine F_hotplug_Slot_State_ok _ ?_
  exact ⟨st, slot_rd0 h, rfl, rfl⟩

theorem NewSlot_no (present : Bool) (delay : Int) (H : Heap) (hd : delay > 4294967296) :
    CallsH Try.prog n_hotplug_NewSlot #[.bool present, .int .u64 delay] H (fun v H' => v = .tuple #[.pointer none, .int .i64 1] ∧ H' = H) := by
  refine F_hotplug_NewSlot_ok _ _ ?_
  exact iteB_pos (by simpa using hd) ⟨rfl, rfl⟩

theorem NewSlot_spec (present : Bool) (delay : Int) (H : Heap) (hd : delay ≤ 4294967296) :
    CallsH Try.prog n_hotplug_NewSlot #[.bool present, .int .u64 delay] H (fun v H' => v = .tuple #[.pointer (some ⟨H.size, 0, none⟩), .int .i64 0] ∧
      H'[H.size]? = some (slotO t_hotplug_Slot (if present then 2 else 1) delay 0) ∧ Ext H H' ∧ H'.size = H.size + 1) := by
  refine F_hotplug_NewSlot_ok _ _ ?_
  refine iteB_neg (by simpa using hd) (letH_mk ?_)
  rintro H1 rfl
  have h1 : (H.push (.cells #[.int .i64 (1 : Int), .int .u64 delay, .int .u64 (0 : Int)] t_hotplug_Slot (0, 0)))[H.size]? = some (slotO t_hotplug_Slot 1 delay 0) := push_new _ _
  cases present with
  | true =>
    refine ⟨slot_ok0 h1, letH_mk ?_⟩
    rintro H2 rfl
    exact ⟨rfl, slot_wr0 2 h1, Upd.ext (Ext.push H _) upd_0 (Nat.le_refl _), by rw [wrs_size]; simp⟩
  | false => exact ⟨rfl, h1, Ext.push H _, by simp⟩

theorem refNewSlot_spec (present : Bool) (delay : Int) (H : Heap) :
    CallsH Try.prog n_ref21_NewSlot #[.bool present, .int .u64 delay] H (fun v H' => v = .pointer (some ⟨H.size, 0, none⟩) ∧
      H'[H.size]? = some (slotO t_ref21_Slot (if present then 2 else 1) delay 0) ∧ Ext H H' ∧ H'.size = H.size + 1) := by
  refine F_ref21_NewSlot_ok _ _ (letH_mk ?_)
  rintro H1 rfl
  have h1 : (H.push (.cells #[.int .i64 (1 : Int), .int .u64 delay, .int .u64 (0 : Int)] t_ref21_Slot (0, 0)))[H.size]? = some (slotO t_ref21_Slot 1 delay 0) := push_new _ _
  cases present with
  | true =>
    refine ⟨slot_ok0 h1, letH_mk ?_⟩
    rintro H2 rfl
    exact ⟨rfl, slot_wr0 2 h1, Upd.ext (Ext.push H _) upd_0 (Nat.le_refl _), by rw [wrs_size]; simp⟩
  | false => exact ⟨rfl, h1, Ext.push H _, by simp⟩

/-- What an event does: the new state and the actions. -/
def hS (st ev : Int) : Option (Int × List Int) :=
  if ev = 1 then (if st = 1 then some (2, []) else none)
  else if ev = 3 then (if st = 2 ∨ st = 6 then some (3, [1]) else none)
  else if ev = 4 then (if st = 4 then some (5, [4]) else if st = 3 then some (2, [2]) else none)
  else if ev = 5 then (if st = 5 then some (2, [5, 2]) else none)
  else if ev = 2 then (if st = 2 ∨ st = 6 then some (1, []) else if st = 3 then some (1, [2]) else if st = 4 ∨ st = 5 then some (1, [5, 2]) else none)
  else if ev = 6 then (if st = 3 then some (6, [2]) else if st = 4 ∨ st = 5 then some (6, [5, 2]) else none)
  else none

def hErr (st ev : Int) : Int := if (hS st ev).isSome then 0 else if 1 ≤ ev ∧ ev ≤ 6 then 9 else 1
def hSt (st ev : Int) : Int := ((hS st ev).map (·.1)).getD st
def hActs (st ev : Int) : List Int := ((hS st ev).map (·.2)).getD []

/-- A call of 'enter' behind the actions' slice literal. -/
theorem enter_lit (b : Nat) (st dl gd st' : Int) (l : List Int) (n : Nat) (hn : n = l.length) (H : Heap) (h : H[b]? = some (slotO t_hotplug_Slot st dl gd)) :
    CallsH Try.prog n_hotplug_Slot_enter #[.pointer (some ⟨b, 0, none⟩), .int .i64 st', .slice (some ⟨H.size, 0, none⟩) n n] (H.push (.cells (l.map (Value.int .i64)).toArray t_int (0, 0))) (fun v H' =>
      ∃ s : Sl, ∃ e : Int, v = .tuple #[.slice s.p s.n s.c, .int .i64 e] ∧ e = 0 ∧ (IsI .i64 H' s l ∧ NewP H.size s.p) ∧ H'[b]? = some (slotO t_hotplug_Slot st' dl (if st' = 3 then gd else 0)) ∧ Upd b H H') := by
  have hb := get_lt h
  have h1 : (H.push (.cells (l.map (Value.int .i64)).toArray t_int (0, 0)))[b]? = some (slotO t_hotplug_Slot st dl gd) := by rw [push_lt hb]; exact h
  refine (enter_spec b st dl gd st' ⟨some ⟨H.size, 0, none⟩, n, n⟩ _ h1).mono ?_
  rintro v H' ⟨rfl, g1, g2⟩
  refine ⟨⟨some ⟨H.size, 0, none⟩, n, n⟩, 0, rfl, rfl, ⟨IsI.lit (e := t_int) (f := (0, 0)) ?_ hn, NewP.some (Nat.le_refl _)⟩, g1, (Ext.push H _).upd.trans g2⟩
  rw [g2.get H.size (by simp) (by omega)]
  exact push_new _ _

theorem enter_nil (b : Nat) (st dl gd st' : Int) (H : Heap) (h : H[b]? = some (slotO t_hotplug_Slot st dl gd)) :
    CallsH Try.prog n_hotplug_Slot_enter #[.pointer (some ⟨b, 0, none⟩), .int .i64 st', .slice none 0 0] H (fun v H' =>
      ∃ s : Sl, ∃ e : Int, v = .tuple #[.slice s.p s.n s.c, .int .i64 e] ∧ e = 0 ∧ (IsI .i64 H' s [] ∧ NewP H.size s.p) ∧ H'[b]? = some (slotO t_hotplug_Slot st' dl (if st' = 3 then gd else 0)) ∧ Upd b H H') := by
  refine (enter_spec b st dl gd st' ⟨none, 0, 0⟩ _ h).mono ?_
  rintro v H' ⟨rfl, g1, g2⟩
  exact ⟨⟨none, 0, 0⟩, 0, rfl, rfl, ⟨IsI.nil _ _, NewP.none _⟩, g1, g2⟩

/-- What is said of a call of Handle. -/
def HandlePost (t : TypeId) (b : Nat) (st dl gd ev now : Int) (H : Heap) (v : Value) (H' : Heap) : Prop :=
  ∃ s : Sl, ∃ gd' : Int, v = .tuple #[.slice s.p s.n s.c, .int .i64 (hErr st ev)] ∧ (IsI .i64 H' s (hActs st ev) ∧ NewP H.size s.p) ∧ H'[b]? = some (slotO t (hSt st ev) dl gd') ∧ Upd b H H' ∧
    (hSt st ev = 3 → gd' = if st = 3 then gd else satSum now dl)

theorem Handle_spec (b : Nat) (st dl gd ev now : Int) (H : Heap) (h : H[b]? = some (slotO t_hotplug_Slot st dl gd)) (hst : 1 ≤ st ∧ st ≤ 6)
    (hnow : 0 ≤ now ∧ now ≤ 18446744073709551615) (hdl : 0 ≤ dl ∧ dl ≤ 4294967296) :
    CallsH Try.prog n_hotplug_Slot_Handle #[.pointer (some ⟨b, 0, none⟩), .int .i64 ev, .int .u64 now] H (HandlePost t_hotplug_Slot b st dl gd ev now H) := by
  have no : hS st ev = none → 1 ≤ ev ∧ ev ≤ 6 → HandlePost t_hotplug_Slot b st dl gd ev now H (.tuple #[.slice none 0 0, .int .i64 (9 : Int)]) H := by
    intro h1 h2
    refine ⟨⟨none, 0, 0⟩, gd, by simp [hErr, h1, h2], ⟨by simp only [hActs, h1]; exact IsI.nil _ _, NewP.none _⟩, by simpa [hSt, h1] using h, Upd.refl _ _, ?_⟩
    intro h3
    simp [hSt, h1] at h3
    simp [h3]
  have yes : ∀ (H' : Heap) (s : Sl) (st' : Int) (l : List Int) (g : Int), hS st ev = some (st', l) → (IsI .i64 H' s l ∧ NewP H.size s.p) → H'[b]? = some (slotO t_hotplug_Slot st' dl (if st' = 3 then g else 0)) → Upd b H H' →
      (st' = 3 → g = if st = 3 then gd else satSum now dl) →
      HandlePost t_hotplug_Slot b st dl gd ev now H (.tuple #[.slice s.p s.n s.c, .int .i64 0]) H' := by
    intro H' s st' l g h1 h2 h3 h4 h5
    refine ⟨s, _, by simp [hErr, h1], ⟨by simpa [hActs, h1] using h2.1, h2.2⟩, by simpa [hSt, h1] using h3, h4, ?_⟩
    intro h6
    have h7 : st' = 3 := by simpa [hSt, h1] using h6
    rw [if_pos h7]
    exact h5 h7
  refine F_hotplug_Slot_Handle_ok _ _ _ ?_
  unfold F_hotplug_Slot_Handle
  have r0 := slot_rd0 h
  have e1 : st = 1 ∨ st = 2 ∨ st = 3 ∨ st = 4 ∨ st = 5 ∨ st = 6 := by omega
  refine iteB_intro (fun c => ?_) (fun c1 => ?_)
  · have c' : ev = 1 := by simpa using c
    subst c'
    refine ⟨st, r0, iteB_intro (fun c => ?_) (fun c => ?_)⟩
    · have c' : st = 1 := by simpa using c
      subst c'
      refine (enter_nil b _ dl gd 2 H h).mono ?_
      rintro v H' ⟨s, e, rfl, rfl, g1, g2, g3⟩
      exact ⟨s, 0, rfl, yes H' s 2 [] gd rfl g1 g2 g3 (by omega)⟩
    · have c' : st ≠ 1 := by simpa using c
      exact no (by simp [hS, c']) (by omega)
  have b1 : ev ≠ 1 := by simpa using c1
  refine iteB_intro (fun c => ?_) (fun c3 => ?_)
  · have c' : ev = 3 := by simpa using c
    subst c'
    refine ⟨st, r0, fun x H' => H' = H ∧ x = decide (st = 2 ∨ st = 6), ?_, ?_⟩
    · refine iteB_intro (fun c => ⟨rfl, ?_⟩) (fun c => ⟨rfl, ?_⟩)
      · simp at c; simp [c]
      · simp at c; simp [c]; rfl
    · rintro x H' ⟨rfl, rfl⟩
      unfold F_hotplug_Slot_Handle_k1
      refine iteB_intro (fun c => ?_) (fun c => ?_)
      · have c' : st = 2 ∨ st = 6 := by simpa using c
        refine ⟨dl, slot_rd1 h, (saturatingSum_spec now dl H' hnow (by omega)).mono ?_⟩
        rintro v H1 ⟨rfl, rfl⟩
        refine ⟨_, rfl, slot_ok2 h, letH_mk ?_⟩
        rintro H2 rfl
        refine letH_mk ?_
        rintro H3 rfl
        refine (enter_lit b st dl (satSum now dl) 3 [1] 1 rfl _ (slot_wr2 _ h)).mono ?_
        rintro v H' ⟨s, e, rfl, rfl, g1, g2, g3⟩
        exact ⟨s, 0, rfl, yes H' s 3 [1] _ (by simp [hS, c']) (by rw [wrs_size] at g1; exact g1) g2 (upd_add.trans g3) (by intro _; rw [if_neg (by omega)])⟩
      · have c' : ¬ (st = 2 ∨ st = 6) := by simpa using c
        exact no (by simp [hS, c']) (by omega)
  have b3 : ev ≠ 3 := by simpa using c3
  refine iteB_intro (fun c => ?_) (fun c4 => ?_)
  · have c' : ev = 4 := by simpa using c
    subst c'
    refine ⟨st, r0, iteB_intro (fun c => ?_) (fun c => ?_)⟩
    · have c' : st = 4 := by simpa using c
      subst c'
      refine letH_mk ?_
      rintro H1 rfl
      refine (enter_lit b _ dl gd 5 [4] 1 rfl _ h).mono ?_
      rintro v H' ⟨s, e, rfl, rfl, g1, g2, g3⟩
      exact ⟨s, 0, rfl, yes H' s 5 [4] gd rfl g1 g2 g3 (by omega)⟩
    · have n4 : st ≠ 4 := by simpa using c
      refine iteB_intro (fun c => ?_) (fun c => ?_)
      · have c' : st = 3 := by simpa using c
        subst c'
        refine letH_mk ?_
        rintro H1 rfl
        refine (enter_lit b _ dl gd 2 [2] 1 rfl _ h).mono ?_
        rintro v H' ⟨s, e, rfl, rfl, g1, g2, g3⟩
        exact ⟨s, 0, rfl, yes H' s 2 [2] gd rfl g1 g2 g3 (by omega)⟩
      · have n3 : st ≠ 3 := by simpa using c
        exact no (by simp [hS, n3, n4]) (by omega)
  have b4 : ev ≠ 4 := by simpa using c4
  refine iteB_intro (fun c => ?_) (fun c5 => ?_)
  · have c' : ev = 5 := by simpa using c
    subst c'
    refine ⟨st, r0, iteB_intro (fun c => ?_) (fun c => ?_)⟩
    · have c' : st = 5 := by simpa using c
      subst c'
      refine letH_mk ?_
      rintro H1 rfl
      refine (enter_lit b _ dl gd 2 [5, 2] 2 rfl _ h).mono ?_
      rintro v H' ⟨s, e, rfl, rfl, g1, g2, g3⟩
      exact ⟨s, 0, rfl, yes H' s 2 [5, 2] gd rfl g1 g2 g3 (by omega)⟩
    · have n5 : st ≠ 5 := by simpa using c
      exact no (by simp [hS, n5]) (by omega)
  have b5 : ev ≠ 5 := by simpa using c5
  refine iteB_intro (fun c => ?_) (fun c2 => ?_)
  · have c' : ev = 2 := by simpa using c
    subst c'
    refine ⟨st, r0, fun x H' => H' = H ∧ x = decide (st = 2 ∨ st = 6), ?_, ?_⟩
    · refine iteB_intro (fun c => ⟨rfl, ?_⟩) (fun c => ⟨rfl, ?_⟩)
      · simp at c; simp [c]
      · simp at c; simp [c]; rfl
    · rintro x H' ⟨rfl, rfl⟩
      unfold F_hotplug_Slot_Handle_k3
      refine iteB_intro (fun c => ?_) (fun c => ?_)
      · have c' : st = 2 ∨ st = 6 := by simpa using c
        refine (enter_nil b _ dl gd 1 _ h).mono ?_
        rintro v H1 ⟨s, e, rfl, rfl, g1, g2, g3⟩
        exact ⟨s, 0, rfl, yes H1 s 1 [] gd (by simp [hS, c']) g1 g2 g3 (by omega)⟩
      · have n26 : ¬ (st = 2 ∨ st = 6) := by simpa using c
        refine iteB_intro (fun c => ?_) (fun c => ?_)
        · have c' : st = 3 := by simpa using c
          refine letH_mk ?_
          rintro H1 rfl
          refine (enter_lit b _ dl gd 1 [2] 1 rfl _ h).mono ?_
          rintro v H1 ⟨s, e, rfl, rfl, g1, g2, g3⟩
          exact ⟨s, 0, rfl, yes H1 s 1 [2] gd (by simp [hS, c']) g1 g2 g3 (by omega)⟩
        · have n3 : st ≠ 3 := by simpa using c
          have c45 : st = 4 ∨ st = 5 ∨ st = 1 := by omega
          refine ⟨fun x H1 => H1 = H' ∧ x = decide (st = 4 ∨ st = 5), ?_, ?_⟩
          · refine iteB_intro (fun c => ⟨rfl, ?_⟩) (fun c => ⟨rfl, ?_⟩)
            · simp at c; simp [c]
            · simp at c; simp [c]; rfl
          · rintro x H1 ⟨rfl, rfl⟩
            unfold F_hotplug_Slot_Handle_k2
            refine iteB_intro (fun c => ?_) (fun c => ?_)
            · have c' : st = 4 ∨ st = 5 := by simpa using c
              refine letH_mk ?_
              rintro H2 rfl
              refine (enter_lit b _ dl gd 1 [5, 2] 2 rfl _ h).mono ?_
              rintro v H2 ⟨s, e, rfl, rfl, g1, g2, g3⟩
              exact ⟨s, 0, rfl, yes H2 s 1 [5, 2] gd (by simp [hS, c', n26, n3]) g1 g2 g3 (by omega)⟩
            · have c' : ¬ (st = 4 ∨ st = 5) := by simpa using c
              exact no (by simp [hS, c', n26, n3]) (by omega)
  have b2 : ev ≠ 2 := by simpa using c2
  refine iteB_intro (fun c => ?_) (fun c6 => ?_)
  · have c' : ev = 6 := by simpa using c
    subst c'
    refine ⟨st, r0, iteB_intro (fun c => ?_) (fun c => ?_)⟩
    · have c' : st = 3 := by simpa using c
      refine letH_mk ?_
      rintro H1 rfl
      refine (enter_lit b _ dl gd 6 [2] 1 rfl _ h).mono ?_
      rintro v H1 ⟨s, e, rfl, rfl, g1, g2, g3⟩
      exact ⟨s, 0, rfl, yes H1 s 6 [2] gd (by simp [hS, c']) g1 g2 g3 (by omega)⟩
    · have n3 : st ≠ 3 := by simpa using c
      refine ⟨fun x H1 => H1 = H ∧ x = decide (st = 4 ∨ st = 5), ?_, ?_⟩
      · refine iteB_intro (fun c => ⟨rfl, ?_⟩) (fun c => ⟨rfl, ?_⟩)
        · simp at c; simp [c]
        · simp at c; simp [c]; rfl
      · rintro x H1 ⟨rfl, rfl⟩
        unfold F_hotplug_Slot_Handle_k4
        refine iteB_intro (fun c => ?_) (fun c => ?_)
        · have c' : st = 4 ∨ st = 5 := by simpa using c
          refine letH_mk ?_
          rintro H2 rfl
          refine (enter_lit b _ dl gd 6 [5, 2] 2 rfl _ h).mono ?_
          rintro v H2 ⟨s, e, rfl, rfl, g1, g2, g3⟩
          exact ⟨s, 0, rfl, yes H2 s 6 [5, 2] gd (by simp [hS, c', n3]) g1 g2 g3 (by omega)⟩
        · have c' : ¬ (st = 4 ∨ st = 5) := by simpa using c
          exact no (by simp [hS, c', n3]) (by omega)
  have b6 : ev ≠ 6 := by simpa using c6
  have hn : hS st ev = none := by simp [hS, b1, b2, b3, b4, b5, b6]
  have he : ¬ (1 ≤ ev ∧ ev ≤ 6) := by omega
  refine ⟨⟨none, 0, 0⟩, gd, by simp [hErr, hn, he], ⟨by simp only [hActs, hn]; exact IsI.nil _ _, NewP.none _⟩, by simpa [hSt, hn] using h, Upd.refl _ _, ?_⟩
  intro h3
  simp [hSt, hn] at h3
  simp [h3]


theorem lit_i {H : Heap} {l : List Int} {n : Nat} (hn : n = l.length) : IsI .i64 (H.push (.cells (l.map (Value.int .i64)).toArray t_int (0, 0))) ⟨some ⟨H.size, 0, none⟩, n, n⟩ l :=
  IsI.lit (e := t_int) (f := (0, 0)) (push_new _ _) hn

theorem bor {p q : Prop} [Decidable p] [Decidable q] {a b : Bool} (ha : a = decide p) (hb : b = decide q) (H : Heap) {J : Bool → Heap → Prop} (hJ : ∀ x H', (H' = H ∧ x = decide (p ∨ q)) → J x H') :
    iteB a (J true H) (J b H) := by
  subst ha hb
  refine iteB_intro (fun c => hJ _ _ ⟨rfl, ?_⟩) (fun c => hJ _ _ ⟨rfl, ?_⟩)
  · simp at c; simp [c]
  · simp at c; simp [c]

theorem refHandle_spec (b : Nat) (st dl gd ev now : Int) (H : Heap) (h : H[b]? = some (slotO t_ref21_Slot st dl gd)) (hst : 1 ≤ st ∧ st ≤ 6)
    (hnow : 0 ≤ now ∧ now ≤ 18446744073709551615) (hdl : 0 ≤ dl ∧ dl ≤ 4294967296) :
    CallsH Try.prog n_ref21_Slot_Handle #[.pointer (some ⟨b, 0, none⟩), .int .i64 ev, .int .u64 now] H (HandlePost t_ref21_Slot b st dl gd ev now H) := by
  have yes : ∀ (H1 : Heap) (st' : Int) (l : List Int) (n : Nat) (g : Int), hS st ev = some (st', l) → n = l.length → H1[b]? = some (slotO t_ref21_Slot st' dl g) → Upd b H H1 →
      (st' = 3 → g = if st = 3 then gd else satSum now dl) →
      HandlePost t_ref21_Slot b st dl gd ev now H (.tuple #[.slice (some ⟨H1.size, 0, none⟩) n n, .int .i64 0]) (H1.push (.cells (l.map (Value.int .i64)).toArray t_int (0, 0))) := by
    intro H1 st' l n g h1 hn h3 h4 h5
    refine ⟨⟨some ⟨H1.size, 0, none⟩, n, n⟩, g, by simp [hErr, h1], ⟨by simpa [hActs, h1] using lit_i hn, NewP.some h4.size⟩, ?_, h4.trans (Ext.push _ _).upd, ?_⟩
    · rw [push_lt (get_lt h3)]
      simpa [hSt, h1] using h3
    · intro h6
      exact h5 (by simpa [hSt, h1] using h6)
  have yes0 : ∀ (H1 : Heap) (st' : Int) (g : Int), hS st ev = some (st', []) → H1[b]? = some (slotO t_ref21_Slot st' dl g) → Upd b H H1 → st' ≠ 3 →
      HandlePost t_ref21_Slot b st dl gd ev now H (.tuple #[.slice none 0 0, .int .i64 (0 : Int)]) H1 := by
    intro H1 st' g h1 h3 h4 h5
    refine ⟨⟨none, 0, 0⟩, g, by simp [hErr, h1], ⟨by simpa [hActs, h1] using IsI.nil .i64 H1, NewP.none _⟩, by simpa [hSt, h1] using h3, h4, ?_⟩
    intro h6
    exact absurd (by simpa [hSt, h1] using h6) h5
  have inv : ¬ (1 ≤ ev ∧ ev ≤ 6) → HandlePost t_ref21_Slot b st dl gd ev now H (.tuple #[.slice none 0 0, .int .i64 (1 : Int)]) H := by
    intro he
    have hn : hS st ev = none := by
      have g1 : ev ≠ 1 := by omega
      have g2 : ev ≠ 2 := by omega
      have g3 : ev ≠ 3 := by omega
      have g4 : ev ≠ 4 := by omega
      have g5 : ev ≠ 5 := by omega
      have g6 : ev ≠ 6 := by omega
      simp [hS, g1, g2, g3, g4, g5, g6]
    refine ⟨⟨none, 0, 0⟩, gd, by simp [hErr, hn, he], ⟨by simp only [hActs, hn]; exact IsI.nil _ _, NewP.none _⟩, by simpa [hSt, hn] using h, Upd.refl _ _, ?_⟩
    intro h3
    simp [hSt, hn] at h3
    simp [h3]
  refine F_ref21_Slot_Handle_ok _ _ _ ?_
  unfold F_ref21_Slot_Handle
  have r0 := slot_rd0 h
  refine iteB_intro (fun c => inv (by simp at c; omega)) (fun c1 => iteB_intro (fun c => inv (by simp at c; omega)) (fun c2 => ?_))
  have hev : 1 ≤ ev ∧ ev ≤ 6 := by simp at c1 c2; omega
  refine ⟨fun x H' => H' = H ∧ x = decide (st = 4 ∨ st = 5), ⟨st, r0, ?_⟩, ?_⟩
  · exact iteB_intro (fun c => ⟨rfl, by simp at c; simp [c]⟩) (fun c => ⟨st, r0, rfl, by simp at c; simp [c]; rfl⟩)
  rintro on H' ⟨rfl, rfl⟩
  unfold F_ref21_Slot_Handle_k10
  refine ⟨fun x H1 => H1 = H' ∧ x = decide (st = 2 ∨ st = 6), ⟨st, r0, ?_⟩, ?_⟩
  · exact iteB_intro (fun c => ⟨rfl, by simp at c; simp [c]⟩) (fun c => ⟨st, r0, rfl, by simp at c; simp [c]; rfl⟩)
  rintro off H1 ⟨rfl, rfl⟩
  unfold F_ref21_Slot_Handle_k9
  refine ⟨st, r0, fun x H2 => H2 = H1 ∧ x = decide (ev = 1 ∧ st = 1), ?_, ?_⟩
  · exact iteB_intro (fun c => ⟨st, r0, rfl, by simp at c; simp [c]; rfl⟩) (fun c => ⟨rfl, by simp at c; simp [c]⟩)
  rintro x6 H2 ⟨rfl, rfl⟩
  unfold F_ref21_Slot_Handle_k8
  refine iteB_intro (fun c => ?_) (fun d1 => ?_)
  · obtain ⟨rfl, rfl⟩ : ev = 1 ∧ st = 1 := by simpa using c
    refine ⟨slot_ok0 h, letH_mk ?_⟩
    rintro H3 rfl
    exact yes0 _ 2 gd rfl (slot_wr0 2 h) upd_0 (by omega)
  have d1' : ¬ (ev = 1 ∧ st = 1) := by simpa using d1
  refine ⟨fun x H3 => H3 = H2 ∧ x = decide (ev = 3 ∧ (st = 2 ∨ st = 6)), ?_, ?_⟩
  · exact iteB_intro (fun c => ⟨rfl, by simp at c; simp [c]⟩) (fun c => ⟨rfl, by simp at c; simp [c]⟩)
  rintro x7 H3 ⟨rfl, rfl⟩
  unfold F_ref21_Slot_Handle_k7
  refine iteB_intro (fun c => ?_) (fun d3 => ?_)
  · obtain ⟨rfl, c'⟩ : ev = 3 ∧ (st = 2 ∨ st = 6) := by simpa using c
    refine ⟨dl, slot_rd1 h, slot_ok0 h, letH_mk ?_⟩
    rintro H4 rfl
    have h4 := slot_wr0 3 h
    refine ⟨slot_ok2 h4, letH_mk ?_⟩
    rintro H5 rfl
    have h5 := slot_wr2 (IntKind.u64.wrap (now + dl)) h4
    refine ⟨_, slot_rd2 h5, iteB_intro (fun c => ?_) (fun c => ?_)⟩
    · refine ⟨slot_ok2 h5, letH_mk ?_⟩
      rintro H6 rfl
      refine letH_mk ?_
      rintro H7 rfl
      refine yes _ 3 [1] 1 _ (by simp [hS, c']) rfl (slot_wr2 18446744073709551615 h5) ((upd_0.trans upd_add).trans upd_add) ?_
      intro _
      have c'' : IntKind.u64.wrap (now + dl) < now := by simpa using c
      rw [if_neg (by omega)]
      unfold satSum
      rw [u64_wrap] at c''
      rw [if_pos (by omega)]
    · refine letH_mk ?_
      rintro H7 rfl
      refine yes _ 3 [1] 1 _ (by simp [hS, c']) rfl h5 (upd_0.trans upd_add) ?_
      intro _
      have c'' : ¬ IntKind.u64.wrap (now + dl) < now := by simpa using c
      rw [if_neg (by omega)]
      unfold satSum
      rw [u64_wrap] at c'' ⊢
      rw [if_neg (by omega)]
      omega
  have d3' : ¬ (ev = 3 ∧ (st = 2 ∨ st = 6)) := by simpa using d3
  refine ⟨fun x H4 => H4 = H3 ∧ x = decide (ev = 4 ∧ st = 4), ?_, ?_⟩
  · exact iteB_intro (fun c => ⟨st, r0, rfl, by simp at c; simp [c]; rfl⟩) (fun c => ⟨rfl, by simp at c; simp [c]⟩)
  rintro x11 H4 ⟨rfl, rfl⟩
  unfold F_ref21_Slot_Handle_k6
  refine iteB_intro (fun c => ?_) (fun d4 => ?_)
  · obtain ⟨rfl, rfl⟩ : ev = 4 ∧ st = 4 := by simpa using c
    refine ⟨slot_ok0 h, letH_mk ?_⟩
    rintro H5 rfl
    refine letH_mk ?_
    rintro H6 rfl
    exact yes _ 5 [4] 1 gd rfl rfl (slot_wr0 5 h) upd_0 (by omega)
  have d4' : ¬ (ev = 4 ∧ st = 4) := by simpa using d4
  refine ⟨fun x H5 => H5 = H4 ∧ x = decide (ev = 4 ∧ st = 3), ?_, ?_⟩
  · exact iteB_intro (fun c => ⟨rfl, by simp at c; simp [c]; rfl⟩) (fun c => ⟨rfl, by simp at c; simp [c]⟩)
  rintro x12 H5 ⟨rfl, rfl⟩
  unfold F_ref21_Slot_Handle_k5
  refine iteB_intro (fun c => ?_) (fun d43 => ?_)
  · obtain ⟨rfl, rfl⟩ : ev = 4 ∧ st = 3 := by simpa using c
    refine ⟨slot_ok0 h, letH_mk ?_⟩
    rintro H6 rfl
    refine letH_mk ?_
    rintro H7 rfl
    exact yes _ 2 [2] 1 gd rfl rfl (slot_wr0 2 h) upd_0 (by omega)
  have d43' : ¬ (ev = 4 ∧ st = 3) := by simpa using d43
  refine ⟨fun x H6 => H6 = H5 ∧ x = decide (ev = 5 ∧ st = 5), ?_, ?_⟩
  · exact iteB_intro (fun c => ⟨st, r0, rfl, by simp at c; simp [c]; rfl⟩) (fun c => ⟨rfl, by simp at c; simp [c]⟩)
  rintro x14 H6 ⟨rfl, rfl⟩
  unfold F_ref21_Slot_Handle_k4
  refine iteB_intro (fun c => ?_) (fun d5 => ?_)
  · obtain ⟨rfl, rfl⟩ : ev = 5 ∧ st = 5 := by simpa using c
    refine ⟨slot_ok0 h, letH_mk ?_⟩
    rintro H7 rfl
    refine letH_mk ?_
    rintro H8 rfl
    exact yes _ 2 [5, 2] 2 gd rfl rfl (slot_wr0 2 h) upd_0 (by omega)
  have d5' : ¬ (ev = 5 ∧ st = 5) := by simpa using d5
  refine ⟨fun x H7 => H7 = H6 ∧ x = decide (ev = 2 ∧ (st = 2 ∨ st = 6)), ?_, ?_⟩
  · exact iteB_intro (fun c => ⟨rfl, by simp at c; simp [c]⟩) (fun c => ⟨rfl, by simp at c; simp [c]⟩)
  rintro x15 H7 ⟨rfl, rfl⟩
  unfold F_ref21_Slot_Handle_k3
  refine iteB_intro (fun c => ?_) (fun d2 => ?_)
  · obtain ⟨rfl, c'⟩ : ev = 2 ∧ (st = 2 ∨ st = 6) := by simpa using c
    refine ⟨slot_ok0 h, letH_mk ?_⟩
    rintro H8 rfl
    exact yes0 _ 1 gd (by simp [hS, c']) (slot_wr0 1 h) upd_0 (by omega)
  have d2' : ¬ (ev = 2 ∧ (st = 2 ∨ st = 6)) := by simpa using d2
  refine ⟨fun x H8 => H8 = H7 ∧ x = decide ((ev = 2 ∨ ev = 6) ∧ (st = 3 ∨ st = 4 ∨ st = 5)), ?_, ?_⟩
  · refine iteB_intro (fun c => iteB_intro (fun e => ⟨rfl, ?_⟩) (fun e => ⟨rfl, ?_⟩)) (fun c => iteB_intro (fun e => iteB_intro (fun f => ⟨rfl, ?_⟩) (fun f => ⟨rfl, ?_⟩)) (fun e => ⟨rfl, ?_⟩))
    · simp at c e; simp [c, e]
    · simp at c e; simp [c, e]
    · simp at c e f; simp [e, f]
    · simp at c e f; simp [e, f]
    · simp at c e; simp [c, e]
  rintro x16 H8 ⟨rfl, rfl⟩
  unfold F_ref21_Slot_Handle_k2
  refine iteB_intro (fun c => ?_) (fun d26 => ?_)
  · obtain ⟨c1', c2'⟩ : (ev = 2 ∨ ev = 6) ∧ (st = 3 ∨ st = 4 ∨ st = 5) := by simpa using c
    refine ⟨slot_ok0 h, letH_mk ?_⟩
    rintro H9 rfl
    have h9 := slot_wr0 1 h
    refine ⟨fun H10 => H10[b]? = some (slotO t_ref21_Slot (if ev = 6 then 6 else 1) dl gd) ∧ Upd b H8 H10, ?_, ?_⟩
    · refine iteB_intro (fun e => ?_) (fun e => ?_)
      · have e' : ev = 6 := by simpa using e
        refine ⟨slot_ok0 h9, letH_mk ?_⟩
        rintro H10 rfl
        rw [if_pos e']
        exact ⟨slot_wr0 6 h9, upd_0.trans upd_0⟩
      · have e' : ev ≠ 6 := by simpa using e
        rw [if_neg e']
        exact ⟨h9, upd_0⟩
    rintro H10 ⟨g1, g2⟩
    unfold F_ref21_Slot_Handle_k1
    refine iteB_intro (fun e => letH_mk ?_) (fun e => letH_mk ?_)
    · rintro H11 rfl
      have e' : st = 4 ∨ st = 5 := by simpa using e
      refine yes _ (if ev = 6 then 6 else 1) [5, 2] 2 gd ?_ rfl g1 g2 ?_
      · rcases c1' with rfl | rfl <;> rcases e' with rfl | rfl <;> rfl
      · split <;> omega
    · rintro H11 rfl
      have e' : st = 3 := by simp at e; omega
      refine yes _ (if ev = 6 then 6 else 1) [2] 1 gd ?_ rfl g1 g2 ?_
      · subst e'; rcases c1' with rfl | rfl <;> rfl
      · split <;> omega
  have d26' : ¬ ((ev = 2 ∨ ev = 6) ∧ (st = 3 ∨ st = 4 ∨ st = 5)) := by simpa using d26
  have hn : hS st ev = none := by
    have : ev = 1 ∨ ev = 2 ∨ ev = 3 ∨ ev = 4 ∨ ev = 5 ∨ ev = 6 := by omega
    rcases this with rfl | rfl | rfl | rfl | rfl | rfl
    · have : st ≠ 1 := by omega
      simp [hS, this]
    · have g1 : ¬ (st = 2 ∨ st = 6) := by omega
      have g2 : st ≠ 3 := by omega
      have g3 : ¬ (st = 4 ∨ st = 5) := by omega
      simp [hS, g1, g2, g3]
    · have g1 : ¬ (st = 2 ∨ st = 6) := by omega
      simp [hS, g1]
    · have g2 : st ≠ 3 := by omega
      have g3 : st ≠ 4 := by omega
      simp [hS, g2, g3]
    · have g3 : st ≠ 5 := by omega
      simp [hS, g3]
    · have g2 : st ≠ 3 := by omega
      have g3 : ¬ (st = 4 ∨ st = 5) := by omega
      simp [hS, g2, g3]
  refine ⟨⟨none, 0, 0⟩, gd, by simp [hErr, hn, hev], ⟨by simp only [hActs, hn]; exact IsI.nil _ _, NewP.none _⟩, by simpa [hSt, hn] using h, Upd.refl _ _, ?_⟩
  intro h3
  simp [hSt, hn] at h3
  simp [h3]

/-- What is said of a call of Advance. -/
def AdvPost (t : TypeId) (b : Nat) (st dl gd now : Int) (H : Heap) (v : Value) (H' : Heap) : Prop :=
  ∃ s : Sl, ∃ gd' : Int, v = .slice s.p s.n s.c ∧ (IsI .i64 H' s (if st = 3 ∧ gd ≤ now then [3] else []) ∧ NewP H.size s.p) ∧ H'[b]? = some (slotO t (if st = 3 ∧ gd ≤ now then 4 else st) dl gd') ∧ Upd b H H' ∧
    ((if st = 3 ∧ gd ≤ now then 4 else st) = 3 → gd' = gd)

theorem Advance_spec (b : Nat) (st dl gd now : Int) (H : Heap) (h : H[b]? = some (slotO t_hotplug_Slot st dl gd)) :
    CallsH Try.prog n_hotplug_Slot_Advance #[.pointer (some ⟨b, 0, none⟩), .int .u64 now] H (AdvPost t_hotplug_Slot b st dl gd now H) := by
  refine F_hotplug_Slot_Advance_ok _ _ ?_
  unfold F_hotplug_Slot_Advance
  refine ⟨st, slot_rd0 h, iteB_intro (fun c => ?_) (fun c => ⟨gd, slot_rd2 h, iteB_intro (fun d => ?_) (fun d => ?_)⟩)⟩
  · have c' : ¬ (st = 3 ∧ gd ≤ now) := by simp at c; omega
    refine ⟨⟨none, 0, 0⟩, gd, rfl, ?_, ?_, Upd.refl _ _, fun _ => rfl⟩
    · rw [if_neg c']; exact ⟨IsI.nil _ _, NewP.none _⟩
    · rw [if_neg c']; exact h
  · have c' : ¬ (st = 3 ∧ gd ≤ now) := by simp at c d; omega
    refine ⟨⟨none, 0, 0⟩, gd, rfl, ?_, ?_, Upd.refl _ _, fun _ => rfl⟩
    · rw [if_neg c']; exact ⟨IsI.nil _ _, NewP.none _⟩
    · rw [if_neg c']; exact h
  · have c' : st = 3 ∧ gd ≤ now := by simp at c d; omega
    refine letH_mk ?_
    rintro H1 rfl
    refine (enter_lit b _ dl gd 4 [3] 1 rfl _ h).mono ?_
    rintro v H1 ⟨s, e, rfl, rfl, g1, g2, g3⟩
    refine ⟨s, 0, rfl, s, 0, rfl, ?_, ?_, g3, ?_⟩
    · rw [if_pos c']; exact g1
    · rw [if_pos c']; simpa using g2
    · rw [if_pos c']; omega

theorem refAdvance_spec (b : Nat) (st dl gd now : Int) (H : Heap) (h : H[b]? = some (slotO t_ref21_Slot st dl gd)) :
    CallsH Try.prog n_ref21_Slot_Advance #[.pointer (some ⟨b, 0, none⟩), .int .u64 now] H (AdvPost t_ref21_Slot b st dl gd now H) := by
  refine F_ref21_Slot_Advance_ok _ _ ?_
  unfold F_ref21_Slot_Advance
  refine ⟨st, slot_rd0 h, iteB_intro (fun c => ?_) (fun c => ⟨gd, slot_rd2 h, iteB_intro (fun d => ?_) (fun d => ?_)⟩)⟩
  · have c' : ¬ (st = 3 ∧ gd ≤ now) := by simp at c; omega
    refine ⟨⟨none, 0, 0⟩, gd, rfl, ?_, ?_, Upd.refl _ _, fun _ => rfl⟩
    · rw [if_neg c']; exact ⟨IsI.nil _ _, NewP.none _⟩
    · rw [if_neg c']; exact h
  · have c' : ¬ (st = 3 ∧ gd ≤ now) := by simp at c d; omega
    refine ⟨⟨none, 0, 0⟩, gd, rfl, ?_, ?_, Upd.refl _ _, fun _ => rfl⟩
    · rw [if_neg c']; exact ⟨IsI.nil _ _, NewP.none _⟩
    · rw [if_neg c']; exact h
  · have c' : st = 3 ∧ gd ≤ now := by simp at c d; omega
    refine ⟨slot_ok0 h, letH_mk ?_⟩
    rintro H1 rfl
    refine letH_mk ?_
    rintro H2 rfl
    have h1 := slot_wr0 4 h
    refine ⟨⟨some ⟨(wrs H ⟨b, 0, none⟩ [.int .i64 4]).size, 0, none⟩, 1, 1⟩, gd, rfl, ?_, ?_, upd_0.trans (Ext.push _ _).upd, ?_⟩
    · rw [if_pos c']; exact ⟨lit_i (l := [3]) rfl, NewP.some (by rw [wrs_size]; exact Nat.le_refl _)⟩
    · rw [if_pos c', push_lt (get_lt h1)]; exact h1
    · rw [if_pos c']; omega


theorem awake_spec (H : Heap) : CallsH Try.prog n_law23_awake #[] H (fun v H' => v = .bool true ∧ Ext H H') := by
  refine F_law23_awake_ok ?_
  unfold F_law23_awake
  refine (NewSlot_spec true 5 H (by omega)).mono ?_
  rintro v H1 ⟨rfl, h1, e1, _⟩
  refine ⟨_, _, rfl, iteB_neg rfl (iteB_neg rfl ?_)⟩
  refine (Handle_spec H.size 2 5 0 3 10 H1 h1 (by omega) (by omega) (by omega)).mono ?_
  rintro v H2 ⟨s2, gd2, rfl, ⟨i2, n2⟩, h2, u2, q2⟩
  refine ⟨_, _, rfl, ?_⟩
  have hg : gd2 = 15 := by simpa [satSum] using q2 rfl
  subst hg
  have hz1 := get_lt h1
  have hz2 := u2.size
  refine (Advance_spec H.size 3 5 15 15 H2 h2).mono ?_
  rintro v H3 ⟨s3, gd3, rfl, ⟨i3, n3⟩, h3, u3, _⟩
  have hz3 := u3.size
  refine ⟨_, rfl, ?_⟩
  refine (Handle_spec H.size 4 5 gd3 2 20 H3 h3 (by omega) (by omega) (by omega)).mono ?_
  rintro v H4 ⟨s4, gd4, rfl, ⟨i4, n4⟩, h4, u4, _⟩
  have hz4 := u4.size
  have i2' := (i2.upd u3 (n2.off (by omega))).upd u4 (n2.off (by omega))
  have i3' := i3.upd u4 (n3.off (by omega))
  have e4 : Ext H H4 := Upd.ext e1 ((u2.trans u3).trans u4) (Nat.le_refl _)
  refine ⟨_, _, rfl, iteB_pos rfl (iteB_pos rfl (letH_mk ?_))⟩
  rintro H5 rfl
  have e5 := Ext.push H4 (.cells #[.int .i64 (1 : Int)] t_int (0, 0))
  refine (Equal_int_spec _ s2 ⟨some ⟨H4.size, 0, none⟩, 1, 1⟩ _ [1] (i2'.ext e5) (lit_i (l := [1]) rfl) (by simp [hActs, hS])).mono ?_
  rintro v H6 ⟨rfl, rfl⟩
  refine ⟨_, rfl, iteB_pos rfl (letH_mk ?_)⟩
  rintro H7 rfl
  have e7 := Ext.push (H4.push (.cells #[.int .i64 (1 : Int)] t_int (0, 0))) (.cells #[.int .i64 (3 : Int)] t_int (0, 0))
  refine (Equal_int_spec _ s3 ⟨some ⟨_, 0, none⟩, 1, 1⟩ _ [3] (i3'.ext (e5.trans e7)) (lit_i (l := [3]) rfl) (by simp)).mono ?_
  rintro v H8 ⟨rfl, rfl⟩
  refine ⟨_, rfl, iteB_pos rfl (letH_mk ?_)⟩
  rintro H9 rfl
  have e9 := Ext.push ((H4.push (.cells #[.int .i64 (1 : Int)] t_int (0, 0))).push (.cells #[.int .i64 (3 : Int)] t_int (0, 0))) (.cells #[.int .i64 (5 : Int), .int .i64 (2 : Int)] t_int (0, 0))
  refine (Equal_int_spec _ s4 ⟨some ⟨_, 0, none⟩, 2, 2⟩ _ [5, 2] (i4.ext ((e5.trans e7).trans e9)) (lit_i (l := [5, 2]) rfl) (by simp [hActs, hS])).mono ?_
  rintro v H10 ⟨rfl, rfl⟩
  have e10 := (e5.trans e7).trans e9
  refine ⟨_, rfl, iteB_pos rfl ?_⟩
  refine (State_spec H.size _ _ _ _ (by rw [e10.get _ (get_lt h4)]; exact h4)).mono ?_
  rintro v H11 ⟨rfl, rfl⟩
  exact ⟨_, rfl, rfl, e4.trans e10⟩


theorem hSt_range (st ev : Int) (h : 1 ≤ st ∧ st ≤ 6) : 1 ≤ hSt st ev ∧ hSt st ev ≤ 6 := by
  unfold hSt hS
  repeat' split
  all_goals simp
  all_goals omega

theorem hActs_len (st ev : Int) : (hActs st ev).length ≤ 2 := by
  unfold hActs hS
  repeat' split
  all_goals simp

theorem law_matches (present : Bool) (delay : Int) (events passes : Sl) (le lp : List Int) (H : Heap) (hd : 0 ≤ delay ∧ delay ≤ 18446744073709551615)
    (he : IsI .i64 H events le) (hp : IsI .u64 H passes lp) (hpr : ∀ x ∈ lp, 0 ≤ x) :
    CallsH Try.prog n_law23_HotplugSlotMatchesModel #[.bool present, .int .u64 delay, .slice events.p events.n events.c, .slice passes.p passes.n passes.c] H (fun v H' => v = .bool true ∧ Ext H H') := by
  refine F_law23_HotplugSlotMatchesModel_ok _ _ _ _ ?_
  unfold F_law23_HotplugSlotMatchesModel
  refine ⟨fun d H' => H' = H ∧ 0 ≤ d ∧ d ≤ 4294967296, ?_, ?_⟩
  · refine iteB_intro (fun c => ?_) (fun c => ⟨rfl, by simp at c; omega⟩)
    refine (NewSlot_no present delay H (by simpa using c)).mono ?_
    rintro v H1 ⟨rfl, rfl⟩
    refine ⟨_, _, rfl, iteB_neg rfl (iteB_neg rfl (letV_mk _ rfl ⟨rfl, ?_⟩))⟩
    rw [Int.tmod_eq_emod_of_nonneg hd.1]
    omega
  rintro dl H' ⟨rfl, hdl⟩
  unfold F_law23_HotplugSlotMatchesModel_k5
  refine (NewSlot_spec present dl H' (by omega)).mono ?_
  rintro v H1 ⟨rfl, h1, e1, z1⟩
  refine ⟨_, _, rfl, ?_⟩
  refine (refNewSlot_spec present dl H1).mono ?_
  rintro v H2 ⟨rfl, h2, e2, z2⟩
  refine ⟨_, rfl, ?_⟩
  refine (awake_spec H2).mono ?_
  rintro v H3 ⟨rfl, e3⟩
  refine ⟨_, rfl, iteB_neg rfl (iteB_neg rfl (iteB_neg rfl ?_))⟩
  have hb1 : H3[H'.size]? = some (slotO t_hotplug_Slot (if present then 2 else 1) dl 0) := by
    rw [e3.get _ (by omega), e2.get _ (by omega)]; exact h1
  have hb2 : H3[H1.size]? = some (slotO t_ref21_Slot (if present then 2 else 1) dl 0) := by
    rw [e3.get _ (by omega)]; exact h2
  refine ⟨fun now i Hx => Ext H' Hx ∧ ∃ k : Nat, i = k ∧ k ≤ 90 ∧ 0 ≤ now ∧ now ≤ 4 * k ∧ ∃ st gd gd' : Int, Hx[H'.size]? = some (slotO t_hotplug_Slot st dl gd) ∧ Hx[H1.size]? = some (slotO t_ref21_Slot st dl gd') ∧
      (1 ≤ st ∧ st ≤ 6) ∧ (st = 3 → gd = gd'), fun _ i _ => 90 - i.toNat, ⟨(e1.trans e2).trans e3, 0, rfl, by omega, by omega, by omega, _, _, _, hb1, hb2, by split <;> omega, fun _ => rfl⟩, ?_⟩
  rintro now i Hx ⟨ex, k, rfl, hk, hn0, hn1, st, gd, gd', g1, g2, hst, hgd⟩
  unfold F_law23_HotplugSlotMatchesModel_r4
  refine iteB_intro (fun c => iteB_intro (fun c90 => ?_) (fun _ => ⟨rfl, ex⟩)) (fun _ => ⟨rfl, ex⟩)
  have hk90 : k < 90 := by simp at c90; omega
  have hkl : k < le.length := by rw [he.len] at c; simp at c; omega
  refine ⟨fun now' Hy => Hy = Hx ∧ 0 ≤ now' ∧ now' ≤ 4 * k + 4, ?_, ?_⟩
  · refine iteB_intro (fun cp => ?_) (fun _ => ⟨rfl, by omega, by omega⟩)
    have hkp : k < lp.length := by rw [hp.len] at cp; simp at cp; omega
    obtain ⟨a1, hp1, hr1⟩ := (hp.ext ex).get hkp
    have hx0 := hpr lp[k] (List.getElem_mem hkp)
    refine ⟨by omega, by rw [hp.len]; omega, unSome_mk hp1 ⟨_, by simpa using hr1, letV_mk _ rfl ⟨rfl, u64_nonneg _, ?_⟩⟩⟩
    rw [Int.tmod_eq_emod_of_nonneg hx0, u64_in (by omega)]
    omega
  rintro now' Hy ⟨rfl, hn2, hn3⟩
  unfold F_law23_HotplugSlotMatchesModel_k3
  obtain ⟨a1, hp1, hr1⟩ := (he.ext ex).get hkl
  refine ⟨by omega, by rw [he.len]; omega, unSome_mk hp1 ⟨_, by simpa using hr1, ?_⟩⟩
  refine (Mod_spec _ 9 Hy (by omega) (by omega)).mono ?_
  rintro v H4 ⟨⟨ev0, rfl, _, _⟩, rfl⟩
  refine ⟨_, rfl, fun _ Hz => Hz = H4, ?_, ?_⟩
  · refine iteB_intro (fun _ => ⟨by omega, by rw [he.len]; omega, unSome_mk hp1 ⟨_, by simpa using hr1, rfl⟩⟩) (fun _ => rfl)
  rintro ev Hz rfl
  unfold F_law23_HotplugSlotMatchesModel_k2
  have hne : H'.size ≠ H1.size := by omega
  have hlt1 := get_lt g1
  have hlt2 := get_lt g2
  refine ⟨fun Hw => Ext H' Hw ∧ ∃ st gd gd' : Int, Hw[H'.size]? = some (slotO t_hotplug_Slot st dl gd) ∧ Hw[H1.size]? = some (slotO t_ref21_Slot st dl gd') ∧
      (1 ≤ st ∧ st ≤ 6) ∧ (st = 3 → gd = gd'), ?_, ?_⟩
  · refine iteB_intro (fun c8 => ?_) (fun c8 => ?_)
    · refine (Advance_spec H'.size st dl gd now' _ g1).mono ?_
      rintro v H5 ⟨s5, gd5, rfl, ⟨i5, n5⟩, h5, u5, q5⟩
      refine ⟨_, rfl, ?_⟩
      have g2' : H5[H1.size]? = some (slotO t_ref21_Slot st dl gd') := by rw [u5.get _ hlt2 (fun e => hne e.symm)]; exact g2
      refine (refAdvance_spec H1.size st dl gd' now' _ g2').mono ?_
      rintro v H6 ⟨s6, gd6, rfl, ⟨i6, n6⟩, h6, u6, q6⟩
      refine ⟨_, rfl, ?_⟩
      have hz5 := u5.size
      have same : (st = 3 ∧ gd ≤ now') ↔ (st = 3 ∧ gd' ≤ now') := by
        constructor <;> rintro ⟨rfl, h⟩ <;> have := hgd rfl <;> exact ⟨rfl, by omega⟩
      simp only [same] at i5 h5 q5
      refine (Equal_int_spec _ s5 s6 _ _ (i5.upd u6 (n5.off (by omega))) i6 (by split <;> simp)).mono ?_
      rintro v H7 ⟨rfl, rfl⟩
      refine ⟨_, rfl, iteB_neg (by simp) ⟨Upd.ext (Upd.ext ex u5 (Nat.le_refl _)) u6 (by omega), _, _, _, by rw [u6.get _ (by omega) hne]; exact h5, h6, by split <;> omega, ?_⟩⟩
      intro h3
      rw [q5 h3, q6 h3]
      split at h3
      · omega
      · exact hgd h3
    · refine (Handle_spec H'.size st dl gd ev now' _ g1 hst (by omega) hdl).mono ?_
      rintro v H5 ⟨s5, gd5, rfl, ⟨i5, n5⟩, h5, u5, q5⟩
      refine ⟨_, _, rfl, ?_⟩
      have g2' : H5[H1.size]? = some (slotO t_ref21_Slot st dl gd') := by rw [u5.get _ hlt2 (fun e => hne e.symm)]; exact g2
      refine (refHandle_spec H1.size st dl gd' ev now' _ g2' hst (by omega) hdl).mono ?_
      rintro v H6 ⟨s6, gd6, rfl, ⟨i6, n6⟩, h6, u6, q6⟩
      refine ⟨_, _, rfl, ?_⟩
      have hz5 := u5.size
      have hl := hActs_len st ev
      refine (Equal_int_spec _ s5 s6 _ _ (i5.upd u6 (n5.off (by omega))) i6 (by omega)).mono ?_
      rintro v H7 ⟨rfl, rfl⟩
      refine ⟨_, rfl, iteB_neg (by simp) (iteB_neg (by simp) ⟨Upd.ext (Upd.ext ex u5 (Nat.le_refl _)) u6 (by omega), _, _, _, by rw [u6.get _ (by omega) hne]; exact h5, h6, hSt_range st ev hst, ?_⟩)⟩
      intro h3
      rw [q5 h3, q6 h3]
      split
      · exact hgd ‹_›
      · rfl
  rintro Hw ⟨exw, st', gd1, gd2, w1, w2, hst', hgd'⟩
  unfold F_law23_HotplugSlotMatchesModel_k1
  refine ⟨.int .i64 st', fun H8 e8 => ?_, ?_⟩
  · refine (State_spec H'.size st' dl gd1 H8 (by rw [e8.get _ (get_lt w1)]; exact w1)).mono ?_
    rintro v H9 ⟨rfl, rfl⟩
    exact ⟨rfl, Ext.refl _⟩
  refine ⟨_, rfl, st', slot_rd0 w2, ?_⟩
  intro H8 e8
  refine iteB_neg (by simp) (letV_mk (k + 1 : Int) (i64_in (by omega)) ⟨⟨exw.trans e8, k + 1, by simp, by omega, hn2, by omega, st', gd1, gd2, ?_, ?_, hst', hgd'⟩, by dsimp only; omega⟩)
  · rw [e8.get _ (get_lt w1)]; exact w1
  · rw [e8.get _ (get_lt w2)]; exact w2


/-- One action, on (power, functions known). -/
def stepA (s : Bool × Bool) (a : Int) : Option (Bool × Bool) :=
  if a = 1 then (if s.1 then none else some (true, s.2))
  else if a = 2 then (if !s.1 || s.2 then none else some (false, s.2))
  else if a = 3 then (if !s.1 || s.2 then none else some (s.1, true))
  else if a = 5 then (if !s.2 then none else some (s.1, false))
  else if a = 4 then (if !s.2 then none else some s)
  else none

def runA : List Int → Bool × Bool → Option (Bool × Bool)
  | [], s => some s
  | a :: l, s => match stepA s a with
    | some s' => runA l s'
    | none => none

def knownOf (st : Int) : Bool := decide (st = 4 ∨ st = 5)
def onOf (st : Int) : Bool := decide (st = 3 ∨ st = 4 ∨ st = 5)

theorem runA_handle (st ev : Int) (h : 1 ≤ st ∧ st ≤ 6) : runA (hActs st ev) (onOf st, knownOf st) = some (onOf (hSt st ev), knownOf (hSt st ev)) := by
  have hs : st = 1 ∨ st = 2 ∨ st = 3 ∨ st = 4 ∨ st = 5 ∨ st = 6 := by omega
  by_cases he : 1 ≤ ev ∧ ev ≤ 6
  · have : ev = 1 ∨ ev = 2 ∨ ev = 3 ∨ ev = 4 ∨ ev = 5 ∨ ev = 6 := by omega
    rcases hs with rfl | rfl | rfl | rfl | rfl | rfl <;> rcases this with rfl | rfl | rfl | rfl | rfl | rfl <;> decide
  · have g1 : ev ≠ 1 := by omega
    have g2 : ev ≠ 2 := by omega
    have g3 : ev ≠ 3 := by omega
    have g4 : ev ≠ 4 := by omega
    have g5 : ev ≠ 5 := by omega
    have g6 : ev ≠ 6 := by omega
    have hn : hS st ev = none := by simp [hS, g1, g2, g3, g4, g5, g6]
    simp [hActs, hSt, hn, runA]

theorem runA_adv (st gd now : Int) : runA (if st = 3 ∧ gd ≤ now then [3] else []) (onOf st, knownOf st) =
    some (onOf (if st = 3 ∧ gd ≤ now then 4 else st), knownOf (if st = 3 ∧ gd ≤ now then 4 else st)) := by
  split
  · rename_i h
    obtain ⟨rfl, _⟩ := h
    decide
  · rfl

theorem law_balance (delay : Int) (events passes : Sl) (le lp : List Int) (H : Heap) (hd : 0 ≤ delay ∧ delay ≤ 18446744073709551615)
    (he : IsI .i64 H events le) (hp : IsI .u64 H passes lp) (hpr : ∀ x ∈ lp, 0 ≤ x) :
    CallsH Try.prog n_law23_HotplugPowerBalance #[.int .u64 delay, .slice events.p events.n events.c, .slice passes.p passes.n passes.c] H (fun v H' => v = .bool true ∧ Ext H H') := by
  refine F_law23_HotplugPowerBalance_ok _ _ _ ?_
  unfold F_law23_HotplugPowerBalance
  obtain ⟨dl, hdl, hdl'⟩ : ∃ dl : Int, delay.tmod 6 = dl ∧ 0 ≤ dl ∧ dl ≤ 4294967296 := ⟨_, rfl, by rw [Int.tmod_eq_emod_of_nonneg hd.1]; omega⟩
  rw [hdl]
  refine (NewSlot_spec false dl H (by omega)).mono ?_
  rintro v H1 ⟨rfl, h1, e1, z1⟩
  refine ⟨_, _, rfl, ?_⟩
  refine (awake_spec H1).mono ?_
  rintro v H3 ⟨rfl, e3⟩
  refine ⟨_, rfl, iteB_neg rfl (iteB_neg rfl (iteB_neg rfl ?_))⟩
  have hb1 : H3[H.size]? = some (slotO t_hotplug_Slot 1 dl 0) := by
    rw [e3.get _ (by omega)]; exact h1
  refine ⟨fun on known now i Hx => Ext H Hx ∧ ∃ k : Nat, i = k ∧ k ≤ 90 ∧ 0 ≤ now ∧ now ≤ 4 * k ∧ ∃ st gd : Int, Hx[H.size]? = some (slotO t_hotplug_Slot st dl gd) ∧
      (1 ≤ st ∧ st ≤ 6) ∧ on = onOf st ∧ known = knownOf st, fun _ _ _ i _ => 90 - i.toNat, ⟨e1.trans e3, 0, rfl, by omega, by omega, by omega, _, _, hb1, by omega, rfl, rfl⟩, ?_⟩
  rintro on known now i Hx ⟨ex, k, rfl, hk, hn0, hn1, st, gd, g1, hst, rfl, rfl⟩
  unfold F_law23_HotplugPowerBalance_r4
  refine iteB_intro (fun c => iteB_intro (fun c90 => ?_) (fun _ => ⟨rfl, ex⟩)) (fun _ => ⟨rfl, ex⟩)
  have hk90 : k < 90 := by simp at c90; omega
  have hkl : k < le.length := by rw [he.len] at c; simp at c; omega
  refine ⟨fun now' Hy => Hy = Hx ∧ 0 ≤ now' ∧ now' ≤ 4 * k + 4, ?_, ?_⟩
  · refine iteB_intro (fun cp => ?_) (fun _ => ⟨rfl, by omega, by omega⟩)
    have hkp : k < lp.length := by rw [hp.len] at cp; simp at cp; omega
    obtain ⟨a1, hp1, hr1⟩ := (hp.ext ex).get hkp
    have hx0 := hpr lp[k] (List.getElem_mem hkp)
    refine ⟨by omega, by rw [hp.len]; omega, unSome_mk hp1 ⟨_, by simpa using hr1, letV_mk _ rfl ⟨rfl, u64_nonneg _, ?_⟩⟩⟩
    rw [Int.tmod_eq_emod_of_nonneg hx0, u64_in (by omega)]
    omega
  rintro now' Hy ⟨rfl, hn2, hn3⟩
  unfold F_law23_HotplugPowerBalance_k3
  obtain ⟨a1, hp1, hr1⟩ := (he.ext ex).get hkl
  refine ⟨fun l Hz => Ext H Hz ∧ ∃ (st' gd' : Int) (acts : List Int), Hz[H.size]? = some (slotO t_hotplug_Slot st' dl gd') ∧ (1 ≤ st' ∧ st' ≤ 6) ∧ IsI .i64 Hz l acts ∧ acts.length ≤ 2 ∧
      runA acts (onOf st, knownOf st) = some (onOf st', knownOf st'), ?_, ?_⟩
  · refine ⟨by omega, by rw [he.len]; omega, unSome_mk hp1 ⟨_, by simpa using hr1, ?_⟩⟩
    refine (Mod_spec _ 8 Hy (by omega) (by omega)).mono ?_
    rintro v H4 ⟨⟨ev, rfl, _, _⟩, rfl⟩
    refine ⟨_, rfl, iteB_intro (fun c7 => ?_) (fun c7 => ?_)⟩
    · refine (Advance_spec H.size st dl gd now' _ g1).mono ?_
      rintro v H5 ⟨s5, gd5, rfl, ⟨i5, n5⟩, h5, u5, q5⟩
      exact ⟨_, rfl, Upd.ext ex u5 (Nat.le_refl _), _, _, _, h5, by split <;> omega, i5, by split <;> simp, runA_adv st gd now'⟩
    · refine (Handle_spec H.size st dl gd ev now' _ g1 hst (by omega) hdl').mono ?_
      rintro v H5 ⟨s5, gd5, rfl, ⟨i5, n5⟩, h5, u5, q5⟩
      exact ⟨_, _, rfl, Upd.ext ex u5 (Nat.le_refl _), _, _, _, h5, hSt_range st ev hst, i5, hActs_len st ev, runA_handle st ev hst⟩
  rintro l Hz ⟨exz, st', gd', acts, w1, hst', il, hlen, hrun⟩
  unfold F_law23_HotplugPowerBalance_k2
  refine ⟨fun on1 known1 j Hw => Hw = Hz ∧ ∃ m : Nat, j = m ∧ m ≤ acts.length ∧ runA (acts.drop m) (on1, known1) = some (onOf st', knownOf st'),
    fun _ _ j _ => acts.length - j.toNat, ⟨rfl, 0, rfl, Nat.zero_le _, by simpa using hrun⟩, ?_⟩
  rintro on1 known1 j Hw ⟨rfl, m, rfl, hm, hr⟩
  unfold F_law23_HotplugPowerBalance_r1
  refine iteB_intro (fun cj => ?_) (fun cj => ?_)
  · have hml : m < acts.length := by rw [il.len] at cj; simp at cj; omega
    obtain ⟨a2, hp2, hr2⟩ := il.get hml
    refine ⟨by omega, by rw [il.len]; omega, unSome_mk hp2 ⟨_, by simpa using hr2, ?_⟩⟩
    rw [List.drop_eq_getElem_cons hml] at hr
    simp only [runA] at hr
    generalize acts[m] = a at hr
    have next : ∀ on' known', stepA (on1, known1) a = some (on', known') → ∀ x : Int, x = m + 1 →
        (Hw = Hw ∧ ∃ m' : Nat, x = m' ∧ m' ≤ acts.length ∧ runA (acts.drop m') (on', known') = some (onOf st', knownOf st')) ∧ acts.length - x.toNat < acts.length - (m : Int).toNat := by
      intro on' known' hs x hx
      rw [hs] at hr
      exact ⟨⟨rfl, m + 1, by omega, by omega, hr⟩, by omega⟩
    have hw : IntKind.i64.wrap ((m : Int) + 1) = m + 1 := i64_in (by omega)
    refine iteB_intro (fun c1 => ?_) (fun c1 => ?_)
    · have c1' : a = 1 := by simpa using c1
      subst c1'
      refine iteB_intro (fun d => ?_) (fun d => ?_)
      · simp [stepA, d] at hr
      · exact letV_mk _ rfl (next true known1 (by simp [stepA, d]) _ hw)
    have c1' : a ≠ 1 := by simpa using c1
    refine iteB_intro (fun c2 => ?_) (fun c2 => ?_)
    · have c2' : a = 2 := by simpa using c2
      subst c2'
      refine iteB_intro (fun d => ?_) (fun d => iteB_intro (fun e => ?_) (fun e => ?_))
      · simp at d; simp [stepA, d] at hr
      · simp [stepA, e] at hr
      · exact letV_mk _ rfl (next false known1 (by simp at d; simp [stepA, d, e]) _ hw)
    have c2' : a ≠ 2 := by simpa using c2
    refine iteB_intro (fun c3 => ?_) (fun c3 => ?_)
    · have c3' : a = 3 := by simpa using c3
      subst c3'
      refine iteB_intro (fun d => ?_) (fun d => iteB_intro (fun e => ?_) (fun e => ?_))
      · simp at d; simp [stepA, d] at hr
      · simp [stepA, e] at hr
      · exact letV_mk _ rfl (next on1 true (by simp at d; simp [stepA, d, e]) _ hw)
    have c3' : a ≠ 3 := by simpa using c3
    refine iteB_intro (fun c5 => ?_) (fun c5 => ?_)
    · have c5' : a = 5 := by simpa using c5
      subst c5'
      refine iteB_intro (fun d => ?_) (fun d => ?_)
      · simp at d; simp [stepA, d] at hr
      · exact letV_mk _ rfl (next on1 false (by simp at d; simp [stepA, d]) _ hw)
    have c5' : a ≠ 5 := by simpa using c5
    refine iteB_intro (fun c4 => ?_) (fun c4 => ?_)
    · have c4' : a = 4 := by simpa using c4
      subst c4'
      refine iteB_intro (fun d => ?_) (fun d => ?_)
      · simp at d; simp [stepA, d] at hr
      · exact letV_mk _ rfl (next on1 known1 (by simp at d; simp [stepA, d]) _ hw)
    have c4' : a ≠ 4 := by simpa using c4
    simp [stepA, c1', c2', c3', c4', c5'] at hr
  · have hml : m = acts.length := by rw [il.len] at cj; simp at cj; omega
    subst hml
    rw [List.drop_length] at hr
    simp only [runA, Option.some.injEq, Prod.mk.injEq] at hr
    obtain ⟨rfl, rfl⟩ := hr
    have stc := State_spec H.size st' dl gd' Hw w1
    have fin : ∀ x : Int, x = k + 1 → (Ext H Hw ∧ ∃ k' : Nat, x = k' ∧ k' ≤ 90 ∧ 0 ≤ now' ∧ now' ≤ 4 * k' ∧ ∃ st1 gd1 : Int, Hw[H.size]? = some (slotO t_hotplug_Slot st1 dl gd1) ∧
      (1 ≤ st1 ∧ st1 ≤ 6) ∧ onOf st' = onOf st1 ∧ knownOf st' = knownOf st1) ∧ 90 - x.toNat < 90 - (k : Int).toNat := by
      intro x hx
      exact ⟨⟨exz, k + 1, by omega, by omega, hn2, by omega, st', gd', w1, hst', rfl, rfl⟩, by omega⟩
    have hw : IntKind.i64.wrap ((k : Int) + 1) = k + 1 := i64_in (by omega)
    refine stc.mono ?_
    rintro v H9 ⟨rfl, rfl⟩
    refine ⟨_, rfl, iteB_intro (fun c4 => ?_) (fun c4 => ?_)⟩
    · have c4' : st' = 4 := by simpa using c4
      subst c4'
      exact iteB_neg (by decide) (iteB_pos (by decide) (iteB_neg (by decide) (letV_mk _ rfl (fin _ hw))))
    · have c4' : st' ≠ 4 := by simpa using c4
      refine stc.mono ?_
      rintro v H10 ⟨rfl, rfl⟩
      refine ⟨_, rfl, iteB_neg ?_ (iteB_intro (fun e => ?_) (fun e => ?_))⟩
      · by_cases h5 : st' = 5 <;> simp [knownOf, c4', h5]
      · have h5 : st' = 5 := by simpa [knownOf, c4'] using e
        subst h5
        exact iteB_neg (by decide) (letV_mk _ rfl (fin _ hw))
      · have h5 : st' ≠ 5 := by simpa [knownOf, c4'] using e
        refine stc.mono ?_
        rintro v H11 ⟨rfl, rfl⟩
        refine ⟨_, rfl, iteB_neg ?_ (letV_mk _ rfl (fin _ hw))⟩
        by_cases h3 : st' = 3 <;> simp [onOf, c4', h5, h3]

end Go.Proofs.Ytdiopeomnpfiaaa
