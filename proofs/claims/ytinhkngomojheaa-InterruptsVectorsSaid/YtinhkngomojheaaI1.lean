/-
  Swizzle, of the program and of the reference.
-/
import Derived.Test.YtinhkngomojheaaM9
import Derived.Test.YtinhkngomojheaaP5
namespace Go.Proofs.Ytinhkngomojheaa
open Go.Eng
set_option linter.unusedVariables false

/-- At which slot and pin of the root bus a pin arrives. -/
inductive Swz (T : List FS) : Nat → Int → Int → Int → Prop
  | root {i : Nat} {pin : Int} (h : (fnAt T i).parent < 0) : Swz T i pin (fnAt T i).slot pin
  | step {i : Nat} {pin s p : Int} (h : 0 ≤ (fnAt T i).parent) (hs : Swz T (fnAt T i).parent.toNat ((pin - 1 + (fnAt T i).slot).tmod 4 + 1) s p) : Swz T i pin s p
theorem Swz.det {T : List FS} {i : Nat} {pin s p s' p' : Int} (h : Swz T i pin s p) : Swz T i pin s' p' → s = s' ∧ p = p' := by
  induction h with
  | root h0 =>
    intro h'
    cases h' with
    | root _ => exact ⟨rfl, rfl⟩
    | step h1 _ => omega
  | step h0 _ ih =>
    intro h'
    cases h' with
    | root h1 => omega
    | step _ h2 => exact ih h2

def SwzC (T : List FS) (f : Int) : Prop := ValidT T ∧ 0 ≤ f ∧ f < T.length ∧ (fnAt T f.toNat).pin ≠ 0
def SwzIs (T : List FS) (f : Int) (s p : Int) (ok : Bool) : Prop := (¬ SwzC T f ∧ s = 0 ∧ p = 0 ∧ ok = false) ∨ (SwzC T f ∧ ok = true ∧ Swz T f.toNat (fnAt T f.toNat).pin s p)
theorem SwzIs.uni {T : List FS} {f s p s' p' : Int} {ok ok' : Bool} (h : SwzIs T f s p ok) (h' : SwzIs T f s' p' ok') : s = s' ∧ p = p' ∧ ok = ok' := by
  rcases h with ⟨n, rfl, rfl, rfl⟩ | ⟨c, rfl, w⟩ <;> rcases h' with ⟨n', rfl, rfl, rfl⟩ | ⟨c', rfl, w'⟩
  · exact ⟨rfl, rfl, rfl⟩
  · exact absurd c' n
  · exact absurd c n'
  · exact ⟨(w.det w').1, (w.det w').2, rfl⟩
def SwzP (T : List FS) (f : Int) (H : Heap) (v : Value) (H' : Heap) : Prop := ∃ s p ok, v = .tuple #[.int .i64 s, .int .i64 p, .bool ok] ∧ SwzIs T f s p ok ∧ Ext H H'

theorem pin_step {pin sl : Int} (h1 : 1 ≤ pin ∧ pin ≤ 4) (h2 : 0 ≤ sl ∧ sl ≤ 31) : IntKind.i64.wrap ((IntKind.i64.wrap (IntKind.i64.wrap (pin - 1) + sl)).tmod 4 + 1) = (pin - 1 + sl).tmod 4 + 1 ∧ 1 ≤ (pin - 1 + sl).tmod 4 + 1 ∧ (pin - 1 + sl).tmod 4 + 1 ≤ 4 := by
  have e : (pin - 1 + sl).tmod 4 = (pin - 1 + sl) % 4 := Int.tmod_eq_emod_of_nonneg (by omega)
  rw [i64_in (n := pin - 1) (by omega), i64_in (n := pin - 1 + sl) (by omega), e]
  refine ⟨i64_in (by omega), by omega, by omega⟩

theorem swizzle_spec (T : List FS) (s : Sl) (H : Heap) (f : Nat) (h : Topo H s T) (hv : ValidT T) (hf : f < T.length) (hp : (fnAt T f).pin ≠ 0) :
    CallsH Try.prog n_interrupts_swizzle #[.slice s.p s.n s.c, .int .i64 (f : Int)] H (fun v H' => ∃ sl p, v = .tuple #[.int .i64 sl, .int .i64 p] ∧ Swz T f (fnAt T f).pin sl p ∧ H' = H) := by
  refine F_interrupts_swizzle_ok _ _ ?_
  unfold F_interrupts_swizzle
  have hn := h.len
  obtain ⟨a, hpa, hr⟩ := h.at hf
  obtain ⟨_, _, _, _, _, _, _, _, q8, _, _⟩ := rdFn hr
  have hpi := (hv.2 f hf).va.pi
  refine ⟨by omega, by omega, unSome_mk hpa ⟨_, q8, fun i pin H' => ∃ n : Nat, i = n ∧ n < T.length ∧ (1 ≤ pin ∧ pin ≤ 4) ∧ (∀ sl p, Swz T n pin sl p → Swz T f (fnAt T f).pin sl p) ∧ H' = H, fun i _ _ => i.toNat, ⟨f, rfl, hf, by omega, fun _ _ w => w, rfl⟩, ?_⟩⟩
  rintro i pin H1 ⟨n, rfl, hnT, hpin, hw, rfl⟩
  unfold F_interrupts_swizzle_r1
  obtain ⟨a, hpa, hr⟩ := h.at hnT
  obtain ⟨q0, q1, _, _, _, _, _, _, _, _, _⟩ := rdFn hr
  have ok := hv.2 n hnT
  have hps := pin_step hpin ok.va.sl
  have hpa' := ok.pa
  refine ⟨by omega, by omega, unSome_mk hpa ⟨_, q0, iteB_dec (fun d => ⟨by omega, by omega, unSome_mk hpa ⟨_, q1, letV_mk _ hps.1 ⟨by omega, by omega, unSome_mk hpa ⟨_, q0, ⟨(fnAt T n).parent.toNat, by omega, by omega, hps.2, fun sl p w => hw sl p (.step d w), rfl⟩, by dsimp only; omega⟩⟩⟩⟩) (fun d => ⟨by omega, by omega, unSome_mk hpa ⟨_, q1, _, _, rfl, hw _ _ (.root (by omega)), rfl⟩⟩)⟩⟩

theorem Swizzle_spec (T : List FS) (s : Sl) (H : Heap) (f : Int) (h : Topo H s T) : CallsH Try.prog n_interrupts_Swizzle #[.slice s.p s.n s.c, .int .i64 f] H (SwzP T f H) := by
  refine F_interrupts_Swizzle_ok _ _ ?_
  unfold F_interrupts_Swizzle
  have hn := h.len
  refine ⟨fun b H' => (b = false ↔ SwzC T f) ∧ Ext H H', (eValid_spec T s H h).mono ?_, ?_⟩
  · rintro v H1 ⟨rfl, e1⟩
    have no : ¬ SwzC T f → (true = false ↔ SwzC T f) ∧ Ext H H1 := fun hh => ⟨by simp [hh], e1⟩
    refine ⟨_, rfl, iteB_not (fun c => no (fun hh => by simp at c; exact c hh.1)) (fun c => iteB_dec (fun c1 => no (fun hh => by have := hh.2.1; omega)) (fun c1 => iteB_dec (fun c2 => no (fun hh => by have := hh.2.2.1; omega)) (fun c2 => ?_)))⟩
    have hv : ValidT T := by simpa using c
    obtain ⟨n, rfl⟩ : ∃ n : Nat, f = n := ⟨f.toNat, by omega⟩
    have hnT : n < T.length := by omega
    obtain ⟨a, hpa, hr⟩ := (h.ext e1).at hnT
    obtain ⟨_, _, _, _, _, _, _, _, q8, _, _⟩ := rdFn hr
    refine ⟨by omega, by omega, unSome_mk hpa ⟨_, q8, ?_, e1⟩⟩
    unfold SwzC
    simp only [Int.toNat_natCast]
    constructor
    · intro hh; exact ⟨hv, by omega, by omega, by simpa using hh⟩
    · intro hh; simpa using hh.2.2.2
  · rintro b H2 ⟨hb, e2⟩
    unfold F_interrupts_Swizzle_k1
    refine iteB_intro (fun c => ⟨0, 0, false, rfl, .inl ⟨fun hh => (by rw [hb.2 hh] at c; cases c), rfl, rfl, rfl⟩, e2⟩) (fun c => ?_)
    have hc := hb.1 c
    obtain ⟨n, rfl⟩ : ∃ n : Nat, f = n := ⟨f.toNat, by have := hc.2.1; omega⟩
    have hc' := hc
    unfold SwzC at hc'
    simp only [Int.toNat_natCast] at hc'
    refine (swizzle_spec T s H2 n (h.ext e2) hc'.1 (by omega) hc'.2.2.2).mono ?_
    rintro v H3 ⟨sl, p, rfl, w, rfl⟩
    exact ⟨sl, p, rfl, sl, p, true, rfl, .inr ⟨hc, rfl, by simpa using w⟩, e2⟩

theorem rSwizzle_spec (T : List FS) (s : Sl) (H : Heap) (f : Int) (h : Topo H s T) (hl : T.length ≤ 9223372036854775807) : CallsH Try.prog n_ref21_Swizzle #[.slice s.p s.n s.c, .int .i64 f] H (SwzP T f H) := by
  refine F_ref21_Swizzle_ok _ _ ?_
  unfold F_ref21_Swizzle
  have hn := h.len
  refine ⟨fun b H' => (b = false ↔ SwzC T f) ∧ Ext H H', (rVal_spec T s H h).mono ?_, ?_⟩
  · rintro v H1 ⟨rfl, e1⟩
    have no : ¬ SwzC T f → (true = false ↔ SwzC T f) ∧ Ext H H1 := fun hh => ⟨by simp [hh], e1⟩
    refine ⟨_, rfl, iteB_not (fun c => no (fun hh => by simp at c; exact c hh.1)) (fun c => iteB_dec (fun c1 => no (fun hh => by have := hh.2.1; omega)) (fun c1 => iteB_dec (fun c2 => no (fun hh => by have := hh.2.2.1; omega)) (fun c2 => ?_)))⟩
    have hv : ValidT T := by simpa using c
    obtain ⟨n, rfl⟩ : ∃ n : Nat, f = n := ⟨f.toNat, by omega⟩
    have hnT : n < T.length := by omega
    obtain ⟨a, hpa, hr⟩ := (h.ext e1).at hnT
    obtain ⟨_, _, _, _, _, _, _, _, q8, _, _⟩ := rdFn hr
    refine ⟨by omega, by omega, unSome_mk hpa ⟨_, q8, ?_, e1⟩⟩
    unfold SwzC
    simp only [Int.toNat_natCast]
    constructor
    · intro hh; exact ⟨hv, by omega, by omega, by simpa using hh⟩
    · intro hh; simpa using hh.2.2.2
  · rintro b H2 ⟨hb, e2⟩
    unfold F_ref21_Swizzle_k2
    refine iteB_intro (fun c => ⟨0, 0, false, rfl, .inl ⟨fun hh => (by rw [hb.2 hh] at c; cases c), rfl, rfl, rfl⟩, e2⟩) (fun c => ?_)
    have hc := hb.1 c
    obtain ⟨g, rfl⟩ : ∃ n : Nat, f = n := ⟨f.toNat, by have := hc.2.1; omega⟩
    have hc' := hc
    unfold SwzC at hc'
    simp only [Int.toNat_natCast] at hc'
    obtain ⟨hv, _, hg, hpn⟩ := hc'
    have hgT : g < T.length := by omega
    obtain ⟨a, hpa, hr⟩ := (h.ext e2).at hgT
    obtain ⟨_, _, _, _, _, _, _, _, q8, _, _⟩ := rdFn hr
    have hpi := (hv.2 g hgT).va.pi
    refine ⟨by omega, by omega, unSome_mk hpa ⟨_, q8, fun i pin H' => ∃ n : Nat, i = n ∧ n < T.length ∧ (1 ≤ pin ∧ pin ≤ 4) ∧ (∀ sl p, Swz T n pin sl p → Swz T g (fnAt T g).pin sl p) ∧ H' = H2, fun i _ _ => i.toNat, ⟨g, rfl, hgT, by omega, fun _ _ w => w, rfl⟩, ?_⟩⟩
    rintro i pin H3 ⟨n, rfl, hnT, hpin, hw, rfl⟩
    unfold F_ref21_Swizzle_r1
    obtain ⟨a, hpa, hr⟩ := (h.ext e2).at hnT
    obtain ⟨q0, q1, _, _, _, _, _, _, _, _, _⟩ := rdFn hr
    have ok := hv.2 n hnT
    have hps := pin_step hpin ok.va.sl
    have hpa' := ok.pa
    refine ⟨by omega, by omega, unSome_mk hpa ⟨_, q0, iteB_dec (fun d => ⟨by omega, by omega, unSome_mk hpa ⟨_, q1, letV_mk _ hps.1 ⟨by omega, by omega, unSome_mk hpa ⟨_, q0, ⟨(fnAt T n).parent.toNat, by omega, by omega, hps.2, fun sl p w => hw sl p (.step d w), rfl⟩, by dsimp only; omega⟩⟩⟩⟩) (fun d => ⟨by omega, by omega, unSome_mk hpa ⟨_, q1, _, _, _, rfl, .inr ⟨hc, rfl, ?_⟩, e2⟩⟩)⟩⟩
    simpa using hw _ _ (.root (by omega))

end Go.Proofs.Ytinhkngomojheaa
