import Derived.Test.YtinhkngomojheaaM9
import Derived.Test.YtinhkngomojheaaP5
import Derived.Test.YtinhkngomojheaaN3
import Derived.Test.YtinhkngomojheaaEngB

section
/-
  Swizzle, of the program and of the reference.
-/
namespace Go.Proofs.Ytinhkngomojheaa
open Go.Eng
set_option linter.unusedVariables false

/-- At which slot and pin of the root bus a pin arrives. -/
inductive Swz (T : List FS) : Nat → Int → Int → Int → Prop
  | root {i : Nat} {pin : Int} (h : (fnAt T i).parent < 0) : Swz T i pin (fnAt T i).slot pin
  | step {i : Nat} {pin s p : Int} (h : 0 ≤ (fnAt T i).parent) (hs : Swz T (fnAt T i).parent.toNat ((pin - 1 + (fnAt T i).slot).tmod 4 + 1) s p) : Swz T i pin s p
theorem Swz.det {T : List FS} {i : Nat} {pin s p s' p' : Int} (h : Swz T i pin s p) : Swz T i pin s' p' → s = s' ∧ p = p' := by
  induction h with
  | root h0 =>
    intro h'
    cases h' with
    | root _ => exact ⟨rfl, rfl⟩
    | step h1 _ => omega
  | step h0 _ ih =>
    intro h'
    cases h' with
    | root h1 => omega
    | step _ h2 => exact ih h2

def SwzC (T : List FS) (f : Int) : Prop := ValidT T ∧ 0 ≤ f ∧ f < T.length ∧ (fnAt T f.toNat).pin ≠ 0
def SwzIs (T : List FS) (f : Int) (s p : Int) (ok : Bool) : Prop := (¬ SwzC T f ∧ s = 0 ∧ p = 0 ∧ ok = false) ∨ (SwzC T f ∧ ok = true ∧ Swz T f.toNat (fnAt T f.toNat).pin s p)
theorem SwzIs.uni {T : List FS} {f s p s' p' : Int} {ok ok' : Bool} (h : SwzIs T f s p ok) (h' : SwzIs T f s' p' ok') : s = s' ∧ p = p' ∧ ok = ok' := by
  rcases h with ⟨n, rfl, rfl, rfl⟩ | ⟨c, rfl, w⟩ <;> rcases h' with ⟨n', rfl, rfl, rfl⟩ | ⟨c', rfl, w'⟩
  · exact ⟨rfl, rfl, rfl⟩
  · exact absurd c' n
  · exact absurd c n'
  · exact ⟨(w.det w').1, (w.det w').2, rfl⟩
def SwzP (T : List FS) (f : Int) (H : Heap) (v : Value) (H' : Heap) : Prop := ∃ s p ok, v = .tuple #[.int .i64 s, .int .i64 p, .bool ok] ∧ SwzIs T f s p ok ∧ Ext H H'

theorem pin_step {pin sl : Int} (h1 : 1 ≤ pin ∧ pin ≤ 4) (h2 : 0 ≤ sl ∧ sl ≤ 31) : IntKind.i64.wrap ((IntKind.i64.wrap (IntKind.i64.wrap (pin - 1) + sl)).tmod 4 + 1) = (pin - 1 + sl).tmod 4 + 1 ∧ 1 ≤ (pin - 1 + sl).tmod 4 + 1 ∧ (pin - 1 + sl).tmod 4 + 1 ≤ 4 := by
  have e : (pin - 1 + sl).tmod 4 = (pin - 1 + sl) % 4 := Int.tmod_eq_emod_of_nonneg (by omega)
  rw [i64_in (n := pin - 1) (by omega), i64_in (n := pin - 1 + sl) (by omega), e]
  refine ⟨i64_in (by omega), by omega, by omega⟩

theorem swizzle_spec (T : List FS) (s : Sl) (H : Heap) (f : Nat) (h : Topo H s T) (hv : ValidT T) (hf : f < T.length) (hp : (fnAt T f).pin ≠ 0) :
    CallsH Try.prog n_interrupts_swizzle #[.slice s.p s.n s.c, .int .i64 (f : Int)] H (fun v H' => ∃ sl p, v = .tuple #[.int .i64 sl, .int .i64 p] ∧ Swz T f (fnAt T f).pin sl p ∧ H' = H) := by
  refine F_interrupts_swizzle_ok _ _ ?_
  unfold F_interrupts_swizzle
  have hn := h.len
  obtain ⟨a, hpa, hr⟩ := h.at hf
  obtain ⟨_, _, _, _, _, _, _, _, q8, _, _⟩ := rdFn hr
  have hpi := (hv.2 f hf).va.pi
  refine ⟨by omega, by omega, unSome_mk hpa ⟨_, q8, fun i pin H' => ∃ n : Nat, i = n ∧ n < T.length ∧ (1 ≤ pin ∧ pin ≤ 4) ∧ (∀ sl p, Swz T n pin sl p → Swz T f (fnAt T f).pin sl p) ∧ H' = H, fun i _ _ => i.toNat, ⟨f, rfl, hf, by omega, fun _ _ w => w, rfl⟩, ?_⟩⟩
  rintro i pin H1 ⟨n, rfl, hnT, hpin, hw, rfl⟩
  unfold F_interrupts_swizzle_r1
  obtain ⟨a, hpa, hr⟩ := h.at hnT
  obtain ⟨q0, q1, _, _, _, _, _, _, _, _, _⟩ := rdFn hr
  have ok := hv.2 n hnT
  have hps := pin_step hpin ok.va.sl
  have hpa' := ok.pa
  refine ⟨by omega, by omega, unSome_mk hpa ⟨_, q0, iteB_dec (fun d => ⟨by omega, by omega, unSome_mk hpa ⟨_, q1, letV_mk _ hps.1 ⟨by omega, by omega, unSome_mk hpa ⟨_, q0, ⟨(fnAt T n).parent.toNat, by omega, by omega, hps.2, fun sl p w => hw sl p (.step d w), rfl⟩, by dsimp only; omega⟩⟩⟩⟩) (fun d => ⟨by omega, by omega, unSome_mk hpa ⟨_, q1, _, _, rfl, hw _ _ (.root (by omega)), rfl⟩⟩)⟩⟩

theorem Swizzle_spec (T : List FS) (s : Sl) (H : Heap) (f : Int) (h : Topo H s T) : CallsH Try.prog n_interrupts_Swizzle #[.slice s.p s.n s.c, .int .i64 f] H (SwzP T f H) := by
  refine F_interrupts_Swizzle_ok _ _ ?_
  unfold F_interrupts_Swizzle
  have hn := h.len
  refine ⟨fun b H' => (b = false ↔ SwzC T f) ∧ Ext H H', (eValid_spec T s H h).mono ?_, ?_⟩
  · rintro v H1 ⟨rfl, e1⟩
    have no : ¬ SwzC T f → (true = false ↔ SwzC T f) ∧ Ext H H1 := fun hh => ⟨by simp [hh], e1⟩
    refine ⟨_, rfl, iteB_not (fun c => no (fun hh => by simp at c; exact c hh.1)) (fun c => iteB_dec (fun c1 => no (fun hh => by have := hh.2.1; omega)) (fun c1 => iteB_dec (fun c2 => no (fun hh => by have := hh.2.2.1; omega)) (fun c2 => ?_)))⟩
    have hv : ValidT T := by simpa using c
    obtain ⟨n, rfl⟩ : ∃ n : Nat, f = n := ⟨f.toNat, by omega⟩
    have hnT : n < T.length := by omega
    obtain ⟨a, hpa, hr⟩ := (h.ext e1).at hnT
    obtain ⟨_, _, _, _, _, _, _, _, q8, _, _⟩ := rdFn hr
    refine ⟨by omega, by omega, unSome_mk hpa ⟨_, q8, ?_, e1⟩⟩
    unfold SwzC
    simp only [Int.toNat_natCast]
    constructor
    · intro hh; exact ⟨hv, by omega, by omega, by simpa using hh⟩
    · intro hh; simpa using hh.2.2.2
  · rintro b H2 ⟨hb, e2⟩
    unfold F_interrupts_Swizzle_k1
    refine iteB_intro (fun c => ⟨0, 0, false, rfl, .inl ⟨fun hh => (by rw [hb.2 hh] at c; cases c), rfl, rfl, rfl⟩, e2⟩) (fun c => ?_)
    have hc := hb.1 c
    obtain ⟨n, rfl⟩ : ∃ n : Nat, f = n := ⟨f.toNat, by have := hc.2.1; omega⟩
    have hc' := hc
    unfold SwzC at hc'
    simp only [Int.toNat_natCast] at hc'
    refine (swizzle_spec T s H2 n (h.ext e2) hc'.1 (by omega) hc'.2.2.2).mono ?_
    rintro v H3 ⟨sl, p, rfl, w, rfl⟩
    exact ⟨sl, p, rfl, sl, p, true, rfl, .inr ⟨hc, rfl, by simpa using w⟩, e2⟩

theorem rSwizzle_spec (T : List FS) (s : Sl) (H : Heap) (f : Int) (h : Topo H s T) (hl : T.length ≤ 9223372036854775807) : CallsH Try.prog n_ref21_Swizzle #[.slice s.p s.n s.c, .int .i64 f] H (SwzP T f H) := by
  refine F_ref21_Swizzle_ok _ _ ?_
  unfold F_ref21_Swizzle
  have hn := h.len
  refine ⟨fun b H' => (b = false ↔ SwzC T f) ∧ Ext H H', (rVal_spec T s H h).mono ?_, ?_⟩
  · rintro v H1 ⟨rfl, e1⟩
    have no : ¬ SwzC T f → (true = false ↔ SwzC T f) ∧ Ext H H1 := fun hh => ⟨by simp [hh], e1⟩
    refine ⟨_, rfl, iteB_not (fun c => no (fun hh => by simp at c; exact c hh.1)) (fun c => iteB_dec (fun c1 => no (fun hh => by have := hh.2.1; omega)) (fun c1 => iteB_dec (fun c2 => no (fun hh => by have := hh.2.2.1; omega)) (fun c2 => ?_)))⟩
    have hv : ValidT T := by simpa using c
    obtain ⟨n, rfl⟩ : ∃ n : Nat, f = n := ⟨f.toNat, by omega⟩
    have hnT : n < T.length := by omega
    obtain ⟨a, hpa, hr⟩ := (h.ext e1).at hnT
    obtain ⟨_, _, _, _, _, _, _, _, q8, _, _⟩ := rdFn hr
    refine ⟨by omega, by omega, unSome_mk hpa ⟨_, q8, ?_, e1⟩⟩
    unfold SwzC
    simp only [Int.toNat_natCast]
    constructor
    · intro hh; exact ⟨hv, by omega, by omega, by simpa using hh⟩
    · intro hh; simpa using hh.2.2.2
  · rintro b H2 ⟨hb, e2⟩
    unfold F_ref21_Swizzle_k2
    refine iteB_intro (fun c => ⟨0, 0, false, rfl, .inl ⟨fun hh => (by rw [hb.2 hh] at c; cases c), rfl, rfl, rfl⟩, e2⟩) (fun c => ?_)
    have hc := hb.1 c
    obtain ⟨g, rfl⟩ : ∃ n : Nat, f = n := ⟨f.toNat, by have := hc.2.1; omega⟩
    have hc' := hc
    unfold SwzC at hc'
    simp only [Int.toNat_natCast] at hc'
    obtain ⟨hv, _, hg, hpn⟩ := hc'
    have hgT : g < T.length := by omega
    obtain ⟨a, hpa, hr⟩ := (h.ext e2).at hgT
    obtain ⟨_, _, _, _, _, _, _, _, q8, _, _⟩ := rdFn hr
    have hpi := (hv.2 g hgT).va.pi
    refine ⟨by omega, by omega, unSome_mk hpa ⟨_, q8, fun i pin H' => ∃ n : Nat, i = n ∧ n < T.length ∧ (1 ≤ pin ∧ pin ≤ 4) ∧ (∀ sl p, Swz T n pin sl p → Swz T g (fnAt T g).pin sl p) ∧ H' = H2, fun i _ _ => i.toNat, ⟨g, rfl, hgT, by omega, fun _ _ w => w, rfl⟩, ?_⟩⟩
    rintro i pin H3 ⟨n, rfl, hnT, hpin, hw, rfl⟩
    unfold F_ref21_Swizzle_r1
    obtain ⟨a, hpa, hr⟩ := (h.ext e2).at hnT
    obtain ⟨q0, q1, _, _, _, _, _, _, _, _, _⟩ := rdFn hr
    have ok := hv.2 n hnT
    have hps := pin_step hpin ok.va.sl
    have hpa' := ok.pa
    refine ⟨by omega, by omega, unSome_mk hpa ⟨_, q0, iteB_dec (fun d => ⟨by omega, by omega, unSome_mk hpa ⟨_, q1, letV_mk _ hps.1 ⟨by omega, by omega, unSome_mk hpa ⟨_, q0, ⟨(fnAt T n).parent.toNat, by omega, by omega, hps.2, fun sl p w => hw sl p (.step d w), rfl⟩, by dsimp only; omega⟩⟩⟩⟩) (fun d => ⟨by omega, by omega, unSome_mk hpa ⟨_, q1, _, _, _, rfl, .inr ⟨hc, rfl, ?_⟩, e2⟩⟩)⟩⟩
    simpa using hw _ _ (.root (by omega))

end Go.Proofs.Ytinhkngomojheaa
end

section
/-
  LinkOf, of the program and of the reference.
-/
namespace Go.Proofs.Ytinhkngomojheaa
open Go.Eng
set_option linter.unusedVariables false

theorem find_none_g {α : Type} {L : List α} {q : α → Bool} (d : α) (h : ∀ i, i < L.length → q (L.getD i d) = false) : L.find? q = none := by
  rw [List.find?_eq_none]
  intro x hx hq
  obtain ⟨i, hi, rfl⟩ := List.getElem_of_mem hx
  have := h i hi
  simp [List.getD, hi] at this
  rw [this] at hq
  cases hq
theorem find_at_g {α : Type} {L : List α} {q : α → Bool} {k : Nat} (d : α) (hk : k < L.length) (h : ∀ i, i < k → q (L.getD i d) = false) (hq : q (L.getD k d) = true) : L.find? q = some (L.getD k d) := by
  have e : L = L.take k ++ (L.getD k d :: L.drop (k + 1)) := by
    have h1 := take_succ_d d hk
    rw [show L.take k ++ (L.getD k d :: L.drop (k + 1)) = L.take k ++ [L.getD k d] ++ L.drop (k + 1) by simp, ← h1, List.take_append_drop]
  have hn : (L.take k).find? q = none := by
    refine find_none_g d (fun i hi => ?_)
    have hik : i < k := by simp at hi; omega
    have e1 : (L.take k).getD i d = L.getD i d := by simp [List.getD, List.getElem?_take_of_lt hik]
    rw [e1]
    exact h i hik
  conv => lhs; rw [e]
  rw [List.find?_append, hn, List.find?_cons_of_pos hq]
  rfl

def rtQ (s p : Int) (r : Rt) : Bool := decide (r.1 = s ∧ r.2.1 = p)
/-- The link, if the pin arrives at a slot and a pin. -/
def lkF (h : Host) (s p : Int) (o : Bool) : Int × Bool :=
  if o = true ∧ ValidH h then (match h.routes.find? (rtQ s p) with | some r => (r.2.2, true) | none => (0, false)) else (0, false)
def LinkP (T : List FS) (h : Host) (f : Int) (H : Heap) (v : Value) (H' : Heap) : Prop :=
  ∃ s p o, SwzIs T f s p o ∧ v = .tuple #[.int .i64 (lkF h s p o).1, .bool (lkF h s p o).2] ∧ Ext H H'

theorem LinkOf_spec (T : List FS) (s : Sl) (h : Host) (hs : HostS) (H : Heap) (f : Int) (ht : Topo H s T) (m : HostM H h hs) :
    CallsH Try.prog n_interrupts_LinkOf #[.slice s.p s.n s.c, hostV h hs, .int .i64 f] H (LinkP T h f H) := by
  refine F_interrupts_LinkOf_ok _ _ _ _ _ _ _ _ _ _ ?_
  unfold F_interrupts_LinkOf
  refine push_mk (vs := hostL h hs) fun H1 e1 z1 b1 => (Swizzle_spec T s H1 f (ht.ext e1)).mono ?_
  rintro v H2 ⟨sl, p, o, rfl, hsw, e2⟩
  have x2 := e1.trans e2
  have no : ∀ H', Ext H H' → lkF h sl p o = (0, false) → LinkP T h f H (.tuple #[.int .i64 0, .bool false]) H' := fun H' e hh => ⟨sl, p, o, hsw, by rw [hh], e⟩
  refine ⟨sl, p, o, rfl, iteB_not (fun c => no _ x2 (by unfold lkF; rw [if_neg (fun hh => by rw [hh.1] at c; cases c)])) (fun c => ?_)⟩
  have ho : o = true := by simpa using c
  obtain ⟨p0, p1, p2, p3, p4, p5, p6, p7⟩ := Blk.host (b1.ext e2)
  refine ⟨_, p0, _, p1, _, p2, _, p3, _, p4, _, p5, _, p6, _, p7, (ValidHost_spec h hs H2 (m.ext x2)).mono ?_⟩
  rintro v H3 ⟨rfl, e3⟩
  have x3 := x2.trans e3
  obtain ⟨p0, p1, p2, p3, p4, p5, p6, p7⟩ := Blk.host (b1.ext (e2.trans e3))
  refine ⟨_, rfl, iteB_not (fun d => no _ x3 (by unfold lkF; rw [if_neg (fun hh => by simp at d; exact d hh.2)])) (fun d => ⟨_, p7, ?_⟩)⟩
  have hv : ValidH h := by simpa using d
  have hlk : lkF h sl p o = (match h.routes.find? (rtQ sl p) with | some r => (r.2.2, true) | none => (0, false)) := by unfold lkF; rw [if_pos ⟨ho, hv⟩]
  have hrn := m.routes.len
  have hro := hv.ro
  refine loop1 h.routes.length (fun k H' => Ext H3 H' ∧ ∀ i, i < k → rtQ sl p (h.routes.getD i (0, 0, 0)) = false) ⟨.refl _, fun i hi => by omega⟩ ?_
  rintro k H4 hk ⟨e4, hno⟩
  unfold F_interrupts_LinkOf_r2
  have x4 := x3.trans e4
  refine iteB_dec (fun c1 => ?_) (fun c1 => no _ x4 ?_)
  · have hkn : k < h.routes.length := by omega
    obtain ⟨a, hp, hr⟩ := IsS.atN (m.routes.ext x4) (0, 0, 0) hkn
    have hfind := find_at_g (0, 0, 0) hkn hno
    generalize hre : h.routes.getD k (0, 0, 0) = r at *
    refine ⟨by omega, by omega, unSome_mk hp ⟨_, hr 0 _ rfl, _, hr 1 _ rfl, _, hr 2 _ rfl, local_mk (vs := encRt r) rfl rfl fun H6 e6 z6 b6 => ?_⟩⟩
    have q0 := b6.rd0 (v := .int .i64 r.1) rfl
    have q1 := b6.rd (i := 1) (v := .int .i64 r.2.1) rfl
    have q2 := b6.rd (i := 2) (v := .int .i64 r.2.2) rfl
    refine ⟨fun b H' => b = rtQ sl p r ∧ H' = H6, ⟨_, q0, iteB_beq (fun d1 => ⟨_, q1, ?_, rfl⟩) (fun d1 => ⟨by unfold rtQ; rw [decide_eq_false (fun hh => d1 hh.1)], rfl⟩)⟩, ?_⟩
    · unfold rtQ
      rw [Bool.eq_iff_iff]
      simp [d1]
    · rintro b H7 ⟨rfl, rfl⟩
      unfold F_interrupts_LinkOf_k1
      refine iteB_intro (fun d1 => ⟨_, q2, sl, p, o, hsw, by rw [hlk, hfind d1], x4.trans e6⟩) (fun d1 => next1 hkn (by omega) ⟨e4.trans e6, fun i hi => ?_⟩)
      by_cases e : i = k
      · subst e; rw [hre]; exact d1
      · exact hno i (by omega)
  · rw [hlk, find_none_g (0, 0, 0) (fun i hi => hno i (by omega))]

theorem rLinkOf_spec (T : List FS) (s : Sl) (h : Host) (hs : HostS) (H : Heap) (f : Int) (ht : Topo H s T) (hl : T.length ≤ 9223372036854775807) (m : HostM H h hs) :
    CallsH Try.prog n_ref21_LinkOf #[.slice s.p s.n s.c, hostV h hs, .int .i64 f] H (LinkP T h f H) := by
  refine F_ref21_LinkOf_ok _ _ _ _ _ _ _ _ _ _ ?_
  unfold F_ref21_LinkOf
  refine push_mk (vs := hostL h hs) fun H1 e1 z1 b1 => (rSwizzle_spec T s H1 f (ht.ext e1) hl).mono ?_
  rintro v H2 ⟨sl, p, o, rfl, hsw, e2⟩
  have x2 := e1.trans e2
  have no : ∀ H', Ext H H' → lkF h sl p o = (0, false) → LinkP T h f H (.tuple #[.int .i64 0, .bool false]) H' := fun H' e hh => ⟨sl, p, o, hsw, by rw [hh], e⟩
  refine ⟨sl, p, o, rfl, iteB_not (fun c => no _ x2 (by unfold lkF; rw [if_neg (fun hh => by rw [hh.1] at c; cases c)])) (fun c => ?_)⟩
  have ho : o = true := by simpa using c
  obtain ⟨p0, p1, p2, p3, p4, p5, p6, p7⟩ := Blk.host (b1.ext e2)
  refine ⟨_, p0, _, p1, _, p2, _, p3, _, p4, _, p5, _, p6, _, p7, (rValidHost_spec h hs H2 (m.ext x2)).mono ?_⟩
  rintro v H3 ⟨rfl, e3⟩
  have x3 := x2.trans e3
  refine ⟨_, rfl, iteB_not (fun d => no _ x3 (by unfold lkF; rw [if_neg (fun hh => by simp at d; exact d hh.2)])) (fun d => ?_)⟩
  have hv : ValidH h := by simpa using d
  have hlk : lkF h sl p o = (match h.routes.find? (rtQ sl p) with | some r => (r.2.2, true) | none => (0, false)) := by unfold lkF; rw [if_pos ⟨ho, hv⟩]
  have hrn := m.routes.len
  have hro := hv.ro
  have p7 := (Blk.host (b1.ext (e2.trans e3))).2.2.2.2.2.2.2
  refine loop1 h.routes.length (fun k H' => H' = H3 ∧ ∀ i, i < k → rtQ sl p (h.routes.getD i (0, 0, 0)) = false) ⟨rfl, fun i hi => by omega⟩ ?_
  rintro k H4 hk ⟨rfl, hno⟩
  unfold F_ref21_LinkOf_r2
  refine ⟨_, p7, iteB_dec (fun c1 => ?_) (fun c1 => no _ x3 ?_)⟩
  · have hkn : k < h.routes.length := by omega
    obtain ⟨a, hp, hr⟩ := IsS.atN (m.routes.ext x3) (0, 0, 0) hkn
    have hfind := find_at_g (0, 0, 0) hkn hno
    generalize hre : h.routes.getD k (0, 0, 0) = r at *
    have q0 := hr 0 _ rfl
    refine ⟨fun b H' => b = rtQ sl p r ∧ H' = H4, ⟨_, p7, by omega, by omega, unSome_mk hp ⟨_, q0, iteB_beq (fun d1 => ⟨_, p7, by omega, by omega, unSome_mk hp ⟨_, hr 1 _ rfl, ?_, rfl⟩⟩) (fun d1 => ⟨by unfold rtQ; rw [decide_eq_false (fun hh => d1 hh.1)], rfl⟩)⟩⟩, ?_⟩
    · unfold rtQ
      rw [Bool.eq_iff_iff]
      simp [d1]
    · rintro b H7 ⟨rfl, rfl⟩
      unfold F_ref21_LinkOf_k1
      refine iteB_intro (fun d1 => ⟨_, p7, by omega, by omega, unSome_mk hp ⟨_, hr 2 _ rfl, sl, p, o, hsw, by rw [hlk, hfind d1], x3⟩⟩) (fun d1 => letV_mk _ rfl (next1 hkn (by omega) ⟨rfl, fun i hi => ?_⟩))
      by_cases e : i = k
      · subst e; rw [hre]; exact d1
      · exact hno i (by omega)
  · rw [hlk, find_none_g (0, 0, 0) (fun i hi => hno i (by omega))]

end Go.Proofs.Ytinhkngomojheaa
end

section
/-
  Vectors, in plain terms.
-/
namespace Go.Proofs.Ytinhkngomojheaa
open Go.Eng
set_option linter.unusedVariables false

/-- The number of a function's vectors is a power of two. -/
theorem vec_pow {f : Fn} (h : ValidF f) : f.vec = 0 ∨ f.vec = 1 ∨ f.vec = 2 ∨ f.vec = 4 ∨ f.vec = 8 ∨ f.vec = 16 ∨ f.vec = 32 := by
  have key : ∀ n : Fin 33, bitsAnd .i64 (n.val : Int) (IntKind.i64.wrap ((n.val : Int) - 1)) = 0 → n.val = 0 ∨ n.val = 1 ∨ n.val = 2 ∨ n.val = 4 ∨ n.val = 8 ∨ n.val = 16 ∨ n.val = 32 := by decide +kernel
  have hb := h.vc
  have hv := h.vb
  obtain ⟨n, hn⟩ : ∃ n : Nat, f.vec = n := ⟨f.vec.toNat, by omega⟩
  rw [hn] at hv hb ⊢
  have := key ⟨n, by omega⟩ hv
  dsimp only at this
  omega

def lg (v : Int) : Int := if v = 1 then 0 else if v = 2 then 1 else if v = 4 then 2 else if v = 8 then 3 else if v = 16 then 4 else 5
theorem lg_range (v : Int) : 0 ≤ lg v ∧ lg v ≤ 5 := by unfold lg; repeat' split
                                                       all_goals omega

/-- Functions with message interrupts, among the first. -/
def useN (T : List FS) (k : Nat) : List Nat := (List.range k).filter (fun i => decide (0 < (fnAt T i).vec))
def uF (T : List FS) (k : Nat) : List Int := (useN T k).map (fun i : Nat => (i : Int))
def sF (T : List FS) (k : Nat) : List Int := (useN T k).map (fun i : Nat => lg (fnAt T i).vec)
theorem useN_succ (T : List FS) (k : Nat) : useN T (k + 1) = useN T k ++ (if 0 < (fnAt T k).vec then [k] else []) := by
  unfold useN
  rw [range_filter_succ]
  congr 1
  by_cases h : 0 < (fnAt T k).vec <;> simp [h]
theorem useN_len (T : List FS) (k : Nat) : (useN T k).length ≤ k := by
  have := List.length_filter_le (fun i => decide (0 < (fnAt T i).vec)) (List.range k)
  simpa [useN] using this

/-- The vectors of all functions, from the places of those that have some. -/
def vecOut (n : Nat) (U : List Int) (bs : List Int) : List Int := (U.zip bs).foldl (fun o x => o.set x.1.toNat (IntKind.i64.wrap x.2)) (List.replicate n 0)
def vecV (T : List FS) : Int × List Int × Cert :=
  if ValidT T then
    (if (placeV [(32, 208)] (sF T T.length)).1 ≠ 0 then ((placeV [(32, 208)] (sF T T.length)).1, [], (placeV [(32, 208)] (sF T T.length)).2.2)
     else (0, vecOut T.length (uF T T.length) (placeV [(32, 208)] (sF T T.length)).2.1, noCert))
  else (1, [], noCert)

end Go.Proofs.Ytinhkngomojheaa
end

section
/-
  The program's Vectors (at most 20 functions with message interrupts, as Place_spec stands).
-/
namespace Go.Proofs.Ytinhkngomojheaa
open Go.Eng
set_option linter.unusedVariables false

theorem bitsLen_spec (v : Int) (H : Heap) (h : v = 1 ∨ v = 2 ∨ v = 4 ∨ v = 8 ∨ v = 16 ∨ v = 32) : CallsH Try.prog n_math_bits_Len #[.int .u64 v] H (fun r H' => r = .int .i64 (lg v + 1) ∧ H' = H) := by
  refine F_math_bits_Len_ok _ ?_
  unfold F_math_bits_Len
  refine (Len64_spec v H (by omega) (by omega)).mono ?_
  rintro r H1 ⟨k, rfl, hb, rfl⟩
  refine ⟨_, rfl, ?_, rfl⟩
  have h1 := hb.lt
  have hk : (k : Int) = lg v + 1 := by
    have hge := hb.ge
    have lo : ∀ n, k ≤ n → (2 : Int) ^ k ≤ 2 ^ n := fun n hn => pow_mono hn
    have hi : ∀ n, n + 1 ≤ k → (2 : Int) ^ n ≤ 2 ^ (k - 1) := fun n hn => pow_mono (by omega)
    have p0 : (2 : Int) ^ 0 = 1 := rfl
    have p1 : (2 : Int) ^ 1 = 2 := rfl
    have p2 : (2 : Int) ^ 2 = 4 := rfl
    have p3 : (2 : Int) ^ 3 = 8 := rfl
    have p4 : (2 : Int) ^ 4 = 16 := rfl
    have p5 : (2 : Int) ^ 5 = 32 := rfl
    have p6 : (2 : Int) ^ 6 = 64 := rfl
    have one : ∀ n : Nat, v = 2 ^ n → k = n + 1 := fun n hv => by
      by_cases c1 : k ≤ n
      · have := lo n c1; omega
      · by_cases c2 : n + 2 ≤ k
        · have q1 := hi (n + 1) (by omega)
          have q2 : (2 : Int) ^ (n + 1) = 2 ^ n * 2 := Int.pow_succ 2 n
          have q3 := pow_pos2 n
          rcases hge with e | e
          · omega
          · omega
        · omega
    rcases h with rfl | rfl | rfl | rfl | rfl | rfl
    · have := one 0 p0.symm; simp [lg]; omega
    · have := one 1 p1.symm; simp [lg]; omega
    · have := one 2 p2.symm; simp [lg]; omega
    · have := one 3 p3.symm; simp [lg]; omega
    · have := one 4 p4.symm; simp [lg]; omega
    · have := one 5 p5.symm; simp [lg]; omega
  rw [hk]

/-- An answer of Vectors in memory. -/
def VecP (x : Int × List Int × Cert) (H : Heap) (v : Value) (H' : Heap) : Prop :=
  ∃ out : Sl, v = .tuple #[.slice out.p out.n out.c, certV x.2.2, .int .i64 x.1] ∧ Ints .i64 H' out x.2.1 ∧ Ext H H'

/-- The two lists that are collected. -/
structure VS (T : List FS) (H2 : Heap) (k : Nat) (users sizes : Sl) (H' : Heap) : Prop where
  u : Own H2.size t_int 1 H' users ((uF T k).flatMap (Go.Eng.encI .i64))
  s : Own H2.size t_int 1 H' sizes ((sF T k).flatMap (Go.Eng.encI .i64))
  ne : ∀ a b, users.p = some a → sizes.p = some b → a.block ≠ b.block
  ext : Ext H2 H'

theorem nblk {p : Option Addr} {b : Nat} (h : ∀ a, p = some a → a.block ≠ b) : b ∉ blkOf p := by
  cases p with
  | none => simp [blkOf]
  | some a => simp only [blkOf, List.mem_singleton]; exact fun e => h a rfl e.symm

theorem vec_round (T : List FS) (s : Sl) (H H2 : Heap) (h2 : Topo H2 s T) (hv : ValidT T) (k : Nat) (users sizes : Sl) (H4 : Heap) (R : Value → Heap → Prop) (hk : k < T.length) (hT : T.length ≤ 64) (st : VS T H2 k users sizes H4) :
    F_interrupts_Vectors_r2 R H s (CI3 T.length (fun k u z H' => VS T H2 k u z H')) (CM3 T.length) users sizes k H4 := by
  unfold F_interrupts_Vectors_r2
  have hn := h2.len
  obtain ⟨a, hpa, hr⟩ := (h2.ext st.ext).at hk
  obtain ⟨p0, p1, p2, p3, p4, p5, p6, p7, p8, p9, p10⟩ := rdFn hr
  have hvec := vec_pow (hv.2 k hk).va
  have hus := useN_succ T k
  have hul := useN_len T k
  have un := Own.len rkInt st.u
  have sn := Own.len rkInt st.s
  have hul' : (uF T k).length = (useN T k).length := by simp [uF]
  have hsl' : (sF T k).length = (useN T k).length := by simp [sF]
  refine iteB_pos (by simp; omega) ⟨by omega, by omega, unSome_mk hpa ⟨_, p0, _, p1, _, p2, _, p3, _, p4, _, p5, _, p6, _, p7, _, p8, _, p9, slAt T k, p10, local_mk (vs := fnL (fnAt T k) (slAt T k)) rfl rfl fun H6 e6 z6 b6 => ?_⟩⟩
  have q9 := (Blk.fn b6).2.2.2.2.2.2.2.2.2.1
  have x6 := st.ext.trans e6
  refine ⟨_, q9, iteB_dec (fun d => ?_) (fun d => next3 hk (by omega) ⟨?_, ?_, st.ne, x6⟩)⟩
  · have hu1 : uF T (k + 1) = uF T k ++ [(k : Int)] := by unfold uF; rw [hus, if_pos (by omega), List.map_append]; rfl
    have hs1 : sF T (k + 1) = sF T k ++ [lg (fnAt T k).vec] := by unfold sF; rw [hus, if_pos (by omega), List.map_append]; rfl
    have ou := st.u.ext e6
    have os := st.s.ext e6
    refine apRat rkInt (k : Int) (lo := H2.size) ou (by omega) x6.size ?_
    intro users1 H8 o8 n8 m8 at8
    have e8 : Ext H2 H8 := Mods.ext x6 m8 (blkOf_new ou.new)
    have os8 := os.mods m8 (fun a ha => by
      cases hu : users.p with
      | none => simp [blkOf]
      | some b => simp only [blkOf, List.mem_singleton]; exact fun e => st.ne b a hu ha e.symm)
    have b8 := b6.mods m8 (nblk (fun a ha => by have := st.u.lt a ha; omega))
    have q9' := (Blk.fn b8).2.2.2.2.2.2.2.2.2.1
    have hne8 : ∀ a b, users1.p = some a → sizes.p = some b → a.block ≠ b.block := fun a b ha hb => by
      rcases at8 a ha with h1 | h1
      · cases hu : users.p with
        | none => rw [hu] at h1; simp [blkOf] at h1
        | some c => rw [hu] at h1; simp only [blkOf, List.mem_singleton] at h1; rw [h1]; exact st.ne c b hu hb
      · have := os.lt b hb; omega
    refine ⟨_, q9', ?_⟩
    rw [u64_in (n := (fnAt T k).vec) (by omega)]
    refine (bitsLen_spec _ H8 (by omega)).mono ?_
    rintro v H9 ⟨rfl, rfl⟩
    have hlr := lg_range (fnAt T k).vec
    refine ⟨_, rfl, ?_⟩
    rw [i64_in (n := lg (fnAt T k).vec + 1 - 1) (by omega), show lg (fnAt T k).vec + 1 - 1 = lg (fnAt T k).vec by omega]
    refine apRat rkInt (lg (fnAt T k).vec) (lo := H2.size) os8 (by omega) e8.size ?_
    intro sizes1 H11 o11 n11 m11 at11
    refine next3 hk (by omega) ⟨?_, by rw [hs1]; exact o11, fun a b ha hb => ?_, Mods.ext e8 m11 (blkOf_new os8.new)⟩
    · rw [hu1]
      exact o8.mods m11 (fun a ha => by
        cases hz : sizes.p with
        | none => simp [blkOf]
        | some b => simp only [blkOf, List.mem_singleton]; exact fun e => hne8 a b ha hz e)
    · rcases at11 b hb with h1 | h1
      · cases hz : sizes.p with
        | none => rw [hz] at h1; simp [blkOf] at h1
        | some c => rw [hz] at h1; simp only [blkOf, List.mem_singleton] at h1; rw [h1]; exact hne8 a c ha hz
      · have := o8.lt a ha; omega
  · have : uF T (k + 1) = uF T k := by unfold uF; rw [hus, if_neg (by omega), List.append_nil]
    rw [this]; exact st.u.ext e6
  · have : sF T (k + 1) = sF T k := by unfold sF; rw [hus, if_neg (by omega), List.append_nil]
    rw [this]; exact st.s.ext e6

end Go.Proofs.Ytinhkngomojheaa
end

section
/-
  The program's Vectors.
-/
namespace Go.Proofs.Ytinhkngomojheaa
open Go.Eng
set_option linter.unusedVariables false

theorem zip_take_succ {U bs : List Int} {k : Nat} (hu : k < U.length) (hb : k < bs.length) : (U.zip bs).take (k + 1) = (U.zip bs).take k ++ [(U.getD k 0, bs.getD k 0)] := by
  have hz : k < (U.zip bs).length := by rw [List.length_zip]; omega
  rw [take_succ_d (0, 0) hz]
  have e0 : (U.zip bs).getD k (0, 0) = (U.zip bs)[k] := by unfold List.getD; rw [List.getElem?_eq_getElem hz]; rfl
  have e1 : U.getD k 0 = U[k] := by simp [List.getD, hu]
  have e2 : bs.getD k 0 = bs[k] := by simp [List.getD, hb]
  rw [e0, e1, e2, List.getElem_zip]

def vecSt (n : Nat) (U bs : List Int) (k : Nat) : List Int := ((U.zip bs).take k).foldl (fun o x => o.set x.1.toNat (IntKind.i64.wrap x.2)) (List.replicate n 0)
theorem vecSt_succ {n : Nat} {U bs : List Int} {k : Nat} (hu : k < U.length) (hb : k < bs.length) : vecSt n U bs (k + 1) = (vecSt n U bs k).set (U.getD k 0).toNat (IntKind.i64.wrap (bs.getD k 0)) := by
  unfold vecSt
  rw [zip_take_succ hu hb, List.foldl_append]
  rfl
theorem vecSt_len (n : Nat) (U bs : List Int) (k : Nat) : (vecSt n U bs k).length = n := by
  unfold vecSt
  generalize (U.zip bs).take k = l
  have : ∀ (l : List (Int × Int)) (o : List Int), (l.foldl (fun o x => o.set x.1.toNat (IntKind.i64.wrap x.2)) o).length = o.length := by
    intro l
    induction l with
    | nil => intro o; rfl
    | cons x l ih => intro o; rw [List.foldl_cons, ih]; simp
  rw [this]
  simp
theorem vecSt_all {n : Nat} {U bs : List Int} (h : U.length = bs.length) : vecSt n U bs U.length = vecOut n U bs := by
  unfold vecSt vecOut
  rw [List.take_of_length_le (by rw [List.length_zip]; omega)]

theorem uF_mem {T : List FS} {k : Nat} : ∀ x ∈ uF T k, 0 ≤ x ∧ x < k := fun x hx => by
  obtain ⟨i, hi, rfl⟩ := List.mem_map.1 hx
  have := (List.mem_filter.1 hi).1
  simp at this
  omega

theorem placeV_len {free : List Rg} {S bs : List Int} {c : Cert} (h : placeV free S = (0, bs, c)) : bs.length = S.length := by
  unfold placeV at h
  split at h
  · cases hp : plI S (ordF S) (mergeF free) (List.replicate S.length 0) with
    | none => rw [hp] at h; simp at h
    | some x =>
      rw [hp] at h
      obtain ⟨l, b⟩ := x
      simp only [Prod.mk.injEq, true_and] at h
      have := plI_len S _ _ _ _ hp
      rw [← h.1]
      simpa using this
  · simp at h

theorem Vectors_spec (T : List FS) (s : Sl) (H : Heap) (h : Topo H s T) : CallsH Try.prog n_interrupts_Vectors #[.slice s.p s.n s.c] H (VecP (vecV T) H) := by
  refine F_interrupts_Vectors_ok _ ?_
  unfold F_interrupts_Vectors
  have hn := h.len
  refine push_mk (vs := encC noCert) fun H1 e1 z1 b1 => (eValid_spec T s H1 (h.ext e1)).mono ?_
  rintro v H2 ⟨rfl, e2⟩
  have x2 := e1.trans e2
  refine ⟨_, rfl, iteB_not (fun c => ?_) (fun c => ?_)⟩
  · have hnv : ¬ ValidT T := by simpa using c
    have hvv : vecV T = (1, [], noCert) := by unfold vecV; rw [if_neg hnv]
    refine cert_wr (c0 := noCert) (c := noCert) (K := fun v H' => VecP (vecV T) H (.tuple #[.slice none 0 0, v, .int .i64 1]) H') (b1.ext e2) (fun H' m' _ => ?_)
    rw [hvv]
    exact ⟨⟨none, 0, 0⟩, rfl, IsS.nil _ _ _, Mods.ext x2 m' (by simp)⟩
  have hv : ValidT T := by simpa using c
  have hv1 := hv.1
  refine loop3 T.length (fun k u z H' => VS T H2 k u z H') ⟨Own.nil _ _ _ _, Own.nil _ _ _ _, fun a b ha => (by cases ha), .refl _⟩ ?_
  rintro k users sizes H4 hk st
  by_cases hkT : k < T.length
  · exact vec_round T s H H2 (h.ext x2) hv k users sizes H4 _ hkT (by omega) st
  obtain rfl : k = T.length := by omega
  unfold F_interrupts_Vectors_r2
  refine iteB_neg (by simp; omega) ?_
  have hul := useN_len T T.length
  have hUl : (uF T T.length).length = (useN T T.length).length := by simp [uF]
  have hSl : (sF T T.length).length = (useN T T.length).length := by simp [sF]
  have hvv : vecV T = (if (placeV [(32, 208)] (sF T T.length)).1 ≠ 0 then ((placeV [(32, 208)] (sF T T.length)).1, [], (placeV [(32, 208)] (sF T T.length)).2.2)
     else (0, vecOut T.length (uF T T.length) (placeV [(32, 208)] (sF T T.length)).2.1, noCert)) := by unfold vecV; rw [if_pos hv]
  have huM := uF_mem (T := T) (k := T.length)
  have isU := Own.is rkInt st.u
  have isZ := Own.is rkInt st.s
  have x4 := x2.trans st.ext
  refine push_mk (vs := encR (32, 208)) fun H12 e12 z12 b12 => ?_
  have x12 := x4.trans e12
  have hfr : Rgs H12 ⟨some ⟨H4.size, 0, none⟩, 1, 1⟩ [(32, 208)] := IsS.of_blk encR_len b12 rfl (fun i v hv => by simpa using hv)
  refine (Place_spec H12 ⟨some ⟨H4.size, 0, none⟩, 1, 1⟩ sizes [(32, 208)] (sF T T.length) hfr (fun r hr => by simp at hr; subst hr; dsimp only; omega) (isZ.ext e12)).mono ?_
  rintro v H13 ⟨out, rfl, isB, tyB, e13⟩
  have x13 := x12.trans e13
  generalize hpv : placeV [(32, 208)] (sF T T.length) = pv at *
  obtain ⟨pe, pb, pc⟩ := pv
  dsimp only at isB hvv
  refine ⟨out, _, _, _, _, _, rfl, local_mk (vs := encC pc) rfl rfl fun H15 e15 z15 b15 => ?_⟩
  have x15 := x13.trans e15
  have c15 : Blk H15 H.size t_api_Certificate (encC noCert) := b1.ext ((((e2.trans st.ext).trans e12).trans e13).trans e15)
  refine iteB_bne (fun d => ?_) (fun d => ?_)
  · refine ⟨_, b15.rd0 rfl, _, b15.rd (i := 1) rfl, _, b15.rd (i := 2) rfl, _, b15.rd (i := 3) rfl, ?_⟩
    refine cert_wr (c0 := noCert) (c := pc) (K := fun v H' => VecP (vecV T) H (.tuple #[.slice none 0 0, v, .int .i64 pe]) H') c15 (fun H' m' _ => ?_)
    rw [hvv, if_pos d]
    exact ⟨⟨none, 0, 0⟩, rfl, IsS.nil _ _ _, Mods.ext x15 m' (by simp)⟩
  · obtain rfl : pe = 0 := d
    have hlB := placeV_len hpv
    rw [if_neg (by simp)] at hvv
    refine ⟨by omega, by omega, by omega, letH_mk ?_⟩
    simp only [Int.toNat_natCast]
    intro H17 h17
    have e17 : Ext H15 H17 := by rw [h17]; exact Ext.push _ _
    have o17 : OB H17 H15.size (vecSt T.length (uF T T.length) pb 0) := by
      rw [h17, hn]
      exact RB.zero H15 t_int (ints_row _) T.length (.int .i64 0) (0 : Int) rfl
    clear h17
    have un := isU.len
    refine loop1 (uF T T.length).length (fun k H' => OB H' H15.size (vecSt T.length (uF T T.length) pb k) ∧ Mods [H15.size] H17 H') ⟨o17, .refl _ _⟩ ?_
    rintro k H18 hk ⟨o18, m18⟩
    unfold F_interrupts_Vectors_r1
    simp only [Int.toNat_natCast]
    have e18 : Ext H15 H18 := Mods.ext e17 m18 (by simp)
    have x18 := x15.trans e18
    refine iteB_dec (fun d1 => ?_) (fun d1 => ?_)
    · have hku : k < (uF T T.length).length := by omega
      have hkb : k < pb.length := by omega
      obtain ⟨a1, hp1, hr1⟩ := Ints.atN (isU.ext (((e12.trans e13).trans e15).trans e18)) hku
      obtain ⟨a2, hp2, hr2⟩ := Ints.atN (isB.ext (e15.trans e18)) hkb
      have bn := isB.len
      have hm := huM _ (getD_mem' (l := uF T T.length) (k := k) 0 hku)
      have hst := vecSt_succ (n := T.length) hku hkb
      have hvl := vecSt_len T.length (uF T T.length) pb k
      generalize (uF T T.length).getD k 0 = i at *
      obtain ⟨j, rfl⟩ : ∃ j : Nat, i = j := ⟨i.toNat, by omega⟩
      refine ⟨by omega, by omega, unSome_mk hp1 ⟨_, hr1, by omega, by omega, unSome_mk hp2 ⟨_, hr2, by omega, by omega, OB.ok o18 (by omega), letH_mk ?_⟩⟩⟩
      intro H19 h19
      have o19 : OB H19 H15.size (vecSt T.length (uF T T.length) pb (k + 1)) := by
        rw [h19, hst, Int.toNat_natCast]
        have := OB.set o18 (p := j) (by omega) (IntKind.i64.wrap (pb.getD k 0))
        rw [Int.toNat_natCast] at this
        exact this
      have m19 : Mods [H15.size] H18 H19 := by rw [h19]; exact mods_wr_add (by simp)
      exact next1 hku (by omega) ⟨o19, m18.trans m19⟩
    · have hkU : k = (uF T T.length).length := by omega
      rw [hkU, vecSt_all (by omega)] at o18
      refine cert_wr (c0 := noCert) (c := noCert) (K := fun v H' => VecP (vecV T) H (.tuple #[.slice (some ⟨H15.size, 0, none⟩) s.n s.n, v, .int .i64 0]) H') (c15.ext e18) (fun H' m' _ => ?_)
      rw [hvv]
      have hz := x15.size
      have hl2 : (vecOut T.length (uF T T.length) pb).length = T.length := by rw [← vecSt_all (by omega)]; exact vecSt_len _ _ _ _
      exact ⟨⟨some ⟨H15.size, 0, none⟩, s.n, s.n⟩, rfl, RB.isS (RB.mods o18 m' (by simp; have := c15.lt; omega)) s.n s.n (by rw [hl2]; exact hn), Mods.ext x18 m' (by simp)⟩

end Go.Proofs.Ytinhkngomojheaa
end

section
/-
  awake.
-/
namespace Go.Proofs.Ytinhkngomojheaa
open Go.Eng
set_option linter.unusedVariables false

def awF0 : Fn := ⟨-1, 5, 1, 0, true, false, false, 0, 0, 0, []⟩
def awF1 : Fn := ⟨0, 2, 1, 0, false, false, false, 0, 1, 4, []⟩
def awT : List FS := [(awF0, ⟨none, 0, 0⟩), (awF1, ⟨none, 0, 0⟩)]
theorem aw_valid : ValidT awT := by decide +kernel
theorem aw_vec : vecV awT = (0, [0, 32], noCert) := by
  unfold vecV
  rw [if_pos aw_valid]
  decide +kernel
theorem aw_swz {s p : Int} {ok : Bool} (h : SwzIs awT 1 s p ok) : s = 5 ∧ p = 3 ∧ ok = true := by
  have hc : SwzC awT 1 := ⟨aw_valid, by omega, by decide, by decide⟩
  rcases h with ⟨n, _⟩ | ⟨_, rfl, w⟩
  · exact absurd hc n
  · have w' : Swz awT 1 1 5 3 := .step (by decide) (.root (by decide))
    have := w.det w'
    exact ⟨this.1, this.2, rfl⟩

theorem awake_spec (H : Heap) : CallsH Try.prog n_law22_awake #[] H (BoolP true H) := by
  refine F_law22_awake_ok ?_
  unfold F_law22_awake
  refine push_mk (vs := encF (awF0, ⟨none, 0, 0⟩) ++ encF (awF1, ⟨none, 0, 0⟩)) fun H1 e1 z1 b1 => ?_
  have hT : Topo H1 ⟨some ⟨H.size, 0, none⟩, 2, 2⟩ awT := ⟨IsS.of_blk encF_len b1 rfl (fun i v hv => by simpa [awT] using hv), fun x hx => by
    simp only [awT, List.mem_cons, List.not_mem_nil, or_false] at hx
    rcases hx with rfl | rfl
    · exact IsS.nil _ _ _
    · exact IsS.nil _ _ _⟩
  refine (Swizzle_spec awT ⟨some ⟨H.size, 0, none⟩, 2, 2⟩ H1 1 hT).mono ?_
  rintro v H2 ⟨s, p, ok, rfl, hsw, e2⟩
  obtain ⟨rfl, rfl, rfl⟩ := aw_swz hsw
  refine ⟨_, _, _, rfl, (Vectors_spec awT ⟨some ⟨H.size, 0, none⟩, 2, 2⟩ H2 (hT.ext e2)).mono ?_⟩
  rintro v H3 ⟨out, rfl, isO, e3⟩
  rw [aw_vec] at isO ⊢
  refine ⟨out, _, _, _, _, _, rfl, local_mk (vs := encC noCert) rfl rfl fun H5 e5 z5 b5 => ?_⟩
  refine iteB_pos (by decide) (iteB_pos (by decide) (iteB_pos rfl (iteB_pos (by decide) ?_)))
  refine push_mk (vs := [.int .i64 0, .int .i64 32]) fun H6 e6 z6 b6 => ?_
  have isW : Ints .i64 H6 ⟨some ⟨H5.size, 0, none⟩, 2, 2⟩ [0, 32] := Ints.of_blk (k := .i64) (l := [0, 32]) b6 rfl
  refine (Equal_int_spec H6 out ⟨some ⟨H5.size, 0, none⟩, 2, 2⟩ [0, 32] [0, 32] (isO.ext (e5.trans e6)) isW (by simp)).mono ?_
  rintro v H7 ⟨rfl, rfl⟩
  exact ⟨_, rfl, by simp, (((e1.trans e2).trans e3).trans e5).trans e6⟩

end Go.Proofs.Ytinhkngomojheaa
end

section
/-
  The reference's Vectors.
-/
namespace Go.Proofs.Ytinhkngomojheaa
open Go.Eng
set_option linter.unusedVariables false

theorem vec_is {v : Int} (hv : v = 0 ∨ v = 1 ∨ v = 2 ∨ v = 4 ∨ v = 8 ∨ v = 16 ∨ v = 32) (s : Nat) (hs : s ≤ 5) :
    v = IntKind.i64.wrap (1 * 2 ^ (min (IntKind.u64.wrap (s : Int)).toNat IntKind.i64.bits)) ↔ (0 < v ∧ lg v = s) := by
  have h : s = 0 ∨ s = 1 ∨ s = 2 ∨ s = 3 ∨ s = 4 ∨ s = 5 := by omega
  rcases h with rfl | rfl | rfl | rfl | rfl | rfl <;> rcases hv with rfl | rfl | rfl | rfl | rfl | rfl | rfl <;> decide

/-- The two lists that are collected, as they stand. -/
structure VG (U S : List Int) (H2 : Heap) (users sizes : Sl) (H' : Heap) : Prop where
  u : Own H2.size t_int 1 H' users (U.flatMap (Go.Eng.encI .i64))
  s : Own H2.size t_int 1 H' sizes (S.flatMap (Go.Eng.encI .i64))
  ne : ∀ a b, users.p = some a → sizes.p = some b → a.block ≠ b.block
  ext : Ext H2 H'

/-- What function 'k' adds, so far as its sizes up to 's' have been tried. -/
def addU (T : List FS) (k s : Nat) : List Int := if 0 < (fnAt T k).vec ∧ lg (fnAt T k).vec < s then [(k : Int)] else []
def addS (T : List FS) (k s : Nat) : List Int := if 0 < (fnAt T k).vec ∧ lg (fnAt T k).vec < s then [lg (fnAt T k).vec] else []

theorem rvec_round (T : List FS) (l : Sl) (H2 : Heap) (h2 : Topo H2 l T) (hv : ValidT T) (k : Nat) (hk : k < T.length) (I_ : Sl → Sl → Int → Heap → Prop) (M_ : Sl → Sl → Int → Heap → Nat) (sizes who : Sl) (H4 : Heap) (st : VS T H2 k who sizes H4)
    (hI : ∀ sizes1 who1 H5, VS T H2 (k + 1) who1 sizes1 H5 → I_ sizes1 who1 ((k + 1 : Nat) : Int) H5 ∧ M_ sizes1 who1 ((k + 1 : Nat) : Int) H5 < M_ sizes who k H4) :
    ∃ I_1 : Sl → Sl → Int → Heap → Prop, ∃ M_1 : Sl → Sl → Int → Heap → Nat, I_1 sizes who 0 H4 ∧ (∀ sizes1 : Sl, ∀ who1 : Sl, ∀ s : Int, ∀ H5 : Heap, I_1 sizes1 who1 s H5 → F_ref21_Vectors_r1 l I_ M_ sizes who k H4 I_1 M_1 sizes1 who1 s H5) := by
  have hvec := vec_pow (hv.2 k hk).va
  have hul := useN_len T k
  have hul' : (uF T k).length = (useN T k).length := by simp [uF]
  have hsl' : (sF T k).length = (useN T k).length := by simp [sF]
  have hv1 := hv.1
  have hn := h2.len
  have hlr := lg_range (fnAt T k).vec
  refine loop3 6 (fun s z u H' => VG (uF T k ++ addU T k s) (sF T k ++ addS T k s) H2 u z H') ?_ ?_
  · have e1 : addU T k 0 = [] := by unfold addU; rw [if_neg (by omega)]
    have e2 : addS T k 0 = [] := by unfold addS; rw [if_neg (by omega)]
    rw [e1, e2, List.append_nil, List.append_nil]
    exact ⟨st.u, st.s, st.ne, st.ext⟩
  rintro s sizes1 who1 H5 hs sg
  unfold F_ref21_Vectors_r1
  refine iteB_dec (fun d => ?_) (fun d => ?_)
  · obtain ⟨a, hpa, hr⟩ := (h2.ext sg.ext).at hk
    have p9 := (rdFn hr).2.2.2.2.2.2.2.2.2.1
    have hiff := vec_is hvec s (by omega)
    have u0 : 0 ≤ IntKind.u64.wrap (s : Int) := by rw [u64_in (by omega)]; omega
    have la : (addU T k s).length ≤ 1 := by unfold addU; split <;> simp
    have lb : (addS T k s).length ≤ 1 := by unfold addS; split <;> simp
    have un := Own.len rkInt sg.u
    have sn := Own.len rkInt sg.s
    rw [List.length_append] at un sn
    refine ⟨by omega, by omega, unSome_mk hpa ⟨_, p9, u0, iteB_beq (fun c => ?_) (fun c => ?_)⟩⟩
    · obtain ⟨c1, c2⟩ := hiff.1 c
      have ea : addU T k s = [] := by unfold addU; rw [if_neg (by omega)]
      have eb : addS T k s = [] := by unfold addS; rw [if_neg (by omega)]
      have ea1 : addU T k (s + 1) = [(k : Int)] := by unfold addU; rw [if_pos (by omega)]
      have eb1 : addS T k (s + 1) = [(s : Int)] := by unfold addS; rw [if_pos (by omega), c2]
      rw [ea, eb, List.append_nil, List.append_nil] at sg
      refine apRat rkInt (s : Int) (lo := H2.size) sg.s (by omega) sg.ext.size ?_
      intro sizes2 H7 o7 n7 m7 at7
      have e7 : Ext H2 H7 := Mods.ext sg.ext m7 (blkOf_new sg.s.new)
      have ou := sg.u.mods m7 (fun a ha => by
        cases hz : sizes1.p with
        | none => simp [blkOf]
        | some b => simp only [blkOf, List.mem_singleton]; exact fun e => sg.ne a b ha hz e)
      have hne7 : ∀ a b, who1.p = some a → sizes2.p = some b → a.block ≠ b.block := fun a b ha hb => by
        rcases at7 b hb with h1 | h1
        · cases hz : sizes1.p with
          | none => rw [hz] at h1; simp [blkOf] at h1
          | some c => rw [hz] at h1; simp only [blkOf, List.mem_singleton] at h1; rw [h1]; exact sg.ne a c ha hz
        · have := sg.u.lt a ha; omega
      refine apRat rkInt (k : Int) (lo := H2.size) ou (by omega) e7.size ?_
      intro who2 H9 o9 n9 m9 at9
      refine letV_mk _ rfl (next3 (by omega) (by omega) ⟨by rw [ea1]; exact o9, ?_, fun a b ha hb => ?_, Mods.ext e7 m9 (blkOf_new ou.new)⟩)
      · rw [eb1]
        exact o7.mods m9 (fun b hb => by
          cases hz : who1.p with
          | none => simp [blkOf]
          | some a => simp only [blkOf, List.mem_singleton]; exact fun e => hne7 a b hz hb e.symm)
      · rcases at9 a ha with h1 | h1
        · cases hz : who1.p with
          | none => rw [hz] at h1; simp [blkOf] at h1
          | some c => rw [hz] at h1; simp only [blkOf, List.mem_singleton] at h1; rw [h1]; exact hne7 c b hz hb
        · have := o7.lt b hb; omega
    · have ea : addU T k (s + 1) = addU T k s := by
        unfold addU
        by_cases q : 0 < (fnAt T k).vec ∧ lg (fnAt T k).vec < s
        · rw [if_pos q, if_pos (by omega)]
        · rw [if_neg q, if_neg (fun h => c (hiff.2 (by omega)))]
      have eb : addS T k (s + 1) = addS T k s := by
        unfold addS
        by_cases q : 0 < (fnAt T k).vec ∧ lg (fnAt T k).vec < s
        · rw [if_pos q, if_pos (by omega)]
        · rw [if_neg q, if_neg (fun h => c (hiff.2 (by omega)))]
      exact letV_mk _ rfl (next3 (by omega) (by omega) (by rw [ea, eb]; exact sg))
  · obtain rfl : s = 6 := by omega
    have hus := useN_succ T k
    have ea : uF T k ++ addU T k 6 = uF T (k + 1) := by
      unfold uF addU
      rw [hus, List.map_append]
      by_cases q : 0 < (fnAt T k).vec
      · rw [if_pos ⟨q, by omega⟩, if_pos q]; rfl
      · rw [if_neg (fun h => q h.1), if_neg q]; rfl
    have eb : sF T k ++ addS T k 6 = sF T (k + 1) := by
      unfold sF addS
      rw [hus, List.map_append]
      by_cases q : 0 < (fnAt T k).vec
      · rw [if_pos ⟨q, by omega⟩, if_pos q]; rfl
      · rw [if_neg (fun h => q h.1), if_neg q]; rfl
    rw [ea, eb] at sg
    refine letV_mk ((k + 1 : Nat) : Int) (by rw [i64_in (by omega)]; omega) (hI _ _ _ ⟨sg.u, sg.s, sg.ne, sg.ext⟩)

theorem rVectors_spec (T : List FS) (s : Sl) (H : Heap) (h : Topo H s T) : CallsH Try.prog n_ref21_Vectors #[.slice s.p s.n s.c] H (VecP (vecV T) H) := by
  refine F_ref21_Vectors_ok _ ?_
  unfold F_ref21_Vectors
  have hn := h.len
  refine push_mk (vs := encC noCert) fun H1 e1 z1 b1 => (rVal_spec T s H1 (h.ext e1)).mono ?_
  rintro v H2 ⟨rfl, e2⟩
  have x2 := e1.trans e2
  refine ⟨_, rfl, iteB_not (fun c => ?_) (fun c => ?_)⟩
  · have hnv : ¬ ValidT T := by simpa using c
    have hvv : vecV T = (1, [], noCert) := by unfold vecV; rw [if_neg hnv]
    refine cert_wr (c0 := noCert) (c := noCert) (K := fun v H' => VecP (vecV T) H (.tuple #[.slice none 0 0, v, .int .i64 1]) H') (b1.ext e2) (fun H' m' _ => ?_)
    rw [hvv]
    exact ⟨⟨none, 0, 0⟩, rfl, IsS.nil _ _ _, Mods.ext x2 m' (by simp)⟩
  have hv : ValidT T := by simpa using c
  have hv1 := hv.1
  refine loop3 T.length (fun k z u H' => VS T H2 k u z H') ⟨Own.nil _ _ _ _, Own.nil _ _ _ _, fun a b ha => (by cases ha), .refl _⟩ ?_
  rintro k sizes users H4 hk st
  unfold F_ref21_Vectors_r3
  refine iteB_dec (fun d => rvec_round T s H2 (h.ext x2) hv k (by omega) _ _ sizes users H4 st (fun z u H' st' => ?_)) (fun d => ?_)
  · rw [← i64_succ (by omega)]
    exact next3 (by omega) (by omega) st'
  obtain rfl : k = T.length := by omega
  have hul := useN_len T T.length
  have hUl : (uF T T.length).length = (useN T T.length).length := by simp [uF]
  have hSl : (sF T T.length).length = (useN T T.length).length := by simp [sF]
  have hvv : vecV T = (if (placeV [(32, 208)] (sF T T.length)).1 ≠ 0 then ((placeV [(32, 208)] (sF T T.length)).1, [], (placeV [(32, 208)] (sF T T.length)).2.2)
     else (0, vecOut T.length (uF T T.length) (placeV [(32, 208)] (sF T T.length)).2.1, noCert)) := by unfold vecV; rw [if_pos hv]
  have huM := uF_mem (T := T) (k := T.length)
  have isU := Own.is rkInt st.u
  have isZ := Own.is rkInt st.s
  have x4 := x2.trans st.ext
  refine push_mk (vs := encR (32, 208)) fun H12 e12 z12 b12 => ?_
  have x12 := x4.trans e12
  have hfr : Rgs H12 ⟨some ⟨H4.size, 0, none⟩, 1, 1⟩ [(32, 208)] := IsS.of_blk encR_len b12 rfl (fun i v hv => by simpa using hv)
  refine (rPlace_spec H12 ⟨some ⟨H4.size, 0, none⟩, 1, 1⟩ sizes [(32, 208)] (sF T T.length) hfr (fun r hr => by simp at hr; subst hr; dsimp only; omega) (isZ.ext e12)).mono ?_
  rintro v H13 ⟨out, rfl, isB, tyB, e13⟩
  have x13 := x12.trans e13
  generalize hpv : placeV [(32, 208)] (sF T T.length) = pv at *
  obtain ⟨pe, pb, pc⟩ := pv
  dsimp only at isB hvv
  refine ⟨out, _, _, _, _, _, rfl, local_mk (vs := encC pc) rfl rfl fun H15 e15 z15 b15 => ?_⟩
  have x15 := x13.trans e15
  have c15 : Blk H15 H.size t_api_Certificate (encC noCert) := b1.ext ((((e2.trans st.ext).trans e12).trans e13).trans e15)
  refine iteB_bne (fun d => ?_) (fun d => ?_)
  · refine ⟨_, b15.rd0 rfl, _, b15.rd (i := 1) rfl, _, b15.rd (i := 2) rfl, _, b15.rd (i := 3) rfl, ?_⟩
    refine cert_wr (c0 := noCert) (c := pc) (K := fun v H' => VecP (vecV T) H (.tuple #[.slice none 0 0, v, .int .i64 pe]) H') c15 (fun H' m' _ => ?_)
    rw [hvv, if_pos d]
    exact ⟨⟨none, 0, 0⟩, rfl, IsS.nil _ _ _, Mods.ext x15 m' (by simp)⟩
  · obtain rfl : pe = 0 := d
    have hlB := placeV_len hpv
    rw [if_neg (by simp)] at hvv
    refine ⟨by omega, by omega, by omega, letH_mk ?_⟩
    simp only [Int.toNat_natCast]
    intro H17 h17
    have e17 : Ext H15 H17 := by rw [h17]; exact Ext.push _ _
    have o17 : OB H17 H15.size (vecSt T.length (uF T T.length) pb 0) := by
      rw [h17, hn]
      exact RB.zero H15 t_int (ints_row _) T.length (.int .i64 0) (0 : Int) rfl
    clear h17
    have un := isU.len
    refine loop1 (uF T T.length).length (fun k H' => OB H' H15.size (vecSt T.length (uF T T.length) pb k) ∧ Mods [H15.size] H17 H') ⟨o17, .refl _ _⟩ ?_
    rintro k H18 hk ⟨o18, m18⟩
    unfold F_ref21_Vectors_r2
    simp only [Int.toNat_natCast]
    have e18 : Ext H15 H18 := Mods.ext e17 m18 (by simp)
    have x18 := x15.trans e18
    refine iteB_dec (fun d1 => ?_) (fun d1 => ?_)
    · have hku : k < (uF T T.length).length := by omega
      have hkb : k < pb.length := by omega
      obtain ⟨a1, hp1, hr1⟩ := Ints.atN (isU.ext (((e12.trans e13).trans e15).trans e18)) hku
      obtain ⟨a2, hp2, hr2⟩ := Ints.atN (isB.ext (e15.trans e18)) hkb
      have bn := isB.len
      have hm := huM _ (getD_mem' (l := uF T T.length) (k := k) 0 hku)
      have hst := vecSt_succ (n := T.length) hku hkb
      have hvl := vecSt_len T.length (uF T T.length) pb k
      generalize (uF T T.length).getD k 0 = i at *
      obtain ⟨j, rfl⟩ : ∃ j : Nat, i = j := ⟨i.toNat, by omega⟩
      refine ⟨by omega, by omega, unSome_mk hp1 ⟨_, hr1, by omega, by omega, unSome_mk hp2 ⟨_, hr2, by omega, by omega, OB.ok o18 (by omega), letH_mk ?_⟩⟩⟩
      intro H19 h19
      have o19 : OB H19 H15.size (vecSt T.length (uF T T.length) pb (k + 1)) := by
        rw [h19, hst, Int.toNat_natCast]
        have := OB.set o18 (p := j) (by omega) (IntKind.i64.wrap (pb.getD k 0))
        rw [Int.toNat_natCast] at this
        exact this
      have m19 : Mods [H15.size] H18 H19 := by rw [h19]; exact mods_wr_add (by simp)
      exact letV_mk _ rfl (next1 hku (by omega) ⟨o19, m18.trans m19⟩)
    · have hkU : k = (uF T T.length).length := by omega
      rw [hkU, vecSt_all (by omega)] at o18
      refine cert_wr (c0 := noCert) (c := noCert) (K := fun v H' => VecP (vecV T) H (.tuple #[.slice (some ⟨H15.size, 0, none⟩) s.n s.n, v, .int .i64 0]) H') (c15.ext e18) (fun H' m' _ => ?_)
      rw [hvv]
      have hz := x15.size
      have hl2 : (vecOut T.length (uF T T.length) pb).length = T.length := by rw [← vecSt_all (by omega)]; exact vecSt_len _ _ _ _
      exact ⟨⟨some ⟨H15.size, 0, none⟩, s.n, s.n⟩, rfl, RB.isS (RB.mods o18 m' (by simp; have := c15.lt; omega)) s.n s.n (by rw [hl2]; exact hn), Mods.ext x18 m' (by simp)⟩

end Go.Proofs.Ytinhkngomojheaa
end

section
/-
  What Vectors gives (plain): aligned, in the range, apart; a refusal needs more than 128 vectors.
-/
namespace Go.Proofs.Ytinhkngomojheaa
open Go.Eng
set_option linter.unusedVariables false

theorem pow_lg {v : Int} (h : v = 0 ∨ v = 1 ∨ v = 2 ∨ v = 4 ∨ v = 8 ∨ v = 16 ∨ v = 32) (hv : 0 < v) : (2 : Int) ^ (lg v).toNat = v := by
  rcases h with rfl | rfl | rfl | rfl | rfl | rfl | rfl
  · omega
  all_goals decide

theorem useN_nodup (T : List FS) (k : Nat) : (useN T k).Nodup := List.Pairwise.filter _ List.nodup_range
theorem useN_mem {T : List FS} {k i : Nat} : i ∈ useN T k ↔ i < k ∧ 0 < (fnAt T i).vec := by simp [useN]

theorem fold_set_notin (j : Nat) : ∀ (l : List (Int × Int)) (o : List Int), (∀ x ∈ l, x.1.toNat ≠ j) → (l.foldl (fun o x => o.set x.1.toNat (IntKind.i64.wrap x.2)) o).getD j 0 = o.getD j 0
  | [], o, _ => rfl
  | x :: l, o, h => by
    rw [List.foldl_cons, fold_set_notin j l _ (fun y hy => h y (by simp [hy])), getD_set_ne (h x (by simp))]

theorem vecOut_at (n : Nat) : ∀ (U : List Nat) (bs o : List Int) (k : Nat), U.Nodup → (∀ i ∈ U, i < o.length) → U.length = bs.length → (hk : k < U.length) →
    (((U.map (fun i : Nat => (i : Int))).zip bs).foldl (fun o x => o.set x.1.toNat (IntKind.i64.wrap x.2)) o).getD U[k] 0 = IntKind.i64.wrap (bs.getD k 0)
  | [], bs, o, k, _, _, _, hk => by simp at hk
  | u :: U, [], o, k, _, _, hl, hk => by simp at hl
  | u :: U, b :: bs, o, k, hd, hm, hl, hk => by
    rw [List.nodup_cons] at hd
    simp only [List.map_cons, List.zip_cons_cons, List.foldl_cons, Int.toNat_natCast]
    cases k with
    | zero =>
      rw [List.getElem_cons_zero, fold_set_notin]
      · rw [getD_set_eq (hm u (by simp))]; rfl
      · intro x hx
        have := (List.of_mem_zip (show (x.1, x.2) ∈ _ from hx)).1
        obtain ⟨i, hi, he⟩ := List.mem_map.1 this
        intro e
        rw [← he, Int.toNat_natCast] at e
        exact hd.1 (e ▸ hi)
    | succ k =>
      rw [List.getElem_cons_succ]
      exact vecOut_at n U bs (o.set u (IntKind.i64.wrap b)) k hd.2 (fun i hi => by rw [List.length_set]; exact hm i (by simp [hi])) (by simpa using hl) (by simpa using hk)

/-- What the vectors of a valid topology are. -/
structure VOk (T : List FS) (out : List Int) : Prop where
  len : out.length = T.length
  none : ∀ i, i < T.length → (fnAt T i).vec = 0 → out.getD i 0 = 0
  some : ∀ i, i < T.length → 0 < (fnAt T i).vec → 32 ≤ out.getD i 0 ∧ out.getD i 0 + (fnAt T i).vec ≤ 240 ∧ ∃ y, out.getD i 0 = y * (fnAt T i).vec
  apart : ∀ i, i < T.length → ∀ j, j < T.length → i ≠ j → 0 < (fnAt T i).vec → 0 < (fnAt T j).vec → out.getD i 0 + (fnAt T i).vec ≤ out.getD j 0 ∨ out.getD j 0 + (fnAt T j).vec ≤ out.getD i 0

theorem cov1 {x : Int} (h : Cov [(32, 208)] x) : 32 ≤ x ∧ x < 240 := by
  obtain ⟨r, hr, h1, h2⟩ := h
  simp at hr
  subst hr
  dsimp only at h1 h2
  omega

theorem vecV_ok {T : List FS} (hv : ValidT T) (h : (vecV T).1 = 0) : VOk T (vecV T).2.1 := by
  have hlen0 := vecSt_len T.length (uF T T.length) (placeV [(32, 208)] (sF T T.length)).2.1 ((uF T T.length).zip (placeV [(32, 208)] (sF T T.length)).2.1).length
  unfold vecSt at hlen0
  rw [List.take_length] at hlen0
  unfold vecV at h ⊢
  rw [if_pos hv] at h ⊢
  by_cases hc : (placeV [(32, 208)] (sF T T.length)).1 ≠ 0
  · rw [if_pos hc] at h; exact absurd h hc
  rw [if_neg hc]
  have h0 : (placeV [(32, 208)] (sF T T.length)).1 = 0 := by simpa using hc
  generalize hpv : placeV [(32, 208)] (sF T T.length) = pv at *
  obtain ⟨pe, bs, c⟩ := pv
  dsimp only at h0 hlen0 ⊢
  subst h0
  obtain ⟨_, hI, hbl, _, hat, hne⟩ := placeV_ok hpv
  have hsl : (sF T T.length).length = (useN T T.length).length := by simp [sF]
  have key : ∀ k (hk : k < (useN T T.length).length), (vecOut T.length (uF T T.length) bs).getD (useN T T.length)[k] 0 = bs.getD k 0 ∧ 2 ^ szOf (sF T T.length) k = (fnAt T (useN T T.length)[k]).vec ∧ 32 ≤ bs.getD k 0 ∧ bs.getD k 0 + (fnAt T (useN T T.length)[k]).vec ≤ 240 := fun k hk => by
    have hm := useN_mem.1 (List.getElem_mem hk)
    have hvp := vec_pow (hv.2 _ hm.1).va
    have hsz : (2 : Int) ^ szOf (sF T T.length) k = (fnAt T (useN T T.length)[k]).vec := by
      have : (sF T T.length).getD k 0 = lg (fnAt T (useN T T.length)[k]).vec := by simp [sF, List.getD, hk]
      unfold szOf
      rw [this, pow_lg hvp hm.2]
    have ha := hat k (by omega)
    have c1 := cov1 (ha.2 (bs.getD k 0) (by omega) (by rw [hsz]; omega))
    have c2 := cov1 (ha.2 (bs.getD k 0 + 2 ^ szOf (sF T T.length) k - 1) (by rw [hsz]; omega) (by omega))
    rw [hsz] at c2
    refine ⟨?_, hsz, by omega, by omega⟩
    unfold vecOut uF
    rw [vecOut_at T.length (useN T T.length) bs (List.replicate T.length 0) k (useN_nodup _ _) (fun i hi => by rw [List.length_replicate]; exact (useN_mem.1 hi).1) (by omega) hk]
    exact i64_in (by omega)
  have idx : ∀ i, i < T.length → 0 < (fnAt T i).vec → ∃ k, ∃ hk : k < (useN T T.length).length, (useN T T.length)[k] = i := fun i hi hp => List.getElem_of_mem (useN_mem.2 ⟨hi, hp⟩)
  refine ⟨hlen0, fun i hi h0 => ?_, fun i hi hp => ?_, fun i hi j hj hij hp hq => ?_⟩
  · unfold vecOut
    rw [fold_set_notin]
    · simp [List.getD, hi]
    · intro x hx
      have := (List.of_mem_zip (show (x.1, x.2) ∈ _ from hx)).1
      obtain ⟨u, hu, he⟩ := List.mem_map.1 this
      intro e
      rw [← he, Int.toNat_natCast] at e
      have := (useN_mem.1 (e ▸ hu)).2
      omega
  · obtain ⟨k, hk, rfl⟩ := idx i hi hp
    obtain ⟨k1, k2, k3, k4⟩ := key k hk
    obtain ⟨y, hy⟩ := (hat k (by omega)).1
    rw [k1]
    exact ⟨k3, k4, y, by rw [← k2]; exact hy⟩
  · obtain ⟨k, hk, rfl⟩ := idx i hi hp
    obtain ⟨m, hm, rfl⟩ := idx j hj hq
    have hkm : k ≠ m := fun e => hij (by subst e; rfl)
    have := hne k (by omega) m (by omega) hkm
    unfold PlNe at this
    rw [(key k hk).2.1, (key m hm).2.1] at this
    rw [(key k hk).1, (key m hm).1]
    exact this

/-- The sum of all vectors. -/
def totV (T : List FS) : Nat → Int
  | 0 => 0
  | k + 1 => totV T k + (fnAt T k).vec
theorem totV_nn {T : List FS} (hv : ValidT T) : ∀ k, k ≤ T.length → 0 ≤ totV T k ∧ totV T k ≤ 32 * k
  | 0, _ => by simp [totV]
  | k + 1, h => by
    have := totV_nn hv k (by omega)
    have := (hv.2 k (by omega)).va.vc
    simp only [totV]
    omega
theorem dem_tot {T : List FS} (hv : ValidT T) (m : Nat) : ∀ k, k ≤ T.length → demI m (sF T k) ≤ totV T k
  | 0, _ => by simp [totV, sF, useN, demI]
  | k + 1, h => by
    have ih := dem_tot hv m k (by omega)
    have hp := vec_pow (hv.2 k (by omega)).va
    have e : sF T (k + 1) = sF T k ++ (if 0 < (fnAt T k).vec then [lg (fnAt T k).vec] else []) := by
      unfold sF
      rw [useN_succ, List.map_append]
      split <;> rfl
    rw [e, demI_append]
    simp only [totV]
    by_cases q : 0 < (fnAt T k).vec
    · rw [if_pos q]
      have := pow_lg hp q
      simp only [demI, this]
      split <;> omega
    · rw [if_neg q]
      simp only [demI]
      omega
theorem merge1 : mergeF [(32, 208)] = [(32, 208)] := mergeF_asc ⟨by decide, fun q hq => (by cases hq), trivial⟩
theorem vecV_no {T : List FS} (hv : ValidT T) (h : (vecV T).1 ≠ 0) : (vecV T).1 = 19 ∧ 128 < totV T T.length := by
  unfold vecV at h ⊢
  rw [if_pos hv] at h ⊢
  by_cases hc : (placeV [(32, 208)] (sF T T.length)).1 ≠ 0
  rotate_left
  · rw [if_neg hc] at h; exact absurd rfl h
  rw [if_pos hc]
  have hsl : (sF T T.length).length = (useN T T.length).length := by simp [sF]
  have hul := useN_len T T.length
  have hv1 := hv.1
  have hR : ValidR [(32, 208)] := by decide
  have hI : ItemsOk (sF T T.length) := ⟨by omega, fun x hx => by
    obtain ⟨i, _, rfl⟩ := List.mem_map.1 hx
    have := lg_range (fnAt T i).vec
    omega⟩
  obtain ⟨he, k, hk, hb⟩ := placeV_refused hR hI hc
  rw [he]
  refine ⟨rfl, ?_⟩
  have hd := dem_tot hv k T.length (Nat.le_refl _)
  unfold Bad at hb
  rw [merge1] at hb
  have key : ∀ k : Fin 6, blkN (2 ^ k.val) [(32, 208)] * 2 ^ k.val ≥ 192 := by decide
  by_cases hk6 : k < 6
  · have := key ⟨k, hk6⟩
    dsimp only at this
    omega
  · have : demI (k : Int) (sF T T.length) = 0 := by
      have : ∀ S : List Int, (∀ x ∈ S, x < k) → demI k S = 0 := by
        intro S
        induction S with
        | nil => intro _; rfl
        | cons x S ih =>
          intro hh
          have := hh x (by simp)
          simp only [demI]
          rw [if_neg (by omega), ih (fun y hy => hh y (by simp [hy]))]
          rfl
      refine this _ (fun x hx => ?_)
      obtain ⟨i, _, rfl⟩ := List.mem_map.1 hx
      have := lg_range (fnAt T i).vec
      omega
    have := Int.mul_nonneg (blkN_nn (2 ^ k) [(32, 208)]) (Int.le_of_lt (pow_pos2 k))
    omega

end Go.Proofs.Ytinhkngomojheaa
end

section
/-
  InterruptsVectors.
-/
namespace Go.Proofs.Ytinhkngomojheaa
open Go.Eng
set_option linter.unusedVariables false

structure VLI (H : Heap) (T : List FS) (t : Sl) (H' : Heap) : Prop where
  topo : Topo H' t T
  len : T.length ≤ 9223372036854775807
  bars : ∀ x ∈ T, x.1.bars.length ≤ 9223372036854775807
  ext : Ext H H'

theorem vecV_len (T : List FS) : (vecV T).2.1.length ≤ 64 := by
  unfold vecV
  split
  · rename_i hv
    split
    · simp
    · have := hv.1
      have key : (vecOut T.length (uF T T.length) (placeV [(32, 208)] (sF T T.length)).2.1).length = T.length := by
        have := vecSt_len T.length (uF T T.length) (placeV [(32, 208)] (sF T T.length)).2.1 ((uF T T.length).zip (placeV [(32, 208)] (sF T T.length)).2.1).length
        unfold vecSt at this
        rw [List.take_length] at this
        exact this
      dsimp only
      omega
  · simp

theorem valid_bars {T : List FS} (hv : ValidT T) : ∀ x ∈ T, x.1.bars.length ≤ 9223372036854775807 := fun x hx => by
  obtain ⟨i, hi, rfl⟩ := List.getElem_of_mem hx
  have := (hv.2 i hi).va.bl
  have e : fnAt T i = (T[i]).1 := by simp [fnAt, List.getD, hi]
  rw [e] at this
  have h6 : regs (T[i]).1.bridge ≤ 6 := by unfold regs; split <;> omega
  omega

theorem law_vectors (H : Heap) (s : Sl) (L : List FS) (hL : Topo H s L) (hl : L.length ≤ 9223372036854775807) (hb : ∀ x ∈ L, x.1.bars.length ≤ 9223372036854775807) :
    CallsH Try.prog n_law22_InterruptsVectors #[.slice s.p s.n s.c] H (BoolP true H) := by
  refine F_law22_InterruptsVectors_ok _ ?_
  unfold F_law22_InterruptsVectors
  refine loop2 2 (fun k t H' => ∃ T, VLI H T t H') ⟨L, hL, hl, hb, .refl _⟩ ?_
  rintro k t H1 hk ⟨T, r1⟩
  unfold F_law22_InterruptsVectors_r1
  refine iteB_dec (fun c => (Vectors_spec T t H1 r1.topo).mono ?_) (fun c => (awake_spec H1).mono ?_)
  · rintro v H2 ⟨o1, rfl, is1, e2⟩
    refine ⟨o1, _, _, _, _, _, rfl, local_mk (vs := encC (vecV T).2.2) rfl rfl fun H4 e4 z4 b4 => ?_⟩
    have x4 := e2.trans e4
    refine (rVectors_spec T t H4 (r1.topo.ext x4)).mono ?_
    rintro v H5 ⟨o2, rfl, is2, e5⟩
    refine ⟨o2, _, _, _, _, _, rfl, local_mk (vs := encC (vecV T).2.2) rfl rfl fun H7 e7 z7 b7 => ?_⟩
    have x7 := (x4.trans e5).trans e7
    have hvl := vecV_len T
    refine (Equal_int_spec H7 o1 o2 _ _ (is1.ext ((e4.trans e5).trans e7)) (is2.ext e7) (by omega)).mono ?_
    rintro v H8 ⟨rfl, rfl⟩
    have b8 := b4.ext (e5.trans e7)
    refine ⟨_, rfl, iteB_neg (by simp) ⟨_, b8.rd0 rfl, _, b8.rd (i := 1) rfl, _, b8.rd (i := 2) rfl, _, b8.rd (i := 3) rfl, _, b7.rd0 rfl, _, b7.rd (i := 1) rfl, _, b7.rd (i := 2) rfl, _, b7.rd (i := 3) rfl, iteB_neg (by simp) (iteB_neg (by simp) ?_)⟩⟩
    refine (gTopoT_spec H8 t T 40 (by omega) (r1.topo.ext x7) r1.len r1.bars).mono ?_
    rintro v H9 ⟨t', T', rfl, hT, hv, hT30, e9, ty9, gt9⟩
    exact ⟨t', rfl, letV_mk _ rfl (next2 (by omega) (by omega) ⟨T', hT, by omega, valid_bars hv, (r1.ext.trans x7).trans e9⟩)⟩
  · rintro v H2 ⟨rfl, e2⟩
    exact ⟨_, rfl, rfl, r1.ext.trans e2⟩

end Go.Proofs.Ytinhkngomojheaa
end

section
/-
  InterruptsVectorsDisjoint.
-/
namespace Go.Proofs.Ytinhkngomojheaa
open Go.Eng
set_option linter.unusedVariables false

def VSet (v : Int) : Prop := v = 0 ∨ v = 1 ∨ v = 2 ∨ v = 4 ∨ v = 8 ∨ v = 16 ∨ v = 32
theorem seven (m : Nat) (hm : m < 7) : ∃ v, ([.int .i64 0, .int .i64 1, .int .i64 2, .int .i64 4, .int .i64 8, .int .i64 16, .int .i64 32] : List Value)[m]? = some (.int .i64 v) ∧ VSet v := by
  have h : m = 0 ∨ m = 1 ∨ m = 2 ∨ m = 3 ∨ m = 4 ∨ m = 5 ∨ m = 6 := by omega
  unfold VSet
  rcases h with rfl | rfl | rfl | rfl | rfl | rfl | rfl
  · exact ⟨0, rfl, by omega⟩
  · exact ⟨1, rfl, by omega⟩
  · exact ⟨2, rfl, by omega⟩
  · exact ⟨4, rfl, by omega⟩
  · exact ⟨8, rfl, by omega⟩
  · exact ⟨16, rfl, by omega⟩
  · exact ⟨32, rfl, by omega⟩

def setV (f : Fn) (v : Int) : Fn := { f with vec := v }
theorem validF_setV {f : Fn} {v : Int} (h : ValidF f) (hv : VSet v) : ValidF (setV f v) := by
  refine ⟨h.ve, h.de, h.sl, h.pi, ?_, ?_, h.sp, h.sh, h.nb, h.bl, h.ba⟩
  · show 0 ≤ v ∧ v ≤ 32
    unfold VSet at hv
    omega
  · show bitsAnd .i64 v (IntKind.i64.wrap (v - 1)) = 0
    rcases hv with rfl | rfl | rfl | rfl | rfl | rfl | rfl <;> decide +kernel
def setT (T : List FS) (k : Nat) (v : Int) : List FS := T.set k (setV (fnAt T k) v, slAt T k)
theorem fnAt_setT {T : List FS} {k : Nat} {v : Int} (hk : k < T.length) (i : Nat) : fnAt (setT T k v) i = if i = k then setV (fnAt T k) v else fnAt T i := by
  unfold setT
  by_cases e : i = k
  · subst e
    rw [if_pos rfl]
    unfold fnAt
    simp [List.getD, hk]
  · rw [if_neg e]
    unfold fnAt
    simp [List.getD, List.getElem?_set_ne (fun h => e h.symm)]
theorem valid_setT {T : List FS} {k : Nat} {v : Int} (h : ValidT T) (hk : k < T.length) (hv : VSet v) : ValidT (setT T k v) := by
  have hp : ∀ i, (fnAt (setT T k v) i).parent = (fnAt T i).parent := fun i => by rw [fnAt_setT hk]; split <;> simp_all [setV]
  have hs : ∀ i, (fnAt (setT T k v) i).slot = (fnAt T i).slot := fun i => by rw [fnAt_setT hk]; split <;> simp_all [setV]
  have hb : ∀ i, (fnAt (setT T k v) i).bridge = (fnAt T i).bridge := fun i => by rw [fnAt_setT hk]; split <;> simp_all [setV]
  have hl : (setT T k v).length = T.length := by simp [setT]
  refine ⟨by rw [hl]; exact h.1, fun i hi => ?_⟩
  rw [hl] at hi
  have o := h.2 i hi
  refine ⟨?_, by rw [hp]; exact o.pa, fun h0 => by rw [hp] at h0 ⊢; rw [hb]; exact o.br h0, fun j hj => by rw [hp, hp, hs, hs]; exact o.un j hj⟩
  rw [fnAt_setT hk]
  split
  · rename_i e; subst e; exact validF_setV o.va hv
  · exact o.va

/-- The topology that the law changes: its block is its own. -/
structure DS (H : Heap) (t : Sl) (n : Nat) (T : List FS) (H' : Heap) : Prop where
  is : IsS 11 encF H' t T
  gt : GT H' T
  rb : ∀ g, t.p = some ⟨g, 0, none⟩ → RB H' g t_api_Function 11 encF T ∧ H.size ≤ g
  v : ValidT T
  len : T.length = n
  ext : Ext H H'
theorem DS.ext' {H : Heap} {t : Sl} {n : Nat} {T : List FS} {H' H'' : Heap} (h : DS H t n T H') (e : Ext H' H'') : DS H t n T H'' :=
  ⟨h.is.ext e, h.gt.ext e, fun g hg => ⟨RB.ext (h.rb g hg).1 e, (h.rb g hg).2⟩, h.v, h.len, h.ext.trans e⟩
theorem DS.topo {H : Heap} {t : Sl} {n : Nat} {T : List FS} {H' : Heap} (h : DS H t n T H') : Topo H' t T := ⟨h.is, fun x hx => (h.gt x hx).1⟩

theorem DS.set {H : Heap} {t : Sl} {n : Nat} {T : List FS} {H' : Heap} (h : DS H t n T H') {g k : Nat} (hg : t.p = some ⟨g, 0, none⟩) (hk : k < T.length) {v : Int} (hv : VSet v) :
    okRow H' (((⟨g, 0, none⟩ : Addr).add (k * 11)).add 9) 1 ∧ DS H t n (setT T k v) (wrs H' (((⟨g, 0, none⟩ : Addr).add (k * 11)).add 9) [.int .i64 v]) := by
  obtain ⟨rb, hlo⟩ := h.rb g hg
  refine ⟨RB.ok rb hk (by omega), ?_⟩
  have hi : T[k]? = some (fnAt T k, slAt T k) := by
    have : T.getD k zF = T[k] := by simp [List.getD, hk]
    unfold fnAt slAt
    rw [this]
    exact List.getElem?_eq_getElem hk
  have rb' := RB.wr rb (j := 9) (y := (setV (fnAt T k) v, slAt T k)) (v := .int .i64 v) hi (by omega) rfl
  have m : Mods [g] H' (wrs H' (((⟨g, 0, none⟩ : Addr).add (k * 11)).add 9) [.int .i64 v]) := Mods.wrs (by rw [add_block, add_block]; simp)
  have hlt : ∀ p, TyB H' p t_api_Bar → ∀ a, p = some a → a.block ∉ [g] := fun p hp a ha => by
    obtain ⟨_, ex, hbk⟩ := rb
    have t1 : TyB H' (some ⟨g, 0, none⟩) t_api_Function := fun a ha => by cases ha; exact ⟨_, _, hbk⟩
    have := ty_ne hp t1 (by decide) a ha
    simpa [blkOf] using this
  have gt' := h.gt.mods m hlt
  have hl : (setT T k v).length = T.length := by simp [setT]
  have hn := h.is.len
  refine ⟨?_, ?_, fun g' hg' => ?_, valid_setT h.v hk hv, by rw [hl]; exact h.len, Mods.ext h.ext m (by simp; omega)⟩
  · have := RB.isS rb' t.n t.c (by rw [List.length_set]; exact hn)
    rw [← hg] at this
    exact this
  · intro x hx
    rcases List.mem_or_eq_of_mem_set hx with hx | rfl
    · exact gt' x hx
    · exact gt' (fnAt T k, slAt T k) (List.mem_of_getElem? hi)
  · rw [hg] at hg'
    cases hg'
    exact ⟨rb', hlo⟩

theorem totV_congr {T T' : List FS} : ∀ k, (∀ j, j < k → (fnAt T' j).vec = (fnAt T j).vec) → totV T' k = totV T k
  | 0, _ => rfl
  | k + 1, h => by simp only [totV]; rw [totV_congr k (fun j hj => h j (by omega)), h k (by omega)]

/-- The bytes that are marked. -/
def Mark (T : List FS) (out : List Int) (k : Nat) (z : Nat) : Prop := ∃ j, j < k ∧ 0 < (fnAt T j).vec ∧ out.getD j 0 ≤ z ∧ z < out.getD j 0 + (fnAt T j).vec

set_option maxRecDepth 100000 in
theorem vd_last (H10 : Heap) (T : List FS) (t o : Sl) (out : List Int) (hT : Topo H10 t T) (hv : ValidT T) (ho : Ints .i64 H10 o out) (hk : VOk T out) (R : Value → Heap → Prop) (hR : ∀ H', Ext H10 H' → R (.bool true) H') (total x8 : Int) :
    F_law22_InterruptsVectorsDisjoint_k5 R t total o x8 false H10 := by
  unfold F_law22_InterruptsVectorsDisjoint_k5
  refine iteB_neg (by simp) (push_mk (vs := List.replicate 256 (.bool false)) fun H12 e12 z12 b12 => ?_)
  have hn := hT.len
  have hon := ho.len
  have hlen := hk.len
  have hv1 := hv.1
  refine loop1 T.length (fun k H' => Ext H10 H' ∧ ∃ f, BBlk H' H10.size t_256_bool 256 f ∧ ∀ z, f z = true → Mark T out k z) ⟨e12, _, BBlk.of b12, fun z hz => by cases hz⟩ ?_
  rintro k H13 hkn ⟨e13, f, bf, hf⟩
  unfold F_law22_InterruptsVectorsDisjoint_r4
  refine iteB_dec (fun d => ?_) (fun d => hR H13 e13)
  have hkT : k < T.length := by omega
  obtain ⟨a, hpa, hr⟩ := (hT.ext e13).at hkT
  have p9 := (rdFn hr).2.2.2.2.2.2.2.2.2.1
  obtain ⟨ao, hpo, hro⟩ := Ints.atN (ho.ext e13) (i := k) (by omega)
  have h0 := hk.none k hkT
  have h1 := hk.some k hkT
  have hap := fun j hj hne => hk.apart k hkT j hj hne
  have hvp := vec_pow (hv.2 k hkT).va
  refine ⟨by omega, by omega, unSome_mk hpa ⟨_, p9, fun H' => H' = H13, ?_, ?_⟩⟩
  · refine iteB_beq (fun c => ⟨by omega, by omega, unSome_mk hpo ⟨_, hro, iteB_bne (fun c1 => absurd (h0 c) c1) (fun c1 => iteB_dec (fun c2 => by omega) (fun c2 => rfl))⟩⟩) (fun c => iteB_dec (fun c2 => ?_) (fun c2 => rfl))
    obtain ⟨g1, g2, y, hy⟩ := h1 (by omega)
    refine ⟨by omega, by omega, unSome_mk hpo ⟨_, hro, iteB_dec (fun c3 => by omega) (fun c3 => ⟨by omega, by omega, unSome_mk hpo ⟨_, hro, iteB_dec (fun c4 => ?_) (fun c4 => ⟨by omega, by omega, unSome_mk hpo ⟨_, hro, by omega, iteB_bne (fun c5 => ?_) (fun c5 => rfl)⟩⟩)⟩⟩)⟩⟩
    · rw [i64_in (n := out.getD k 0 + (fnAt T k).vec) (by omega), i64_in (by omega)] at c4
      omega
    · exact absurd (by rw [hy]; exact Int.mul_tmod_left y (fnAt T k).vec) c5
  · rintro H14 rfl
    unfold F_law22_InterruptsVectorsDisjoint_k3
    have hb : 0 ≤ out.getD k 0 ∧ out.getD k 0 + (fnAt T k).vec ≤ 240 := by
      rcases hvp with q | q | q | q | q | q | q
      · have := h0 q; omega
      all_goals (have := h1 (by omega); omega)
    refine ⟨by omega, by omega, unSome_mk hpo ⟨_, hro, fun x H' => ∃ m : Nat, x = out.getD k 0 + m ∧ (m : Int) ≤ (fnAt T k).vec ∧ Ext H10 H' ∧ ∃ f, BBlk H' H10.size t_256_bool 256 f ∧ ∀ z, f z = true → Mark T out k z ∨ (out.getD k 0 ≤ z ∧ (z : Int) < x), fun x _ => (300 - x).toNat, ⟨0, by omega, by omega, e13, f, bf, fun z hz => .inl (hf z hz)⟩, ?_⟩⟩
    rintro x H15 ⟨m, rfl, hm, e15, f, bf, hf⟩
    unfold F_law22_InterruptsVectorsDisjoint_r2
    obtain ⟨ao, hpo, hro⟩ := Ints.atN (ho.ext e15) (i := k) (by omega)
    refine ⟨by omega, by omega, unSome_mk hpo ⟨_, hro, ?_⟩⟩
    rw [i64_in (n := out.getD k 0 + (fnAt T k).vec) (by omega)]
    refine iteB_dec (fun c => ?_) (fun c => ?_)
    · refine ⟨by omega, by omega, _, bf.rd (i := (out.getD k 0 + (m : Int)).toNat) (by omega), iteB_intro (fun c1 => ?_) (fun c1 => ⟨by omega, by omega, bf.ok (by omega), letH_mk ?_⟩)⟩
      · exfalso
        rcases hf _ c1 with ⟨j, hj, j1, j2, j3⟩ | hh
        · have := hap j (by omega) (by omega) (by omega) j1
          omega
        · omega
      · intro H16 h16
        have b16 := bf.wr (i := (out.getD k 0 + (m : Int)).toNat) (by omega) true
        rw [← h16] at b16
        have m16 : Mods [H10.size] H15 H16 := by rw [h16]; exact mods_wr_add (by simp)
        refine letV_mk (out.getD k 0 + ((m + 1 : Nat) : Int)) (by rw [i64_in (by omega)]; omega) ⟨⟨m + 1, rfl, by omega, Mods.ext e15 m16 (by simp), _, b16, fun z hz => ?_⟩, by dsimp only; omega⟩
        unfold upd at hz
        split at hz
        · right; omega
        · rcases hf z hz with q | q
          · exact .inl q
          · right; omega
    · refine letV_mk _ rfl (next1 hkT (by omega) ⟨e15, f, bf, fun z hz => ?_⟩)
      rcases hf z hz with ⟨j, hj, j1, j2, j3⟩ | q
      · exact ⟨j, by omega, j1, j2, j3⟩
      · exact ⟨k, by omega, by omega, q.1, by omega⟩

theorem law_disjoint (H : Heap) (s cs : Sl) (L : List FS) (C : List Int) (hL : Topo H s L) (hl : L.length ≤ 9223372036854775807) (hb : ∀ x ∈ L, x.1.bars.length ≤ 9223372036854775807) (hC : Ints .u8 H cs C) (hc : ∀ x ∈ C, 0 ≤ x ∧ x ≤ 255) :
    CallsH Try.prog n_law22_InterruptsVectorsDisjoint #[.slice s.p s.n s.c, .slice cs.p cs.n cs.c] H (BoolP true H) := by
  refine F_law22_InterruptsVectorsDisjoint_ok _ _ ?_
  unfold F_law22_InterruptsVectorsDisjoint
  refine (gTopoO_spec H s L 40 (by omega) hL hl hb).mono ?_
  rintro v H1 ⟨t, T0, rfl, hT, hv, hT40, e1, ty1, gt1, own1⟩
  obtain ⟨hn0, hcase⟩ := Own.rb encF_len (by omega) own1
  have hg0 : 0 < T0.length → ∃ g, t.p = some ⟨g, 0, none⟩ := fun h => by
    rcases hcase with ⟨h1, _⟩ | ⟨g, h1, _, _⟩
    · rw [h1] at h; simp at h
    · exact ⟨g, h1⟩
  have hcn := hC.len
  refine ⟨t, rfl, ?_⟩
  refine loop2 T0.length (fun k total H' => ∃ T, DS H t T0.length T H' ∧ total = totV T k) ⟨T0, ⟨hT.is, gt1, fun g hg => ?_, hv, rfl, e1⟩, rfl⟩ ?_
  · rcases hcase with ⟨_, h1⟩ | ⟨g', h1, h2, h3⟩
    · rw [h1] at hg; cases hg
    · rw [hg] at h1; cases h1; exact ⟨h3, h2⟩
  rintro k total H2 hk ⟨T, ds, rfl⟩
  unfold F_law22_InterruptsVectorsDisjoint_r6
  have hlT := ds.len
  have htn := ds.is.len
  refine iteB_dec (fun d => ⟨fun H' => ∃ T', DS H t T0.length T' H' ∧ totV T' k = totV T k, iteB_dec (fun c => ?_) (fun c => ⟨T, ds, rfl⟩), ?_⟩) (fun d => ?_)
  · refine push_mk (vs := [.int .i64 0, .int .i64 1, .int .i64 2, .int .i64 4, .int .i64 8, .int .i64 16, .int .i64 32]) fun H3 e3 z3 b3 => ?_
    obtain ⟨a, hpa, hr⟩ := Ints.atN (hC.ext (ds.ext.trans e3)) (i := k) (by omega)
    have hx := hc _ (getD_mem' (l := C) (k := k) 0 (by omega))
    generalize C.getD k 0 = x at *
    have hm : 0 ≤ x.tmod 7 ∧ x.tmod 7 < 7 := by
      rw [Int.tmod_eq_emod_of_nonneg hx.1]
      exact ⟨Int.emod_nonneg _ (by omega), Int.emod_lt_of_pos _ (by omega)⟩
    obtain ⟨v, hv7, hvs⟩ := seven (x.tmod 7).toNat (by omega)
    have r3 : rd H3 ((⟨H2.size, 0, none⟩ : Addr).add ((x.tmod 7).toNat * 1)) = some (.int .i64 v) := by rw [Nat.mul_one]; exact b3.rd hv7
    obtain ⟨g, hg⟩ := hg0 (by omega)
    obtain ⟨w1, w2⟩ := (ds.ext' e3).set hg (k := k) (by omega) hvs
    refine ⟨by omega, by omega, unSome_mk hpa ⟨_, hr, hm.1, hm.2, _, r3, by omega, by omega, unSome_mk hg ⟨by rw [Int.toNat_natCast]; exact w1, letH_mk ?_⟩⟩⟩
    intro H4 h4
    rw [Int.toNat_natCast] at h4
    rw [← h4] at w2
    refine ⟨_, w2, totV_congr k (fun j hj => ?_)⟩
    rw [fnAt_setT (by omega), if_neg (by omega)]
  · rintro H5 ⟨T', ds', ht'⟩
    unfold F_law22_InterruptsVectorsDisjoint_k1
    have hkT : k < T'.length := by have := ds'.len; omega
    obtain ⟨a, hpa, hr⟩ := ds'.topo.at hkT
    have p9 := (rdFn hr).2.2.2.2.2.2.2.2.2.1
    have hvc := (ds'.v.2 k hkT).va.vc
    have htt := totV_nn ds'.v k (by omega)
    have hl5 := ds'.len
    refine ⟨by omega, by omega, unSome_mk hpa ⟨_, p9, letV_mk (totV T' (k + 1)) ?_ (letV_mk _ rfl (next2 (by omega) (by omega) ⟨T', ds', rfl⟩))⟩⟩
    rw [← ht', i64_in (by omega)]
    rfl
  · obtain rfl : k = T0.length := by omega
    have htt := totV_nn ds.v T.length (Nat.le_refl _)
    rw [hlT] at htt
    refine (Vectors_spec T t H2 ds.topo).mono ?_
    rintro v H6 ⟨o, rfl, is6, e6⟩
    refine ⟨o, _, _, _, _, _, rfl, local_mk (vs := encC (vecV T).2.2) rfl rfl fun H8 e8 z8 b8 => ⟨fun b H' => Ext H8 H' ∧ b = decide ((vecV T).1 ≠ 0), (awake_spec H8).mono ?_, ?_⟩⟩
    · rintro v H9 ⟨rfl, e9⟩
      refine ⟨_, rfl, iteB_neg (by simp) (iteB_bne (fun c => ⟨e9, by simp [c]⟩) (fun c => ⟨e9, ?_⟩))⟩
      have := (vecV_ok ds.v c).len
      have hon := is6.len
      rw [decide_eq_false (by simp [c])]
      simp
      omega
    · rintro b H10 ⟨e10, rfl⟩
      by_cases hz : (vecV T).1 = 0
      · rw [decide_eq_false (by simp [hz])]
        exact vd_last H10 T t o _ (ds.topo.ext ((e6.trans e8).trans e10)) ds.v (is6.ext (e8.trans e10)) (vecV_ok ds.v hz) _ (fun H' e' => ⟨rfl, ds.ext.trans (((e6.trans e8).trans e10).trans e')⟩) _ _
      · rw [decide_eq_true (by simpa using hz)]
        unfold F_law22_InterruptsVectorsDisjoint_k5
        obtain ⟨h19, h128⟩ := vecV_no ds.v hz
        rw [hlT] at h128
        refine iteB_pos rfl (iteB_pos (by simp [h19]) (iteB_pos (by simp; omega) ((awake_spec H10).mono ?_)))
        rintro v H11 ⟨rfl, e11⟩
        exact ⟨_, rfl, rfl, ds.ext.trans (((e6.trans e8).trans e10).trans e11)⟩

theorem u8_fit {x : Int} (h : (Lit.int .u8 x).wf = true) : 0 ≤ x ∧ x ≤ 255 := by
  simp [Lit.wf, IntKind.min, IntKind.max, IntKind.signed, IntKind.bits] at h
  omega

end Go.Proofs.Ytinhkngomojheaa
end
