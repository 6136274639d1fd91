import Derived.Test.YtinhkngomojheaaDoorM9
import Derived.Test.YtinhkngomojheaaDoorP5
import Derived.Test.YtinhkngomojheaaDoorEngM

section
/-
  Swizzle, of the program and of the reference.
-/
namespace Go.Proofs.YtinhkngomojheaaDoor
open Go.Eng
set_option linter.unusedVariables false

/-- At which slot and pin of the root bus a pin arrives. -/
inductive Swz (T : List FS) : Nat → Int → Int → Int → Prop
  | root {i : Nat} {pin : Int} (h : (fnAt T i).parent < 0) : Swz T i pin (fnAt T i).slot pin
  | step {i : Nat} {pin s p : Int} (h : 0 ≤ (fnAt T i).parent) (hs : Swz T (fnAt T i).parent.toNat ((pin - 1 + (fnAt T i).slot).tmod 4 + 1) s p) : Swz T i pin s p
theorem Swz.det {T : List FS} {i : Nat} {pin s p s' p' : Int} (h : Swz T i pin s p) : Swz T i pin s' p' → s = s' ∧ p = p' := by
  induction h with
  | root h0 =>
    intro h'
    cases h' with
    | root _ => exact ⟨rfl, rfl⟩
    | step h1 _ => omega
  | step h0 _ ih =>
    intro h'
    cases h' with
    | root h1 => omega
    | step _ h2 => exact ih h2

def SwzC (T : List FS) (f : Int) : Prop := ValidT T ∧ 0 ≤ f ∧ f < T.length ∧ (fnAt T f.toNat).pin ≠ 0
def SwzIs (T : List FS) (f : Int) (s p : Int) (ok : Bool) : Prop := (¬ SwzC T f ∧ s = 0 ∧ p = 0 ∧ ok = false) ∨ (SwzC T f ∧ ok = true ∧ Swz T f.toNat (fnAt T f.toNat).pin s p)
theorem SwzIs.uni {T : List FS} {f s p s' p' : Int} {ok ok' : Bool} (h : SwzIs T f s p ok) (h' : SwzIs T f s' p' ok') : s = s' ∧ p = p' ∧ ok = ok' := by
  rcases h with ⟨n, rfl, rfl, rfl⟩ | ⟨c, rfl, w⟩ <;> rcases h' with ⟨n', rfl, rfl, rfl⟩ | ⟨c', rfl, w'⟩
  · exact ⟨rfl, rfl, rfl⟩
  · exact absurd c' n
  · exact absurd c n'
  · exact ⟨(w.det w').1, (w.det w').2, rfl⟩
def SwzP (T : List FS) (f : Int) (H : Heap) (v : Value) (H' : Heap) : Prop := ∃ s p ok, v = .tuple #[.int .i64 s, .int .i64 p, .bool ok] ∧ SwzIs T f s p ok ∧ Ext H H'

theorem pin_step {pin sl : Int} (h1 : 1 ≤ pin ∧ pin ≤ 4) (h2 : 0 ≤ sl ∧ sl ≤ 31) : IntKind.i64.wrap ((IntKind.i64.wrap (IntKind.i64.wrap (pin - 1) + sl)).tmod 4 + 1) = (pin - 1 + sl).tmod 4 + 1 ∧ 1 ≤ (pin - 1 + sl).tmod 4 + 1 ∧ (pin - 1 + sl).tmod 4 + 1 ≤ 4 := by
  have e : (pin - 1 + sl).tmod 4 = (pin - 1 + sl) % 4 := Int.tmod_eq_emod_of_nonneg (by omega)
  rw [i64_in (n := pin - 1) (by omega), i64_in (n := pin - 1 + sl) (by omega), e]
  refine ⟨i64_in (by omega), by omega, by omega⟩

theorem swizzle_spec (T : List FS) (s : Sl) (H : Heap) (f : Nat) (h : Topo H s T) (hv : ValidT T) (hf : f < T.length) (hp : (fnAt T f).pin ≠ 0) :
    CallsH Tryd.prog n_interrupts_swizzle #[.slice s.p s.n s.c, .int .i64 (f : Int)] H (fun v H' => ∃ sl p, v = .tuple #[.int .i64 sl, .int .i64 p] ∧ Swz T f (fnAt T f).pin sl p ∧ H' = H) := by
  refine F_interrupts_swizzle_ok _ _ ?_
  unfold F_interrupts_swizzle
  have hn := h.len
  obtain ⟨a, hpa, hr⟩ := h.at hf
  obtain ⟨_, _, _, _, _, _, _, _, q8, _, _⟩ := rdFn hr
  have hpi := (hv.2 f hf).va.pi
  refine ⟨by omega, by omega, unSome_mk hpa ⟨_, q8, fun i pin H' => ∃ n : Nat, i = n ∧ n < T.length ∧ (1 ≤ pin ∧ pin ≤ 4) ∧ (∀ sl p, Swz T n pin sl p → Swz T f (fnAt T f).pin sl p) ∧ H' = H, fun i _ _ => i.toNat, ⟨f, rfl, hf, by omega, fun _ _ w => w, rfl⟩, ?_⟩⟩
  rintro i pin H1 ⟨n, rfl, hnT, hpin, hw, rfl⟩
  unfold F_interrupts_swizzle_r1
  obtain ⟨a, hpa, hr⟩ := h.at hnT
  obtain ⟨q0, q1, _, _, _, _, _, _, _, _, _⟩ := rdFn hr
  have ok := hv.2 n hnT
  have hps := pin_step hpin ok.va.sl
  have hpa' := ok.pa
  refine ⟨by omega, by omega, unSome_mk hpa ⟨_, q0, iteB_dec (fun d => ⟨by omega, by omega, unSome_mk hpa ⟨_, q1, letV_mk _ hps.1 ⟨by omega, by omega, unSome_mk hpa ⟨_, q0, ⟨(fnAt T n).parent.toNat, by omega, by omega, hps.2, fun sl p w => hw sl p (.step d w), rfl⟩, by dsimp only; omega⟩⟩⟩⟩) (fun d => ⟨by omega, by omega, unSome_mk hpa ⟨_, q1, _, _, rfl, hw _ _ (.root (by omega)), rfl⟩⟩)⟩⟩

theorem Swizzle_spec (T : List FS) (s : Sl) (H : Heap) (f : Int) (h : Topo H s T) : CallsH Tryd.prog n_interrupts_Swizzle #[.slice s.p s.n s.c, .int .i64 f] H (SwzP T f H) := by
  refine F_interrupts_Swizzle_ok _ _ ?_
  unfold F_interrupts_Swizzle
  have hn := h.len
  refine ⟨fun b H' => (b = false ↔ SwzC T f) ∧ Ext H H', (eValid_spec T s H h).mono ?_, ?_⟩
  · rintro v H1 ⟨rfl, e1⟩
    have no : ¬ SwzC T f → (true = false ↔ SwzC T f) ∧ Ext H H1 := fun hh => ⟨by simp [hh], e1⟩
    refine ⟨_, rfl, iteB_not (fun c => no (fun hh => by simp at c; exact c hh.1)) (fun c => iteB_dec (fun c1 => no (fun hh => by have := hh.2.1; omega)) (fun c1 => iteB_dec (fun c2 => no (fun hh => by have := hh.2.2.1; omega)) (fun c2 => ?_)))⟩
    have hv : ValidT T := by simpa using c
    obtain ⟨n, rfl⟩ : ∃ n : Nat, f = n := ⟨f.toNat, by omega⟩
    have hnT : n < T.length := by omega
    obtain ⟨a, hpa, hr⟩ := (h.ext e1).at hnT
    obtain ⟨_, _, _, _, _, _, _, _, q8, _, _⟩ := rdFn hr
    refine ⟨by omega, by omega, unSome_mk hpa ⟨_, q8, ?_, e1⟩⟩
    unfold SwzC
    simp only [Int.toNat_natCast]
    constructor
    · intro hh; exact ⟨hv, by omega, by omega, by simpa using hh⟩
    · intro hh; simpa using hh.2.2.2
  · rintro b H2 ⟨hb, e2⟩
    unfold F_interrupts_Swizzle_k1
    refine iteB_intro (fun c => ⟨0, 0, false, rfl, .inl ⟨fun hh => (by rw [hb.2 hh] at c; cases c), rfl, rfl, rfl⟩, e2⟩) (fun c => ?_)
    have hc := hb.1 c
    obtain ⟨n, rfl⟩ : ∃ n : Nat, f = n := ⟨f.toNat, by have := hc.2.1; omega⟩
    have hc' := hc
    unfold SwzC at hc'
    simp only [Int.toNat_natCast] at hc'
    refine (swizzle_spec T s H2 n (h.ext e2) hc'.1 (by omega) hc'.2.2.2).mono ?_
    rintro v H3 ⟨sl, p, rfl, w, rfl⟩
    exact ⟨sl, p, rfl, sl, p, true, rfl, .inr ⟨hc, rfl, by simpa using w⟩, e2⟩

theorem rSwizzle_spec (T : List FS) (s : Sl) (H : Heap) (f : Int) (h : Topo H s T) (hl : T.length ≤ 9223372036854775807) : CallsH Tryd.prog n_ref21_Swizzle #[.slice s.p s.n s.c, .int .i64 f] H (SwzP T f H) := by
  refine F_ref21_Swizzle_ok _ _ ?_
  unfold F_ref21_Swizzle
  have hn := h.len
  refine ⟨fun b H' => (b = false ↔ SwzC T f) ∧ Ext H H', (rVal_spec T s H h).mono ?_, ?_⟩
  · rintro v H1 ⟨rfl, e1⟩
    have no : ¬ SwzC T f → (true = false ↔ SwzC T f) ∧ Ext H H1 := fun hh => ⟨by simp [hh], e1⟩
    refine ⟨_, rfl, iteB_not (fun c => no (fun hh => by simp at c; exact c hh.1)) (fun c => iteB_dec (fun c1 => no (fun hh => by have := hh.2.1; omega)) (fun c1 => iteB_dec (fun c2 => no (fun hh => by have := hh.2.2.1; omega)) (fun c2 => ?_)))⟩
    have hv : ValidT T := by simpa using c
    obtain ⟨n, rfl⟩ : ∃ n : Nat, f = n := ⟨f.toNat, by omega⟩
    have hnT : n < T.length := by omega
    obtain ⟨a, hpa, hr⟩ := (h.ext e1).at hnT
    obtain ⟨_, _, _, _, _, _, _, _, q8, _, _⟩ := rdFn hr
    refine ⟨by omega, by omega, unSome_mk hpa ⟨_, q8, ?_, e1⟩⟩
    unfold SwzC
    simp only [Int.toNat_natCast]
    constructor
    · intro hh; exact ⟨hv, by omega, by omega, by simpa using hh⟩
    · intro hh; simpa using hh.2.2.2
  · rintro b H2 ⟨hb, e2⟩
    unfold F_ref21_Swizzle_k2
    refine iteB_intro (fun c => ⟨0, 0, false, rfl, .inl ⟨fun hh => (by rw [hb.2 hh] at c; cases c), rfl, rfl, rfl⟩, e2⟩) (fun c => ?_)
    have hc := hb.1 c
    obtain ⟨g, rfl⟩ : ∃ n : Nat, f = n := ⟨f.toNat, by have := hc.2.1; omega⟩
    have hc' := hc
    unfold SwzC at hc'
    simp only [Int.toNat_natCast] at hc'
    obtain ⟨hv, _, hg, hpn⟩ := hc'
    have hgT : g < T.length := by omega
    obtain ⟨a, hpa, hr⟩ := (h.ext e2).at hgT
    obtain ⟨_, _, _, _, _, _, _, _, q8, _, _⟩ := rdFn hr
    have hpi := (hv.2 g hgT).va.pi
    refine ⟨by omega, by omega, unSome_mk hpa ⟨_, q8, fun i pin H' => ∃ n : Nat, i = n ∧ n < T.length ∧ (1 ≤ pin ∧ pin ≤ 4) ∧ (∀ sl p, Swz T n pin sl p → Swz T g (fnAt T g).pin sl p) ∧ H' = H2, fun i _ _ => i.toNat, ⟨g, rfl, hgT, by omega, fun _ _ w => w, rfl⟩, ?_⟩⟩
    rintro i pin H3 ⟨n, rfl, hnT, hpin, hw, rfl⟩
    unfold F_ref21_Swizzle_r1
    obtain ⟨a, hpa, hr⟩ := (h.ext e2).at hnT
    obtain ⟨q0, q1, _, _, _, _, _, _, _, _, _⟩ := rdFn hr
    have ok := hv.2 n hnT
    have hps := pin_step hpin ok.va.sl
    have hpa' := ok.pa
    refine ⟨by omega, by omega, unSome_mk hpa ⟨_, q0, iteB_dec (fun d => ⟨by omega, by omega, unSome_mk hpa ⟨_, q1, letV_mk _ hps.1 ⟨by omega, by omega, unSome_mk hpa ⟨_, q0, ⟨(fnAt T n).parent.toNat, by omega, by omega, hps.2, fun sl p w => hw sl p (.step d w), rfl⟩, by dsimp only; omega⟩⟩⟩⟩) (fun d => ⟨by omega, by omega, unSome_mk hpa ⟨_, q1, _, _, _, rfl, .inr ⟨hc, rfl, ?_⟩, e2⟩⟩)⟩⟩
    simpa using hw _ _ (.root (by omega))

end Go.Proofs.YtinhkngomojheaaDoor
end

section
/-
  LinkOf, of the program and of the reference.
-/
namespace Go.Proofs.YtinhkngomojheaaDoor
open Go.Eng
set_option linter.unusedVariables false

theorem find_none_g {α : Type} {L : List α} {q : α → Bool} (d : α) (h : ∀ i, i < L.length → q (L.getD i d) = false) : L.find? q = none := by
  rw [List.find?_eq_none]
  intro x hx hq
  obtain ⟨i, hi, rfl⟩ := List.getElem_of_mem hx
  have := h i hi
  simp [List.getD, hi] at this
  rw [this] at hq
  cases hq
theorem find_at_g {α : Type} {L : List α} {q : α → Bool} {k : Nat} (d : α) (hk : k < L.length) (h : ∀ i, i < k → q (L.getD i d) = false) (hq : q (L.getD k d) = true) : L.find? q = some (L.getD k d) := by
  have e : L = L.take k ++ (L.getD k d :: L.drop (k + 1)) := by
    have h1 := take_succ_d d hk
    rw [show L.take k ++ (L.getD k d :: L.drop (k + 1)) = L.take k ++ [L.getD k d] ++ L.drop (k + 1) by simp, ← h1, List.take_append_drop]
  have hn : (L.take k).find? q = none := by
    refine find_none_g d (fun i hi => ?_)
    have hik : i < k := by simp at hi; omega
    have e1 : (L.take k).getD i d = L.getD i d := by simp [List.getD, List.getElem?_take_of_lt hik]
    rw [e1]
    exact h i hik
  conv => lhs; rw [e]
  rw [List.find?_append, hn, List.find?_cons_of_pos hq]
  rfl

def rtQ (s p : Int) (r : Rt) : Bool := decide (r.1 = s ∧ r.2.1 = p)
/-- The link, if the pin arrives at a slot and a pin. -/
def lkF (h : Host) (s p : Int) (o : Bool) : Int × Bool :=
  if o = true ∧ ValidH h then (match h.routes.find? (rtQ s p) with | some r => (r.2.2, true) | none => (0, false)) else (0, false)
def LinkP (T : List FS) (h : Host) (f : Int) (H : Heap) (v : Value) (H' : Heap) : Prop :=
  ∃ s p o, SwzIs T f s p o ∧ v = .tuple #[.int .i64 (lkF h s p o).1, .bool (lkF h s p o).2] ∧ Ext H H'

theorem LinkOf_spec (T : List FS) (s : Sl) (h : Host) (hs : HostS) (H : Heap) (f : Int) (ht : Topo H s T) (m : HostM H h hs) :
    CallsH Tryd.prog n_interrupts_LinkOf #[.slice s.p s.n s.c, hostV h hs, .int .i64 f] H (LinkP T h f H) := by
  refine F_interrupts_LinkOf_ok _ _ _ _ _ _ _ _ _ _ ?_
  unfold F_interrupts_LinkOf
  refine push_mk (vs := hostL h hs) fun H1 e1 z1 b1 => (Swizzle_spec T s H1 f (ht.ext e1)).mono ?_
  rintro v H2 ⟨sl, p, o, rfl, hsw, e2⟩
  have x2 := e1.trans e2
  have no : ∀ H', Ext H H' → lkF h sl p o = (0, false) → LinkP T h f H (.tuple #[.int .i64 0, .bool false]) H' := fun H' e hh => ⟨sl, p, o, hsw, by rw [hh], e⟩
  refine ⟨sl, p, o, rfl, iteB_not (fun c => no _ x2 (by unfold lkF; rw [if_neg (fun hh => by rw [hh.1] at c; cases c)])) (fun c => ?_)⟩
  have ho : o = true := by simpa using c
  obtain ⟨p0, p1, p2, p3, p4, p5, p6, p7⟩ := Blk.host (b1.ext e2)
  refine ⟨_, p0, _, p1, _, p2, _, p3, _, p4, _, p5, _, p6, _, p7, (ValidHost_spec h hs H2 (m.ext x2)).mono ?_⟩
  rintro v H3 ⟨rfl, e3⟩
  have x3 := x2.trans e3
  obtain ⟨p0, p1, p2, p3, p4, p5, p6, p7⟩ := Blk.host (b1.ext (e2.trans e3))
  refine ⟨_, rfl, iteB_not (fun d => no _ x3 (by unfold lkF; rw [if_neg (fun hh => by simp at d; exact d hh.2)])) (fun d => ⟨_, p7, ?_⟩)⟩
  have hv : ValidH h := by simpa using d
  have hlk : lkF h sl p o = (match h.routes.find? (rtQ sl p) with | some r => (r.2.2, true) | none => (0, false)) := by unfold lkF; rw [if_pos ⟨ho, hv⟩]
  have hrn := m.routes.len
  have hro := hv.ro
  refine loop1 h.routes.length (fun k H' => Ext H3 H' ∧ ∀ i, i < k → rtQ sl p (h.routes.getD i (0, 0, 0)) = false) ⟨.refl _, fun i hi => by omega⟩ ?_
  rintro k H4 hk ⟨e4, hno⟩
  unfold F_interrupts_LinkOf_r2
  have x4 := x3.trans e4
  refine iteB_dec (fun c1 => ?_) (fun c1 => no _ x4 ?_)
  · have hkn : k < h.routes.length := by omega
    obtain ⟨a, hp, hr⟩ := IsS.atN (m.routes.ext x4) (0, 0, 0) hkn
    have hfind := find_at_g (0, 0, 0) hkn hno
    generalize hre : h.routes.getD k (0, 0, 0) = r at *
    refine ⟨by omega, by omega, unSome_mk hp ⟨_, hr 0 _ rfl, _, hr 1 _ rfl, _, hr 2 _ rfl, local_mk (vs := encRt r) rfl rfl fun H6 e6 z6 b6 => ?_⟩⟩
    have q0 := b6.rd0 (v := .int .i64 r.1) rfl
    have q1 := b6.rd (i := 1) (v := .int .i64 r.2.1) rfl
    have q2 := b6.rd (i := 2) (v := .int .i64 r.2.2) rfl
    refine ⟨fun b H' => b = rtQ sl p r ∧ H' = H6, ⟨_, q0, iteB_beq (fun d1 => ⟨_, q1, ?_, rfl⟩) (fun d1 => ⟨by unfold rtQ; rw [decide_eq_false (fun hh => d1 hh.1)], rfl⟩)⟩, ?_⟩
    · unfold rtQ
      rw [Bool.eq_iff_iff]
      simp [d1]
    · rintro b H7 ⟨rfl, rfl⟩
      unfold F_interrupts_LinkOf_k1
      refine iteB_intro (fun d1 => ⟨_, q2, sl, p, o, hsw, by rw [hlk, hfind d1], x4.trans e6⟩) (fun d1 => next1 hkn (by omega) ⟨e4.trans e6, fun i hi => ?_⟩)
      by_cases e : i = k
      · subst e; rw [hre]; exact d1
      · exact hno i (by omega)
  · rw [hlk, find_none_g (0, 0, 0) (fun i hi => hno i (by omega))]

theorem rLinkOf_spec (T : List FS) (s : Sl) (h : Host) (hs : HostS) (H : Heap) (f : Int) (ht : Topo H s T) (hl : T.length ≤ 9223372036854775807) (m : HostM H h hs) :
    CallsH Tryd.prog n_ref21_LinkOf #[.slice s.p s.n s.c, hostV h hs, .int .i64 f] H (LinkP T h f H) := by
  refine F_ref21_LinkOf_ok _ _ _ _ _ _ _ _ _ _ ?_
  unfold F_ref21_LinkOf
  refine push_mk (vs := hostL h hs) fun H1 e1 z1 b1 => (rSwizzle_spec T s H1 f (ht.ext e1) hl).mono ?_
  rintro v H2 ⟨sl, p, o, rfl, hsw, e2⟩
  have x2 := e1.trans e2
  have no : ∀ H', Ext H H' → lkF h sl p o = (0, false) → LinkP T h f H (.tuple #[.int .i64 0, .bool false]) H' := fun H' e hh => ⟨sl, p, o, hsw, by rw [hh], e⟩
  refine ⟨sl, p, o, rfl, iteB_not (fun c => no _ x2 (by unfold lkF; rw [if_neg (fun hh => by rw [hh.1] at c; cases c)])) (fun c => ?_)⟩
  have ho : o = true := by simpa using c
  obtain ⟨p0, p1, p2, p3, p4, p5, p6, p7⟩ := Blk.host (b1.ext e2)
  refine ⟨_, p0, _, p1, _, p2, _, p3, _, p4, _, p5, _, p6, _, p7, (rValidHost_spec h hs H2 (m.ext x2)).mono ?_⟩
  rintro v H3 ⟨rfl, e3⟩
  have x3 := x2.trans e3
  refine ⟨_, rfl, iteB_not (fun d => no _ x3 (by unfold lkF; rw [if_neg (fun hh => by simp at d; exact d hh.2)])) (fun d => ?_)⟩
  have hv : ValidH h := by simpa using d
  have hlk : lkF h sl p o = (match h.routes.find? (rtQ sl p) with | some r => (r.2.2, true) | none => (0, false)) := by unfold lkF; rw [if_pos ⟨ho, hv⟩]
  have hrn := m.routes.len
  have hro := hv.ro
  have p7 := (Blk.host (b1.ext (e2.trans e3))).2.2.2.2.2.2.2
  refine loop1 h.routes.length (fun k H' => H' = H3 ∧ ∀ i, i < k → rtQ sl p (h.routes.getD i (0, 0, 0)) = false) ⟨rfl, fun i hi => by omega⟩ ?_
  rintro k H4 hk ⟨rfl, hno⟩
  unfold F_ref21_LinkOf_r2
  refine ⟨_, p7, iteB_dec (fun c1 => ?_) (fun c1 => no _ x3 ?_)⟩
  · have hkn : k < h.routes.length := by omega
    obtain ⟨a, hp, hr⟩ := IsS.atN (m.routes.ext x3) (0, 0, 0) hkn
    have hfind := find_at_g (0, 0, 0) hkn hno
    generalize hre : h.routes.getD k (0, 0, 0) = r at *
    have q0 := hr 0 _ rfl
    refine ⟨fun b H' => b = rtQ sl p r ∧ H' = H4, ⟨_, p7, by omega, by omega, unSome_mk hp ⟨_, q0, iteB_beq (fun d1 => ⟨_, p7, by omega, by omega, unSome_mk hp ⟨_, hr 1 _ rfl, ?_, rfl⟩⟩) (fun d1 => ⟨by unfold rtQ; rw [decide_eq_false (fun hh => d1 hh.1)], rfl⟩)⟩⟩, ?_⟩
    · unfold rtQ
      rw [Bool.eq_iff_iff]
      simp [d1]
    · rintro b H7 ⟨rfl, rfl⟩
      unfold F_ref21_LinkOf_k1
      refine iteB_intro (fun d1 => ⟨_, p7, by omega, by omega, unSome_mk hp ⟨_, hr 2 _ rfl, sl, p, o, hsw, by rw [hlk, hfind d1], x3⟩⟩) (fun d1 => letV_mk _ rfl (next1 hkn (by omega) ⟨rfl, fun i hi => ?_⟩))
      by_cases e : i = k
      · subst e; rw [hre]; exact d1
      · exact hno i (by omega)
  · rw [hlk, find_none_g (0, 0, 0) (fun i hi => hno i (by omega))]

end Go.Proofs.YtinhkngomojheaaDoor
end

section
/-
  Vectors, in plain terms.
-/
namespace Go.Proofs.YtinhkngomojheaaDoor
open Go.Eng
set_option linter.unusedVariables false

/-- The number of a function's vectors is a power of two. -/
theorem vec_pow {f : Fn} (h : ValidF f) : f.vec = 0 ∨ f.vec = 1 ∨ f.vec = 2 ∨ f.vec = 4 ∨ f.vec = 8 ∨ f.vec = 16 ∨ f.vec = 32 := by
  have key : ∀ n : Fin 33, bitsAnd .i64 (n.val : Int) (IntKind.i64.wrap ((n.val : Int) - 1)) = 0 → n.val = 0 ∨ n.val = 1 ∨ n.val = 2 ∨ n.val = 4 ∨ n.val = 8 ∨ n.val = 16 ∨ n.val = 32 := by decide +kernel
  have hb := h.vc
  have hv := h.vb
  obtain ⟨n, hn⟩ : ∃ n : Nat, f.vec = n := ⟨f.vec.toNat, by omega⟩
  rw [hn] at hv hb ⊢
  have := key ⟨n, by omega⟩ hv
  dsimp only at this
  omega

def lg (v : Int) : Int := if v = 1 then 0 else if v = 2 then 1 else if v = 4 then 2 else if v = 8 then 3 else if v = 16 then 4 else 5
theorem lg_range (v : Int) : 0 ≤ lg v ∧ lg v ≤ 5 := by unfold lg; repeat' split
                                                       all_goals omega

/-- Functions with message interrupts, among the first. -/
def useN (T : List FS) (k : Nat) : List Nat := (List.range k).filter (fun i => decide (0 < (fnAt T i).vec))
def uF (T : List FS) (k : Nat) : List Int := (useN T k).map (fun i : Nat => (i : Int))
def sF (T : List FS) (k : Nat) : List Int := (useN T k).map (fun i : Nat => lg (fnAt T i).vec)
theorem useN_succ (T : List FS) (k : Nat) : useN T (k + 1) = useN T k ++ (if 0 < (fnAt T k).vec then [k] else []) := by
  unfold useN
  rw [range_filter_succ]
  congr 1
  by_cases h : 0 < (fnAt T k).vec <;> simp [h]
theorem useN_len (T : List FS) (k : Nat) : (useN T k).length ≤ k := by
  have := List.length_filter_le (fun i => decide (0 < (fnAt T i).vec)) (List.range k)
  simpa [useN] using this

/-- The vectors of all functions, from the places of those that have some. -/
def vecOut (n : Nat) (U : List Int) (bs : List Int) : List Int := (U.zip bs).foldl (fun o x => o.set x.1.toNat (IntKind.i64.wrap x.2)) (List.replicate n 0)
def vecV (T : List FS) : Int × List Int × Cert :=
  if ValidT T then
    (if (placeV [(32, 208)] (sF T T.length)).1 ≠ 0 then ((placeV [(32, 208)] (sF T T.length)).1, [], (placeV [(32, 208)] (sF T T.length)).2.2)
     else (0, vecOut T.length (uF T T.length) (placeV [(32, 208)] (sF T T.length)).2.1, noCert))
  else (1, [], noCert)

end Go.Proofs.YtinhkngomojheaaDoor
end

section
/-
  The program's Vectors (at most 20 functions with message interrupts, as Place_spec stands).
-/
namespace Go.Proofs.YtinhkngomojheaaDoor
open Go.Eng
set_option linter.unusedVariables false

theorem bitsLen_spec (v : Int) (H : Heap) (h : v = 1 ∨ v = 2 ∨ v = 4 ∨ v = 8 ∨ v = 16 ∨ v = 32) : CallsH Tryd.prog n_math_bits_Len #[.int .u64 v] H (fun r H' => r = .int .i64 (lg v + 1) ∧ H' = H) := by
  refine F_math_bits_Len_ok _ ?_
  unfold F_math_bits_Len
  refine (Len64_spec v H (by omega) (by omega)).mono ?_
  rintro r H1 ⟨k, rfl, hb, rfl⟩
  refine ⟨_, rfl, ?_, rfl⟩
  have h1 := hb.lt
  have hk : (k : Int) = lg v + 1 := by
    have hge := hb.ge
    have lo : ∀ n, k ≤ n → (2 : Int) ^ k ≤ 2 ^ n := fun n hn => pow_mono hn
    have hi : ∀ n, n + 1 ≤ k → (2 : Int) ^ n ≤ 2 ^ (k - 1) := fun n hn => pow_mono (by omega)
    have p0 : (2 : Int) ^ 0 = 1 := rfl
    have p1 : (2 : Int) ^ 1 = 2 := rfl
    have p2 : (2 : Int) ^ 2 = 4 := rfl
    have p3 : (2 : Int) ^ 3 = 8 := rfl
    have p4 : (2 : Int) ^ 4 = 16 := rfl
    have p5 : (2 : Int) ^ 5 = 32 := rfl
    have p6 : (2 : Int) ^ 6 = 64 := rfl
    have one : ∀ n : Nat, v = 2 ^ n → k = n + 1 := fun n hv => by
      by_cases c1 : k ≤ n
      · have := lo n c1; omega
      · by_cases c2 : n + 2 ≤ k
        · have q1 := hi (n + 1) (by omega)
          have q2 : (2 : Int) ^ (n + 1) = 2 ^ n * 2 := Int.pow_succ 2 n
          have q3 := pow_pos2 n
          rcases hge with e | e
          · omega
          · omega
        · omega
    rcases h with rfl | rfl | rfl | rfl | rfl | rfl
    · have := one 0 p0.symm; simp [lg]; omega
    · have := one 1 p1.symm; simp [lg]; omega
    · have := one 2 p2.symm; simp [lg]; omega
    · have := one 3 p3.symm; simp [lg]; omega
    · have := one 4 p4.symm; simp [lg]; omega
    · have := one 5 p5.symm; simp [lg]; omega
  rw [hk]

/-- An answer of Vectors in memory. -/
def VecP (x : Int × List Int × Cert) (H : Heap) (v : Value) (H' : Heap) : Prop :=
  ∃ out : Sl, v = .tuple #[.slice out.p out.n out.c, certV x.2.2, .int .i64 x.1] ∧ Ints .i64 H' out x.2.1 ∧ Ext H H'

/-- The two lists that are collected. -/
structure VS (T : List FS) (H2 : Heap) (k : Nat) (users sizes : Sl) (H' : Heap) : Prop where
  u : Own H2.size t_int 1 H' users ((uF T k).flatMap (Go.Eng.encI .i64))
  s : Own H2.size t_int 1 H' sizes ((sF T k).flatMap (Go.Eng.encI .i64))
  ne : ∀ a b, users.p = some a → sizes.p = some b → a.block ≠ b.block
  ext : Ext H2 H'

theorem nblk {p : Option Addr} {b : Nat} (h : ∀ a, p = some a → a.block ≠ b) : b ∉ blkOf p := by
  cases p with
  | none => simp [blkOf]
  | some a => simp only [blkOf, List.mem_singleton]; exact fun e => h a rfl e.symm

theorem vec_round (T : List FS) (s : Sl) (H H2 : Heap) (h2 : Topo H2 s T) (hv : ValidT T) (k : Nat) (users sizes : Sl) (H4 : Heap) (R : Value → Heap → Prop) (hk : k < T.length) (hT : T.length ≤ 64) (st : VS T H2 k users sizes H4) :
    F_interrupts_Vectors_r2 R H s (CI3 T.length (fun k u z H' => VS T H2 k u z H')) (CM3 T.length) users sizes k H4 := by
  unfold F_interrupts_Vectors_r2
  have hn := h2.len
  obtain ⟨a, hpa, hr⟩ := (h2.ext st.ext).at hk
  obtain ⟨p0, p1, p2, p3, p4, p5, p6, p7, p8, p9, p10⟩ := rdFn hr
  have hvec := vec_pow (hv.2 k hk).va
  have hus := useN_succ T k
  have hul := useN_len T k
  have un := Own.len rkInt st.u
  have sn := Own.len rkInt st.s
  have hul' : (uF T k).length = (useN T k).length := by simp [uF]
  have hsl' : (sF T k).length = (useN T k).length := by simp [sF]
  refine iteB_pos (by simp; omega) ⟨by omega, by omega, unSome_mk hpa ⟨_, p0, _, p1, _, p2, _, p3, _, p4, _, p5, _, p6, _, p7, _, p8, _, p9, slAt T k, p10, local_mk (vs := fnL (fnAt T k) (slAt T k)) rfl rfl fun H6 e6 z6 b6 => ?_⟩⟩
  have q9 := (Blk.fn b6).2.2.2.2.2.2.2.2.2.1
  have x6 := st.ext.trans e6
  refine ⟨_, q9, iteB_dec (fun d => ?_) (fun d => next3 hk (by omega) ⟨?_, ?_, st.ne, x6⟩)⟩
  · have hu1 : uF T (k + 1) = uF T k ++ [(k : Int)] := by unfold uF; rw [hus, if_pos (by omega), List.map_append]; rfl
    have hs1 : sF T (k + 1) = sF T k ++ [lg (fnAt T k).vec] := by unfold sF; rw [hus, if_pos (by omega), List.map_append]; rfl
    have ou := st.u.ext e6
    have os := st.s.ext e6
    refine apRat rkInt (k : Int) (lo := H2.size) ou (by omega) x6.size ?_
    intro users1 H8 o8 n8 m8 at8
    have e8 : Ext H2 H8 := Mods.ext x6 m8 (blkOf_new ou.new)
    have os8 := os.mods m8 (fun a ha => by
      cases hu : users.p with
      | none => simp [blkOf]
      | some b => simp only [blkOf, List.mem_singleton]; exact fun e => st.ne b a hu ha e.symm)
    have b8 := b6.mods m8 (nblk (fun a ha => by have := st.u.lt a ha; omega))
    have q9' := (Blk.fn b8).2.2.2.2.2.2.2.2.2.1
    have hne8 : ∀ a b, users1.p = some a → sizes.p = some b → a.block ≠ b.block := fun a b ha hb => by
      rcases at8 a ha with h1 | h1
      · cases hu : users.p with
        | none => rw [hu] at h1; simp [blkOf] at h1
        | some c => rw [hu] at h1; simp only [blkOf, List.mem_singleton] at h1; rw [h1]; exact st.ne c b hu hb
      · have := os.lt b hb; omega
    refine ⟨_, q9', ?_⟩
    rw [u64_in (n := (fnAt T k).vec) (by omega)]
    refine (bitsLen_spec _ H8 (by omega)).mono ?_
    rintro v H9 ⟨rfl, rfl⟩
    have hlr := lg_range (fnAt T k).vec
    refine ⟨_, rfl, ?_⟩
    rw [i64_in (n := lg (fnAt T k).vec + 1 - 1) (by omega), show lg (fnAt T k).vec + 1 - 1 = lg (fnAt T k).vec by omega]
    refine apRat rkInt (lg (fnAt T k).vec) (lo := H2.size) os8 (by omega) e8.size ?_
    intro sizes1 H11 o11 n11 m11 at11
    refine next3 hk (by omega) ⟨?_, by rw [hs1]; exact o11, fun a b ha hb => ?_, Mods.ext e8 m11 (blkOf_new os8.new)⟩
    · rw [hu1]
      exact o8.mods m11 (fun a ha => by
        cases hz : sizes.p with
        | none => simp [blkOf]
        | some b => simp only [blkOf, List.mem_singleton]; exact fun e => hne8 a b ha hz e)
    · rcases at11 b hb with h1 | h1
      · cases hz : sizes.p with
        | none => rw [hz] at h1; simp [blkOf] at h1
        | some c => rw [hz] at h1; simp only [blkOf, List.mem_singleton] at h1; rw [h1]; exact hne8 a c ha hz
      · have := o8.lt a ha; omega
  · have : uF T (k + 1) = uF T k := by unfold uF; rw [hus, if_neg (by omega), List.append_nil]
    rw [this]; exact st.u.ext e6
  · have : sF T (k + 1) = sF T k := by unfold sF; rw [hus, if_neg (by omega), List.append_nil]
    rw [this]; exact st.s.ext e6

end Go.Proofs.YtinhkngomojheaaDoor
end

section
/-
  The program's Vectors.
-/
namespace Go.Proofs.YtinhkngomojheaaDoor
open Go.Eng
set_option linter.unusedVariables false

theorem zip_take_succ {U bs : List Int} {k : Nat} (hu : k < U.length) (hb : k < bs.length) : (U.zip bs).take (k + 1) = (U.zip bs).take k ++ [(U.getD k 0, bs.getD k 0)] := by
  have hz : k < (U.zip bs).length := by rw [List.length_zip]; omega
  rw [take_succ_d (0, 0) hz]
  have e0 : (U.zip bs).getD k (0, 0) = (U.zip bs)[k] := by unfold List.getD; rw [List.getElem?_eq_getElem hz]; rfl
  have e1 : U.getD k 0 = U[k] := by simp [List.getD, hu]
  have e2 : bs.getD k 0 = bs[k] := by simp [List.getD, hb]
  rw [e0, e1, e2, List.getElem_zip]

def vecSt (n : Nat) (U bs : List Int) (k : Nat) : List Int := ((U.zip bs).take k).foldl (fun o x => o.set x.1.toNat (IntKind.i64.wrap x.2)) (List.replicate n 0)
theorem vecSt_succ {n : Nat} {U bs : List Int} {k : Nat} (hu : k < U.length) (hb : k < bs.length) : vecSt n U bs (k + 1) = (vecSt n U bs k).set (U.getD k 0).toNat (IntKind.i64.wrap (bs.getD k 0)) := by
  unfold vecSt
  rw [zip_take_succ hu hb, List.foldl_append]
  rfl
theorem vecSt_len (n : Nat) (U bs : List Int) (k : Nat) : (vecSt n U bs k).length = n := by
  unfold vecSt
  generalize (U.zip bs).take k = l
  have : ∀ (l : List (Int × Int)) (o : List Int), (l.foldl (fun o x => o.set x.1.toNat (IntKind.i64.wrap x.2)) o).length = o.length := by
    intro l
    induction l with
    | nil => intro o; rfl
    | cons x l ih => intro o; rw [List.foldl_cons, ih]; simp
  rw [this]
  simp
theorem vecSt_all {n : Nat} {U bs : List Int} (h : U.length = bs.length) : vecSt n U bs U.length = vecOut n U bs := by
  unfold vecSt vecOut
  rw [List.take_of_length_le (by rw [List.length_zip]; omega)]

theorem uF_mem {T : List FS} {k : Nat} : ∀ x ∈ uF T k, 0 ≤ x ∧ x < k := fun x hx => by
  obtain ⟨i, hi, rfl⟩ := List.mem_map.1 hx
  have := (List.mem_filter.1 hi).1
  simp at this
  omega

theorem placeV_len {free : List Rg} {S bs : List Int} {c : Cert} (h : placeV free S = (0, bs, c)) : bs.length = S.length := by
  unfold placeV at h
  split at h
  · cases hp : plI S (ordF S) (mergeF free) (List.replicate S.length 0) with
    | none => rw [hp] at h; simp at h
    | some x =>
      rw [hp] at h
      obtain ⟨l, b⟩ := x
      simp only [Prod.mk.injEq, true_and] at h
      have := plI_len S _ _ _ _ hp
      rw [← h.1]
      simpa using this
  · simp at h

theorem Vectors_spec (T : List FS) (s : Sl) (H : Heap) (h : Topo H s T) : CallsH Tryd.prog n_interrupts_Vectors #[.slice s.p s.n s.c] H (VecP (vecV T) H) := by
  refine F_interrupts_Vectors_ok _ ?_
  unfold F_interrupts_Vectors
  have hn := h.len
  refine push_mk (vs := encC noCert) fun H1 e1 z1 b1 => (eValid_spec T s H1 (h.ext e1)).mono ?_
  rintro v H2 ⟨rfl, e2⟩
  have x2 := e1.trans e2
  refine ⟨_, rfl, iteB_not (fun c => ?_) (fun c => ?_)⟩
  · have hnv : ¬ ValidT T := by simpa using c
    have hvv : vecV T = (1, [], noCert) := by unfold vecV; rw [if_neg hnv]
    refine cert_wr (c0 := noCert) (c := noCert) (K := fun v H' => VecP (vecV T) H (.tuple #[.slice none 0 0, v, .int .i64 1]) H') (b1.ext e2) (fun H' m' _ => ?_)
    rw [hvv]
    exact ⟨⟨none, 0, 0⟩, rfl, IsS.nil _ _ _, Mods.ext x2 m' (by simp)⟩
  have hv : ValidT T := by simpa using c
  have hv1 := hv.1
  refine loop3 T.length (fun k u z H' => VS T H2 k u z H') ⟨Own.nil _ _ _ _, Own.nil _ _ _ _, fun a b ha => (by cases ha), .refl _⟩ ?_
  rintro k users sizes H4 hk st
  by_cases hkT : k < T.length
  · exact vec_round T s H H2 (h.ext x2) hv k users sizes H4 _ hkT (by omega) st
  obtain rfl : k = T.length := by omega
  unfold F_interrupts_Vectors_r2
  refine iteB_neg (by simp; omega) ?_
  have hul := useN_len T T.length
  have hUl : (uF T T.length).length = (useN T T.length).length := by simp [uF]
  have hSl : (sF T T.length).length = (useN T T.length).length := by simp [sF]
  have hvv : vecV T = (if (placeV [(32, 208)] (sF T T.length)).1 ≠ 0 then ((placeV [(32, 208)] (sF T T.length)).1, [], (placeV [(32, 208)] (sF T T.length)).2.2)
     else (0, vecOut T.length (uF T T.length) (placeV [(32, 208)] (sF T T.length)).2.1, noCert)) := by unfold vecV; rw [if_pos hv]
  have huM := uF_mem (T := T) (k := T.length)
  have isU := Own.is rkInt st.u
  have isZ := Own.is rkInt st.s
  have x4 := x2.trans st.ext
  refine push_mk (vs := encR (32, 208)) fun H12 e12 z12 b12 => ?_
  have x12 := x4.trans e12
  have hfr : Rgs H12 ⟨some ⟨H4.size, 0, none⟩, 1, 1⟩ [(32, 208)] := IsS.of_blk encR_len b12 rfl (fun i v hv => by simpa using hv)
  refine (Place_spec H12 ⟨some ⟨H4.size, 0, none⟩, 1, 1⟩ sizes [(32, 208)] (sF T T.length) hfr (fun r hr => by simp at hr; subst hr; dsimp only; omega) (isZ.ext e12)).mono ?_
  rintro v H13 ⟨out, rfl, isB, tyB, e13⟩
  have x13 := x12.trans e13
  generalize hpv : placeV [(32, 208)] (sF T T.length) = pv at *
  obtain ⟨pe, pb, pc⟩ := pv
  dsimp only at isB hvv
  refine ⟨out, _, _, _, _, _, rfl, local_mk (vs := encC pc) rfl rfl fun H15 e15 z15 b15 => ?_⟩
  have x15 := x13.trans e15
  have c15 : Blk H15 H.size t_api_Certificate (encC noCert) := b1.ext ((((e2.trans st.ext).trans e12).trans e13).trans e15)
  refine iteB_bne (fun d => ?_) (fun d => ?_)
  · refine ⟨_, b15.rd0 rfl, _, b15.rd (i := 1) rfl, _, b15.rd (i := 2) rfl, _, b15.rd (i := 3) rfl, ?_⟩
    refine cert_wr (c0 := noCert) (c := pc) (K := fun v H' => VecP (vecV T) H (.tuple #[.slice none 0 0, v, .int .i64 pe]) H') c15 (fun H' m' _ => ?_)
    rw [hvv, if_pos d]
    exact ⟨⟨none, 0, 0⟩, rfl, IsS.nil _ _ _, Mods.ext x15 m' (by simp)⟩
  · obtain rfl : pe = 0 := d
    have hlB := placeV_len hpv
    rw [if_neg (by simp)] at hvv
    refine ⟨by omega, by omega, by omega, letH_mk ?_⟩
    simp only [Int.toNat_natCast]
    intro H17 h17
    have e17 : Ext H15 H17 := by rw [h17]; exact Ext.push _ _
    have o17 : OB H17 H15.size (vecSt T.length (uF T T.length) pb 0) := by
      rw [h17, hn]
      exact RB.zero H15 t_int (ints_row _) T.length (.int .i64 0) (0 : Int) rfl
    clear h17
    have un := isU.len
    refine loop1 (uF T T.length).length (fun k H' => OB H' H15.size (vecSt T.length (uF T T.length) pb k) ∧ Mods [H15.size] H17 H') ⟨o17, .refl _ _⟩ ?_
    rintro k H18 hk ⟨o18, m18⟩
    unfold F_interrupts_Vectors_r1
    simp only [Int.toNat_natCast]
    have e18 : Ext H15 H18 := Mods.ext e17 m18 (by simp)
    have x18 := x15.trans e18
    refine iteB_dec (fun d1 => ?_) (fun d1 => ?_)
    · have hku : k < (uF T T.length).length := by omega
      have hkb : k < pb.length := by omega
      obtain ⟨a1, hp1, hr1⟩ := Ints.atN (isU.ext (((e12.trans e13).trans e15).trans e18)) hku
      obtain ⟨a2, hp2, hr2⟩ := Ints.atN (isB.ext (e15.trans e18)) hkb
      have bn := isB.len
      have hm := huM _ (getD_mem' (l := uF T T.length) (k := k) 0 hku)
      have hst := vecSt_succ (n := T.length) hku hkb
      have hvl := vecSt_len T.length (uF T T.length) pb k
      generalize (uF T T.length).getD k 0 = i at *
      obtain ⟨j, rfl⟩ : ∃ j : Nat, i = j := ⟨i.toNat, by omega⟩
      refine ⟨by omega, by omega, unSome_mk hp1 ⟨_, hr1, by omega, by omega, unSome_mk hp2 ⟨_, hr2, by omega, by omega, OB.ok o18 (by omega), letH_mk ?_⟩⟩⟩
      intro H19 h19
      have o19 : OB H19 H15.size (vecSt T.length (uF T T.length) pb (k + 1)) := by
        rw [h19, hst, Int.toNat_natCast]
        have := OB.set o18 (p := j) (by omega) (IntKind.i64.wrap (pb.getD k 0))
        rw [Int.toNat_natCast] at this
        exact this
      have m19 : Mods [H15.size] H18 H19 := by rw [h19]; exact mods_wr_add (by simp)
      exact next1 hku (by omega) ⟨o19, m18.trans m19⟩
    · have hkU : k = (uF T T.length).length := by omega
      rw [hkU, vecSt_all (by omega)] at o18
      refine cert_wr (c0 := noCert) (c := noCert) (K := fun v H' => VecP (vecV T) H (.tuple #[.slice (some ⟨H15.size, 0, none⟩) s.n s.n, v, .int .i64 0]) H') (c15.ext e18) (fun H' m' _ => ?_)
      rw [hvv]
      have hz := x15.size
      have hl2 : (vecOut T.length (uF T T.length) pb).length = T.length := by rw [← vecSt_all (by omega)]; exact vecSt_len _ _ _ _
      exact ⟨⟨some ⟨H15.size, 0, none⟩, s.n, s.n⟩, rfl, RB.isS (RB.mods o18 m' (by simp; have := c15.lt; omega)) s.n s.n (by rw [hl2]; exact hn), Mods.ext x18 m' (by simp)⟩

end Go.Proofs.YtinhkngomojheaaDoor
end

section
/-
  awake.
-/
namespace Go.Proofs.YtinhkngomojheaaDoor
open Go.Eng
set_option linter.unusedVariables false

def awF0 : Fn := ⟨-1, 5, 1, 0, true, false, false, 0, 0, 0, []⟩
def awF1 : Fn := ⟨0, 2, 1, 0, false, false, false, 0, 1, 4, []⟩
def awT : List FS := [(awF0, ⟨none, 0, 0⟩), (awF1, ⟨none, 0, 0⟩)]
theorem aw_valid : ValidT awT := by decide +kernel
theorem aw_vec : vecV awT = (0, [0, 32], noCert) := by
  unfold vecV
  rw [if_pos aw_valid]
  decide +kernel
theorem aw_swz {s p : Int} {ok : Bool} (h : SwzIs awT 1 s p ok) : s = 5 ∧ p = 3 ∧ ok = true := by
  have hc : SwzC awT 1 := ⟨aw_valid, by omega, by decide, by decide⟩
  rcases h with ⟨n, _⟩ | ⟨_, rfl, w⟩
  · exact absurd hc n
  · have w' : Swz awT 1 1 5 3 := .step (by decide) (.root (by decide))
    have := w.det w'
    exact ⟨this.1, this.2, rfl⟩

theorem awake_spec (H : Heap) : CallsH Tryd.prog n_law22_awake #[] H (BoolP true H) := by
  refine F_law22_awake_ok ?_
  unfold F_law22_awake
  refine push_mk (vs := encF (awF0, ⟨none, 0, 0⟩) ++ encF (awF1, ⟨none, 0, 0⟩)) fun H1 e1 z1 b1 => ?_
  have hT : Topo H1 ⟨some ⟨H.size, 0, none⟩, 2, 2⟩ awT := ⟨IsS.of_blk encF_len b1 rfl (fun i v hv => by simpa [awT] using hv), fun x hx => by
    simp only [awT, List.mem_cons, List.not_mem_nil, or_false] at hx
    rcases hx with rfl | rfl
    · exact IsS.nil _ _ _
    · exact IsS.nil _ _ _⟩
  refine (Swizzle_spec awT ⟨some ⟨H.size, 0, none⟩, 2, 2⟩ H1 1 hT).mono ?_
  rintro v H2 ⟨s, p, ok, rfl, hsw, e2⟩
  obtain ⟨rfl, rfl, rfl⟩ := aw_swz hsw
  refine ⟨_, _, _, rfl, (Vectors_spec awT ⟨some ⟨H.size, 0, none⟩, 2, 2⟩ H2 (hT.ext e2)).mono ?_⟩
  rintro v H3 ⟨out, rfl, isO, e3⟩
  rw [aw_vec] at isO ⊢
  refine ⟨out, _, _, _, _, _, rfl, local_mk (vs := encC noCert) rfl rfl fun H5 e5 z5 b5 => ?_⟩
  refine iteB_pos (by decide) (iteB_pos (by decide) (iteB_pos rfl (iteB_pos (by decide) ?_)))
  refine push_mk (vs := [.int .i64 0, .int .i64 32]) fun H6 e6 z6 b6 => ?_
  have isW : Ints .i64 H6 ⟨some ⟨H5.size, 0, none⟩, 2, 2⟩ [0, 32] := Ints.of_blk (k := .i64) (l := [0, 32]) b6 rfl
  refine (Equal_int_spec H6 out ⟨some ⟨H5.size, 0, none⟩, 2, 2⟩ [0, 32] [0, 32] (isO.ext (e5.trans e6)) isW (by simp)).mono ?_
  rintro v H7 ⟨rfl, rfl⟩
  exact ⟨_, rfl, by simp, (((e1.trans e2).trans e3).trans e5).trans e6⟩

end Go.Proofs.YtinhkngomojheaaDoor
end

section
/-
  Bits of a 32-bit number (plain): the lowest bit, the number without it; the best interrupt.
-/
namespace Go.Proofs.YtinhkngomojheaaDoor
open Go.Eng
set_option linter.unusedVariables false

theorem and32 {a b : Nat} (ha : a < 4294967296) (hb : b < 4294967296) : bitsAnd .u32 (a : Int) (b : Int) = ((a &&& b : Nat) : Int) := by
  have h : bitsAnd .u32 (a : Int) (b : Int) = IntKind.u32.wrap ((BitVec.ofInt 32 (a : Int) &&& BitVec.ofInt 32 (b : Int)).toNat : Int) := rfl
  rw [h]
  have e1 : BitVec.ofInt 32 (a : Int) = BitVec.ofNat 32 a := by apply BitVec.eq_of_toNat_eq; simp
  have e2 : BitVec.ofInt 32 (b : Int) = BitVec.ofNat 32 b := by apply BitVec.eq_of_toNat_eq; simp
  rw [e1, e2, BitVec.toNat_and, BitVec.toNat_ofNat, BitVec.toNat_ofNat, Nat.mod_eq_of_lt (show a < 2 ^ 32 by omega), Nat.mod_eq_of_lt (show b < 2 ^ 32 by omega)]
  have hl : a &&& b ≤ a := Nat.and_le_left
  have hw : ∀ n : Nat, n < 4294967296 → IntKind.u32.wrap (n : Int) = n := fun n hn => by
    simp [IntKind.wrap, IntKind.signed, IntKind.bits]
    omega
  exact hw _ (by omega)

/-- Every number but 0 has a lowest bit. -/
theorem low_bit : ∀ n : Nat, 0 < n → ∃ c q, n = (2 * q + 1) * 2 ^ c := by
  intro n
  induction n using Nat.strongRecOn with
  | ind n ih =>
    intro h
    by_cases e : n % 2 = 1
    · exact ⟨0, n / 2, by omega⟩
    · obtain ⟨c, q, hc⟩ := ih (n / 2) (by omega) (by omega)
      refine ⟨c + 1, q, ?_⟩
      rw [Nat.pow_succ, ← Nat.mul_assoc, ← hc]
      omega

theorem land_mul (a b c : Nat) : (a * 2 ^ c) &&& (b * 2 ^ c) = (a &&& b) * 2 ^ c := by
  rw [← Nat.shiftLeft_eq, ← Nat.shiftLeft_eq, ← Nat.shiftLeft_eq, Nat.shiftLeft_and_distrib]

theorem odd_and (q : Nat) : (2 * q + 1) &&& (2 * q) = 2 * q := by
  apply Nat.eq_of_testBit_eq
  intro i
  rw [Nat.testBit_and]
  cases i with
  | zero => simp [Nat.testBit_zero]
  | succ i =>
    have h1 : (2 * q + 1).testBit (i + 1) = q.testBit i := by rw [Nat.testBit_succ]; congr 1; omega
    have h2 : (2 * q).testBit (i + 1) = q.testBit i := by rw [Nat.testBit_succ]; congr 1; omega
    rw [h1, h2, Bool.and_self]

/-- The number without its lowest bit. -/
theorem and_pred (q c : Nat) : ((2 * q + 1) * 2 ^ c) &&& ((2 * q + 1) * 2 ^ c - 1) = (2 * q) * 2 ^ c := by
  have hp := Nat.two_pow_pos c
  have e : (2 * q + 1) * 2 ^ c - 1 = 2 ^ c * (2 * q) + (2 ^ c - 1) := by
    rw [Nat.add_mul, Nat.one_mul, Nat.mul_comm (2 ^ c)]
    omega
  have hlt : 2 ^ c - 1 < 2 ^ c := by omega
  apply Nat.eq_of_testBit_eq
  intro i
  rw [Nat.testBit_and, e, Nat.testBit_two_pow_mul_add _ hlt, Nat.testBit_mul_two_pow, Nat.testBit_mul_two_pow]
  by_cases h : i < c
  · simp [show ¬ c ≤ i by omega]
  · rw [if_neg h]
    have h3 : c ≤ i := by omega
    simp only [h3, decide_true, Bool.true_and]
    rw [← Nat.testBit_and, odd_and]

/-- The lowest bit itself. -/
theorem and_neg {q c : Nat} (h : (2 * q + 1) * 2 ^ c < 4294967296) : ((2 * q + 1) * 2 ^ c) &&& (4294967296 - (2 * q + 1) * 2 ^ c) = 2 ^ c := by
  have hp := Nat.two_pow_pos c
  have hc : c < 32 := by
    apply Classical.byContradiction
    intro hn
    have h1 : 2 ^ 32 ≤ 2 ^ c := Nat.pow_le_pow_right (by omega) (by omega)
    have h2 : 2 ^ c ≤ (2 * q + 1) * 2 ^ c := Nat.le_mul_of_pos_left _ (by omega)
    omega
  have e32 : 4294967296 = 2 ^ (32 - c) * 2 ^ c := by rw [← Nat.pow_add, show 32 - c + c = 32 by omega]
  have hlt : 2 * q + 1 < 2 ^ (32 - c) := by
    have : (2 * q + 1) * 2 ^ c < 2 ^ (32 - c) * 2 ^ c := by rw [← e32]; exact h
    exact Nat.lt_of_mul_lt_mul_right this
  have em : 4294967296 - (2 * q + 1) * 2 ^ c = (2 ^ (32 - c) - (2 * q + 1)) * 2 ^ c := by
    rw [Nat.sub_mul, ← e32]
  rw [em, land_mul]
  have key : (2 * q + 1) &&& (2 ^ (32 - c) - (2 * q + 1)) = 1 := by
    apply Nat.eq_of_testBit_eq
    intro i
    rw [Nat.testBit_and]
    have hx : (2 ^ (32 - c) - (2 * q + 1)).testBit i = (decide (i < 32 - c) && !(2 * q).testBit i) := by
      have := Nat.testBit_two_pow_sub_succ (x := 2 * q) (n := 32 - c) (by omega) i
      rw [← this]
    rw [hx]
    cases i with
    | zero => simp [Nat.testBit_zero]; omega
    | succ i =>
      have h1 : (2 * q + 1).testBit (i + 1) = q.testBit i := by rw [Nat.testBit_succ]; congr 1; omega
      have h2 : (2 * q).testBit (i + 1) = q.testBit i := by rw [Nat.testBit_succ]; congr 1; omega
      have h3 : Nat.testBit 1 (i + 1) = false := by rw [Nat.testBit_succ]; simp
      rw [h1, h2, h3]
      cases q.testBit i <;> simp
  rw [key, Nat.one_mul]

/-- De Bruijn's table. -/
def dbT : List Int := [0, 1, 28, 2, 29, 14, 24, 3, 30, 22, 20, 15, 25, 17, 4, 8, 31, 27, 13, 23, 21, 19, 16, 7, 26, 12, 18, 6, 11, 5, 10, 9]
theorem db_all : ∀ c : Fin 32, (2 ^ c.val * 125613361 % 4294967296) / 134217728 < 32 ∧ dbT.getD ((2 ^ c.val * 125613361 % 4294967296) / 134217728) 0 = (c.val : Int) := by decide

/-! ### the best interrupt -/
def bit (P n : Nat) : Bool := P.testBit n
/-- Among the first 'n' interrupts: the one that is possible and has the least load, the first of these. -/
def bestF (P : Nat) (ld : Nat → Int) : Nat → Int
  | 0 => -1
  | n + 1 => if P.testBit n = true ∧ (bestF P ld n < 0 ∨ ld n < ld (bestF P ld n).toNat) then n else bestF P ld n
theorem bestF_range (P : Nat) (ld : Nat → Int) : ∀ n, -1 ≤ bestF P ld n ∧ bestF P ld n < n
  | 0 => by simp [bestF]
  | n + 1 => by
    have := bestF_range P ld n
    simp only [bestF]
    split <;> omega
theorem bestF_skip {P : Nat} {ld : Nat → Int} {m : Nat} : ∀ d, (∀ i, m ≤ i → i < m + d → P.testBit i = false) → bestF P ld (m + d) = bestF P ld m
  | 0, _ => rfl
  | d + 1, h => by
    rw [← Nat.add_assoc, bestF, if_neg (fun hh => by rw [h (m + d) (by omega) (by omega)] at hh; cases hh.1)]
    exact bestF_skip d (fun i h1 h2 => h i h1 (by omega))
theorem bestF_bit {P : Nat} {ld : Nat → Int} : ∀ n, 0 ≤ bestF P ld n → P.testBit (bestF P ld n).toNat = true
  | 0, h => by simp [bestF] at h
  | n + 1, h => by
    simp only [bestF] at h ⊢
    split
    · rename_i hh; rw [Int.toNat_natCast]; exact hh.1
    · rename_i hh; rw [if_neg hh] at h; exact bestF_bit n h
theorem bestF_some {P : Nat} {ld : Nat → Int} : ∀ n i, i < n → P.testBit i = true → 0 ≤ bestF P ld n ∧ ld (bestF P ld n).toNat ≤ ld i
  | 0, i, h, _ => by omega
  | n + 1, i, h, hb => by
    simp only [bestF]
    by_cases e : i = n
    · subst e
      split
      · simp
      · rename_i hh
        have : ¬ (bestF P ld i < 0 ∨ ld i < ld (bestF P ld i).toNat) := fun h => hh ⟨hb, h⟩
        omega
    · have ih := bestF_some (ld := ld) n i (by omega) hb
      split
      · rename_i hh
        rw [Int.toNat_natCast]
        omega
      · exact ih

/-- The number with its lowest 'm' bits struck. -/
def hiB (P m : Nat) : Nat := P / 2 ^ m * 2 ^ m
theorem hiB_bit (P m i : Nat) : (hiB P m).testBit i = (decide (m ≤ i) && P.testBit i) := by
  unfold hiB
  rw [Nat.testBit_mul_two_pow]
  by_cases h : m ≤ i
  · simp only [h, decide_true, Bool.true_and]
    rw [Nat.testBit_div_two_pow, Nat.sub_add_cancel h]
  · simp [h]
theorem hiB_zero (P : Nat) : hiB P 0 = P := by simp [hiB]
theorem hiB_le (P m : Nat) : hiB P m ≤ P := Nat.div_mul_le_self P (2 ^ m)

/-- One step: the lowest bit of what is left. -/
theorem hiB_step {P m : Nat} (h : hiB P m ≠ 0) : ∃ c q, hiB P m = (2 * q + 1) * 2 ^ c ∧ m ≤ c ∧ P.testBit c = true ∧ (∀ i, m ≤ i → i < c → P.testBit i = false) ∧ hiB P (c + 1) = (2 * q) * 2 ^ c := by
  obtain ⟨c, q, hc⟩ := low_bit (hiB P m) (by omega)
  have tb : ∀ i, (hiB P m).testBit i = (decide (c ≤ i) && (2 * q + 1).testBit (i - c)) := fun i => by rw [hc, Nat.testBit_mul_two_pow]
  have hcb : (hiB P m).testBit c = true := by rw [tb]; simp
  rw [hiB_bit] at hcb
  simp only [Bool.and_eq_true, decide_eq_true_eq] at hcb
  have low : ∀ i, m ≤ i → i < c → P.testBit i = false := fun i h1 h2 => by
    have := tb i
    rw [hiB_bit] at this
    simpa [h1, show ¬ c ≤ i by omega] using this
  refine ⟨c, q, hc, hcb.1, hcb.2, low, ?_⟩
  apply Nat.eq_of_testBit_eq
  intro i
  rw [hiB_bit, Nat.testBit_mul_two_pow]
  by_cases h1 : c + 1 ≤ i
  · have t := tb i
    rw [hiB_bit] at t
    simp only [show m ≤ i by omega, show c ≤ i by omega, decide_true, Bool.true_and] at t
    simp only [h1, show c ≤ i by omega, decide_true, Bool.true_and]
    rw [t]
    obtain ⟨d, hd⟩ : ∃ d, i - c = d + 1 := ⟨i - c - 1, by omega⟩
    rw [hd]
    have e1 : (2 * q + 1).testBit (d + 1) = q.testBit d := by rw [Nat.testBit_succ]; congr 1; omega
    have e2 : (2 * q).testBit (d + 1) = q.testBit d := by rw [Nat.testBit_succ]; congr 1; omega
    rw [e1, e2]
  · by_cases h2 : c ≤ i
    · obtain rfl : i = c := by omega
      simp [Nat.testBit_zero]; omega
    · simp [h1, h2]

end Go.Proofs.YtinhkngomojheaaDoor
end

section
/-
  TrailingZeros32; Connect in plain terms.
-/
namespace Go.Proofs.YtinhkngomojheaaDoor
open Go.Eng
set_option linter.unusedVariables false

/-- The table of the library lies where the program's variable is. -/
def Tab (H : Heap) : Prop := ∀ i, i < 32 → rd H ((⟨0, 0, none⟩ : Addr).add i) = some (.int .u8 (dbT.getD i 0))
theorem Tab.ext {H H' : Heap} (h : Tab H) (e : Ext H H') : Tab H' := fun i hi => e.rd (h i hi)

theorem u32_in {n : Int} (h : 0 ≤ n ∧ n ≤ 4294967295) : IntKind.u32.wrap n = n := by
  simp [IntKind.wrap, IntKind.signed, IntKind.bits]
  omega
theorem u32_mod (n : Int) : IntKind.u32.wrap n = n % 4294967296 := by
  simp [IntKind.wrap, IntKind.signed, IntKind.bits]

theorem tz_spec {q c : Nat} (h : (2 * q + 1) * 2 ^ c < 4294967296) (H : Heap) (ht : Tab H) :
    CallsH Tryd.prog n_math_bits_TrailingZeros32 #[.int .u32 (((2 * q + 1) * 2 ^ c : Nat) : Int)] H (fun v H' => v = .int .i64 (c : Int) ∧ H' = H) := by
  refine F_math_bits_TrailingZeros32_ok _ ?_
  unfold F_math_bits_TrailingZeros32
  have hp := Nat.two_pow_pos c
  have hpos : 0 < (2 * q + 1) * 2 ^ c := Nat.mul_pos (by omega) hp
  have hc : c < 32 := by
    apply Classical.byContradiction
    intro hn
    have h1 : 2 ^ 32 ≤ 2 ^ c := Nat.pow_le_pow_right (by omega) (by omega)
    have h2 : 2 ^ c ≤ (2 * q + 1) * 2 ^ c := Nat.le_mul_of_pos_left _ (by omega)
    omega
  have hand := and_neg h
  generalize hX : (2 * q + 1) * 2 ^ c = X at *
  have e1 : IntKind.u32.wrap (0 - (X : Int)) = ((4294967296 - X : Nat) : Int) := by rw [u32_mod]; omega
  have e2 : bitsAnd .u32 (X : Int) (IntKind.u32.wrap (0 - (X : Int))) = ((2 ^ c : Nat) : Int) := by
    rw [e1, and32 h (by omega), hand]
  have e3 : IntKind.u32.wrap (((2 ^ c : Nat) : Int) * 125613361) = ((2 ^ c * 125613361 % 4294967296 : Nat) : Int) := by rw [u32_mod]; omega
  have e4 : (((2 ^ c * 125613361 % 4294967296 : Nat) : Int)).fdiv (2 ^ (min (27 : Int).toNat IntKind.u32.bits)) = ((2 ^ c * 125613361 % 4294967296 / 134217728 : Nat) : Int) := by
    have : ((2 : Int) ^ (min (27 : Int).toNat IntKind.u32.bits)) = 134217728 := by decide
    rw [this, Int.fdiv_eq_ediv_of_nonneg _ (by omega)]
    omega
  rw [e2, e3, e4]
  obtain ⟨h1, h2⟩ := db_all ⟨c, hc⟩
  dsimp only at h1 h2
  have hr := ht _ h1
  rw [h2] at hr
  clear h2 e2 e3 e4 hand
  generalize 2 ^ c * 125613361 % 4294967296 / 134217728 = ix at *
  clear e1 hX hp h
  refine iteB_neg (by simp; omega) ⟨by omega, by omega, by omega, _, by rw [Int.toNat_natCast, Nat.mul_one]; exact hr, letV_mk (c : Int) (i64_in (by omega)) ⟨rfl, rfl⟩⟩

/-! ### Connect in plain terms -/
/-- How many functions lead to a link ('lk': the link of each function, if it has one). -/
def useC (lk : Nat → Int × Bool) (k : Int) : Nat → Int
  | 0 => 0
  | i + 1 => useC lk k i + (if (lk i).2 = true ∧ (lk i).1 = k then 1 else 0)
theorem useC_range (lk : Nat → Int × Bool) (k : Int) : ∀ i, 0 ≤ useC lk k i ∧ useC lk k i ≤ i
  | 0 => by simp [useC]
  | i + 1 => by
    have := useC_range lk k i
    simp only [useC]
    split <;> omega

/-- The links so far: the load of each interrupt, and what is chosen. -/
def conR (L : List Int) (U : Nat → Int) : Nat → Option ((Nat → Int) × List Int)
  | 0 => some (fun _ => 0, [])
  | k + 1 => match conR L U k with
    | none => none
    | some (ld, out) => if U k = 0 then some (ld, out ++ [-1])
      else if bestF (L.getD k 0).toNat ld 32 < 0 then none
      else some (upd ld (bestF (L.getD k 0).toNat ld 32).toNat (ld (bestF (L.getD k 0).toNat ld 32).toNat + U k), out ++ [bestF (L.getD k 0).toNat ld 32])
theorem conR_none {L : List Int} {U : Nat → Int} {k : Nat} (h : conR L U k = none) : ∀ d, conR L U (k + d) = none
  | 0 => h
  | d + 1 => by rw [← Nat.add_assoc, conR, conR_none h d]
theorem conR_len {L : List Int} {U : Nat → Int} : ∀ {k : Nat} {ld : Nat → Int} {out : List Int}, conR L U k = some (ld, out) → out.length = k
  | 0, ld, out, h => by
    simp only [conR, Option.some.injEq, Prod.mk.injEq] at h
    rw [← h.2]; rfl
  | k + 1, ld, out, h => by
    simp only [conR] at h
    split at h
    · cases h
    · rename_i ld0 out0 h0
      have := conR_len h0
      split at h
      · simp only [Option.some.injEq, Prod.mk.injEq] at h; rw [← h.2]; simp [this]
      · split at h
        · cases h
        · simp only [Option.some.injEq, Prod.mk.injEq] at h; rw [← h.2]; simp [this]
/-- No load is more than all uses together. -/
theorem conR_load {L : List Int} {U : Nat → Int} (hU : ∀ k, 0 ≤ U k ∧ U k ≤ 64) : ∀ {k : Nat} {ld : Nat → Int} {out : List Int}, conR L U k = some (ld, out) → ∀ n, 0 ≤ ld n ∧ ld n ≤ 64 * k
  | 0, ld, out, h, n => by
    simp only [conR, Option.some.injEq, Prod.mk.injEq] at h
    rw [← h.1]; simp
  | k + 1, ld, out, h, n => by
    simp only [conR] at h
    split at h
    · cases h
    · rename_i ld0 out0 h0
      have ih := conR_load hU h0
      have hk := hU k
      split at h
      · simp only [Option.some.injEq, Prod.mk.injEq] at h; rw [← h.1]; have := ih n; omega
      · split at h
        · cases h
        · simp only [Option.some.injEq, Prod.mk.injEq] at h
          rw [← h.1]
          unfold upd
          split
          · have := ih (bestF (L.getD k 0).toNat ld0 32).toNat; omega
          · have := ih n; omega
theorem conR_out {L : List Int} {U : Nat → Int} : ∀ {k : Nat} {ld : Nat → Int} {out : List Int}, conR L U k = some (ld, out) → ∀ j, j < k → (U j = 0 → out.getD j 0 = -1) ∧ (U j ≠ 0 → 0 ≤ out.getD j 0 ∧ out.getD j 0 < 32 ∧ (L.getD j 0).toNat.testBit (out.getD j 0).toNat = true)
  | 0, ld, out, h, j, hj => by omega
  | k + 1, ld, out, h, j, hj => by
    simp only [conR] at h
    split at h
    · cases h
    · rename_i ld0 out0 h0
      have ih := conR_out h0
      have hl := conR_len h0
      have at0 : ∀ x : Int, j < k → (out0 ++ [x]).getD j 0 = out0.getD j 0 := fun x hjk => by simp [List.getD, List.getElem?_append_left (show j < out0.length by omega)]
      have at1 : ∀ x : Int, (out0 ++ [x]).getD k 0 = x := fun x => by simp [List.getD, ← hl]
      split at h
      · rename_i hz
        simp only [Option.some.injEq, Prod.mk.injEq] at h
        rw [← h.2]
        by_cases e : j = k
        · subst e; rw [at1]; exact ⟨fun _ => rfl, fun hn => absurd hz hn⟩
        · rw [at0 _ (by omega)]; exact ih j (by omega)
      · rename_i hz
        split at h
        · cases h
        · rename_i hb
          simp only [Option.some.injEq, Prod.mk.injEq] at h
          rw [← h.2]
          by_cases e : j = k
          · subst e
            rw [at1]
            have hr := bestF_range (L.getD j 0).toNat ld0 32
            exact ⟨fun h => absurd h hz, fun _ => ⟨by omega, by omega, bestF_bit 32 (by omega)⟩⟩
          · rw [at0 _ (by omega)]; exact ih j (by omega)

/-- What Connect answers. -/
def conV (T : List FS) (h : Host) (lk : Nat → Int × Bool) : Int × List Int :=
  if ValidT T ∧ ValidH h then
    (match conR h.links (fun k => useC lk k T.length) h.links.length with
     | none => (19, [])
     | some (_, out) => (0, out))
  else (1, [])
def linV (T : List FS) (h : Host) (lk : Nat → Int × Bool) : Int × List Int :=
  if (conV T h lk).1 = 0 then (0, (List.range T.length).map (fun i => if (lk i).2 = true then (conV T h lk).2.getD (lk i).1.toNat 0 else -1)) else ((conV T h lk).1, [])

/-- 'lk' gives the link of each function. -/
def Lk (T : List FS) (h : Host) (lk : Nat → Int × Bool) : Prop := ∀ i : Nat, i < T.length → ∃ s p o, SwzIs T i s p o ∧ lkF h s p o = lk i
theorem Lk.val {T : List FS} {h : Host} {lk : Nat → Int × Bool} (hl : Lk T h lk) {i : Nat} (hi : i < T.length) {H H' : Heap} {v : Value} (hp : LinkP T h i H v H') : v = .tuple #[.int .i64 (lk i).1, .bool (lk i).2] ∧ Ext H H' := by
  obtain ⟨s, p, o, h1, rfl, e⟩ := hp
  obtain ⟨s', p', o', h2, h3⟩ := hl i hi
  obtain ⟨rfl, rfl, rfl⟩ := h1.uni h2
  rw [h3]
  exact ⟨rfl, e⟩
theorem Lk.lt {T : List FS} {h : Host} {lk : Nat → Int × Bool} (hl : Lk T h lk) (hv : ValidH h) {i : Nat} (hi : i < T.length) (hb : (lk i).2 = true) : 0 ≤ (lk i).1 ∧ (lk i).1 < h.links.length := by
  obtain ⟨s, p, o, _, h3⟩ := hl i hi
  unfold lkF at h3
  split at h3
  · cases hf : h.routes.find? (rtQ s p) with
    | none => rw [hf] at h3; rw [← h3] at hb; cases hb
    | some r =>
      rw [hf] at h3
      dsimp only at h3
      rw [← h3]
      have hm := List.mem_of_find?_eq_some hf
      have := hv.rt r hm
      unfold RtOk at this
      dsimp only
      omega
  · rw [← h3] at hb; cases hb

theorem swz_total {T : List FS} (hv : ValidT T) : ∀ i, i < T.length → ∀ pin, ∃ s p, Swz T i pin s p := by
  intro i
  induction i using Nat.strongRecOn with
  | ind i ih =>
    intro hi pin
    have hpa := (hv.2 i hi).pa
    by_cases h : (fnAt T i).parent < 0
    · exact ⟨_, _, .root h⟩
    · obtain ⟨s, p, w⟩ := ih (fnAt T i).parent.toNat (by omega) (by omega) ((pin - 1 + (fnAt T i).slot).tmod 4 + 1)
      exact ⟨s, p, .step (by omega) w⟩
theorem lk_exists (T : List FS) (h : Host) : ∃ lk, Lk T h lk := by
  have : ∀ i : Nat, ∃ x : Int × Bool, i < T.length → ∃ s p o, SwzIs T i s p o ∧ lkF h s p o = x := fun i => by
    by_cases hc : SwzC T i
    · obtain ⟨s, p, w⟩ := swz_total hc.1 i (by have := hc.2.2.1; omega) (fnAt T i).pin
      refine ⟨_, fun _ => ⟨s, p, true, .inr ⟨hc, rfl, ?_⟩, rfl⟩⟩
      rw [Int.toNat_natCast]
      exact w
    · exact ⟨_, fun _ => ⟨0, 0, false, .inl ⟨hc, rfl, rfl, rfl⟩, rfl⟩⟩
  obtain ⟨lk, hlk⟩ := Classical.axiomOfChoice this
  exact ⟨lk, hlk⟩

end Go.Proofs.YtinhkngomojheaaDoor
end

section
/-
  The program's Connect.
-/
namespace Go.Proofs.YtinhkngomojheaaDoor
open Go.Eng
set_option linter.unusedVariables false

/-- A list of numbers with its first cells laid. -/
def fillI (n : Nat) (out : List Int) : List Int := (List.range n).map (fun i => out.getD i 0)
theorem fillI_len (n : Nat) (out : List Int) : (fillI n out).length = n := by simp [fillI]

/-- Numbers by index in memory. -/
abbrev NB (H : Heap) (b n : Nat) (f : Nat → Int) : Prop := IBlk .i64 H b t_int n f
abbrev NB32 (H : Heap) (b : Nat) (f : Nat → Int) : Prop := IBlk .i64 H b t_32_int 32 f

theorem NB.zero (H : Heap) (n : Nat) : NB (H.push (.cells (zeroRow (.int .i64 0) n) t_int (0, 0))) H.size n (fun _ => 0) := IBlk.zero H t_int n

/-- What Connect answers, in memory. -/
def ConP (x : Int × List Int) (H : Heap) (v : Value) (H' : Heap) : Prop := ∃ o : Sl, v = .tuple #[.slice o.p o.n o.c, .int .i64 x.1] ∧ Ints .i64 H' o x.2 ∧ Ext H H'

/-- What stands in memory while the links are chosen. -/
structure CS3 (Hb : Heap) (n : Nat) (U : Nat → Int) (ub lb ob : Nat) (ld out : Nat → Int) (H' : Heap) : Prop where
  u : NB H' ub n U
  l : NB32 H' lb ld
  o : NB H' ob n out
  ext : Ext Hb H'

theorem bestF_step {P : Nat} {ld : Nat → Int} {m c : Nat} (hm : m ≤ c) (hl : ∀ i, m ≤ i → i < c → P.testBit i = false) (hb : P.testBit c = true) :
    bestF P ld (c + 1) = if bestF P ld m < 0 ∨ ld c < ld (bestF P ld m).toNat then (c : Int) else bestF P ld m := by
  have e : bestF P ld c = bestF P ld m := by
    have := bestF_skip (P := P) (ld := ld) (m := m) (c - m) (fun i h1 h2 => hl i h1 (by omega))
    rw [show m + (c - m) = c by omega] at this
    exact this
  rw [bestF, e]
  by_cases h : bestF P ld m < 0 ∨ ld c < ld (bestF P ld m).toNat
  · rw [if_pos ⟨hb, h⟩, if_pos h]
  · rw [if_neg (fun hh => h hh.2), if_neg h]

theorem bestF_end {P : Nat} (hP : P < 4294967296) {ld : Nat → Int} {m : Nat} (hm : m ≤ 32) (h : hiB P m = 0) : bestF P ld 32 = bestF P ld m := by
  have := bestF_skip (P := P) (ld := ld) (m := m) (32 - m) (fun i h1 h2 => by
    have hb := hiB_bit P m i
    rw [h] at hb
    simpa [h1] using hb.symm)
  rw [show m + (32 - m) = 32 by omega] at this
  exact this

theorem bit_lt {P c : Nat} (hP : P < 4294967296) (h : P.testBit c = true) : c < 32 := by
  apply Classical.byContradiction
  intro hn
  have h2 : 2 ^ 32 ≤ 2 ^ c := Nat.pow_le_pow_right (by omega) (by omega)
  have : P < 2 ^ c := by omega
  rw [Nat.testBit_lt_two_pow this] at h
  cases h

/-- One link is chosen. -/
theorem con_best (Hb : Heap) (n : Nat) (U : Nat → Int) (ub lb ob : Nat) (ld out : Nat → Int) (R : Value → Heap → Prop) (x23 : Sl) (hx : x23.n = n) (k : Nat) (hk : k < n) (count : Int) (P : Nat) (hP : P < 4294967296) (I_1 : Int → Heap → Prop) (M_1 : Int → Heap → Nat) (H5 H8 H10 H11 : Heap)
    (h5 : H5.size = lb) (h8 : H8.size = ob) (hne : ub ≠ lb ∧ ub ≠ ob ∧ lb ≠ ob) (hb0 : Hb.size ≤ lb ∧ Hb.size ≤ ob) (tab : Tab Hb) (st : CS3 Hb n U ub lb ob ld out H11) (hld : ∀ i, 0 ≤ ld i ∧ ld i ≤ 100000) (hc : 0 ≤ count ∧ count ≤ 64)
    (hno : bestF P ld 32 < 0 → ∀ H', Ext Hb H' → R (.tuple #[.slice none 0 0, .int .i64 19]) H')
    (hgo : 0 ≤ bestF P ld 32 → ∀ H', CS3 Hb n U ub lb ob (upd ld (bestF P ld 32).toNat (ld (bestF P ld 32).toNat + count)) (upd out k (bestF P ld 32)) H' → I_1 ((k + 1 : Nat) : Int) H' ∧ M_1 ((k + 1 : Nat) : Int) H' < M_1 k H10) (hn : n ≤ 1000) :
    ∃ I_2 : Int → Int → Heap → Prop, ∃ M_2 : Int → Int → Heap → Nat, I_2 (-1) (P : Int) H11 ∧ (∀ best : Int, ∀ possible1 : Int, ∀ H12 : Heap, I_2 best possible1 H12 → F_interrupts_Connect_r2 R H5 H8 x23 I_1 M_1 (k : Int) H10 count I_2 M_2 best possible1 H12) := by
  refine ⟨fun b p H' => ∃ m : Nat, m ≤ 32 ∧ p = (hiB P m : Nat) ∧ b = bestF P ld m ∧ CS3 Hb n U ub lb ob ld out H', fun _ p _ => p.toNat, ⟨0, by omega, by rw [hiB_zero], rfl, st⟩, ?_⟩
  rintro _ _ H12 ⟨m, hm, rfl, rfl, s12⟩
  unfold F_interrupts_Connect_r2
  have hr := bestF_range P ld m
  have hle := hiB_le P m
  rw [h5, h8]
  refine iteB_bne (fun c => ?_) (fun c => ?_)
  · obtain ⟨c', q, hq, hmc, hbc, hlow, hnx⟩ := hiB_step (P := P) (m := m) (by omega)
    have hc32 := bit_lt hP hbc
    have hstep := bestF_step (ld := ld) hmc hlow hbc
    have hrd := s12.l.rd (i := c') hc32
    refine ⟨fun b H' => b = bestF P ld (c' + 1) ∧ CS3 Hb n U ub lb ob ld out H', ?_, ?_⟩
    · rw [hq]
      refine (tz_spec (by rw [← hq]; omega) H12 (tab.ext s12.ext)).mono ?_
      rintro v H13 ⟨rfl, rfl⟩
      refine ⟨_, rfl, iteB_dec (fun d => ⟨by rw [hstep, if_pos (.inl d)], s12⟩) (fun d => ⟨by omega, by omega, _, by rw [Int.toNat_natCast]; exact hrd, by omega, by omega, _, s12.l.rd (i := (bestF P ld m).toNat) (by omega), iteB_dec (fun d1 => ⟨by rw [hstep, if_pos (.inr d1)], s12⟩) (fun d1 => ⟨by rw [hstep, if_neg (by omega)], s12⟩)⟩)⟩
    · rintro b H14 ⟨rfl, s14⟩
      unfold F_interrupts_Connect_k1
      have e2 : IntKind.u32.wrap (((hiB P m : Nat) : Int) - 1) = ((hiB P m - 1 : Nat) : Int) := by rw [u32_in (by omega)]; omega
      have e3 : bitsAnd .u32 ((hiB P m : Nat) : Int) (IntKind.u32.wrap (((hiB P m : Nat) : Int) - 1)) = ((hiB P (c' + 1) : Nat) : Int) := by
        rw [e2, and32 (by omega) (by omega), hnx, hq, and_pred]
      refine letV_mk _ e3 ⟨⟨c' + 1, by omega, rfl, rfl, s14⟩, ?_⟩
      dsimp only
      have : hiB P (c' + 1) < hiB P m := by
        rw [hnx, hq, Nat.add_mul]
        have := Nat.two_pow_pos c'
        omega
      omega
  · have he := bestF_end hP (ld := ld) hm (by omega)
    rw [← he] at hr ⊢
    refine iteB_dec (fun d => hno d H12 s12.ext) (fun d => ⟨by omega, by omega, ?_, letH_mk ?_⟩)
    · rw [Int.toNat_natCast]; exact s12.o.ok hk
    intro H15 h15
    rw [Int.toNat_natCast] at h15
    have o15 := s12.o.wr hk (bestF P ld 32)
    rw [← h15] at o15
    have m15 : Mods [ob] H12 H15 := by rw [h15]; exact mods_wr_add (by simp)
    have l15 := s12.l.mods m15 (by simp; omega)
    have hlb := hld (bestF P ld 32).toNat
    refine ⟨by omega, by omega, _, l15.rd (i := (bestF P ld 32).toNat) (by omega), by omega, by omega, l15.ok (by omega), letH_mk ?_⟩
    intro H16 h16
    rw [i64_in (n := ld (bestF P ld 32).toNat + count) (by omega)] at h16
    have l16 := l15.wr (i := (bestF P ld 32).toNat) (by omega) (ld (bestF P ld 32).toNat + count)
    rw [← h16] at l16
    have m16 : Mods [lb] H15 H16 := by rw [h16]; exact mods_wr_add (by simp)
    rw [i64_succ (by omega)]
    refine hgo (by omega) H16 ⟨(s12.u.mods m15 (by simp; omega)).mods m16 (by simp; omega), l16, o15.mods m16 (by simp; omega), Mods.ext (Mods.ext s12.ext m15 (by simp; omega)) m16 (by simp; omega)⟩

theorem Connect_spec (T : List FS) (s : Sl) (h : Host) (hs : HostS) (lk : Nat → Int × Bool) (H : Heap) (ht : Topo H s T) (m : HostM H h hs) (hlk : Lk T h lk) (hL : ∀ x ∈ h.links, 0 ≤ x ∧ x ≤ 4294967295) (tab : Tab H) :
    CallsH Tryd.prog n_interrupts_Connect #[.slice s.p s.n s.c, hostV h hs] H (ConP (conV T h lk) H) := by
  refine F_interrupts_Connect_ok _ _ _ _ _ _ _ _ _ ?_
  unfold F_interrupts_Connect
  have no : ¬ (ValidT T ∧ ValidH h) → ∀ H', Ext H H' → ConP (conV T h lk) H (.tuple #[.slice none 0 0, .int .i64 1]) H' := fun hn H' e => by
    unfold conV
    rw [if_neg hn]
    exact ⟨⟨none, 0, 0⟩, rfl, IsS.nil _ _ _, e⟩
  refine push_mk (vs := hostL h hs) fun H1 e1 z1 b1 => (eValid_spec T s H1 (ht.ext e1)).mono ?_
  rintro v H2 ⟨rfl, e2⟩
  have x2 := e1.trans e2
  refine ⟨_, rfl, iteB_not (fun c => no (fun hh => by simp at c; exact c hh.1) H2 x2) (fun c => ?_)⟩
  obtain ⟨p0, p1, p2, p3, p4, p5, p6, p7⟩ := Blk.host (b1.ext e2)
  refine ⟨_, p0, _, p1, _, p2, _, p3, _, p4, _, p5, _, p6, _, p7, (ValidHost_spec h hs H2 (m.ext x2)).mono ?_⟩
  rintro v H3 ⟨rfl, e3⟩
  have x3 := x2.trans e3
  refine ⟨_, rfl, iteB_not (fun d => no (fun hh => by simp at d; exact d hh.2) H3 x3) (fun d => ?_)⟩
  have hv : ValidT T := by simpa using c
  have hh : ValidH h := by simpa using d
  have hli := hh.li
  have hv1 := hv.1
  have b3 := b1.ext (e2.trans e3)
  have q6 := (Blk.host b3).2.2.2.2.2.2.1
  have hln := m.links.len
  have htn := ht.len
  refine ⟨_, q6, by omega, by omega, by omega, letH_mk ?_⟩
  intro H4 h4
  have e4 : Ext H3 H4 := by rw [h4]; exact Ext.push _ _
  have z4 : H4.size = H3.size + 1 := by rw [h4]; simp
  have u4 : NB H4 H3.size h.links.length (fun k => useC lk k 0) := by
    rw [h4, Int.toNat_natCast, hln]
    exact NB.zero H3 _
  clear h4
  refine loop1 T.length (fun i H' => NB H' H3.size h.links.length (fun k => useC lk k i) ∧ Ext H3 H') ⟨u4, e4⟩ ?_
  rintro i H5 hi ⟨u5, e5⟩
  unfold F_interrupts_Connect_r4
  have x5 := x3.trans e5
  refine iteB_dec (fun d1 => ?_) (fun d1 => ?_)
  · have hiT : i < T.length := by omega
    obtain ⟨p0, p1, p2, p3, p4, p5, p6, p7⟩ := Blk.host (b3.ext e5)
    refine ⟨_, p0, _, p1, _, p2, _, p3, _, p4, _, p5, _, p6, _, p7, (LinkOf_spec T s h hs H5 _ (ht.ext x5) (m.ext x5)).mono ?_⟩
    rintro v H6 hp
    obtain ⟨rfl, e6⟩ := hlk.val hiT hp
    have u6 := u5.ext e6
    refine ⟨_, _, rfl, iteB_intro (fun d2 => ?_) (fun d2 => ?_)⟩
    · have hlt := hlk.lt hh hiT d2
      have hur := useC_range lk (lk i).1 i
      have hrd := u6.rd (i := (lk i).1.toNat) (by omega)
      simp only [Int.toNat_of_nonneg hlt.1] at hrd
      refine ⟨by omega, by omega, _, hrd, by omega, by omega, u6.ok (by omega), letH_mk ?_⟩
      intro H7 h7
      rw [i64_in (n := useC lk (lk i).1 i + 1) (by omega)] at h7
      have u7 := u6.wr (i := (lk i).1.toNat) (by omega) (useC lk (lk i).1 i + 1)
      rw [← h7] at u7
      have m7 : Mods [H3.size] H6 H7 := by rw [h7]; exact mods_wr_add (by simp)
      refine next1 hiT (by omega) ⟨u7.congr (fun k hk => ?_), Mods.ext (e5.trans e6) m7 (by simp)⟩
      unfold upd
      simp only [useC]
      by_cases e : k = (lk i).1.toNat
      · rw [if_pos e, if_pos ⟨d2, by omega⟩, e, Int.toNat_of_nonneg hlt.1]
      · rw [if_neg e, if_neg (fun hh => e (by omega))]; omega
    · refine next1 hiT (by omega) ⟨u6.congr (fun k hk => ?_), e5.trans e6⟩
      simp only [useC]
      rw [if_neg (fun hh => by rw [hh.1] at d2; cases d2)]
      omega
  · obtain rfl : i = T.length := by omega
    have hU : ∀ k : Nat, 0 ≤ useC lk k T.length ∧ useC lk k T.length ≤ 64 := fun k => by have := useC_range lk k T.length; omega
    have hcv : conV T h lk = (match conR h.links (fun k => useC lk k T.length) h.links.length with | none => (19, []) | some (_, out) => (0, out)) := by unfold conV; exact if_pos ⟨hv, hh⟩
    refine push_mk (vs := List.replicate 32 (.int .i64 0)) fun H8 e8 z8 b8 => ?_
    have q6 := (Blk.host (b3.ext (e5.trans e8))).2.2.2.2.2.2.1
    have l8 : NB32 H8 H5.size (fun _ => 0) := ⟨[], by rw [List.append_nil, tab_map, ← tab_replicate]; exact b8⟩
    refine ⟨_, q6, by omega, by omega, by omega, letH_mk ?_⟩
    intro H9 h9
    have e9 : Ext H8 H9 := by rw [h9]; exact Ext.push _ _
    have o9 : NB H9 H8.size h.links.length (fun k => ([] : List Int).getD k 0) := by
      rw [h9, Int.toNat_natCast, hln]
      exact (NB.zero H8 _).congr (fun i hi => by simp)
    clear h9
    have z5 := e5.size
    have hu5 := u5.lt
    refine loop1 h.links.length (fun k H' => ∃ ld out, conR h.links (fun k => useC lk k T.length) k = some (ld, out) ∧ CS3 H3 h.links.length (fun k => useC lk k T.length) H3.size H5.size H8.size ld (fun i => out.getD i 0) H') ⟨_, _, rfl, ⟨u5.ext (e8.trans e9), l8.ext e9, o9, e5.trans (e8.trans e9)⟩⟩ ?_
    rintro k H10 hk ⟨ld, out, hcon, s10⟩
    unfold F_interrupts_Connect_r3
    have hlen := conR_len hcon
    have hload := conR_load hU hcon
    rw [hln]
    refine iteB_dec (fun d2 => ?_) (fun d2 => ?_)
    · have hkL : k < h.links.length := by omega
      refine ⟨by omega, by omega, _, by rw [Int.toNat_natCast]; exact s10.u.rd hkL, by omega, by omega, by rw [Int.toNat_natCast]; exact s10.o.ok hkL, letH_mk ?_⟩
      intro H11 h11
      rw [Int.toNat_natCast] at h11
      have o11 := s10.o.wr hkL (-1)
      rw [← h11] at o11
      have m11 : Mods [H8.size] H10 H11 := by rw [h11]; exact mods_wr_add (by simp)
      have e11 : Ext H3 H11 := Mods.ext s10.ext m11 (by simp; omega)
      have s11 : CS3 H3 h.links.length (fun k => useC lk k T.length) H3.size H5.size H8.size ld (upd (fun i => out.getD i 0) k (-1)) H11 := ⟨s10.u.mods m11 (by simp; omega), s10.l.mods m11 (by simp; omega), o11, e11⟩
      have fill : ∀ (b : Int) (f : Nat → Int), (∀ i, i < h.links.length → f i = upd (fun i => out.getD i 0) k b i) → ∀ i, i < h.links.length → f i = (out ++ [b]).getD i 0 := fun b f hf i hi => by
        rw [hf i hi]
        unfold upd
        by_cases e : i = k
        · rw [if_pos e, e]; simp [List.getD, ← hlen]
        · rw [if_neg e]
          by_cases e2 : i < k
          · simp [List.getD, List.getElem?_append_left (show i < out.length by omega)]
          · simp [List.getD, List.getElem?_eq_none (show out.length ≤ i by omega), List.getElem?_eq_none (show (out ++ [b]).length ≤ i by simp; omega)]
      refine iteB_beq (fun d3 => ?_) (fun d3 => ?_)
      · refine next1 hkL (by omega) ⟨ld, out ++ [-1], ?_, ⟨s11.u, s11.l, s11.o.congr (fill (-1) _ (fun i hi => rfl)), e11⟩⟩
        rw [conR, hcon]
        dsimp only
        rw [if_pos d3]
      · have q6 := (Blk.host (b3.ext e11)).2.2.2.2.2.2.1
        obtain ⟨a, hpa, hra⟩ := Ints.atN (m.links.ext (x3.trans e11)) hkL
        have hPr := hL _ (getD_mem' (l := h.links) (k := k) 0 hkL)
        refine ⟨_, q6, by omega, by omega, unSome_mk hpa ⟨_, hra, ?_⟩⟩
        have hPe : h.links.getD k 0 = (((h.links.getD k 0).toNat : Nat) : Int) := by omega
        rw [hPe]
        have hnx : conR h.links (fun k => useC lk k T.length) (k + 1) = if bestF (h.links.getD k 0).toNat ld 32 < 0 then none else some (upd ld (bestF (h.links.getD k 0).toNat ld 32).toNat (ld (bestF (h.links.getD k 0).toNat ld 32).toNat + useC lk k T.length), out ++ [bestF (h.links.getD k 0).toNat ld 32]) := by
          rw [conR, hcon]
          dsimp only
          rw [if_neg d3]
        refine con_best H3 h.links.length (fun k => useC lk k T.length) H3.size H5.size H8.size ld _ _ hs.links hln k hkL _ (h.links.getD k 0).toNat (by omega) _ _ H5 H8 H10 H11 rfl rfl (by omega) (by omega) (tab.ext x3) s11 (fun i => by have := hload i; omega) (hU k) (fun hb H' e' => ?_) (fun hb H' s' => ?_) (by omega)
        · rw [if_pos hb] at hnx
          have := conR_none hnx (h.links.length - (k + 1))
          rw [show k + 1 + (h.links.length - (k + 1)) = h.links.length by omega] at this
          rw [hcv, this]
          exact ⟨⟨none, 0, 0⟩, rfl, IsS.nil _ _ _, x3.trans e'⟩
        · rw [if_neg (by omega)] at hnx
          rw [← i64_succ (by omega)]
          refine next1 hkL (by omega) ⟨_, _, hnx, ⟨s'.u, s'.l, s'.o.congr (fill _ _ (fun i hi => ?_)), s'.ext⟩⟩
          unfold upd
          split <;> rfl
    · obtain rfl : k = h.links.length := by omega
      rw [hcv, hcon]
      refine ⟨⟨some ⟨H8.size, 0, none⟩, h.links.length, h.links.length⟩, by rw [Int.toNat_natCast], ?_, x3.trans s10.ext⟩
      have := s10.o.ints h.links.length
      rw [← hlen, tab_of out 0, hlen] at this
      exact this

end Go.Proofs.YtinhkngomojheaaDoor
end

section
/-
  The reference's Connect; Lines of both.
-/
namespace Go.Proofs.YtinhkngomojheaaDoor
open Go.Eng
set_option linter.unusedVariables false

theorem bit_and {P n : Nat} (hP : P < 4294967296) (hn : n < 32) : bitsAnd .u32 ((P : Int).fdiv (2 ^ (min (IntKind.u64.wrap (n : Int)).toNat IntKind.u32.bits))) 1 = if P.testBit n = true then 1 else 0 := by
  have e : min (IntKind.u64.wrap (n : Int)).toNat IntKind.u32.bits = n := by
    rw [u64_in (by omega)]
    have : IntKind.u32.bits = 32 := rfl
    omega
  rw [e, Int.fdiv_eq_ediv_of_nonneg _ (Int.le_of_lt (pow_pos2 n)), show (2 : Int) ^ n = ((2 ^ n : Nat) : Int) by simp, ← Int.natCast_ediv]
  have h1 : P / 2 ^ n ≤ P := Nat.div_le_self _ _
  have := and32 (a := P / 2 ^ n) (b := 1) (by omega) (by omega)
  rw [show ((1 : Nat) : Int) = 1 from rfl] at this
  rw [this, Nat.and_one_is_mod, Nat.testBit_eq_decide_div_mod_eq]
  by_cases h : P / 2 ^ n % 2 = 1
  · simp [h]
  · have h0 : P / 2 ^ n % 2 = 0 := by omega
    simp [h0]

theorem rcon_best (Hb : Heap) (n : Nat) (U : Nat → Int) (ub lb ob : Nat) (ld out : Nat → Int) (H H3 H5 H8 : Heap) (x10 x22 : Sl) (h10 : x10.n = n) (h22 : x22.n = n) (hln : Sl) (L : List Int) (hL : L.length = n) (hH : ∀ H', Ext Hb H' → rd H' ((⟨H.size, 0, none⟩ : Addr).add 6) = some (.slice hln.p hln.n hln.c)) (isL : Ints .u32 Hb hln L) (k : Nat) (hk : k < n) (P : Nat) (hPk : L.getD k 0 = P) (hP : P < 4294967296) (H11 : Heap)
    (h3 : H3.size = ub) (h5 : H5.size = lb) (h8 : H8.size = ob) (hne : ub ≠ lb ∧ ub ≠ ob ∧ lb ≠ ob) (hb0 : Hb.size ≤ lb ∧ Hb.size ≤ ob) (st : CS3 Hb n U ub lb ob ld (upd out k (-1)) H11) (J_ : Heap → Prop) (hU : 0 ≤ U k)
    (hJ : ∀ H', CS3 Hb n U ub lb ob ld (upd out k (if U k = 0 then -1 else bestF P ld 32)) H' → J_ H') :
    ∃ I_2 : Int → Heap → Prop, ∃ M_2 : Int → Heap → Nat, I_2 0 H11 ∧ (∀ m : Int, ∀ H12 : Heap, I_2 m H12 → F_ref21_Connect_r2 H H3 x10 H5 H8 x22 k J_ I_2 M_2 m H12) := by
  refine loop1 32 (fun m H' => CS3 Hb n U ub lb ob ld (upd out k (if U k = 0 then -1 else bestF P ld m)) H') (by
    have : (if U k = 0 then -1 else bestF P ld 0) = -1 := by split <;> rfl
    rw [this]; exact st) ?_
  rintro m H12 hm s12
  unfold F_ref21_Connect_r2
  rw [h3, h5, h8]
  refine iteB_dec (fun c => ⟨by omega, by omega, _, by rw [Int.toNat_natCast]; exact s12.u.rd hk, iteB_dec (fun c1 => ?_) (fun c1 => hJ H12 ?_)⟩) (fun c => ?_)
  · rw [if_neg (by omega)] at s12
    have hrb := bestF_range P ld m
    obtain ⟨a, hpa, hra⟩ := Ints.atN (isL.ext s12.ext) (i := k) (by omega)
    rw [hPk] at hra
    have hlen := isL.len
    have ho : rd H12 ((⟨ob, 0, none⟩ : Addr).add ((k : Int).toNat * 1)) = some (.int .i64 (bestF P ld m)) := by
      rw [Int.toNat_natCast]
      have := s12.o.rd hk
      simpa [upd] using this
    have nxt : bestF P ld (m + 1) = if P.testBit m = true ∧ (bestF P ld m < 0 ∨ ld m < ld (bestF P ld m).toNat) then (m : Int) else bestF P ld m := rfl
    have same : ∀ x y : Int, ∀ i, i < n → upd (upd out k x) k y i = upd out k y i := fun x y i hi => by unfold upd; split <;> rfl
    refine ⟨fun b H' => b = decide (P.testBit m = true ∧ (bestF P ld m < 0 ∨ ld m < ld (bestF P ld m).toNat)) ∧ H' = H12, ⟨_, hH H12 s12.ext, by omega, by omega, unSome_mk hpa ⟨_, hra, u64_nonneg _, ?_⟩⟩, ?_⟩
    · rw [bit_and hP (by omega)]
      refine iteB_beq (fun d => ?_) (fun d => ⟨?_, rfl⟩)
      · have hb : P.testBit m = true := by
          apply Classical.byContradiction
          intro hn; rw [if_neg hn] at d; omega
        refine ⟨by omega, by omega, _, ho, iteB_dec (fun d1 => ⟨by simp [hb, d1], rfl⟩) (fun d1 => ⟨by omega, by omega, _, by rw [Int.toNat_natCast]; exact s12.l.rd (by omega), by omega, by omega, _, ho, by omega, by omega, _, s12.l.rd (i := (bestF P ld m).toNat) (by omega), ?_, rfl⟩)⟩
        apply decide_eq_decide.2
        constructor
        · intro h; exact ⟨hb, .inr h⟩
        · rintro ⟨_, h | h⟩
          · omega
          · exact h
      · have hb : ¬ P.testBit m = true := fun h => by rw [if_pos h] at d; exact d rfl
        rw [decide_eq_false (fun h => hb h.1)]
    · rintro b H13 ⟨rfl, rfl⟩
      unfold F_ref21_Connect_k1
      rw [h8]
      refine iteB_dec (fun d => ⟨by omega, by omega, by rw [Int.toNat_natCast]; exact s12.o.ok hk, letH_mk ?_⟩) (fun d => letV_mk _ rfl (next1 (by omega) (by omega) ?_))
      · intro H14 h14
        rw [Int.toNat_natCast] at h14
        have o14 := s12.o.wr hk (m : Int)
        rw [← h14] at o14
        have m14 : Mods [ob] H13 H14 := by rw [h14]; exact mods_wr_add (by simp)
        refine letV_mk _ rfl (next1 (by omega) (by omega) ?_)
        rw [if_neg (by omega), nxt, if_pos d]
        exact ⟨s12.u.mods m14 (by simp; omega), s12.l.mods m14 (by simp; omega), o14.congr (same _ _), Mods.ext s12.ext m14 (by simp; omega)⟩
      · rw [if_neg (by omega), nxt, if_neg d]
        exact s12
  · rw [if_pos (by omega)] at s12 ⊢
    exact s12
  · obtain rfl : m = 32 := by omega
    exact hJ H12 s12

theorem rConnect_spec (T : List FS) (s : Sl) (h : Host) (hs : HostS) (lk : Nat → Int × Bool) (H : Heap) (ht : Topo H s T) (m : HostM H h hs) (hlk : Lk T h lk) (hL : ∀ x ∈ h.links, 0 ≤ x ∧ x ≤ 4294967295) (hTl : T.length ≤ 1000) :
    CallsH Tryd.prog n_ref21_Connect #[.slice s.p s.n s.c, hostV h hs] H (ConP (conV T h lk) H) := by
  refine F_ref21_Connect_ok _ _ _ _ _ _ _ _ _ ?_
  unfold F_ref21_Connect
  have no : ¬ (ValidT T ∧ ValidH h) → ∀ H', Ext H H' → ConP (conV T h lk) H (.tuple #[.slice none 0 0, .int .i64 1]) H' := fun hn H' e => by
    unfold conV
    rw [if_neg hn]
    exact ⟨⟨none, 0, 0⟩, rfl, IsS.nil _ _ _, e⟩
  refine push_mk (vs := hostL h hs) fun H1 e1 z1 b1 => (rVal_spec T s H1 (ht.ext e1)).mono ?_
  rintro v H2 ⟨rfl, e2⟩
  have x2 := e1.trans e2
  refine ⟨_, rfl, iteB_not (fun c => no (fun hh => by simp at c; exact c hh.1) H2 x2) (fun c => ?_)⟩
  obtain ⟨p0, p1, p2, p3, p4, p5, p6, p7⟩ := Blk.host (b1.ext e2)
  refine ⟨_, p0, _, p1, _, p2, _, p3, _, p4, _, p5, _, p6, _, p7, (rValidHost_spec h hs H2 (m.ext x2)).mono ?_⟩
  rintro v H3 ⟨rfl, e3⟩
  have x3 := x2.trans e3
  refine ⟨_, rfl, iteB_not (fun d => no (fun hh => by simp at d; exact d hh.2) H3 x3) (fun d => ?_)⟩
  have hv : ValidT T := by simpa using c
  have hh : ValidH h := by simpa using d
  have hli := hh.li
  have hv1 := hv.1
  have b3 := b1.ext (e2.trans e3)
  have q6 := (Blk.host b3).2.2.2.2.2.2.1
  have hln := m.links.len
  have htn := ht.len
  refine ⟨_, q6, by omega, by omega, by omega, letH_mk ?_⟩
  intro H4 h4
  have e4 : Ext H3 H4 := by rw [h4]; exact Ext.push _ _
  have z4 : H4.size = H3.size + 1 := by rw [h4]; simp
  have u4 : NB H4 H3.size h.links.length (fun k => useC lk k 0) := by
    rw [h4, Int.toNat_natCast, hln]
    exact NB.zero H3 _
  clear h4
  refine loop1 T.length (fun i H' => NB H' H3.size h.links.length (fun k => useC lk k i) ∧ Ext H3 H') ⟨u4, e4⟩ ?_
  rintro i H5 hi ⟨u5, e5⟩
  unfold F_ref21_Connect_r5
  have x5 := x3.trans e5
  refine iteB_dec (fun d1 => ?_) (fun d1 => ?_)
  · have hiT : i < T.length := by omega
    obtain ⟨p0, p1, p2, p3, p4, p5, p6, p7⟩ := Blk.host (b3.ext e5)
    refine ⟨_, p0, _, p1, _, p2, _, p3, _, p4, _, p5, _, p6, _, p7, (rLinkOf_spec T s h hs H5 _ (ht.ext x5) (by omega) (m.ext x5)).mono ?_⟩
    rintro v H6 hp
    obtain ⟨rfl, e6⟩ := hlk.val hiT hp
    have u6 := u5.ext e6
    refine ⟨_, _, rfl, iteB_intro (fun d2 => ?_) (fun d2 => ?_)⟩
    · have hlt := hlk.lt hh hiT d2
      have hur := useC_range lk (lk i).1 i
      have hrd := u6.rd (i := (lk i).1.toNat) (by omega)
      simp only [Int.toNat_of_nonneg hlt.1] at hrd
      refine ⟨by omega, by omega, _, hrd, by omega, by omega, u6.ok (by omega), letH_mk ?_⟩
      intro H7 h7
      rw [i64_in (n := useC lk (lk i).1 i + 1) (by omega)] at h7
      have u7 := u6.wr (i := (lk i).1.toNat) (by omega) (useC lk (lk i).1 i + 1)
      rw [← h7] at u7
      have m7 : Mods [H3.size] H6 H7 := by rw [h7]; exact mods_wr_add (by simp)
      refine letV_mk _ rfl (next1 hiT (by omega) ⟨u7.congr (fun k hk => ?_), Mods.ext (e5.trans e6) m7 (by simp)⟩)
      unfold upd
      simp only [useC]
      by_cases e : k = (lk i).1.toNat
      · rw [if_pos e, if_pos ⟨d2, by omega⟩, e, Int.toNat_of_nonneg hlt.1]
      · rw [if_neg e, if_neg (fun hh => e (by omega))]; omega
    · refine letV_mk _ rfl (next1 hiT (by omega) ⟨u6.congr (fun k hk => ?_), e5.trans e6⟩)
      simp only [useC]
      rw [if_neg (fun hh => by rw [hh.1] at d2; cases d2)]
      omega
  · obtain rfl : i = T.length := by omega
    have hU : ∀ k : Nat, 0 ≤ useC lk k T.length ∧ useC lk k T.length ≤ 64 := fun k => by have := useC_range lk k T.length; omega
    have hcv : conV T h lk = (match conR h.links (fun k => useC lk k T.length) h.links.length with | none => (19, []) | some (_, out) => (0, out)) := by unfold conV; exact if_pos ⟨hv, hh⟩
    refine push_mk (vs := List.replicate 32 (.int .i64 0)) fun H8 e8 z8 b8 => ?_
    have q6 := (Blk.host (b3.ext (e5.trans e8))).2.2.2.2.2.2.1
    have l8 : NB32 H8 H5.size (fun _ => 0) := ⟨[], by rw [List.append_nil, tab_map, ← tab_replicate]; exact b8⟩
    refine ⟨_, q6, by omega, by omega, by omega, letH_mk ?_⟩
    intro H9 h9
    have e9 : Ext H8 H9 := by rw [h9]; exact Ext.push _ _
    have o9 : NB H9 H8.size h.links.length (fun k => ([] : List Int).getD k 0) := by
      rw [h9, Int.toNat_natCast, hln]
      exact (NB.zero H8 _).congr (fun i hi => by simp)
    clear h9
    have z5 := e5.size
    have hu5 := u5.lt
    refine loop1 h.links.length (fun k H' => ∃ ld out, conR h.links (fun k => useC lk k T.length) k = some (ld, out) ∧ CS3 H3 h.links.length (fun k => useC lk k T.length) H3.size H5.size H8.size ld (fun i => out.getD i 0) H') ⟨_, _, rfl, ⟨u5.ext (e8.trans e9), l8.ext e9, o9, e5.trans (e8.trans e9)⟩⟩ ?_
    rintro k H10 hk ⟨ld, out, hcon, s10⟩
    unfold F_ref21_Connect_r4
    have hlen := conR_len hcon
    have hload := conR_load hU hcon
    rw [hln]
    refine iteB_dec (fun d2 => ?_) (fun d2 => ?_)
    · have hkL : k < h.links.length := by omega
      refine ⟨by omega, by omega, by rw [Int.toNat_natCast]; exact s10.o.ok hkL, letH_mk ?_⟩
      intro H11 h11
      rw [Int.toNat_natCast] at h11
      have o11 := s10.o.wr hkL (-1)
      rw [← h11] at o11
      have m11 : Mods [H8.size] H10 H11 := by rw [h11]; exact mods_wr_add (by simp)
      have e11 : Ext H3 H11 := Mods.ext s10.ext m11 (by simp; omega)
      have s11 : CS3 H3 h.links.length (fun k => useC lk k T.length) H3.size H5.size H8.size ld (upd (fun i => out.getD i 0) k (-1)) H11 := ⟨s10.u.mods m11 (by simp; omega), s10.l.mods m11 (by simp; omega), o11, e11⟩
      have fill : ∀ (b : Int) (f : Nat → Int), (∀ i, i < h.links.length → f i = upd (fun i => out.getD i 0) k b i) → ∀ i, i < h.links.length → f i = (out ++ [b]).getD i 0 := fun b f hf i hi => by
        rw [hf i hi]
        unfold upd
        by_cases e : i = k
        · rw [if_pos e, e]; simp [List.getD, ← hlen]
        · rw [if_neg e]
          by_cases e2 : i < k
          · simp [List.getD, List.getElem?_append_left (show i < out.length by omega)]
          · simp [List.getD, List.getElem?_eq_none (show out.length ≤ i by omega), List.getElem?_eq_none (show (out ++ [b]).length ≤ i by simp; omega)]
      have hPr := hL _ (getD_mem' (l := h.links) (k := k) 0 hkL)
      have hnx : conR h.links (fun k => useC lk k T.length) (k + 1) = if useC lk k T.length = 0 then some (ld, out ++ [-1]) else if bestF (h.links.getD k 0).toNat ld 32 < 0 then none else some (upd ld (bestF (h.links.getD k 0).toNat ld 32).toNat (ld (bestF (h.links.getD k 0).toNat ld 32).toNat + useC lk k T.length), out ++ [bestF (h.links.getD k 0).toNat ld 32]) := by
        rw [conR, hcon]
      have hUk := hU k
      generalize hPP : (h.links.getD k 0).toNat = P at hnx
      refine ⟨fun H' => CS3 H3 h.links.length (fun k => useC lk k T.length) H3.size H5.size H8.size ld (upd (fun i => out.getD i 0) k (if useC lk k T.length = 0 then -1 else bestF P ld 32)) H', ?_, ?_⟩
      · exact rcon_best H3 h.links.length (fun k => useC lk k T.length) H3.size H5.size H8.size ld (fun i => out.getD i 0) H H3 H5 H8 hs.links hs.links hln hln hs.links h.links rfl (fun H' e' => (Blk.host (b3.ext e')).2.2.2.2.2.2.1) (m.links.ext x3) k hkL P (by omega) (by omega) H11 rfl rfl rfl (by omega) (by omega) s11 _ hUk.1 (fun H' s' => s')
      · rintro H15 s15
        unfold F_ref21_Connect_k3
        rw [hln]
        have hrb := bestF_range P ld 32
        refine ⟨by omega, by omega, _, by rw [Int.toNat_natCast]; exact s15.u.rd hkL, iteB_dec (fun d3 => ?_) (fun d3 => ?_)⟩
        · rw [if_neg (by omega)] at s15 hnx
          have ho : rd H15 ((⟨H8.size, 0, none⟩ : Addr).add ((k : Int).toNat * 1)) = some (.int .i64 (bestF P ld 32)) := by
            rw [Int.toNat_natCast]
            have := s15.o.rd hkL
            simpa [upd] using this
          refine ⟨by omega, by omega, _, ho, iteB_dec (fun d4 => ?_) (fun d4 => ?_)⟩
          · rw [if_pos d4] at hnx
            have := conR_none hnx (h.links.length - (k + 1))
            rw [show k + 1 + (h.links.length - (k + 1)) = h.links.length by omega] at this
            rw [hcv, this]
            exact ⟨⟨none, 0, 0⟩, rfl, IsS.nil _ _ _, x3.trans s15.ext⟩
          · rw [if_neg d4] at hnx
            have hlb := hload (bestF P ld 32).toNat
            refine ⟨by omega, by omega, _, ho, by omega, by omega, _, s15.l.rd (i := (bestF P ld 32).toNat) (by omega), by omega, by omega, _, by rw [Int.toNat_natCast]; exact s15.u.rd hkL, by omega, by omega, s15.l.ok (by omega), letH_mk ?_⟩
            intro H16 h16
            rw [i64_in (n := ld (bestF P ld 32).toNat + useC lk k T.length) (by omega)] at h16
            have l16 := s15.l.wr (i := (bestF P ld 32).toNat) (by omega) (ld (bestF P ld 32).toNat + useC lk k T.length)
            rw [← h16] at l16
            have m16 : Mods [H5.size] H15 H16 := by rw [h16]; exact mods_wr_add (by simp)
            refine letV_mk _ rfl (next1 hkL (by omega) ⟨_, _, hnx, ⟨s15.u.mods m16 (by simp; omega), l16, (s15.o.mods m16 (by simp; omega)).congr (fill _ _ (fun i hi => rfl)), Mods.ext s15.ext m16 (by simp; omega)⟩⟩)
        · rw [if_pos (by omega)] at s15 hnx
          exact letV_mk _ rfl (next1 hkL (by omega) ⟨_, _, hnx, ⟨s15.u, s15.l, s15.o.congr (fill _ _ (fun i hi => rfl)), s15.ext⟩⟩)
    · obtain rfl : k = h.links.length := by omega
      rw [hcv, hcon]
      refine ⟨⟨some ⟨H8.size, 0, none⟩, h.links.length, h.links.length⟩, by rw [Int.toNat_natCast], ?_, x3.trans s10.ext⟩
      have := s10.o.ints h.links.length
      rw [← hlen, tab_of out 0, hlen] at this
      exact this

end Go.Proofs.YtinhkngomojheaaDoor
end

section
/-
  Lines of both; InterruptsConnect.
-/
namespace Go.Proofs.YtinhkngomojheaaDoor
open Go.Eng
set_option linter.unusedVariables false

theorem conV_len {T : List FS} {h : Host} {lk : Nat → Int × Bool} (hc : (conV T h lk).1 = 0) : (ValidT T ∧ ValidH h) ∧ (conV T h lk).2.length = h.links.length ∧ ∃ ld, conR h.links (fun k => useC lk k T.length) h.links.length = some (ld, (conV T h lk).2) := by
  unfold conV at hc ⊢
  by_cases hv : ValidT T ∧ ValidH h
  · rw [if_pos hv] at hc ⊢
    cases hr : conR h.links (fun k => useC lk k T.length) h.links.length with
    | none => rw [hr] at hc; cases hc
    | some x =>
      obtain ⟨ld, out⟩ := x
      exact ⟨hv, conR_len hr, ld, rfl⟩
  · rw [if_neg hv] at hc; cases hc

def linS (T : List FS) (h : Host) (lk : Nat → Int × Bool) (i : Nat) : Int := if (lk i).2 = true then (conV T h lk).2.getD (lk i).1.toNat 0 else -1
theorem linV_ok {T : List FS} {h : Host} {lk : Nat → Int × Bool} (hc : (conV T h lk).1 = 0) : linV T h lk = (0, tab T.length (linS T h lk)) := by
  unfold linV
  rw [if_pos hc]
  rfl
theorem linV_no {T : List FS} {h : Host} {lk : Nat → Int × Bool} (hc : (conV T h lk).1 ≠ 0) : linV T h lk = ((conV T h lk).1, []) := by
  unfold linV
  rw [if_neg hc]

theorem Lines_spec (T : List FS) (s : Sl) (h : Host) (hs : HostS) (lk : Nat → Int × Bool) (H : Heap) (ht : Topo H s T) (m : HostM H h hs) (hlk : Lk T h lk) (hL : ∀ x ∈ h.links, 0 ≤ x ∧ x ≤ 4294967295) (tab_ : Tab H) :
    CallsH Tryd.prog n_interrupts_Lines #[.slice s.p s.n s.c, hostV h hs] H (ConP (linV T h lk) H) := by
  refine F_interrupts_Lines_ok _ _ _ _ _ _ _ _ _ ?_
  unfold F_interrupts_Lines
  refine push_mk (vs := hostL h hs) fun H1 e1 z1 b1 => ?_
  obtain ⟨p0, p1, p2, p3, p4, p5, p6, p7⟩ := Blk.host b1
  refine ⟨_, p0, _, p1, _, p2, _, p3, _, p4, _, p5, _, p6, _, p7, (Connect_spec T s h hs lk H1 (ht.ext e1) (m.ext e1) hlk hL (tab_.ext e1)).mono ?_⟩
  rintro v H2 ⟨o, rfl, is2, e2⟩
  have x2 := e1.trans e2
  refine ⟨o, _, rfl, iteB_bne (fun c => ?_) (fun c => ?_)⟩
  · rw [linV_no c]
    exact ⟨⟨none, 0, 0⟩, rfl, IsS.nil _ _ _, x2⟩
  obtain ⟨⟨hv, hh⟩, hcl, _⟩ := conV_len c
  rw [linV_ok c]
  have hv1 := hv.1
  have htn := ht.len
  have hon := is2.len
  refine ⟨by omega, by omega, by omega, letH_mk ?_⟩
  intro H3 h3
  have e3 : Ext H2 H3 := by rw [h3]; exact Ext.push _ _
  have n3 : NB H3 H2.size T.length (fun _ => 0) := by
    rw [h3, Int.toNat_natCast, htn]
    exact NB.zero H2 _
  clear h3
  refine loop1 T.length (fun i H' => NB H' H2.size T.length (fun j => if j < i then linS T h lk j else 0) ∧ Ext H2 H') ⟨n3.congr (fun j hj => by simp), e3⟩ ?_
  rintro i H4 hi ⟨n4, e4⟩
  unfold F_interrupts_Lines_r1
  refine iteB_dec (fun d => ?_) (fun d => ?_)
  · have hiT : i < T.length := by omega
    refine ⟨by omega, by omega, by rw [Int.toNat_natCast]; exact n4.ok hiT, letH_mk ?_⟩
    intro H5 h5
    rw [Int.toNat_natCast] at h5
    have n5 := n4.wr hiT (-1)
    rw [← h5] at n5
    have m5 : Mods [H2.size] H4 H5 := by rw [h5]; exact mods_wr_add (by simp)
    have e5 : Ext H2 H5 := Mods.ext e4 m5 (by simp)
    have x5 := x2.trans e5
    obtain ⟨p0, p1, p2, p3, p4, p5, p6, p7⟩ := Blk.host (b1.ext (e2.trans e5))
    refine ⟨_, p0, _, p1, _, p2, _, p3, _, p4, _, p5, _, p6, _, p7, (LinkOf_spec T s h hs H5 _ (ht.ext x5) (m.ext x5)).mono ?_⟩
    rintro v H6 hp
    obtain ⟨rfl, e6⟩ := hlk.val hiT hp
    have n6 := n5.ext e6
    refine ⟨_, _, rfl, iteB_intro (fun d2 => ?_) (fun d2 => ?_)⟩
    · have hlt := hlk.lt hh hiT d2
      have hlt2 : (lk i).1.toNat < (conV T h lk).2.length := by rw [hcl]; omega
      obtain ⟨a, hpa, hra⟩ := Ints.atN (is2.ext (e5.trans e6)) hlt2
      rw [Int.toNat_natCast] at hra
      generalize hcx : (conV T h lk).2.getD (lk i).1.toNat 0 = cx at hra
      refine ⟨by omega, by omega, unSome_mk hpa ⟨_, hra, by omega, by omega, by rw [Int.toNat_natCast]; exact n6.ok hiT, letH_mk ?_⟩⟩
      intro H7 h7
      rw [Int.toNat_natCast] at h7
      have n7 := n6.wr hiT cx
      rw [← h7] at n7
      have m7 : Mods [H2.size] H6 H7 := by rw [h7]; exact mods_wr_add (by simp)
      refine next1 hiT (by omega) ⟨n7.congr (fun j hj => ?_), Mods.ext (e5.trans e6) m7 (by simp)⟩
      unfold upd
      by_cases e : j = i
      · rw [if_pos e, if_pos (by omega), e]
        unfold linS
        rw [if_pos d2, hcx]
      · rw [if_neg e, if_neg e]
        dsimp only
        by_cases e3 : j < i
        · rw [if_pos e3, if_pos (by omega)]
        · rw [if_neg e3, if_neg (by omega)]
    · refine next1 hiT (by omega) ⟨n6.congr (fun j hj => ?_), e5.trans e6⟩
      unfold upd
      by_cases e : j = i
      · rw [if_pos e, if_pos (by omega), e]
        unfold linS
        rw [if_neg (by rw [d2]; simp)]
      · rw [if_neg e]
        dsimp only
        by_cases e3 : j < i
        · rw [if_pos e3, if_pos (by omega)]
        · rw [if_neg e3, if_neg (by omega)]
  · obtain rfl : i = T.length := by omega
    refine ⟨⟨some ⟨H2.size, 0, none⟩, T.length, T.length⟩, by rw [Int.toNat_natCast, htn], ?_, x2.trans e4⟩
    exact (n4.congr (fun j hj => by rw [if_pos hj])).ints T.length

theorem rLines_spec (T : List FS) (s : Sl) (h : Host) (hs : HostS) (lk : Nat → Int × Bool) (H : Heap) (ht : Topo H s T) (m : HostM H h hs) (hlk : Lk T h lk) (hL : ∀ x ∈ h.links, 0 ≤ x ∧ x ≤ 4294967295) (hTl : T.length ≤ 1000) :
    CallsH Tryd.prog n_ref21_Lines #[.slice s.p s.n s.c, hostV h hs] H (ConP (linV T h lk) H) := by
  refine F_ref21_Lines_ok _ _ _ _ _ _ _ _ _ ?_
  unfold F_ref21_Lines
  refine push_mk (vs := hostL h hs) fun H1 e1 z1 b1 => ?_
  obtain ⟨p0, p1, p2, p3, p4, p5, p6, p7⟩ := Blk.host b1
  refine ⟨_, p0, _, p1, _, p2, _, p3, _, p4, _, p5, _, p6, _, p7, (rConnect_spec T s h hs lk H1 (ht.ext e1) (m.ext e1) hlk hL hTl).mono ?_⟩
  rintro v H2 ⟨o, rfl, is2, e2⟩
  have x2 := e1.trans e2
  refine ⟨o, _, rfl, iteB_bne (fun c => ?_) (fun c => ?_)⟩
  · rw [linV_no c]
    exact ⟨⟨none, 0, 0⟩, rfl, IsS.nil _ _ _, x2⟩
  obtain ⟨⟨hv, hh⟩, hcl, _⟩ := conV_len c
  rw [linV_ok c]
  have hv1 := hv.1
  have htn := ht.len
  have hon := is2.len
  refine ⟨by omega, by omega, by omega, letH_mk ?_⟩
  intro H3 h3
  have e3 : Ext H2 H3 := by rw [h3]; exact Ext.push _ _
  have n3 : NB H3 H2.size T.length (fun _ => 0) := by
    rw [h3, Int.toNat_natCast, htn]
    exact NB.zero H2 _
  clear h3
  refine loop1 T.length (fun i H' => NB H' H2.size T.length (fun j => if j < i then linS T h lk j else 0) ∧ Ext H2 H') ⟨n3.congr (fun j hj => by simp), e3⟩ ?_
  rintro i H4 hi ⟨n4, e4⟩
  unfold F_ref21_Lines_r1
  refine iteB_dec (fun d => ?_) (fun d => ?_)
  · have hiT : i < T.length := by omega
    refine ⟨by omega, by omega, by rw [Int.toNat_natCast]; exact n4.ok hiT, letH_mk ?_⟩
    intro H5 h5
    rw [Int.toNat_natCast] at h5
    have n5 := n4.wr hiT (-1)
    rw [← h5] at n5
    have m5 : Mods [H2.size] H4 H5 := by rw [h5]; exact mods_wr_add (by simp)
    have e5 : Ext H2 H5 := Mods.ext e4 m5 (by simp)
    have x5 := x2.trans e5
    obtain ⟨p0, p1, p2, p3, p4, p5, p6, p7⟩ := Blk.host (b1.ext (e2.trans e5))
    refine ⟨_, p0, _, p1, _, p2, _, p3, _, p4, _, p5, _, p6, _, p7, (rLinkOf_spec T s h hs H5 _ (ht.ext x5) (by omega) (m.ext x5)).mono ?_⟩
    rintro v H6 hp
    obtain ⟨rfl, e6⟩ := hlk.val hiT hp
    have n6 := n5.ext e6
    refine ⟨_, _, rfl, iteB_intro (fun d2 => ?_) (fun d2 => ?_)⟩
    · have hlt := hlk.lt hh hiT d2
      have hlt2 : (lk i).1.toNat < (conV T h lk).2.length := by rw [hcl]; omega
      obtain ⟨a, hpa, hra⟩ := Ints.atN (is2.ext (e5.trans e6)) hlt2
      rw [Int.toNat_natCast] at hra
      generalize hcx : (conV T h lk).2.getD (lk i).1.toNat 0 = cx at hra
      refine ⟨by omega, by omega, unSome_mk hpa ⟨_, hra, by omega, by omega, by rw [Int.toNat_natCast]; exact n6.ok hiT, letH_mk ?_⟩⟩
      intro H7 h7
      rw [Int.toNat_natCast] at h7
      have n7 := n6.wr hiT cx
      rw [← h7] at n7
      have m7 : Mods [H2.size] H6 H7 := by rw [h7]; exact mods_wr_add (by simp)
      refine letV_mk _ rfl (next1 hiT (by omega) ⟨n7.congr (fun j hj => ?_), Mods.ext (e5.trans e6) m7 (by simp)⟩)
      unfold upd
      by_cases e : j = i
      · rw [if_pos e, if_pos (by omega), e]
        unfold linS
        rw [if_pos d2, hcx]
      · rw [if_neg e, if_neg e]
        dsimp only
        by_cases e3 : j < i
        · rw [if_pos e3, if_pos (by omega)]
        · rw [if_neg e3, if_neg (by omega)]
    · refine letV_mk _ rfl (next1 hiT (by omega) ⟨n6.congr (fun j hj => ?_), e5.trans e6⟩)
      unfold upd
      by_cases e : j = i
      · rw [if_pos e, if_pos (by omega), e]
        unfold linS
        rw [if_neg (by rw [d2]; simp)]
      · rw [if_neg e]
        dsimp only
        by_cases e3 : j < i
        · rw [if_pos e3, if_pos (by omega)]
        · rw [if_neg e3, if_neg (by omega)]
  · obtain rfl : i = T.length := by omega
    refine ⟨⟨some ⟨H2.size, 0, none⟩, T.length, T.length⟩, by rw [Int.toNat_natCast, htn], ?_, x2.trans e4⟩
    exact (n4.congr (fun j hj => by rw [if_pos hj])).ints T.length

end Go.Proofs.YtinhkngomojheaaDoor
end

section
/-
  InterruptsConnect.
-/
namespace Go.Proofs.YtinhkngomojheaaDoor
open Go.Eng
set_option linter.unusedVariables false

def LOk (g : Host) : Prop := ∀ x ∈ g.links, 0 ≤ x ∧ x ≤ 4294967295
structure CI2L (H : Heap) (T : List FS) (t : Sl) (H' : Heap) : Prop where
  host : ∃ g gs, HostM H' g gs ∧ Blk H' H.size t_api_Host (hostL g gs) ∧ LOk g
  topo : Topo H' t T
  ty : TyB H' t.p t_api_Function
  gt : GT H' T
  ext : Ext H H'

theorem conV_len64 (T : List FS) (h : Host) (lk : Nat → Int × Bool) : (conV T h lk).2.length ≤ 64 := by
  by_cases hc : (conV T h lk).1 = 0
  · obtain ⟨⟨_, hh⟩, hl, _⟩ := conV_len hc
    have := hh.li
    omega
  · unfold conV at hc ⊢
    by_cases hv : ValidT T ∧ ValidH h
    · rw [if_pos hv] at hc ⊢
      cases hr : conR h.links (fun k => useC lk k T.length) h.links.length with
      | none => simp
      | some x => rw [hr] at hc; exact absurd rfl hc
    · rw [if_neg hv]; simp
theorem linV_len64 (T : List FS) (h : Host) (lk : Nat → Int × Bool) : (linV T h lk).2.length ≤ 64 := by
  by_cases hc : (conV T h lk).1 = 0
  · obtain ⟨⟨hv, hh⟩, hl, _⟩ := conV_len hc
    have := hv.1
    rw [linV_ok hc, tab_length]
    omega
  · rw [linV_no hc]; simp

theorem law_connect (H : Heap) (s : Sl) (L : List FS) (h : Host) (hs : HostS) (hL : Topo H s L) (hl : L.length ≤ 9223372036854775807) (hb : ∀ x ∈ L, x.1.bars.length ≤ 9223372036854775807) (hm : HostM H h hs) (hk : LOk h) (tab_ : Tab H) :
    CallsH Tryd.prog n_law22_InterruptsConnect #[.slice s.p s.n s.c, hostV h hs] H (BoolP true H) := by
  refine F_law22_InterruptsConnect_ok _ _ _ _ _ _ _ _ _ ?_
  unfold F_law22_InterruptsConnect
  refine push_mk (vs := hostL h hs) fun H1 e1 z1 b1 => (gTopoT_spec H1 s L 30 (by omega) (hL.ext e1) hl hb).mono ?_
  rintro v H2 ⟨t, T, rfl, hT, hv, hT30, e2, ty2, gt2⟩
  have hn := hT.len
  refine ⟨t, rfl, ?_⟩
  refine loop1 2 (fun k H' => CI2L H T t H') ⟨⟨h, hs, hm.ext (e1.trans e2), b1.ext e2, hk⟩, hT, ty2, gt2, e1.trans e2⟩ ?_
  rintro k H3 hk2 r3
  unfold F_law22_InterruptsConnect_r1
  refine iteB_dec (fun c => ?_) (fun c => (awake_spec H3).mono ?_)
  · obtain ⟨g, gs, mg, bg, hgk⟩ := r3.host
    obtain ⟨lk, hlk⟩ := lk_exists T g
    obtain ⟨p0, p1, p2, p3, p4, p5, p6, p7⟩ := Blk.host bg
    refine ⟨_, p0, _, p1, _, p2, _, p3, _, p4, _, p5, _, p6, _, p7, (Connect_spec T t g gs lk H3 r3.topo mg hlk hgk (tab_.ext r3.ext)).mono ?_⟩
    rintro v H4 ⟨o1, rfl, is1, e4⟩
    obtain ⟨p0, p1, p2, p3, p4, p5, p6, p7⟩ := Blk.host (bg.ext e4)
    refine ⟨o1, _, rfl, _, p0, _, p1, _, p2, _, p3, _, p4, _, p5, _, p6, _, p7, (rConnect_spec T t g gs lk H4 (r3.topo.ext e4) (mg.ext e4) hlk hgk (by omega)).mono ?_⟩
    rintro v H5 ⟨o2, rfl, is2, e5⟩
    have x5 := e4.trans e5
    obtain ⟨p0, p1, p2, p3, p4, p5, p6, p7⟩ := Blk.host (bg.ext x5)
    refine ⟨o2, _, rfl, _, p0, _, p1, _, p2, _, p3, _, p4, _, p5, _, p6, _, p7, (Lines_spec T t g gs lk H5 (r3.topo.ext x5) (mg.ext x5) hlk hgk (tab_.ext (r3.ext.trans x5))).mono ?_⟩
    rintro v H6 ⟨o3, rfl, is3, e6⟩
    have x6 := x5.trans e6
    obtain ⟨p0, p1, p2, p3, p4, p5, p6, p7⟩ := Blk.host (bg.ext x6)
    refine ⟨o3, _, rfl, _, p0, _, p1, _, p2, _, p3, _, p4, _, p5, _, p6, _, p7, (rLines_spec T t g gs lk H6 (r3.topo.ext x6) (mg.ext x6) hlk hgk (by omega)).mono ?_⟩
    rintro v H7 ⟨o4, rfl, is4, e7⟩
    have x7 := x6.trans e7
    have l1 := conV_len64 T g lk
    have l2 := linV_len64 T g lk
    refine ⟨o4, _, rfl, (Equal_int_spec H7 o1 o2 _ _ (is1.ext ((e5.trans e6).trans e7)) (is2.ext (e6.trans e7)) (by omega)).mono ?_⟩
    rintro v H8 ⟨rfl, rfl⟩
    refine ⟨_, rfl, iteB_neg (by simp) (iteB_neg (by simp) ((Equal_int_spec H8 o3 o4 _ _ (is3.ext e7) is4 (by omega)).mono ?_))⟩
    rintro v H9 ⟨rfl, rfl⟩
    obtain ⟨p0, p1, p2, p3, p4, p5, p6, p7⟩ := Blk.host (bg.ext x7)
    refine ⟨_, rfl, iteB_neg (by simp) (iteB_neg (by simp) ⟨_, p0, _, p1, _, p2, _, p3, _, p4, _, p5, _, p6, _, p7, (gHostV_spec g gs H9 (mg.ext x7)).mono ?_⟩)⟩
    rintro v H10 ⟨g', gs', rfl, mg', hty, _, _, gv, e10⟩
    have b10 := bg.ext (x7.trans e10)
    refine ⟨_, _, _, _, _, _, _, _, rfl, b10.ok0 (by simp), letH_mk ?_⟩
    intro H11 h11
    have b11 : Blk H11 H.size t_api_Host (hostL g' gs') := by rw [h11]; exact b10.wr
    have m11 : Mods [H.size] H10 H11 := by rw [h11]; exact Mods.wrs (by simp)
    clear h11
    have hlt : ∀ {q : Option Addr} {e : TypeId}, e ≠ t_api_Host → TyB H10 q e → ∀ a, q = some a → a.block ∉ [H.size] := fun {q e} he hq a ha => by
      have t1 : TyB H10 (some ⟨H.size, 0, none⟩) t_api_Host := fun a ha => by cases ha; exact ⟨_, _, b10⟩
      have := ty_ne hq t1 he a ha
      simpa [blkOf] using this
    have x10 := x7.trans e10
    have ty10 := r3.ty.mods (S := []) x10.mods (fun _ _ => by simp)
    have gt10 := r3.gt.ext x10
    exact letV_mk _ rfl (next1 (by omega) (by omega) ⟨⟨g', gs', mg'.modsT hty b10 m11, b11, gv.lk hgk⟩, ⟨(r3.topo.ext x10).1.mods m11 (hlt (by decide) ty10), fun x hx => (gt10.mods m11 (fun p hp => hlt (by decide) hp) x hx).1⟩, ty10.mods m11 (hlt (by decide) ty10), gt10.mods m11 (fun p hp => hlt (by decide) hp), Mods.ext (r3.ext.trans x10) m11 (by simp)⟩)
  · rintro v H4 ⟨rfl, e4⟩
    exact ⟨_, rfl, rfl, r3.ext.trans e4⟩

end Go.Proofs.YtinhkngomojheaaDoor
end

section
/-
  Balance, in plain terms.
-/
namespace Go.Proofs.YtinhkngomojheaaDoor
open Go.Eng
set_option linter.unusedVariables false

/-- How often an interrupt is chosen among the first 'k'. -/
def cntL (out : List Int) (i : Int) : Nat → Int
  | 0 => 0
  | k + 1 => cntL out i k + (if out.getD k 0 = i then 1 else 0)
theorem cntL_range (out : List Int) (i : Int) : ∀ k, 0 ≤ cntL out i k ∧ cntL out i k ≤ k
  | 0 => by simp [cntL]
  | k + 1 => by
    have := cntL_range out i k
    simp only [cntL]
    split <;> omega
theorem cntL_append (out : List Int) (x i : Int) : ∀ k, k ≤ out.length → cntL (out ++ [x]) i k = cntL out i k
  | 0, _ => rfl
  | k + 1, h => by
    simp only [cntL]
    rw [cntL_append out x i k (by omega)]
    have : (out ++ [x]).getD k 0 = out.getD k 0 := by simp [List.getD, List.getElem?_append_left (show k < out.length by omega)]
    rw [this]

theorem some_bit {P : Nat} (h : P ≠ 0) (hP : P < 4294967296) : ∃ i, i < 32 ∧ P.testBit i = true := by
  have h0 : hiB P 0 ≠ 0 := by rw [hiB_zero]; exact h
  obtain ⟨c, q, _, _, hb, _⟩ := hiB_step h0
  exact ⟨c, bit_lt hP hb, hb⟩

/-- The links are spread evenly. -/
structure Even (P : Nat) (ld : Nat → Int) (out : List Int) (k : Nat) : Prop where
  ev : ∀ i j, i < 32 → j < 32 → P.testBit i = true → P.testBit j = true → ld i ≤ ld j + 1
  no : ∀ i, i < 32 → P.testBit i = false → ld i = 0
  ct : ∀ i, i < 32 → ld i = cntL out i k

theorem conR_even {P : Nat} (h0 : P ≠ 0) (hP : P < 4294967296) {L : List Int} {U : Nat → Int} {n : Nat} (hL : ∀ k, k < n → L.getD k 0 = P) (hU : ∀ k, k < n → U k = 1) :
    ∀ k, k ≤ n → ∃ ld out, conR L U k = some (ld, out) ∧ Even P ld out k
  | 0, _ => ⟨_, _, rfl, fun i j _ _ _ _ => (by simp), fun i _ _ => rfl, fun i _ => rfl⟩
  | k + 1, hk => by
    obtain ⟨ld, out, hc, ev⟩ := conR_even h0 hP hL hU k (by omega)
    have hlen := conR_len hc
    have hLk := hL k (by omega)
    have hUk := hU k (by omega)
    obtain ⟨i0, hi0, hb0⟩ := some_bit h0 hP
    have hbest := bestF_some (ld := ld) 32 i0 hi0 hb0
    have hr := bestF_range P ld 32
    have hbb := bestF_bit (P := P) (ld := ld) 32 hbest.1
    have hmin : ∀ i, i < 32 → P.testBit i = true → ld (bestF P ld 32).toNat ≤ ld i := fun i hi hb => (bestF_some (ld := ld) 32 i hi hb).2
    have hstep : conR L U (k + 1) = some (upd ld (bestF P ld 32).toNat (ld (bestF P ld 32).toNat + 1), out ++ [bestF P ld 32]) := by
      rw [conR, hc]
      dsimp only
      rw [hLk, Int.toNat_natCast, hUk, if_neg (by omega), if_neg (by omega)]
    generalize hbv : bestF P ld 32 = b at *
    obtain ⟨bn, rfl⟩ := Int.eq_ofNat_of_zero_le hbest.1
    rw [Int.toNat_natCast] at *
    refine ⟨_, _, hstep, fun i j hi hj bi bj => ?_, fun i hi bi => ?_, fun i hi => ?_⟩
    · have e1 := ev.ev i j hi hj bi bj
      have e2 := hmin j hj bj
      have e3 := hmin i hi bi
      unfold upd
      by_cases c1 : i = bn
      · by_cases c2 : j = bn
        · rw [if_pos c1, if_pos c2]; omega
        · rw [if_pos c1, if_neg c2]; omega
      · by_cases c2 : j = bn
        · rw [if_neg c1, if_pos c2]; rw [c2] at e1; omega
        · rw [if_neg c1, if_neg c2]; exact e1
    · have : i ≠ bn := fun e => by rw [e, hbb] at bi; cases bi
      unfold upd
      rw [if_neg this]
      exact ev.no i hi bi
    · simp only [cntL]
      rw [cntL_append _ _ _ k (by omega)]
      have e : (out ++ [(bn : Int)]).getD k 0 = bn := by simp [List.getD, ← hlen]
      rw [e, ← ev.ct i hi]
      unfold upd
      by_cases c : i = bn
      · rw [if_pos c, if_pos (by omega), c]
      · rw [if_neg c, if_neg (by omega)]; omega

/-! ### the board of the law -/
def bFn (i : Nat) : FS := (⟨-1, i, 1, 0, false, false, false, 0, 1 + (i % 4 : Nat), 0, []⟩, ⟨none, 0, 0⟩)
def bT (n : Nat) : List FS := (List.range n).map bFn
def bRt (i : Nat) : Rt := ((i : Int), 1 + ((i % 4 : Nat) : Int), (i : Int))
def bR (n : Nat) : List Rt := (List.range n).map bRt
def bH (P : Int) (n : Nat) : Host := ⟨1, [], [], [], [], [], List.replicate n P, bR n⟩
theorem bT_len (n : Nat) : (bT n).length = n := by simp [bT]
theorem bT_at {n i : Nat} (h : i < n) : fnAt (bT n) i = (bFn i).1 := by simp [fnAt, bT, List.getD, h]
theorem bT_succ (n : Nat) : bT (n + 1) = bT n ++ [bFn n] := by simp [bT, List.range_succ]
theorem bR_succ (n : Nat) : bR (n + 1) = bR n ++ [bRt n] := by simp [bR, List.range_succ]

theorem bT_valid {n : Nat} (hn : n ≤ 16) : ValidT (bT n) := by
  refine ⟨by rw [bT_len]; omega, fun i hi => ?_⟩
  rw [bT_len] at hi
  have e := bT_at hi
  refine ⟨?_, ?_, ?_, fun k hk => ?_⟩
  · rw [e]
    have : i = 0 ∨ i = 1 ∨ i = 2 ∨ i = 3 ∨ i = 4 ∨ i = 5 ∨ i = 6 ∨ i = 7 ∨ i = 8 ∨ i = 9 ∨ i = 10 ∨ i = 11 ∨ i = 12 ∨ i = 13 ∨ i = 14 ∨ i = 15 := by omega
    rcases this with rfl | rfl | rfl | rfl | rfl | rfl | rfl | rfl | rfl | rfl | rfl | rfl | rfl | rfl | rfl | rfl <;> decide +kernel
  · rw [e]; show (-1 : Int) ≤ -1 ∧ (-1 : Int) < i; omega
  · rw [e]; intro h; have : (0 : Int) ≤ -1 := h; omega
  · rw [e, bT_at (show k < n by omega)]
    rintro ⟨_, h⟩
    have : (k : Int) = i := h
    omega
theorem bH_valid {P : Int} {n : Nat} (hn : n ≤ 16) : ValidH (bH P n) := by
  refine ⟨by show (1 : Int) ≤ 1 ∧ (1 : Int) ≤ 256; omega, by show (List.replicate n P).length ≤ 16; simpa using hn, by show (bR n).length ≤ 128; simp [bR]; omega, within_nil _ _, within_nil _ _, within_nil _ _, within_nil _ _, within_nil _ _, fun x hx => ?_⟩
  obtain ⟨i, hi, rfl⟩ := List.mem_map.1 hx
  rw [List.mem_range] at hi
  unfold RtOk bRt bH
  simp only [List.length_replicate]
  omega

def bLk (i : Nat) : Int × Bool := ((i : Int), true)
theorem bLk_ok {P : Int} {n : Nat} (hn : n ≤ 16) : Lk (bT n) (bH P n) bLk := fun i hi => by
  have hi' := hi
  rw [bT_len] at hi'
  have e := bT_at hi'
  refine ⟨(i : Int), 1 + ((i % 4 : Nat) : Int), true, .inr ⟨⟨bT_valid hn, by omega, by omega, ?_⟩, rfl, ?_⟩, ?_⟩
  · rw [Int.toNat_natCast, e]; show (1 + ((i % 4 : Nat) : Int)) ≠ 0; omega
  · rw [Int.toNat_natCast, e]
    have w := Swz.root (T := bT n) (i := i) (pin := 1 + ((i % 4 : Nat) : Int)) (by rw [e]; show (-1 : Int) < 0; omega)
    rw [e] at w
    exact w
  · unfold lkF
    rw [if_pos ⟨rfl, bH_valid hn⟩]
    have hf : (bH P n).routes.find? (rtQ (i : Int) (1 + ((i % 4 : Nat) : Int))) = some (bRt i) := by
      have hl : (bR n).length = n := by simp [bR]
      have hat : ∀ j, j < n → (bR n).getD j (0, 0, 0) = bRt j := fun j hj => by simp [bR, List.getD, hj]
      have := find_at_g (L := bR n) (q := rtQ (i : Int) (1 + ((i % 4 : Nat) : Int))) (k := i) (0, 0, 0) (by omega) (fun j hj => by
        rw [hat j (by omega)]
        unfold rtQ bRt
        simp
        omega) (by rw [hat i hi']; unfold rtQ bRt; simp)
      rw [hat i hi'] at this
      exact this
    rw [hf]
    rfl
theorem bUse {n k : Nat} (hk : k < n) : useC bLk (k : Int) n = 1 := by
  have lo : ∀ m, m ≤ k → useC bLk (k : Int) m = 0 := fun m => by
    induction m with
    | zero => intro _; rfl
    | succ m ih =>
      intro h
      simp only [useC, ih (by omega), bLk]
      rw [if_neg (by omega)]
      rfl
  have hi : ∀ d, useC bLk (k : Int) (k + 1 + d) = 1 := fun d => by
    induction d with
    | zero => simp only [useC, lo k (Nat.le_refl _), bLk]; simp
    | succ d ih =>
      rw [show k + 1 + (d + 1) = k + 1 + d + 1 by omega]
      simp only [useC, ih, bLk]
      rw [if_neg (by omega)]
      rfl
  have := hi (n - (k + 1))
  rw [show k + 1 + (n - (k + 1)) = n by omega] at this
  exact this

theorem bCon {P n : Nat} (h0 : P ≠ 0) (hP : P < 4294967296) (hn : n ≤ 16) : (conV (bT n) (bH P n) bLk).1 = 0 ∧ ∃ ld, Even P ld (conV (bT n) (bH P n) bLk).2 n ∧ (conV (bT n) (bH P n) bLk).2.length = n ∧ ∀ j, j < n → 0 ≤ (conV (bT n) (bH P n) bLk).2.getD j 0 ∧ (conV (bT n) (bH P n) bLk).2.getD j 0 < 32 := by
  have hl : (bH P n).links.length = n := by simp [bH]
  obtain ⟨ld, out, hc, ev⟩ := conR_even (L := (bH P n).links) (U := fun k => useC bLk k (bT n).length) (n := n) h0 hP (fun k hk => by simp [bH, List.getD, hk]) (fun k hk => by rw [bT_len]; exact bUse hk) n (Nat.le_refl _)
  have hv : conV (bT n) (bH P n) bLk = (0, out) := by
    unfold conV
    rw [if_pos ⟨bT_valid hn, bH_valid hn⟩, hl, hc]
  rw [hv]
  refine ⟨rfl, ld, ev, conR_len hc, fun j hj => ?_⟩
  have := (conR_out hc j hj).2 (by rw [bT_len, bUse hj]; omega)
  exact ⟨this.1, this.2.1⟩

end Go.Proofs.YtinhkngomojheaaDoor
end

section
/-
  InterruptsBalance.
-/
namespace Go.Proofs.YtinhkngomojheaaDoor
open Go.Eng
set_option linter.unusedVariables false

theorem bH_links (P : Int) (n : Nat) : List.replicate (n + 1) P = List.replicate n P ++ [P] := by rw [List.replicate_succ']

/-- What stands while the board is laid. -/
structure BI (H1 : Heap) (P : Int) (l : Sl) (k : Nat) (H' : Heap) : Prop where
  gh : ∃ gs, GH H1 H' H1.size (bH P k) gs
  l : Own H1.size t_api_Function 11 H' l ((bT k).flatMap encF)

theorem own_lt_ne {lo : Nat} {e e' : TypeId} {sz : Nat} {H : Heap} {s : Sl} {xs vs : List Value} {b : Nat} (h : Own lo e sz H s xs) (hb : Blk H b e' vs) (hne : e' ≠ e) : b ∉ blkOf s.p := by
  have t1 : TyB H (some ⟨b, 0, none⟩) e' := fun a ha => by cases ha; exact ⟨_, _, hb⟩
  exact ty_ne t1 (own_ty h) hne ⟨b, 0, none⟩ rfl

theorem bal_round (H1 : Heap) (P : Int) (n : Nat) (hn : n ≤ 16) (R : Value → Heap → Prop) (I_ : Sl → Int → Heap → Prop) (M_ : Sl → Int → Heap → Nat) (l : Sl) (k : Nat) (hk : k < n) (H5 : Heap) (st : BI H1 P l k H5)
    (hI : ∀ l' H', BI H1 P l' (k + 1) H' → I_ l' ((k + 1 : Nat) : Int) H' ∧ M_ l' ((k + 1 : Nat) : Int) H' < M_ l k H5) : F_law22_InterruptsBalance_r3 R P H1 (n : Int) I_ M_ l (k : Int) H5 := by
  unfold F_law22_InterruptsBalance_r3
  obtain ⟨⟨gs, gh⟩, own⟩ := st
  have hz := gh.ext.size
  have ln := Own.len rkFn own
  rw [bT_len] at ln
  have e1 : IntKind.i64.wrap (1 + (k : Int).tmod 4) = 1 + ((k % 4 : Nat) : Int) := by
    rw [Int.tmod_eq_emod_of_nonneg (by omega), i64_in (by omega)]
    omega
  rw [e1]
  refine iteB_pos (by simp; omega) (apR rkFn (bFn k) (lo := H1.size) own (by omega) (by omega) ?_)
  intro l' H7 own7 n7 m7
  have nb : ∀ {e : TypeId} {q : Option Addr}, e ≠ t_api_Function → TyB H5 q e → ∀ a, q = some a → a.block ∉ blkOf l.p := fun he hq a ha => ty_ne hq (own_ty own) he a ha
  have gh7 := gh.mods m7 (own_lt_ne own gh.blk (by decide)) (fun q hq => nb (by decide) hq) (fun q hq => nb (by decide) hq) (fun q hq => nb (by decide) hq) (blkOf_new own.new)
  have p6 := (Blk.host gh7.blk).2.2.2.2.2.2.1
  have nl := Own.len rkLink gh7.links
  have nr := Own.len rkRoute gh7.routes
  simp only [bH, List.length_replicate] at nl
  simp only [bH, bR, List.length_map, List.length_range] at nr
  have hz7 := gh7.ext.size
  refine ⟨_, p6, apR rkLink P (lo := H1.size) gh7.links (by omega) (by omega) ?_⟩
  intro s9 H9 own9 n9 m9
  obtain ⟨ok9, set9⟩ := gh7.appL own9 m9
  refine ⟨ok9, letH_mk ?_⟩
  intro H10 h10
  have gh10 := set9 H10 h10
  have m10 : Mods [H1.size] H9 H10 := by rw [h10]; exact mods_wr_add (by simp)
  have own9f : Own H1.size t_api_Function 11 H9 l' (((bT k) ++ [bFn k]).flatMap encF) := own7.mods m9 (fun a ha => ty_ne (own_ty own7) (own_ty gh7.links) (by decide) a ha)
  have own10 : Own H1.size t_api_Function 11 H10 l' (((bT k) ++ [bFn k]).flatMap encF) := own9f.mods m10 (fun a ha => by
    have b9 : Blk H9 H1.size t_api_Host _ := gh7.blk.mods m9 (own_lt_ne gh7.links gh7.blk (by decide))
    have t1 : TyB H9 (some ⟨H1.size, 0, none⟩) t_api_Host := fun a ha => by cases ha; exact ⟨_, _, b9⟩
    have := ty_ne (own_ty own9f) t1 (by decide) a ha
    simpa [blkOf] using this)
  clear h10
  have p7 := (Blk.host gh10.blk).2.2.2.2.2.2.2
  have hz10 := gh10.ext.size
  refine ⟨_, p7, apR rkRoute (bRt k) (lo := H1.size) gh10.routes (by dsimp only; omega) (by omega) ?_⟩
  intro s12 H12 own12 n12 m12
  obtain ⟨ok12, set12⟩ := gh10.appR own12 m12
  refine ⟨ok12, letH_mk ?_⟩
  intro H13 h13
  have gh13 := set12 H13 h13
  have m13 : Mods [H1.size] H12 H13 := by rw [h13]; exact mods_wr_add (by simp)
  have own12f : Own H1.size t_api_Function 11 H12 l' (((bT k) ++ [bFn k]).flatMap encF) := own10.mods m12 (fun a ha => ty_ne (own_ty own10) (own_ty gh10.routes) (by decide) a ha)
  have own13 : Own H1.size t_api_Function 11 H13 l' (((bT k) ++ [bFn k]).flatMap encF) := own12f.mods m13 (fun a ha => by
    have b12 : Blk H12 H1.size t_api_Host _ := gh10.blk.mods m12 (own_lt_ne gh10.routes gh10.blk (by decide))
    have t1 : TyB H12 (some ⟨H1.size, 0, none⟩) t_api_Host := fun a ha => by cases ha; exact ⟨_, _, b12⟩
    have := ty_ne (own_ty own12f) t1 (by decide) a ha
    simpa [blkOf] using this)
  have eg : bH P (k + 1) = { ({ (bH P k) with links := (bH P k).links ++ [P] } : Host) with routes := (bH P k).routes ++ [bRt k] } := by
    simp only [bH, bR_succ, bH_links]
  have gh14 : ∃ gs', GH H1 H13 H1.size (bH P (k + 1)) gs' := by rw [eg]; exact ⟨_, gh13⟩
  exact letV_mk ((k + 1 : Nat) : Int) (by rw [i64_in (by omega)]; omega) (hI l' H13 ⟨gh14, by rw [bT_succ]; exact own13⟩)

set_option maxRecDepth 100000 in
theorem law_balance (H : Heap) (P : Nat) (hP : P < 4294967296) (n0 : Int) (tab_ : Tab H) : CallsH Tryd.prog n_law22_InterruptsBalance #[.int .u32 (P : Int), .int .i64 n0] H (BoolP true H) := by
  refine F_law22_InterruptsBalance_ok _ _ ?_
  unfold F_law22_InterruptsBalance
  refine (Mod_spec n0 16 H (by omega) (by omega)).mono ?_
  rintro v H1 ⟨rfl, rfl⟩
  have hm := modI_range n0 (n := 16) (by omega)
  obtain ⟨n, hn⟩ : ∃ n : Nat, 1 + modI n0 16 = n := ⟨(1 + modI n0 16).toNat, by omega⟩
  have hn16 : 1 ≤ n ∧ n ≤ 16 := by omega
  refine ⟨_, rfl, letV_mk (n : Int) (by rw [i64_in (by omega)]; exact hn) (iteB_beq (fun c => (awake_spec H1).mono ?_) (fun c => ?_))⟩
  · rintro v H2 ⟨rfl, e2⟩
    exact ⟨_, rfl, rfl, e2⟩
  have hP0 : P ≠ 0 := fun h => c (by rw [h]; rfl)
  refine push_mk (vs := hostL ⟨0, [], [], [], [], [], [], []⟩ ⟨⟨none, 0, 0⟩, ⟨none, 0, 0⟩, ⟨none, 0, 0⟩, ⟨none, 0, 0⟩, ⟨none, 0, 0⟩, ⟨none, 0, 0⟩, ⟨none, 0, 0⟩⟩) fun H3 e3 z3 b3 => ⟨b3.ok0 (Nat.le_refl 8), letH_mk ?_⟩
  intro H4 h4
  have b4 : Blk H4 H1.size t_api_Host (hostL ⟨1, [], [], [], [], [], [], []⟩ ⟨⟨none, 0, 0⟩, ⟨none, 0, 0⟩, ⟨none, 0, 0⟩, ⟨none, 0, 0⟩, ⟨none, 0, 0⟩, ⟨none, 0, 0⟩, ⟨none, 0, 0⟩⟩) := by rw [h4]; exact b3.wr
  have m4 : Mods [H1.size] H3 H4 := by rw [h4]; exact Mods.wrs (by simp)
  have e4 : Ext H1 H4 := Mods.ext e3 m4 (by simp)
  clear h4
  refine loop2 n (fun k l H' => BI H1 P l k H') ⟨⟨_, b4, RT.nil, RT.nil, RT.nil, RT.nil, RT.nil, Own.nil _ _ _ _, Own.nil _ _ _ _, e4, Nat.le_refl _⟩, Own.nil _ _ _ _⟩ ?_
  rintro k l H5 hk st
  by_cases hkn : k < n
  · exact bal_round H1 P n (by omega) _ _ _ l k hkn H5 st (fun l' H' s' => by rw [← i64_succ (by omega)]; exact next2 hkn (by omega) s')
  obtain rfl : k = n := by omega
  unfold F_law22_InterruptsBalance_r3
  obtain ⟨⟨gs, gh⟩, own⟩ := st
  obtain ⟨p0, p1, p2, p3, p4, p5, p6, p7⟩ := Blk.host gh.blk
  have hT : Topo H5 l (bT k) := ⟨Own.is rkFn own, fun x hx => by obtain ⟨i, _, rfl⟩ := List.mem_map.1 hx; exact IsS.nil _ _ _⟩
  have hM : HostM H5 (bH P k) gs := ⟨gh.io.1, gh.mem.1, gh.high.1, gh.fio.1, gh.fix.1, Own.is rkLink gh.links, Own.is rkRoute gh.routes, gh.io.2.2, gh.mem.2.2, gh.high.2.2, gh.fio.2.2, gh.fix.2.2⟩
  obtain ⟨hc0, ld, ev, hlen, hran⟩ := bCon hP0 hP (n := k) (by omega)
  refine iteB_neg (by simp) ⟨_, p0, _, p1, _, p2, _, p3, _, p4, _, p5, _, p6, _, p7, (Connect_spec (bT k) l (bH P k) gs bLk H5 hT hM (bLk_ok (by omega)) (fun x hx => by
    have := List.eq_of_mem_replicate (show x ∈ List.replicate k (P : Int) from hx)
    omega) (tab_.ext gh.ext)).mono ?_⟩
  rintro v H14 ⟨o, rfl, is14, e14⟩
  rw [hc0]
  generalize (conV (bT k) (bH P k) bLk).2 = out at *
  refine ⟨o, _, rfl, (awake_spec H14).mono ?_⟩
  rintro v H15 ⟨rfl, e15⟩
  have hon := is14.len
  have x15 := gh.ext.trans (e14.trans e15)
  refine ⟨_, rfl, iteB_neg (by simp) (iteB_neg (by simp) (iteB_neg (by simp; omega) (push_mk (vs := List.replicate 32 (.int .i64 0)) fun H16 e16 z16 b16 => ?_)))⟩
  have l16 : NB32 H16 H15.size (fun i => cntL out i 0) := ⟨[], by
    have : (tab 32 (fun i : Nat => cntL out (i : Int) 0)) = tab 32 (fun _ : Nat => (0 : Int)) := rfl
    rw [this, List.append_nil, tab_map, ← tab_replicate]; exact b16⟩
  refine loop1 k (fun j H' => NB32 H' H15.size (fun i => cntL out i j) ∧ Ext H15 H') ⟨l16, e16⟩ ?_
  rintro j H17 hj ⟨l17, e17⟩
  unfold F_law22_InterruptsBalance_r2
  refine iteB_dec (fun d => ?_) (fun d => ?_)
  · have hjk : j < k := by omega
    obtain ⟨a, hpa, hra⟩ := Ints.atN (is14.ext (e15.trans e17)) (i := j) (by omega)
    have hr := hran j hjk
    have hcs : ∀ i : Int, cntL out i (j + 1) = cntL out i j + (if out.getD j 0 = i then 1 else 0) := fun i => rfl
    have hcr := cntL_range out (out.getD j 0) j
    generalize out.getD j 0 = x at *
    have hrd := l17.rd (i := x.toNat) (by omega)
    simp only [Int.toNat_of_nonneg hr.1] at hrd
    refine ⟨by omega, by omega, unSome_mk hpa ⟨_, hra, iteB_dec (fun d1 => by omega) (fun d1 => ⟨by omega, by omega, unSome_mk hpa ⟨_, hra, iteB_dec (fun d2 => by omega) (fun d2 => ⟨by omega, by omega, unSome_mk hpa ⟨_, hra, by omega, by omega, _, hrd, by omega, by omega, l17.ok (by omega), letH_mk ?_⟩⟩)⟩⟩)⟩⟩
    intro H18 h18
    rw [i64_in (n := cntL out x j + 1) (by omega)] at h18
    have l18 := l17.wr (i := x.toNat) (by omega) (cntL out x j + 1)
    rw [← h18] at l18
    have m18 : Mods [H15.size] H17 H18 := by rw [h18]; exact mods_wr_add (by simp)
    refine letV_mk _ rfl (next1 hjk (by omega) ⟨l18.congr (fun i hi => ?_), Mods.ext e17 m18 (by simp)⟩)
    rw [hcs]
    unfold upd
    by_cases e : i = x.toNat
    · rw [if_pos e, if_pos (by omega), e, Int.toNat_of_nonneg hr.1]
    · rw [if_neg e, if_neg (by omega)]; dsimp only; omega
  · obtain rfl : j = k := by omega
    have l17' := l17.congr (fun i hi => (ev.ct i hi).symm)
    obtain ⟨i0, hi0, hb0⟩ := some_bit hP0 hP
    have hldr : ∀ i, i < 32 → 0 ≤ ld i ∧ ld i ≤ 16 := fun i hi => by rw [ev.ct i hi]; have := cntL_range out i j; omega
    refine ⟨fun least most x H' => ∃ m : Nat, x = m ∧ m ≤ 32 ∧ H' = H17 ∧ (0 ≤ least ∧ least ≤ j) ∧ (0 ≤ most ∧ most ≤ 16) ∧ (least = j ∨ ∃ i, i < m ∧ P.testBit i = true ∧ least = ld i) ∧ (most = 0 ∨ ∃ i, i < m ∧ P.testBit i = true ∧ most = ld i) ∧ (∀ i, i < m → P.testBit i = true → least ≤ ld i), fun _ _ x _ => (32 - x).toNat,
      ⟨0, rfl, by omega, rfl, by omega, by omega, .inl rfl, .inl rfl, fun i hi => by omega⟩, ?_⟩
    rintro least most _ H19 ⟨m, rfl, hm, rfl, hl, hmo, h1, h2, h3⟩
    unfold F_law22_InterruptsBalance_r1
    refine iteB_dec (fun d1 => ⟨u64_nonneg _, ?_⟩) (fun d1 => ?_)
    · have hm32 : m < 32 := by omega
      rw [bit_and hP hm32]
      have hrd := l17'.rd hm32
      have hlm := hldr m hm32
      refine iteB_beq (fun d2 => ?_) (fun d2 => ?_)
      · have hb : P.testBit m = true := by
          apply Classical.byContradiction
          intro hh; rw [if_neg hh] at d2; omega
        refine ⟨by omega, by omega, _, by rw [Int.toNat_natCast]; exact hrd, by omega, by omega, _, by rw [Int.toNat_natCast]; exact hrd, letV_mk _ rfl ⟨(Ext.refl _).keeps, letV_mk _ rfl (letV_mk ((m + 1 : Nat) : Int) (by rw [i64_in (by omega)]; omega) ⟨⟨m + 1, rfl, by omega, rfl, ?_, ?_, ?_, ?_, fun i hi hbi => ?_⟩, by dsimp only; omega⟩)⟩⟩
        · split <;> omega
        · split <;> omega
        · split
          · exact .inr ⟨m, by omega, hb, rfl⟩
          · rcases h1 with h1 | ⟨i, g1, g2, g3⟩
            · exact .inl h1
            · exact .inr ⟨i, by omega, g2, g3⟩
        · split
          · exact .inr ⟨m, by omega, hb, rfl⟩
          · rcases h2 with h2 | ⟨i, g1, g2, g3⟩
            · exact .inl h2
            · exact .inr ⟨i, by omega, g2, g3⟩
        · by_cases e : i = m
          · subst e; split <;> omega
          · have := h3 i (by omega) hbi
            split <;> omega
      · have hb : P.testBit m = false := by
          cases hh : P.testBit m with
          | false => rfl
          | true => rw [if_pos hh] at d2; exact absurd rfl d2
        have hz := ev.no m hm32 hb
        refine ⟨by omega, by omega, _, by rw [Int.toNat_natCast]; exact hrd, iteB_neg (by simp; omega) (letV_mk ((m + 1 : Nat) : Int) (by rw [i64_in (by omega)]; omega) ⟨⟨m + 1, rfl, by omega, rfl, hl, hmo, ?_, ?_, fun i hi hbi => ?_⟩, by dsimp only; omega⟩)⟩
        · rcases h1 with h1 | ⟨i, g1, g2, g3⟩
          · exact .inl h1
          · exact .inr ⟨i, by omega, g2, g3⟩
        · rcases h2 with h2 | ⟨i, g1, g2, g3⟩
          · exact .inl h2
          · exact .inr ⟨i, by omega, g2, g3⟩
        · by_cases e : i = m
          · subst e; rw [hb] at hbi; cases hbi
          · exact h3 i (by omega) hbi
    · obtain rfl : m = 32 := by omega
      refine ⟨?_, x15.trans e17⟩
      rw [i64_in (n := most - least) (by omega)]
      congr 1
      rw [decide_eq_true]
      have q0 := h3 i0 hi0 hb0
      rcases h2 with h2 | ⟨i, g1, g2, g3⟩
      · omega
      · rcases h1 with h1 | ⟨i', g1', g2', g3'⟩
        · have := hldr i g1
          have c1 := ev.ct i g1
          have c2 := cntL_range out i j
          omega
        · have := ev.ev i i' g1 g1' g2 g2'
          omega

theorem law_balance' (H : Heap) (P : Int) (hP : 0 ≤ P ∧ P ≤ 4294967295) (n0 : Int) (tab_ : Tab H) : CallsH Tryd.prog n_law22_InterruptsBalance #[.int .u32 P, .int .i64 n0] H (BoolP true H) := by
  obtain ⟨p, rfl⟩ := Int.eq_ofNat_of_zero_le hP.1
  exact law_balance H p (by omega) n0 tab_

end Go.Proofs.YtinhkngomojheaaDoor
end
