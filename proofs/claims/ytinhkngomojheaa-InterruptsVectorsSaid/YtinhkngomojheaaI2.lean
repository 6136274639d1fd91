/-
  LinkOf, of the program and of the reference.
-/
import Derived.Test.YtinhkngomojheaaI1
namespace Go.Proofs.Ytinhkngomojheaa
open Go.Eng
set_option linter.unusedVariables false

theorem find_none_g {α : Type} {L : List α} {q : α → Bool} (d : α) (h : ∀ i, i < L.length → q (L.getD i d) = false) : L.find? q = none := by
  rw [List.find?_eq_none]
  intro x hx hq
  obtain ⟨i, hi, rfl⟩ := List.getElem_of_mem hx
  have := h i hi
  simp [List.getD, hi] at this
  rw [this] at hq
  cases hq
theorem find_at_g {α : Type} {L : List α} {q : α → Bool} {k : Nat} (d : α) (hk : k < L.length) (h : ∀ i, i < k → q (L.getD i d) = false) (hq : q (L.getD k d) = true) : L.find? q = some (L.getD k d) := by
  have e : L = L.take k ++ (L.getD k d :: L.drop (k + 1)) := by
    have h1 := take_succ_d d hk
    rw [show L.take k ++ (L.getD k d :: L.drop (k + 1)) = L.take k ++ [L.getD k d] ++ L.drop (k + 1) by simp, ← h1, List.take_append_drop]
  have hn : (L.take k).find? q = none := by
    refine find_none_g d (fun i hi => ?_)
    have hik : i < k := by simp at hi; omega
    have e1 : (L.take k).getD i d = L.getD i d := by simp [List.getD, List.getElem?_take_of_lt hik]
    rw [e1]
    exact h i hik
  conv => lhs; rw [e]
  rw [List.find?_append, hn, List.find?_cons_of_pos hq]
  rfl

def rtQ (s p : Int) (r : Rt) : Bool := decide (r.1 = s ∧ r.2.1 = p)
/-- The link, if the pin arrives at a slot and a pin. -/
def lkF (h : Host) (s p : Int) (o : Bool) : Int × Bool :=
  if o = true ∧ ValidH h then (match h.routes.find? (rtQ s p) with | some r => (r.2.2, true) | none => (0, false)) else (0, false)
def LinkP (T : List FS) (h : Host) (f : Int) (H : Heap) (v : Value) (H' : Heap) : Prop :=
  ∃ s p o, SwzIs T f s p o ∧ v = .tuple #[.int .i64 (lkF h s p o).1, .bool (lkF h s p o).2] ∧ Ext H H'

theorem LinkOf_spec (T : List FS) (s : Sl) (h : Host) (hs : HostS) (H : Heap) (f : Int) (ht : Topo H s T) (m : HostM H h hs) :
    CallsH Try.prog n_interrupts_LinkOf #[.slice s.p s.n s.c, hostV h hs, .int .i64 f] H (LinkP T h f H) := by
  refine F_interrupts_LinkOf_ok _ _ _ _ _ _ _ _ _ _ ?_
  unfold F_interrupts_LinkOf
  refine push_mk (vs := hostL h hs) fun H1 e1 z1 b1 => (Swizzle_spec T s H1 f (ht.ext e1)).mono ?_
  rintro v H2 ⟨sl, p, o, rfl, hsw, e2⟩
  have x2 := e1.trans e2
  have no : ∀ H', Ext H H' → lkF h sl p o = (0, false) → LinkP T h f H (.tuple #[.int .i64 0, .bool false]) H' := fun H' e hh => ⟨sl, p, o, hsw, by rw [hh], e⟩
  refine ⟨sl, p, o, rfl, iteB_not (fun c => no _ x2 (by unfold lkF; rw [if_neg (fun hh => by rw [hh.1] at c; cases c)])) (fun c => ?_)⟩
  have ho : o = true := by simpa using c
  obtain ⟨p0, p1, p2, p3, p4, p5, p6, p7⟩ := Blk.host (b1.ext e2)
  refine ⟨_, p0, _, p1, _, p2, _, p3, _, p4, _, p5, _, p6, _, p7, (ValidHost_spec h hs H2 (m.ext x2)).mono ?_⟩
  rintro v H3 ⟨rfl, e3⟩
  have x3 := x2.trans e3
  obtain ⟨p0, p1, p2, p3, p4, p5, p6, p7⟩ := Blk.host (b1.ext (e2.trans e3))
  refine ⟨_, rfl, iteB_not (fun d => no _ x3 (by unfold lkF; rw [if_neg (fun hh => by simp at d; exact d hh.2)])) (fun d => ⟨_, p7, ?_⟩)⟩
  have hv : ValidH h := by simpa using d
  have hlk : lkF h sl p o = (match h.routes.find? (rtQ sl p) with | some r => (r.2.2, true) | none => (0, false)) := by unfold lkF; rw [if_pos ⟨ho, hv⟩]
  have hrn := m.routes.len
  have hro := hv.ro
  refine loop1 h.routes.length (fun k H' => Ext H3 H' ∧ ∀ i, i < k → rtQ sl p (h.routes.getD i (0, 0, 0)) = false) ⟨.refl _, fun i hi => by omega⟩ ?_
  rintro k H4 hk ⟨e4, hno⟩
  unfold F_interrupts_LinkOf_r2
  have x4 := x3.trans e4
  refine iteB_dec (fun c1 => ?_) (fun c1 => no _ x4 ?_)
  · have hkn : k < h.routes.length := by omega
    obtain ⟨a, hp, hr⟩ := IsS.atN (m.routes.ext x4) (0, 0, 0) hkn
    have hfind := find_at_g (0, 0, 0) hkn hno
    generalize hre : h.routes.getD k (0, 0, 0) = r at *
    refine ⟨by omega, by omega, unSome_mk hp ⟨_, hr 0 _ rfl, _, hr 1 _ rfl, _, hr 2 _ rfl, local_mk (vs := encRt r) rfl rfl fun H6 e6 z6 b6 => ?_⟩⟩
    have q0 := b6.rd0 (v := .int .i64 r.1) rfl
    have q1 := b6.rd (i := 1) (v := .int .i64 r.2.1) rfl
    have q2 := b6.rd (i := 2) (v := .int .i64 r.2.2) rfl
    refine ⟨fun b H' => b = rtQ sl p r ∧ H' = H6, ⟨_, q0, iteB_beq (fun d1 => ⟨_, q1, ?_, rfl⟩) (fun d1 => ⟨by unfold rtQ; rw [decide_eq_false (fun hh => d1 hh.1)], rfl⟩)⟩, ?_⟩
    · unfold rtQ
      rw [Bool.eq_iff_iff]
      simp [d1]
    · rintro b H7 ⟨rfl, rfl⟩
      unfold F_interrupts_LinkOf_k1
      refine iteB_intro (fun d1 => ⟨_, q2, sl, p, o, hsw, by rw [hlk, hfind d1], x4.trans e6⟩) (fun d1 => next1 hkn (by omega) ⟨e4.trans e6, fun i hi => ?_⟩)
      by_cases e : i = k
      · subst e; rw [hre]; exact d1
      · exact hno i (by omega)
  · rw [hlk, find_none_g (0, 0, 0) (fun i hi => hno i (by omega))]

theorem rLinkOf_spec (T : List FS) (s : Sl) (h : Host) (hs : HostS) (H : Heap) (f : Int) (ht : Topo H s T) (hl : T.length ≤ 9223372036854775807) (m : HostM H h hs) :
    CallsH Try.prog n_ref21_LinkOf #[.slice s.p s.n s.c, hostV h hs, .int .i64 f] H (LinkP T h f H) := by
  refine F_ref21_LinkOf_ok _ _ _ _ _ _ _ _ _ _ ?_
  unfold F_ref21_LinkOf
  refine push_mk (vs := hostL h hs) fun H1 e1 z1 b1 => (rSwizzle_spec T s H1 f (ht.ext e1) hl).mono ?_
  rintro v H2 ⟨sl, p, o, rfl, hsw, e2⟩
  have x2 := e1.trans e2
  have no : ∀ H', Ext H H' → lkF h sl p o = (0, false) → LinkP T h f H (.tuple #[.int .i64 0, .bool false]) H' := fun H' e hh => ⟨sl, p, o, hsw, by rw [hh], e⟩
  refine ⟨sl, p, o, rfl, iteB_not (fun c => no _ x2 (by unfold lkF; rw [if_neg (fun hh => by rw [hh.1] at c; cases c)])) (fun c => ?_)⟩
  have ho : o = true := by simpa using c
  obtain ⟨p0, p1, p2, p3, p4, p5, p6, p7⟩ := Blk.host (b1.ext e2)
  refine ⟨_, p0, _, p1, _, p2, _, p3, _, p4, _, p5, _, p6, _, p7, (rValidHost_spec h hs H2 (m.ext x2)).mono ?_⟩
  rintro v H3 ⟨rfl, e3⟩
  have x3 := x2.trans e3
  refine ⟨_, rfl, iteB_not (fun d => no _ x3 (by unfold lkF; rw [if_neg (fun hh => by simp at d; exact d hh.2)])) (fun d => ?_)⟩
  have hv : ValidH h := by simpa using d
  have hlk : lkF h sl p o = (match h.routes.find? (rtQ sl p) with | some r => (r.2.2, true) | none => (0, false)) := by unfold lkF; rw [if_pos ⟨ho, hv⟩]
  have hrn := m.routes.len
  have hro := hv.ro
  have p7 := (Blk.host (b1.ext (e2.trans e3))).2.2.2.2.2.2.2
  refine loop1 h.routes.length (fun k H' => H' = H3 ∧ ∀ i, i < k → rtQ sl p (h.routes.getD i (0, 0, 0)) = false) ⟨rfl, fun i hi => by omega⟩ ?_
  rintro k H4 hk ⟨rfl, hno⟩
  unfold F_ref21_LinkOf_r2
  refine ⟨_, p7, iteB_dec (fun c1 => ?_) (fun c1 => no _ x3 ?_)⟩
  · have hkn : k < h.routes.length := by omega
    obtain ⟨a, hp, hr⟩ := IsS.atN (m.routes.ext x3) (0, 0, 0) hkn
    have hfind := find_at_g (0, 0, 0) hkn hno
    generalize hre : h.routes.getD k (0, 0, 0) = r at *
    have q0 := hr 0 _ rfl
    refine ⟨fun b H' => b = rtQ sl p r ∧ H' = H4, ⟨_, p7, by omega, by omega, unSome_mk hp ⟨_, q0, iteB_beq (fun d1 => ⟨_, p7, by omega, by omega, unSome_mk hp ⟨_, hr 1 _ rfl, ?_, rfl⟩⟩) (fun d1 => ⟨by unfold rtQ; rw [decide_eq_false (fun hh => d1 hh.1)], rfl⟩)⟩⟩, ?_⟩
    · unfold rtQ
      rw [Bool.eq_iff_iff]
      simp [d1]
    · rintro b H7 ⟨rfl, rfl⟩
      unfold F_ref21_LinkOf_k1
      refine iteB_intro (fun d1 => ⟨_, p7, by omega, by omega, unSome_mk hp ⟨_, hr 2 _ rfl, sl, p, o, hsw, by rw [hlk, hfind d1], x3⟩⟩) (fun d1 => letV_mk _ rfl (next1 hkn (by omega) ⟨rfl, fun i hi => ?_⟩))
      by_cases e : i = k
      · subst e; rw [hre]; exact d1
      · exact hno i (by omega)
  · rw [hlk, find_none_g (0, 0, 0) (fun i hi => hno i (by omega))]

end Go.Proofs.Ytinhkngomojheaa
