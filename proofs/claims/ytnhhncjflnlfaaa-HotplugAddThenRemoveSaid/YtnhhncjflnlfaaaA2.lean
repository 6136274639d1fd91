/-
  Equality of functions; copies of functions; ports; what lies below a bridge.
-/
import Derived.Test.YtnhhncjflnlfaaaA1
namespace Go.Proofs.Ytnhhncjflnlfaaa
open Go.Eng

abbrev fns (T : List FS) : List Fn := T.map Prod.fst

theorem same_spec (f g : Fn) (s t : Sl) (H : Heap) (hf : Bars H s f.bars) (hg : Bars H t g.bars) (hl : f.bars.length ≤ 9223372036854775807) :
    CallsH Try.prog n_law23_same #[fnV f s, fnV g t] H (fun v H' => ∃ b, v = .bool b ∧ (b = true ↔ f = g) ∧ Ext H H') := by
  refine F_law23_same_ok _ _ _ _ _ _ _ _ _ _ _ _ _ _ _ _ _ _ _ _ _ _ ?_
  unfold F_law23_same
  refine push_mk (vs := fnL f s) fun H1 e1 z1 b1 => push_mk (vs := fnL g t) fun H2 e2 z2 b2 => ?_
  have x2 := e1.trans e2
  have no : f ≠ g → ∃ b, (.bool false : Value) = .bool b ∧ (b = true ↔ f = g) ∧ Ext H H2 := fun hn => ⟨false, rfl, ⟨fun h => (by cases h), fun h => absurd h hn⟩, x2⟩
  obtain ⟨p0, p1, p2, p3, p4, p5, p6, p7, p8, p9, p10⟩ := Blk.fn (b1.ext e2)
  obtain ⟨q0, q1, q2, q3, q4, q5, q6, q7, q8, q9, q10⟩ := Blk.fn b2
  refine ⟨_, p0, _, q0, iteB_beq (fun c0 => ⟨_, p1, _, q1, iteB_beq (fun c1 => ⟨_, p2, _, q2, iteB_beq (fun c2 => ⟨_, p3, _, q3, iteB_beq (fun c3 => ⟨_, p4, _, q4, iteB_intro (fun c4 => ⟨_, p5, _, q5, iteB_intro (fun c5 => ⟨_, p6, _, q6, iteB_intro (fun c6 => ⟨_, p7, _, q7, iteB_beq (fun c7 => ⟨_, p8, _, q8, iteB_beq (fun c8 => ⟨_, p9, _, q9, iteB_beq (fun c9 => ⟨s, p10, t, q10, (Equal_api_Bar_spec H2 s t _ _ (hf.ext x2) (hg.ext x2) hl).mono ?_⟩)
    (fun c => no (fun e => c (by rw [e])))⟩) (fun c => no (fun e => c (by rw [e])))⟩) (fun c => no (fun e => c (by rw [e])))⟩) (fun c => no (fun e => by rw [e] at c; simp at c))⟩) (fun c => no (fun e => by rw [e] at c; simp at c))⟩) (fun c => no (fun e => by rw [e] at c; simp at c))⟩) (fun c => no (fun e => c (by rw [e])))⟩) (fun c => no (fun e => c (by rw [e])))⟩) (fun c => no (fun e => c (by rw [e])))⟩) (fun c => no (fun e => c (by rw [e])))⟩
  rintro v H3 ⟨rfl, rfl⟩
  refine ⟨_, rfl, _, rfl, ?_, x2⟩
  simp at c4 c5 c6
  obtain ⟨f0, f1, f2, f3, f4, f5, f6, f7, f8, f9, f10⟩ := f
  obtain ⟨g0, g1, g2, g3, g4, g5, g6, g7, g8, g9, g10⟩ := g
  dsimp only at *
  subst c0 c1 c2 c3 c4 c5 c6 c7 c8 c9
  simp

theorem Topo.fnsAt {T : List FS} {i : Nat} (hi : i < T.length) : (fns T)[i]? = some (fnAt T i) := by
  unfold fnAt
  simp [List.getD, hi]

theorem EqualFunc_spec (A B : List FS) (a b : Sl) (H : Heap) (ha : Topo H a A) (hb : Topo H b B) (hl : A.length ≤ 9223372036854775807) (hbl : ∀ x ∈ A, x.1.bars.length ≤ 9223372036854775807) :
    CallsH Try.prog n_help_EqualFunc_api_Function #[.slice a.p a.n a.c, .slice b.p b.n b.c, .func (.func n_law23_same) #[] #[]] H (fun v H' => ∃ b, v = .bool b ∧ (b = true ↔ fns A = fns B) ∧ Ext H H') := by
  refine F_help_EqualFunc_api_Function_ok _ _ ?_
  unfold F_help_EqualFunc_api_Function
  have na := ha.len
  have nb := hb.len
  have no : ∀ H', Ext H H' → fns A ≠ fns B → ∃ b, (.bool false : Value) = .bool b ∧ (b = true ↔ fns A = fns B) ∧ Ext H H' := fun H' he hn => ⟨false, rfl, ⟨fun h => (by cases h), fun h => absurd h hn⟩, he⟩
  refine iteB_bne (fun c => no H (.refl _) (fun e => c ?_)) (fun c => ?_)
  · have := congrArg List.length e
    simp at this
    rw [na, nb, this]
  have hlen : A.length = B.length := by omega
  refine loop1 A.length (fun k H' => Ext H H' ∧ ∀ i, i < k → (fns A)[i]? = (fns B)[i]?) ⟨.refl _, fun i hi => by omega⟩ ?_
  rintro k H1 hk ⟨e1, heq⟩
  unfold F_help_EqualFunc_api_Function_r1
  refine iteB_dec (fun c1 => ?_) (fun c1 => ⟨true, rfl, ⟨fun _ => ?_, fun _ => rfl⟩, e1⟩)
  · have hkA : k < A.length := by omega
    have hkB : k < B.length := by omega
    obtain ⟨p, hp, hr⟩ := (ha.ext e1).at hkA
    obtain ⟨q, hq, hs⟩ := (hb.ext e1).at hkB
    obtain ⟨p0, p1, p2, p3, p4, p5, p6, p7, p8, p9, p10⟩ := rdFn hr
    obtain ⟨q0, q1, q2, q3, q4, q5, q6, q7, q8, q9, q10⟩ := rdFn hs
    have hbk : (fnAt A k).bars.length ≤ 9223372036854775807 := by
      have : A.getD k zF = A[k] := by simp [List.getD, hkA]
      unfold fnAt; rw [this]; exact hbl _ (List.getElem_mem hkA)
    refine ⟨by omega, by omega, unSome_mk hp ⟨_, p0, _, p1, _, p2, _, p3, _, p4, _, p5, _, p6, _, p7, _, p8, _, p9, slAt A k, p10, by omega, by omega, unSome_mk hq ⟨_, q0, _, q1, _, q2, _, q3, _, q4, _, q5, _, q6, _, q7, _, q8, _, q9, slAt B k, q10, (same_spec (fnAt A k) (fnAt B k) _ _ H1 ((ha.ext e1).barsAt hkA) ((hb.ext e1).barsAt hkB) hbk).mono ?_⟩⟩⟩
    rintro v H2 ⟨x, rfl, hx, e2⟩
    refine ⟨x, rfl, iteB_not (fun c2 => no H2 (e1.trans e2) (fun e => ?_)) (fun c2 => letV_mk _ rfl (next1 hkA (by omega) ⟨e1.trans e2, fun i hi => ?_⟩))⟩
    · have h1 := Topo.fnsAt hkA
      rw [e, Topo.fnsAt hkB] at h1
      simp at h1
      rw [hx.2 h1.symm] at c2
      cases c2
    · by_cases e : i = k
      · subst e; rw [Topo.fnsAt hkA, Topo.fnsAt hkB, hx.1 c2]
      · exact heq i (by omega)
  · apply List.ext_getElem?
    intro i
    by_cases hi : i < A.length
    · exact heq i (by omega)
    · rw [List.getElem?_eq_none (by simp; omega), List.getElem?_eq_none (by simp; omega)]

theorem Clone_spec (B : List Bar) (s : Sl) (H : Heap) (h : Bars H s B) (hb : B.length * 16 ≤ 140737488355328) :
    CallsH Try.prog n_slices_Clone_sl_api_Bar_api_Bar #[.slice s.p s.n s.c] H (fun v H' => ∃ c : Sl, v = .slice c.p c.n c.c ∧ Own H.size t_api_Bar 2 H' c (B.flatMap encBar) ∧ Bars H' c B ∧ Ext H H') := by
  have hn := h.len
  refine F_slices_Clone_sl_api_Bar_api_Bar_ok _ ?_
  unfold F_slices_Clone_sl_api_Bar_api_Bar
  refine clone_vc (R := fun v H' => ∃ c : Sl, v = .slice c.p c.n c.c ∧ Own H.size t_api_Bar 2 H' c (B.flatMap encBar) ∧ Bars H' c B ∧ Ext H H') rkBar.ht rkBar.hi rfl (by omega) encBar_len encBar_one h (by simp [maxLen]; omega) (by omega) ?_
  intro c H3 o3 i3 e3
  exact ⟨c, rfl, o3, i3, e3⟩

/-- Registers of a copy. -/
structure CopyP (f : Fn) (H : Heap) (v : Value) (H' : Heap) : Prop where
  ex : ∃ s : Sl, v = fnV f s ∧ Bars H' s f.bars ∧ TyB H' s.p t_api_Bar ∧ Ext H H'

theorem copyFunction_spec (f : Fn) (s : Sl) (H : Heap) (h : Bars H s f.bars) (hb : f.bars.length * 16 ≤ 140737488355328) :
    CallsH Try.prog n_hotplug_copyFunction #[fnV f s] H (CopyP f H) := by
  refine F_hotplug_copyFunction_ok _ _ _ _ _ _ _ _ _ _ _ ?_
  unfold F_hotplug_copyFunction
  refine push_mk (vs := fnL f s) fun H1 e1 z1 b1 => push_mk (vs := fnL ⟨0, 0, 0, 0, false, false, false, 0, 0, 0, []⟩ ⟨none, 0, 0⟩) fun H2 e2 z2 b2 => ⟨s, (b1.ext e2).rd (i := 10) rfl, ?_⟩
  have x2 := e1.trans e2
  have hn := h.len
  refine (Clone_spec f.bars s H2 (h.ext x2) hb).mono ?_
  rintro v H3 ⟨c, rfl, o3, i3, e3⟩
  have ne : H.size ≠ H1.size := by omega
  refine ⟨c, rfl, ((b1.ext e2).ext e3).ok (by simp), letH_mk ?_⟩
  intro H4 h4
  have b4 : Blk H4 H.size t_api_Function (fnL f c) := by rw [h4]; exact ((b1.ext e2).ext e3).wr1
  have m4 : Mods [H.size] H3 H4 := by rw [h4]; exact mods_wr_add (by simp)
  have r4 : Blk H4 H1.size t_api_Function (fnL ⟨0, 0, 0, 0, false, false, false, 0, 0, 0, []⟩ ⟨none, 0, 0⟩) := (b2.ext e3).mods m4 (by simp; omega)
  clear h4
  obtain ⟨p0, p1, p2, p3, p4, p5, p6, p7, p8, p9, p10⟩ := Blk.fn b4
  refine ⟨_, p0, _, p1, _, p2, _, p3, _, p4, _, p5, _, p6, _, p7, _, p8, _, p9, c, p10, r4.ok0 (by simp), letH_mk ?_⟩
  intro H5 h5
  have b5 : Blk H5 H1.size t_api_Function (fnL f c) := by rw [h5]; exact r4.wr
  have m5 : Mods [H1.size] H4 H5 := by rw [h5]; exact Mods.wrs (by simp)
  clear h5
  obtain ⟨q0, q1, q2, q3, q4, q5, q6, q7, q8, q9, q10⟩ := Blk.fn b5
  have n3 : NewP H2.size c.p := o3.new
  have nb4 : ∀ a, c.p = some a → a.block ∉ [H.size] := fun a ha => by have := n3 a ha; simp; omega
  have nb5 : ∀ a, c.p = some a → a.block ∉ [H1.size] := fun a ha => by have := n3 a ha; simp; omega
  refine ⟨_, q0, _, q1, _, q2, _, q3, _, q4, _, q5, _, q6, _, q7, _, q8, _, q9, c, q10, ⟨c, rfl, (i3.mods m4 nb4).mods m5 nb5, ((own_ty o3).mods m4 nb4).mods m5 nb5, ?_⟩⟩
  exact Mods.ext (Mods.ext (x2.trans e3) m4 (by simp)) m5 (by simp; omega)

def IsPort (T : List FS) (p : Int) : Prop := (0 ≤ p ∧ p < T.length) ∧ (fnAt T p.toNat).hot = true
instance (T : List FS) (p : Int) : Decidable (IsPort T p) := by unfold IsPort; infer_instance

theorem isPort_spec (T : List FS) (s : Sl) (p : Int) (H : Heap) (h : Topo H s T) (hv : ValidT T) :
    CallsH Try.prog n_hotplug_isPort #[.slice s.p s.n s.c, .int .i64 p] H (fun v H' => v = .bool (decide (IsPort T p)) ∧ H' = H) := by
  refine F_hotplug_isPort_ok _ _ ?_
  unfold F_hotplug_isPort
  have hn := h.len
  have no : ¬ IsPort T p → (.bool false : Value) = .bool (decide (IsPort T p)) ∧ H = H := fun hh => ⟨by rw [decide_eq_false hh], rfl⟩
  refine iteB_dec (fun c => iteB_dec (fun c1 => ?_) (fun c1 => no (fun hh => by have := hh.1; omega))) (fun c => no (fun hh => by have := hh.1; omega))
  obtain ⟨j, rfl⟩ := Int.eq_ofNat_of_zero_le (by omega : 0 ≤ p)
  obtain ⟨a, hp, hr⟩ := h.at (i := j) (by omega)
  obtain ⟨_, _, _, _, r4, _, r6, _⟩ := rdFn hr
  refine ⟨by omega, by omega, unSome_mk hp ⟨_, r4, iteB_intro (fun c2 => ⟨by omega, by omega, unSome_mk hp ⟨_, r6, ?_, rfl⟩⟩) (fun c2 => no (fun hh => ?_))⟩⟩
  · congr 1
    unfold IsPort
    cases hq : (fnAt T j).hot
    · symm; simp [hq]
    · symm; simp [hq]; omega
  · have := ((hv.2 j (by omega)).va.nb c2).2
    have h2 := hh.2
    rw [Int.toNat_natCast, this] at h2
    cases h2

theorem rport_spec (T : List FS) (s : Sl) (p : Int) (H : Heap) (h : Topo H s T) :
    CallsH Try.prog n_ref21_port #[.slice s.p s.n s.c, .int .i64 p] H (fun v H' => v = .bool (decide (IsPort T p)) ∧ H' = H) := by
  refine F_ref21_port_ok _ _ ?_
  unfold F_ref21_port
  have hn := h.len
  have no : ¬ IsPort T p → (.bool false : Value) = .bool (decide (IsPort T p)) ∧ H = H := fun hh => ⟨by rw [decide_eq_false hh], rfl⟩
  refine iteB_dec (fun c => iteB_dec (fun c1 => ?_) (fun c1 => no (fun hh => by have := hh.1; omega))) (fun c => no (fun hh => by have := hh.1; omega))
  obtain ⟨j, rfl⟩ := Int.eq_ofNat_of_zero_le (by omega : 0 ≤ p)
  obtain ⟨a, hp, hr⟩ := h.at (i := j) (by omega)
  obtain ⟨_, _, _, _, r4, _, r6, _⟩ := rdFn hr
  refine ⟨by omega, by omega, unSome_mk hp ⟨_, r6, ?_, rfl⟩⟩
  congr 1
  unfold IsPort
  cases hq : (fnAt T j).hot
  · symm; simp [hq]
  · symm; simp [hq]; omega

/-- Some function lies on the secondary bus of 'p'. -/
def Busy (T : List FS) (p : Int) : Prop := ∃ i, i < T.length ∧ (fnAt T i).parent = p

theorem rBelow18_spec (T : List FS) (s : Sl) (p : Int) (H : Heap) (h : Topo H s T) (hv : ValidT T) :
    CallsH Try.prog n_ref18_Below #[.slice s.p s.n s.c, .int .i64 p] H (fun v H' => ∃ out : Sl, v = .slice out.p out.n out.c ∧ (0 < out.n ↔ Busy T p) ∧ Ext H H') := by
  refine F_ref18_Below_ok _ _ ?_
  unfold F_ref18_Below
  have hn := h.len
  have hT := hv.1
  refine loop2 32 (fun k out H' => ∃ L : List Int, Own H.size t_int 1 H' out (L.flatMap (encI .i64)) ∧ L.length ≤ 64 * k ∧ (L ≠ [] ↔ ∃ i, i < T.length ∧ (fnAt T i).parent = p ∧ (fnAt T i).slot < k) ∧ Ext H H') ⟨[], Own.nil _ _ _ _, by simp, ⟨fun h => absurd rfl h, fun ⟨i, hi, _, hs⟩ => by have := (hv.2 i hi).va.sl; omega⟩, .refl _⟩ ?_
  rintro k out H1 hk ⟨L, o1, l1, i1, e1⟩
  unfold F_ref18_Below_r3
  refine iteB_dec (fun c => ?_) (fun c => ⟨out, rfl, ?_, e1⟩)
  rotate_left
  · have n1 := Own.len rkInt o1
    have : 0 < out.n ↔ L ≠ [] := by rw [n1]; cases L <;> simp
    rw [this, i1]
    constructor
    · rintro ⟨i, hi, hp, _⟩; exact ⟨i, hi, hp⟩
    · rintro ⟨i, hi, hp⟩; exact ⟨i, hi, hp, by have := (hv.2 i hi).va.sl; omega⟩
  · have hk32 : k < 32 := by omega
    refine loop2 T.length (fun j out H' => ∃ M : List Int, Own H.size t_int 1 H' out (M.flatMap (encI .i64)) ∧ M.length ≤ 64 * k + j ∧ (M ≠ [] ↔ (L ≠ [] ∨ ∃ i, i < j ∧ (fnAt T i).parent = p ∧ (fnAt T i).slot = k)) ∧ Ext H H') ⟨L, o1, by omega, ⟨.inl, fun hh => by rcases hh with hh | ⟨i, hi, _⟩; exact hh; omega⟩, e1⟩ ?_
    rintro j out1 H2 hj ⟨M, o2, l2, i2, e2⟩
    unfold F_ref18_Below_r2
    refine iteB_dec (fun c1 => ?_) (fun c1 => ?_)
    · have hjn : j < T.length := by omega
      obtain ⟨a, hp, hr⟩ := (h.ext e2).at hjn
      obtain ⟨r0, r1, _⟩ := rdFn hr
      have n2 := Own.len rkInt o2
      have step : ∀ (q : Prop), (q ↔ ((fnAt T j).parent = p ∧ (fnAt T j).slot = k)) → ((∃ i, i < j + 1 ∧ (fnAt T i).parent = p ∧ (fnAt T i).slot = k) ↔ ((∃ i, i < j ∧ (fnAt T i).parent = p ∧ (fnAt T i).slot = k) ∨ q)) := by
        intro q hq
        rw [hq]
        constructor
        · rintro ⟨i, hi, hh⟩
          by_cases e : i = j
          · subst e; exact .inr hh
          · exact .inl ⟨i, by omega, hh⟩
        · rintro (⟨i, hi, hh⟩ | hh)
          · exact ⟨i, by omega, hh⟩
          · exact ⟨j, by omega, hh⟩
      refine ⟨fun b H' => (b = true ↔ ((fnAt T j).parent = p ∧ (fnAt T j).slot = k)) ∧ H' = H2, ⟨by omega, by omega, unSome_mk hp ⟨_, r0, iteB_beq (fun d => ⟨by omega, by omega, unSome_mk hp ⟨_, r1, by simp [d], rfl⟩⟩) (fun d => ⟨by simp [d], rfl⟩)⟩⟩, ?_⟩
      rintro b H3 ⟨hb, rfl⟩
      unfold F_ref18_Below_k1
      refine iteB_intro (fun d => ?_) (fun d => letV_mk _ rfl (next2 hjn (by omega) ⟨M, o2, by omega, ?_, e2⟩))
      · refine apR rkInt (j : Int) (lo := H.size) o2 (by omega) e2.size ?_
        intro s' H6 ho hn6 m6
        refine letV_mk _ rfl (next2 hjn (by omega) ⟨M ++ [(j : Int)], ho, by simp; omega, ?_, Mods.ext e2 m6 (blkOf_new o2.new)⟩)
        rw [step _ hb]
        simp [d]
      · rw [step _ hb, i2]
        simp [d]
    · obtain rfl : j = T.length := by omega
      refine letV_mk _ rfl (next2 hk32 (by omega) ⟨M, o2, by omega, ?_, e2⟩)
      rw [i2, i1]
      constructor
      · rintro (⟨i, hi, h1, h2⟩ | ⟨i, hi, h1, h2⟩)
        · exact ⟨i, hi, h1, by omega⟩
        · exact ⟨i, hi, h1, by omega⟩
      · rintro ⟨i, hi, h1, h2⟩
        by_cases e : (fnAt T i).slot = k
        · exact .inr ⟨i, hi, h1, e⟩
        · exact .inl ⟨i, hi, h1, by omega⟩

end Go.Proofs.Ytnhhncjflnlfaaa
