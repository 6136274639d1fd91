import Derived.Test.YtnhhncjflnlfaaaPk05

section
/-
  Equality of functions; copies of functions; ports; what lies below a bridge.
-/
namespace Go.Proofs.Ytnhhncjflnlfaaa
open Go.Eng

abbrev fns (T : List FS) : List Fn := T.map Prod.fst

theorem same_spec (f g : Fn) (s t : Sl) (H : Heap) (hf : Bars H s f.bars) (hg : Bars H t g.bars) (hl : f.bars.length ≤ 9223372036854775807) :
    CallsH Try.prog n_law23_same #[fnV f s, fnV g t] H (fun v H' => ∃ b, v = .bool b ∧ (b = true ↔ f = g) ∧ Ext H H') := by
  refine F_law23_same_ok _ _ _ _ _ _ _ _ _ _ _ _ _ _ _ _ _ _ _ _ _ _ ?_
  unfold F_law23_same
  refine push_mk (vs := fnL f s) fun H1 e1 z1 b1 => push_mk (vs := fnL g t) fun H2 e2 z2 b2 => ?_
  have x2 := e1.trans e2
  have no : f ≠ g → ∃ b, (.bool false : Value) = .bool b ∧ (b = true ↔ f = g) ∧ Ext H H2 := fun hn => ⟨false, rfl, ⟨fun h => (by cases h), fun h => absurd h hn⟩, x2⟩
  obtain ⟨p0, p1, p2, p3, p4, p5, p6, p7, p8, p9, p10⟩ := Blk.fn (b1.ext e2)
  obtain ⟨q0, q1, q2, q3, q4, q5, q6, q7, q8, q9, q10⟩ := Blk.fn b2
  refine ⟨_, p0, _, q0, iteB_beq (fun c0 => ⟨_, p1, _, q1, iteB_beq (fun c1 => ⟨_, p2, _, q2, iteB_beq (fun c2 => ⟨_, p3, _, q3, iteB_beq (fun c3 => ⟨_, p4, _, q4, iteB_intro (fun c4 => ⟨_, p5, _, q5, iteB_intro (fun c5 => ⟨_, p6, _, q6, iteB_intro (fun c6 => ⟨_, p7, _, q7, iteB_beq (fun c7 => ⟨_, p8, _, q8, iteB_beq (fun c8 => ⟨_, p9, _, q9, iteB_beq (fun c9 => ⟨s, p10, t, q10, (Equal_api_Bar_spec H2 s t _ _ (hf.ext x2) (hg.ext x2) hl).mono ?_⟩)
    (fun c => no (fun e => c (by rw [e])))⟩) (fun c => no (fun e => c (by rw [e])))⟩) (fun c => no (fun e => c (by rw [e])))⟩) (fun c => no (fun e => by rw [e] at c; simp at c))⟩) (fun c => no (fun e => by rw [e] at c; simp at c))⟩) (fun c => no (fun e => by rw [e] at c; simp at c))⟩) (fun c => no (fun e => c (by rw [e])))⟩) (fun c => no (fun e => c (by rw [e])))⟩) (fun c => no (fun e => c (by rw [e])))⟩) (fun c => no (fun e => c (by rw [e])))⟩
  rintro v H3 ⟨rfl, rfl⟩
  refine ⟨_, rfl, _, rfl, ?_, x2⟩
  simp at c4 c5 c6
  obtain ⟨f0, f1, f2, f3, f4, f5, f6, f7, f8, f9, f10⟩ := f
  obtain ⟨g0, g1, g2, g3, g4, g5, g6, g7, g8, g9, g10⟩ := g
  dsimp only at *
  subst c0 c1 c2 c3 c4 c5 c6 c7 c8 c9
  simp

theorem Topo.fnsAt {T : List FS} {i : Nat} (hi : i < T.length) : (fns T)[i]? = some (fnAt T i) := by
  unfold fnAt
  simp [List.getD, hi]

theorem EqualFunc_spec (A B : List FS) (a b : Sl) (H : Heap) (ha : Topo H a A) (hb : Topo H b B) (hl : A.length ≤ 9223372036854775807) (hbl : ∀ x ∈ A, x.1.bars.length ≤ 9223372036854775807) :
    CallsH Try.prog n_help_EqualFunc_api_Function #[.slice a.p a.n a.c, .slice b.p b.n b.c, .func (.func n_law23_same) #[] #[]] H (fun v H' => ∃ b, v = .bool b ∧ (b = true ↔ fns A = fns B) ∧ Ext H H') := by
  refine F_help_EqualFunc_api_Function_ok _ _ ?_
  unfold F_help_EqualFunc_api_Function
  have na := ha.len
  have nb := hb.len
  have no : ∀ H', Ext H H' → fns A ≠ fns B → ∃ b, (.bool false : Value) = .bool b ∧ (b = true ↔ fns A = fns B) ∧ Ext H H' := fun H' he hn => ⟨false, rfl, ⟨fun h => (by cases h), fun h => absurd h hn⟩, he⟩
  refine iteB_bne (fun c => no H (.refl _) (fun e => c ?_)) (fun c => ?_)
  · have := congrArg List.length e
    simp at this
    rw [na, nb, this]
  have hlen : A.length = B.length := by omega
  refine loop1 A.length (fun k H' => Ext H H' ∧ ∀ i, i < k → (fns A)[i]? = (fns B)[i]?) ⟨.refl _, fun i hi => by omega⟩ ?_
  rintro k H1 hk ⟨e1, heq⟩
  unfold F_help_EqualFunc_api_Function_r1
  refine iteB_dec (fun c1 => ?_) (fun c1 => ⟨true, rfl, ⟨fun _ => ?_, fun _ => rfl⟩, e1⟩)
  · have hkA : k < A.length := by omega
    have hkB : k < B.length := by omega
    obtain ⟨p, hp, hr⟩ := (ha.ext e1).at hkA
    obtain ⟨q, hq, hs⟩ := (hb.ext e1).at hkB
    obtain ⟨p0, p1, p2, p3, p4, p5, p6, p7, p8, p9, p10⟩ := rdFn hr
    obtain ⟨q0, q1, q2, q3, q4, q5, q6, q7, q8, q9, q10⟩ := rdFn hs
    have hbk : (fnAt A k).bars.length ≤ 9223372036854775807 := by
      have : A.getD k zF = A[k] := by simp [List.getD, hkA]
      unfold fnAt; rw [this]; exact hbl _ (List.getElem_mem hkA)
    refine ⟨by omega, by omega, unSome_mk hp ⟨_, p0, _, p1, _, p2, _, p3, _, p4, _, p5, _, p6, _, p7, _, p8, _, p9, slAt A k, p10, by omega, by omega, unSome_mk hq ⟨_, q0, _, q1, _, q2, _, q3, _, q4, _, q5, _, q6, _, q7, _, q8, _, q9, slAt B k, q10, (same_spec (fnAt A k) (fnAt B k) _ _ H1 ((ha.ext e1).barsAt hkA) ((hb.ext e1).barsAt hkB) hbk).mono ?_⟩⟩⟩
    rintro v H2 ⟨x, rfl, hx, e2⟩
    refine ⟨x, rfl, iteB_not (fun c2 => no H2 (e1.trans e2) (fun e => ?_)) (fun c2 => letV_mk _ rfl (next1 hkA (by omega) ⟨e1.trans e2, fun i hi => ?_⟩))⟩
    · have h1 := Topo.fnsAt hkA
      rw [e, Topo.fnsAt hkB] at h1
      simp at h1
      rw [hx.2 h1.symm] at c2
      cases c2
    · by_cases e : i = k
      · subst e; rw [Topo.fnsAt hkA, Topo.fnsAt hkB, hx.1 c2]
      · exact heq i (by omega)
  · apply List.ext_getElem?
    intro i
    by_cases hi : i < A.length
    · exact heq i (by omega)
    · rw [List.getElem?_eq_none (by simp; omega), List.getElem?_eq_none (by simp; omega)]

theorem Clone_spec (B : List Bar) (s : Sl) (H : Heap) (h : Bars H s B) (hb : B.length * 16 ≤ 140737488355328) :
    CallsH Try.prog n_slices_Clone_sl_api_Bar_api_Bar #[.slice s.p s.n s.c] H (fun v H' => ∃ c : Sl, v = .slice c.p c.n c.c ∧ Own H.size t_api_Bar 2 H' c (B.flatMap encBar) ∧ Bars H' c B ∧ Ext H H') := by
  have hn := h.len
  refine F_slices_Clone_sl_api_Bar_api_Bar_ok _ ?_
  unfold F_slices_Clone_sl_api_Bar_api_Bar
  refine clone_vc (R := fun v H' => ∃ c : Sl, v = .slice c.p c.n c.c ∧ Own H.size t_api_Bar 2 H' c (B.flatMap encBar) ∧ Bars H' c B ∧ Ext H H') rkBar.ht rkBar.hi rfl (by omega) encBar_len encBar_one h (by simp [maxLen]; omega) (by omega) ?_
  intro c H3 o3 i3 e3
  exact ⟨c, rfl, o3, i3, e3⟩

/-- Registers of a copy. -/
structure CopyP (f : Fn) (H : Heap) (v : Value) (H' : Heap) : Prop where
  ex : ∃ s : Sl, v = fnV f s ∧ Bars H' s f.bars ∧ TyB H' s.p t_api_Bar ∧ Ext H H'

theorem copyFunction_spec (f : Fn) (s : Sl) (H : Heap) (h : Bars H s f.bars) (hb : f.bars.length * 16 ≤ 140737488355328) :
    CallsH Try.prog n_hotplug_copyFunction #[fnV f s] H (CopyP f H) := by
  refine F_hotplug_copyFunction_ok _ _ _ _ _ _ _ _ _ _ _ ?_
  unfold F_hotplug_copyFunction
  refine push_mk (vs := fnL f s) fun H1 e1 z1 b1 => push_mk (vs := fnL ⟨0, 0, 0, 0, false, false, false, 0, 0, 0, []⟩ ⟨none, 0, 0⟩) fun H2 e2 z2 b2 => ⟨s, (b1.ext e2).rd (i := 10) rfl, ?_⟩
  have x2 := e1.trans e2
  have hn := h.len
  refine (Clone_spec f.bars s H2 (h.ext x2) hb).mono ?_
  rintro v H3 ⟨c, rfl, o3, i3, e3⟩
  have ne : H.size ≠ H1.size := by omega
  refine ⟨c, rfl, ((b1.ext e2).ext e3).ok (by simp), letH_mk ?_⟩
  intro H4 h4
  have b4 : Blk H4 H.size t_api_Function (fnL f c) := by rw [h4]; exact ((b1.ext e2).ext e3).wr1
  have m4 : Mods [H.size] H3 H4 := by rw [h4]; exact mods_wr_add (by simp)
  have r4 : Blk H4 H1.size t_api_Function (fnL ⟨0, 0, 0, 0, false, false, false, 0, 0, 0, []⟩ ⟨none, 0, 0⟩) := (b2.ext e3).mods m4 (by simp; omega)
  clear h4
  obtain ⟨p0, p1, p2, p3, p4, p5, p6, p7, p8, p9, p10⟩ := Blk.fn b4
  refine ⟨_, p0, _, p1, _, p2, _, p3, _, p4, _, p5, _, p6, _, p7, _, p8, _, p9, c, p10, r4.ok0 (by simp), letH_mk ?_⟩
  intro H5 h5
  have b5 : Blk H5 H1.size t_api_Function (fnL f c) := by rw [h5]; exact r4.wr
  have m5 : Mods [H1.size] H4 H5 := by rw [h5]; exact Mods.wrs (by simp)
  clear h5
  obtain ⟨q0, q1, q2, q3, q4, q5, q6, q7, q8, q9, q10⟩ := Blk.fn b5
  have n3 : NewP H2.size c.p := o3.new
  have nb4 : ∀ a, c.p = some a → a.block ∉ [H.size] := fun a ha => by have := n3 a ha; simp; omega
  have nb5 : ∀ a, c.p = some a → a.block ∉ [H1.size] := fun a ha => by have := n3 a ha; simp; omega
  refine ⟨_, q0, _, q1, _, q2, _, q3, _, q4, _, q5, _, q6, _, q7, _, q8, _, q9, c, q10, ⟨c, rfl, (i3.mods m4 nb4).mods m5 nb5, ((own_ty o3).mods m4 nb4).mods m5 nb5, ?_⟩⟩
  exact Mods.ext (Mods.ext (x2.trans e3) m4 (by simp)) m5 (by simp; omega)

def IsPort (T : List FS) (p : Int) : Prop := (0 ≤ p ∧ p < T.length) ∧ (fnAt T p.toNat).hot = true
instance (T : List FS) (p : Int) : Decidable (IsPort T p) := by unfold IsPort; infer_instance

theorem isPort_spec (T : List FS) (s : Sl) (p : Int) (H : Heap) (h : Topo H s T) (hv : ValidT T) :
    CallsH Try.prog n_hotplug_isPort #[.slice s.p s.n s.c, .int .i64 p] H (fun v H' => v = .bool (decide (IsPort T p)) ∧ H' = H) := by
  refine F_hotplug_isPort_ok _ _ ?_
  unfold F_hotplug_isPort
  have hn := h.len
  have no : ¬ IsPort T p → (.bool false : Value) = .bool (decide (IsPort T p)) ∧ H = H := fun hh => ⟨by rw [decide_eq_false hh], rfl⟩
  refine iteB_dec (fun c => iteB_dec (fun c1 => ?_) (fun c1 => no (fun hh => by have := hh.1; omega))) (fun c => no (fun hh => by have := hh.1; omega))
  obtain ⟨j, rfl⟩ := Int.eq_ofNat_of_zero_le (by omega : 0 ≤ p)
  obtain ⟨a, hp, hr⟩ := h.at (i := j) (by omega)
  obtain ⟨_, _, _, _, r4, _, r6, _⟩ := rdFn hr
  refine ⟨by omega, by omega, unSome_mk hp ⟨_, r4, iteB_intro (fun c2 => ⟨by omega, by omega, unSome_mk hp ⟨_, r6, ?_, rfl⟩⟩) (fun c2 => no (fun hh => ?_))⟩⟩
  · congr 1
    unfold IsPort
    cases hq : (fnAt T j).hot
    · symm; simp [hq]
    · symm; simp [hq]; omega
  · have := ((hv.2 j (by omega)).va.nb c2).2
    have h2 := hh.2
    rw [Int.toNat_natCast, this] at h2
    cases h2

theorem rport_spec (T : List FS) (s : Sl) (p : Int) (H : Heap) (h : Topo H s T) :
    CallsH Try.prog n_ref21_port #[.slice s.p s.n s.c, .int .i64 p] H (fun v H' => v = .bool (decide (IsPort T p)) ∧ H' = H) := by
  refine F_ref21_port_ok _ _ ?_
  unfold F_ref21_port
  have hn := h.len
  have no : ¬ IsPort T p → (.bool false : Value) = .bool (decide (IsPort T p)) ∧ H = H := fun hh => ⟨by rw [decide_eq_false hh], rfl⟩
  refine iteB_dec (fun c => iteB_dec (fun c1 => ?_) (fun c1 => no (fun hh => by have := hh.1; omega))) (fun c => no (fun hh => by have := hh.1; omega))
  obtain ⟨j, rfl⟩ := Int.eq_ofNat_of_zero_le (by omega : 0 ≤ p)
  obtain ⟨a, hp, hr⟩ := h.at (i := j) (by omega)
  obtain ⟨_, _, _, _, r4, _, r6, _⟩ := rdFn hr
  refine ⟨by omega, by omega, unSome_mk hp ⟨_, r6, ?_, rfl⟩⟩
  congr 1
  unfold IsPort
  cases hq : (fnAt T j).hot
  · symm; simp [hq]
  · symm; simp [hq]; omega

/-- Some function lies on the secondary bus of 'p'. -/
def Busy (T : List FS) (p : Int) : Prop := ∃ i, i < T.length ∧ (fnAt T i).parent = p

theorem rBelow18_spec (T : List FS) (s : Sl) (p : Int) (H : Heap) (h : Topo H s T) (hv : ValidT T) :
    CallsH Try.prog n_ref18_Below #[.slice s.p s.n s.c, .int .i64 p] H (fun v H' => ∃ out : Sl, v = .slice out.p out.n out.c ∧ (0 < out.n ↔ Busy T p) ∧ Ext H H') := by
  refine F_ref18_Below_ok _ _ ?_
  unfold F_ref18_Below
  have hn := h.len
  have hT := hv.1
  refine loop2 32 (fun k out H' => ∃ L : List Int, Own H.size t_int 1 H' out (L.flatMap (encI .i64)) ∧ L.length ≤ 64 * k ∧ (L ≠ [] ↔ ∃ i, i < T.length ∧ (fnAt T i).parent = p ∧ (fnAt T i).slot < k) ∧ Ext H H') ⟨[], Own.nil _ _ _ _, by simp, ⟨fun h => absurd rfl h, fun ⟨i, hi, _, hs⟩ => by have := (hv.2 i hi).va.sl; omega⟩, .refl _⟩ ?_
  rintro k out H1 hk ⟨L, o1, l1, i1, e1⟩
  unfold F_ref18_Below_r3
  refine iteB_dec (fun c => ?_) (fun c => ⟨out, rfl, ?_, e1⟩)
  rotate_left
  · have n1 := Own.len rkInt o1
    have : 0 < out.n ↔ L ≠ [] := by rw [n1]; cases L <;> simp
    rw [this, i1]
    constructor
    · rintro ⟨i, hi, hp, _⟩; exact ⟨i, hi, hp⟩
    · rintro ⟨i, hi, hp⟩; exact ⟨i, hi, hp, by have := (hv.2 i hi).va.sl; omega⟩
  · have hk32 : k < 32 := by omega
    refine loop2 T.length (fun j out H' => ∃ M : List Int, Own H.size t_int 1 H' out (M.flatMap (encI .i64)) ∧ M.length ≤ 64 * k + j ∧ (M ≠ [] ↔ (L ≠ [] ∨ ∃ i, i < j ∧ (fnAt T i).parent = p ∧ (fnAt T i).slot = k)) ∧ Ext H H') ⟨L, o1, by omega, ⟨.inl, fun hh => by rcases hh with hh | ⟨i, hi, _⟩; exact hh; omega⟩, e1⟩ ?_
    rintro j out1 H2 hj ⟨M, o2, l2, i2, e2⟩
    unfold F_ref18_Below_r2
    refine iteB_dec (fun c1 => ?_) (fun c1 => ?_)
    · have hjn : j < T.length := by omega
      obtain ⟨a, hp, hr⟩ := (h.ext e2).at hjn
      obtain ⟨r0, r1, _⟩ := rdFn hr
      have n2 := Own.len rkInt o2
      have step : ∀ (q : Prop), (q ↔ ((fnAt T j).parent = p ∧ (fnAt T j).slot = k)) → ((∃ i, i < j + 1 ∧ (fnAt T i).parent = p ∧ (fnAt T i).slot = k) ↔ ((∃ i, i < j ∧ (fnAt T i).parent = p ∧ (fnAt T i).slot = k) ∨ q)) := by
        intro q hq
        rw [hq]
        constructor
        · rintro ⟨i, hi, hh⟩
          by_cases e : i = j
          · subst e; exact .inr hh
          · exact .inl ⟨i, by omega, hh⟩
        · rintro (⟨i, hi, hh⟩ | hh)
          · exact ⟨i, by omega, hh⟩
          · exact ⟨j, by omega, hh⟩
      refine ⟨fun b H' => (b = true ↔ ((fnAt T j).parent = p ∧ (fnAt T j).slot = k)) ∧ H' = H2, ⟨by omega, by omega, unSome_mk hp ⟨_, r0, iteB_beq (fun d => ⟨by omega, by omega, unSome_mk hp ⟨_, r1, by simp [d], rfl⟩⟩) (fun d => ⟨by simp [d], rfl⟩)⟩⟩, ?_⟩
      rintro b H3 ⟨hb, rfl⟩
      unfold F_ref18_Below_k1
      refine iteB_intro (fun d => ?_) (fun d => letV_mk _ rfl (next2 hjn (by omega) ⟨M, o2, by omega, ?_, e2⟩))
      · refine apR rkInt (j : Int) (lo := H.size) o2 (by omega) e2.size ?_
        intro s' H6 ho hn6 m6
        refine letV_mk _ rfl (next2 hjn (by omega) ⟨M ++ [(j : Int)], ho, by simp; omega, ?_, Mods.ext e2 m6 (blkOf_new o2.new)⟩)
        rw [step _ hb]
        simp [d]
      · rw [step _ hb, i2]
        simp [d]
    · obtain rfl : j = T.length := by omega
      refine letV_mk _ rfl (next2 hk32 (by omega) ⟨M, o2, by omega, ?_, e2⟩)
      rw [i2, i1]
      constructor
      · rintro (⟨i, hi, h1, h2⟩ | ⟨i, hi, h1, h2⟩)
        · exact ⟨i, hi, h1, by omega⟩
        · exact ⟨i, hi, h1, by omega⟩
      · rintro ⟨i, hi, h1, h2⟩
        by_cases e : (fnAt T i).slot = k
        · exact .inr ⟨i, hi, h1, e⟩
        · exact .inl ⟨i, hi, h1, by omega⟩

end Go.Proofs.Ytnhhncjflnlfaaa
end

section
/-
  Adding a card: what the answer is; the contract of the program's Add.
-/
namespace Go.Proofs.Ytnhhncjflnlfaaa
open Go.Eng

def zFn : Fn := ⟨0, 0, 0, 0, false, false, false, 0, 0, 0, []⟩
/-- Validity of a list of functions, wherever its registers lie. -/
def ValidL (L : List Fn) : Prop := ValidT (L.map (fun f => (f, ⟨none, 0, 0⟩)))
theorem fnAt_map (L : List Fn) (i : Nat) : fnAt (L.map (fun f => (f, (⟨none, 0, 0⟩ : Sl)))) i = L.getD i zFn := by
  unfold fnAt
  by_cases h : i < L.length
  · simp [List.getD, h]
  · simp [List.getD, List.getElem?_eq_none (Nat.le_of_not_lt h)]; rfl
theorem fnAt_fns (T : List FS) (i : Nat) : fnAt T i = (fns T).getD i zFn := by
  unfold fnAt
  by_cases h : i < T.length
  · simp [List.getD, h]
  · simp [List.getD, List.getElem?_eq_none (Nat.le_of_not_lt h)]; rfl
theorem ValidT_congr {T T' : List FS} (hl : T.length = T'.length) (h : ∀ i, fnAt T i = fnAt T' i) : ValidT T ↔ ValidT T' := by
  have key : ∀ {T T' : List FS}, T.length = T'.length → (∀ i, fnAt T i = fnAt T' i) → ValidT T → ValidT T' := fun {T T'} hl h hv => by
    refine ⟨by rw [← hl]; exact hv.1, fun i hi => ?_⟩
    obtain ⟨a, b, c, d⟩ := hv.2 i (by omega)
    refine ⟨?_, ?_, ?_, ?_⟩
    · rw [← h]; exact a
    · rw [← h]; exact b
    · rw [← h, ← h]; exact c
    · intro k hk; rw [← h, ← h]; exact d k hk
  exact ⟨key hl h, key hl.symm (fun i => (h i).symm)⟩
theorem ValidT_iff (T : List FS) : ValidT T ↔ ValidL (fns T) := ValidT_congr (by simp) (fun i => by rw [fnAt_map, fnAt_fns])
theorem ValidT_fns {T T' : List FS} (h : fns T = fns T') : ValidT T ↔ ValidT T' := by rw [ValidT_iff, ValidT_iff, h]

def adj (p n : Int) (f : Fn) : Fn := { f with parent := if f.parent = -1 then p else f.parent + n }
def ParOk (C : List Fn) : Prop := ∀ i, i < C.length → -1 ≤ (C.getD i zFn).parent ∧ (C.getD i zFn).parent < i
def addL (T C : List FS) (p : Int) : List Fn := fns T ++ (fns C).map (adj p T.length)
def Good (T C : List FS) (p : Int) : Prop := ParOk (fns C) ∧ ValidL (addL T C p)

/-- What Add answers. -/
def AddIs (T C : List FS) (p e : Int) (L : List Fn) : Prop :=
  (¬ ValidT T ∧ e = 1 ∧ L = []) ∨ (ValidT T ∧ ¬ IsPort T p ∧ e = 6 ∧ L = []) ∨ (ValidT T ∧ IsPort T p ∧ Busy T p ∧ e = 17 ∧ L = []) ∨
  (ValidT T ∧ IsPort T p ∧ ¬ Busy T p ∧ ¬ Good T C p ∧ e = 1 ∧ L = []) ∨ (ValidT T ∧ IsPort T p ∧ ¬ Busy T p ∧ Good T C p ∧ e = 0 ∧ L = addL T C p)

theorem AddIs.uni {T C : List FS} {p e e' : Int} {L L' : List Fn} (h : AddIs T C p e L) (h' : AddIs T C p e' L') : e = e' ∧ L = L' := by
  rcases h with ⟨a, rfl, rfl⟩ | ⟨a, b, rfl, rfl⟩ | ⟨a, b, c, rfl, rfl⟩ | ⟨a, b, c, d, rfl, rfl⟩ | ⟨a, b, c, d, rfl, rfl⟩ <;>
    rcases h' with ⟨a', rfl, rfl⟩ | ⟨a', b', rfl, rfl⟩ | ⟨a', b', c', rfl, rfl⟩ | ⟨a', b', c', d', rfl, rfl⟩ | ⟨a', b', c', d', rfl, rfl⟩ <;> first | exact ⟨rfl, rfl⟩ | contradiction

/-- An answer of Add in memory. -/
structure AddP (T C : List FS) (p : Int) (H : Heap) (v : Value) (H' : Heap) : Prop where
  ex : ∃ (out : Sl) (e : Int) (L : List Fn) (T' : List FS), v = .tuple #[.slice out.p out.n out.c, .int .i64 e] ∧ AddIs T C p e L ∧ fns T' = L ∧ Topo H' out T' ∧ (out.p ≠ none → GT H' T') ∧ Ext H H'

theorem Topo.nil (H : Heap) : Topo H ⟨none, 0, 0⟩ [] := ⟨IsS.nil _ _ _, fun x hx => by cases hx⟩
theorem AddP.no {T C : List FS} {p e : Int} {H H' : Heap} (h : AddIs T C p e []) (he : Ext H H') : AddP T C p H (.tuple #[.slice none 0 0, .int .i64 e]) H' :=
  ⟨⟨none, 0, 0⟩, e, [], [], rfl, h, rfl, Topo.nil _, fun h => absurd rfl h, he⟩

/-- Reading a function into a variable of its own. -/
theorem GT.append {H : Heap} {T : List FS} {f : Fn} {s : Sl} (h : GT H T) (hb : Bars H s f.bars) (ht : TyB H s.p t_api_Bar) : GT H (T ++ [(f, s)]) := by
  intro x hx
  simp only [List.mem_append, List.mem_singleton] at hx
  rcases hx with hx | rfl
  · exact h x hx
  · exact ⟨hb, ht⟩

theorem take_fns {T : List FS} {k : Nat} (hk : k < T.length) : (fns T).take (k + 1) = (fns T).take k ++ [fnAt T k] := by
  rw [List.take_add_one, Topo.fnsAt hk]; rfl

theorem getD_take_fn {T : List FS} {k : Nat} (_hk : k < T.length) : (fns T).getD k zFn = fnAt T k := (fnAt_fns T k).symm

theorem adj_take {T : List FS} {k : Nat} (p n : Int) (hk : k < T.length) : ((fns T).map (adj p n)).take (k + 1) = ((fns T).map (adj p n)).take k ++ [adj p n (fnAt T k)] := by
  rw [← List.map_take, take_fns hk, List.map_append, ← List.map_take (f := adj p n)]; rfl

/-- The functions of the card are added. -/
theorem add_card {T C : List FS} {s c : Sl} {p : Int} {H H12 : Heap} {out : Sl} {T1 : List FS} (hT : Topo H s T) (hC : Topo H c C) (hv : ValidT T) (hport : IsPort T p) (hbusy : ¬ Busy T p) (hlen : T.length + C.length ≤ 64) (hcb : ∀ x ∈ C, x.1.bars.length * 16 ≤ 140737488355328)
    (o : Own H.size t_api_Function 11 H12 out (T1.flatMap encF)) (hf1 : fns T1 = fns T) (g1 : GT H12 T1) (e12 : Ext H H12) :
    ∃ I_2 : Sl → Int → Heap → Prop, ∃ M_2 : Sl → Int → Heap → Nat, I_2 out (0 : Int) H12 ∧ (∀ result2 : Sl, ∀ x49 : Int, ∀ H13 : Heap, I_2 result2 x49 H13 → F_hotplug_Add_r2 (AddP T C p H) s p c I_2 M_2 result2 x49 H13) := by
  have hn := hT.len
  have hcn := hC.len
  have hl1 : T1.length = T.length := by have := congrArg List.length hf1; simpa using this
  have bad : ∀ H', Ext H H' → ¬ Good T C p → AddP T C p H (.tuple #[.slice none 0 0, .int .i64 1]) H' := fun H' he hg => AddP.no (.inr (.inr (.inr (.inl ⟨hv, hport, hbusy, hg, rfl, rfl⟩)))) he
  refine loop2 C.length (fun k out H' => ∃ C1 : List FS, fns C1 = ((fns C).map (adj p T.length)).take k ∧ Own H.size t_api_Function 11 H' out ((T1 ++ C1).flatMap encF) ∧ GT H' (T1 ++ C1) ∧ Ext H H' ∧ ∀ i, i < k → -1 ≤ (fnAt C i).parent ∧ (fnAt C i).parent < C.length) ⟨[], rfl, by simpa using o, by simpa using g1, e12, fun i hi => by omega⟩ ?_
  rintro k out2 H13 hk ⟨C1, hC1, o13, g13, e13, hpar⟩
  unfold F_hotplug_Add_r2
  have hc1 : C1.length = k := by have := congrArg List.length hC1; simp at this; omega
  have n13 := Own.len rkFn o13
  rw [List.length_append] at n13
  refine iteB_dec (fun c1 => ?_) (fun c1 => ?_)
  · have hkn : k < C.length := by omega
    obtain ⟨a, hp, hr⟩ := (hC.ext e13).at hkn
    obtain ⟨p0, p1, p2, p3, p4, p5, p6, p7, p8, p9, p10⟩ := rdFn hr
    have hbars := hC.barsAt hkn
    have hbl : (fnAt C k).bars.length * 16 ≤ 140737488355328 := by
      have : C.getD k zF = C[k] := by simp [List.getD, hkn]
      unfold fnAt; rw [this]; exact hcb _ (List.getElem_mem hkn)
    have hadj := adj_take p T.length hkn
    have hparG : Good T C p → -1 ≤ (fnAt C k).parent ∧ (fnAt C k).parent < k := fun hg => by
      have := hg.1 k (by simpa using hkn)
      rw [getD_take_fn hkn] at this
      exact this
    have hpk : ∀ i, i < k + 1 → (i < k → -1 ≤ (fnAt C i).parent ∧ (fnAt C i).parent < C.length) := fun i _ => hpar i
    generalize hF : fnAt C k = f at *
    generalize slAt C k = fs at *
    refine ⟨by omega, by omega, unSome_mk hp ⟨_, p0, _, p1, _, p2, _, p3, _, p4, _, p5, _, p6, _, p7, _, p8, _, p9, fs, p10, local_mk (vs := fnL f fs) rfl rfl fun H15 e15 z15 b15 => ?_⟩⟩
    obtain ⟨q0, q1, q2, q3, q4, q5, q6, q7, q8, q9, q10⟩ := Blk.fn b15
    have x15 := e13.trans e15
    refine ⟨_, q0, iteB_dec (fun d => bad _ x15 (fun hg => by have := hparG hg; omega)) (fun d => ⟨_, q0, iteB_dec (fun d1 => bad _ x15 (fun hg => by have := hparG hg; omega)) (fun d1 => ⟨_, q0, _, q1, _, q2, _, q3, _, q4, _, q5, _, q6, _, q7, _, q8, _, q9, fs, q10, (copyFunction_spec f fs H15 (hbars.ext x15) hbl).mono ?_⟩)⟩)⟩
    rintro v H16 ⟨cs, rfl, bc, tc, e16⟩
    refine ⟨_, _, _, _, _, _, _, _, _, _, cs, rfl, local_mk (vs := fnL f cs) rfl rfl fun H18 e18 z18 b18 => ⟨fun H' => Blk H' H16.size t_api_Function (fnL (adj p T.length f) cs) ∧ Mods [H16.size] H18 H', ⟨_, ((b15.ext e16).ext e18).rd0 rfl, iteB_beq (fun d2 => ⟨b18.ok0 (by simp), letH_mk ?_⟩) (fun d2 => ⟨_, ((b15.ext e16).ext e18).rd0 rfl, b18.ok0 (by simp), letH_mk ?_⟩)⟩, ?_⟩⟩
    · rintro H19 rfl
      refine ⟨?_, Mods.wrs (by simp)⟩
      have := b18.wr (o := 0) (ws := [.int .i64 p])
      have e : adj p T.length f = { f with parent := p } := by unfold adj; rw [if_pos d2]
      rw [e]
      exact this
    · rintro H19 rfl
      refine ⟨?_, Mods.wrs (by simp)⟩
      have := b18.wr (o := 0) (ws := [.int .i64 (IntKind.i64.wrap (f.parent + (s.n : Int)))])
      rw [i64_in (by omega)] at this ⊢
      have e : adj p T.length f = { f with parent := f.parent + s.n } := by unfold adj; rw [if_neg d2, hn]
      rw [e]
      exact this
    · rintro H21 ⟨b21, m21⟩
      unfold F_hotplug_Add_k1
      obtain ⟨u0, u1, u2, u3, u4, u5, u6, u7, u8, u9, u10⟩ := Blk.fn b21
      have e1318 : Ext H13 H18 := (e15.trans e16).trans e18
      have e1321 : Ext H13 H21 := Mods.ext e1318 m21 (by have := (e15.trans e16).size; simp; omega)
      have hz16 : H16.size < H18.size := b18.lt
      have bt : TyB H21 (some ⟨H16.size, 0, none⟩) t_api_Function := fun a ha => by cases ha; exact ⟨_, _, b21⟩
      have bt18 : TyB H18 (some ⟨H16.size, 0, none⟩) t_api_Function := fun a ha => by cases ha; exact ⟨_, _, b18⟩
      have tc18 : TyB H18 cs.p t_api_Bar := tc.mods (S := []) e18.mods (by simp)
      have ncs : ∀ a, cs.p = some a → a.block ∉ [H16.size] := fun a ha => by have := ty_ne tc18 bt18 (by decide) a ha; simpa [blkOf] using this
      have bc21 := (bc.ext e18).mods m21 ncs
      have tc21 := tc18.mods m21 ncs
      refine ⟨_, u0, _, u1, _, u2, _, u3, _, u4, _, u5, _, u6, _, u7, _, u8, _, u9, cs, u10, ?_⟩
      refine apR rkFn (adj p T.length f, cs) (lo := H.size) (o13.ext e1321) (by omega) (e13.trans e1321).size ?_
      intro s' H23 ho hn23 m23
      have x21 := e13.trans e1321
      have nout : ∀ q, TyB H21 q t_api_Bar → ∀ a, q = some a → a.block ∉ blkOf out2.p := fun q hq a ha => ty_ne hq (own_ty (o13.ext e1321)) (by decide) a ha
      refine next2 hkn (by omega) ⟨C1 ++ [(adj p T.length f, cs)], ?_, ?_, ?_, Mods.ext x21 m23 (blkOf_new o13.new), fun i hi => ?_⟩
      · rw [hadj, ← hC1]; simp
      · rw [← List.append_assoc]; exact ho
      · rw [← List.append_assoc]
        exact (GT.append (f := adj p T.length f) (g13.ext e1321) bc21 tc21).mods m23 nout
      · by_cases e : i = k
        · subst e; rw [hF]; omega
        · exact hpar i (by omega)
  · obtain rfl : k = C.length := by omega
    have hfull : fns (T1 ++ C1) = addL T C p := by
      show List.map _ _ = _
      rw [List.map_append]
      show fns T1 ++ fns C1 = _
      rw [hf1, hC1, List.take_of_length_le (by simp)]
      rfl
    have hT13 : Topo H13 out2 (T1 ++ C1) := ⟨Own.is rkFn o13, fun x hx => (g13 x hx).1⟩
    have hiff : ValidT (T1 ++ C1) ↔ ValidL (addL T C p) := by rw [ValidT_iff, hfull]
    refine (eValid_spec (T1 ++ C1) out2 H13 hT13).mono ?_
    rintro v H24 ⟨rfl, e24⟩
    refine ⟨_, rfl, iteB_not (fun d => bad _ (e13.trans e24) (fun hg => by simp at d; exact d (hiff.2 hg.2))) (fun d => ?_)⟩
    have hval : ValidT (T1 ++ C1) := by simpa using d
    refine ⟨out2, 0, _, T1 ++ C1, rfl, .inr (.inr (.inr (.inr ⟨hv, hport, hbusy, ⟨fun i hi => ?_, hiff.1 hval⟩, rfl, rfl⟩))), hfull, hT13.ext e24, fun _ => g13.ext e24, e13.trans e24⟩
    have hi' : i < C.length := by simpa using hi
    have h1 := hpar i hi'
    have h2 := (hval.2 (T.length + i) (by simp; omega)).pa
    rw [fnAt_fns, hfull] at h2
    have h3 : (addL T C p).getD (T.length + i) zFn = adj p T.length (fnAt C i) := by
      unfold addL
      have : (fns T).length = T.length := by simp
      simp only [List.getD]
      rw [List.getElem?_append_right (by omega), this, Nat.add_sub_cancel_left, List.getElem?_map, Topo.fnsAt hi']
      rfl
    rw [h3] at h2
    rw [getD_take_fn hi']
    unfold adj at h2
    dsimp only at h2
    split at h2 <;> omega

theorem Add_spec (T C : List FS) (s c : Sl) (p : Int) (H : Heap) (hT : Topo H s T) (hC : Topo H c C) (hcl : C.length ≤ 1000) (hcb : ∀ x ∈ C, x.1.bars.length * 16 ≤ 140737488355328) :
    CallsH Try.prog n_hotplug_Add #[.slice s.p s.n s.c, .int .i64 p, .slice c.p c.n c.c] H (AddP T C p H) := by
  refine F_hotplug_Add_ok _ _ _ ?_
  unfold F_hotplug_Add
  have hn := hT.len
  have hcn := hC.len
  refine (eValid_spec T s H hT).mono ?_
  rintro v H1 ⟨rfl, e1⟩
  refine ⟨_, rfl, iteB_not (fun d => AddP.no (.inl ⟨by simpa using d, rfl, rfl⟩) e1) (fun d => ?_)⟩
  have hv : ValidT T := by simpa using d
  have hl64 := hv.1
  refine (isPort_spec T s p H1 (hT.ext e1) hv).mono ?_
  rintro v H2 ⟨rfl, rfl⟩
  refine ⟨_, rfl, iteB_not (fun d => AddP.no (.inr (.inl ⟨hv, by simpa using d, rfl, rfl⟩)) e1) (fun d => ?_)⟩
  have hport : IsPort T p := by simpa using d
  refine loop1 T.length (fun k H' => Ext H H' ∧ ∀ i, i < k → (fnAt T i).parent ≠ p) ⟨e1, fun i hi => by omega⟩ ?_
  rintro k H3 hk ⟨e3, hno⟩
  unfold F_hotplug_Add_r4
  refine iteB_dec (fun c1 => ?_) (fun c1 => ?_)
  · have hkn : k < T.length := by omega
    obtain ⟨a, hp, hr⟩ := (hT.ext e3).at hkn
    obtain ⟨p0, p1, p2, p3, p4, p5, p6, p7, p8, p9, p10⟩ := rdFn hr
    refine ⟨by omega, by omega, unSome_mk hp ⟨_, p0, _, p1, _, p2, _, p3, _, p4, _, p5, _, p6, _, p7, _, p8, _, p9, slAt T k, p10, local_mk (vs := fnL (fnAt T k) (slAt T k)) rfl rfl fun H5 e5 z5 b5 => ⟨_, b5.rd0 rfl, iteB_beq (fun d1 => AddP.no (.inr (.inr (.inl ⟨hv, hport, ⟨k, hkn, d1⟩, rfl, rfl⟩))) (e3.trans e5)) (fun d1 => next1 hkn (by omega) ⟨e3.trans e5, fun i hi => ?_⟩)⟩⟩⟩
    by_cases e : i = k
    · subst e; exact d1
    · exact hno i (by omega)
  · obtain rfl : k = T.length := by omega
    have hbusy : ¬ Busy T p := fun ⟨i, hi, hh⟩ => hno i hi hh
    rw [i64_in (n := (64 : Int) - s.n) (by omega)]
    refine iteB_dec (fun c2 => AddP.no (.inr (.inr (.inr (.inl ⟨hv, hport, hbusy, fun hg => ?_, rfl, rfl⟩)))) e3) (fun c2 => ?_)
    · have h1 := hg.2.1
      simp [addL] at h1
      omega
    rw [i64_in (n := (s.n : Int) + c.n) (by omega)]
    refine ⟨by omega, by omega, by omega, letH_mk ?_⟩
    intro H6 h6
    have e6 : Ext H3 H6 := by rw [h6]; exact Ext.push _ _
    have o6 : Own H.size t_api_Function 11 H6 ⟨some ⟨H3.size, 0, none⟩, 0, ((s.n : Int) + c.n).toNat⟩ (([] : List FS).flatMap encF) := by
      rw [h6]
      refine Own.make e3.size ?_ rfl
      show _ ≤ 9223372036854775807
      omega
    clear h6
    refine loop2 T.length (fun j out H' => ∃ T1 : List FS, fns T1 = (fns T).take j ∧ Own H.size t_api_Function 11 H' out (T1.flatMap encF) ∧ GT H' T1 ∧ Ext H H') ⟨[], rfl, o6, (fun x hx => by cases hx), e3.trans e6⟩ ?_
    rintro j out H7 hj ⟨T1, hf1, o7, g7, e7⟩
    unfold F_hotplug_Add_r3
    have h1 : T1.length = j := by have := congrArg List.length hf1; simp at this; omega
    have n7 := Own.len rkFn o7
    refine iteB_dec (fun d2 => ?_) (fun d2 => ?_)
    · have hjn : j < T.length := by omega
      obtain ⟨a, hp, hr⟩ := (hT.ext e7).at hjn
      obtain ⟨p0, p1, p2, p3, p4, p5, p6, p7, p8, p9, p10⟩ := rdFn hr
      have hbars := hT.barsAt hjn
      have hbl := (hv.2 j hjn).va.bl
      have hrg : regs (fnAt T j).bridge ≤ 6 := by unfold regs; split <;> omega
      have htk := take_fns hjn
      generalize fnAt T j = f at *
      generalize slAt T j = fs at *
      refine ⟨by omega, by omega, unSome_mk hp ⟨_, p0, _, p1, _, p2, _, p3, _, p4, _, p5, _, p6, _, p7, _, p8, _, p9, fs, p10, local_mk (vs := fnL f fs) rfl rfl fun H9 e9 z9 b9 => ?_⟩⟩
      obtain ⟨q0, q1, q2, q3, q4, q5, q6, q7, q8, q9, q10⟩ := Blk.fn b9
      refine ⟨_, q0, _, q1, _, q2, _, q3, _, q4, _, q5, _, q6, _, q7, _, q8, _, q9, fs, q10, (copyFunction_spec f fs H9 (hbars.ext (e7.trans e9)) (by omega)).mono ?_⟩
      rintro v H10 ⟨cs, rfl, bc, tc, e10⟩
      refine ⟨_, _, _, _, _, _, _, _, _, _, cs, rfl, ?_⟩
      have e710 := e9.trans e10
      refine apR rkFn (f, cs) (lo := H.size) (o7.ext e710) (by omega) (e7.trans e710).size ?_
      intro s' H12 ho hn12 m12
      have nout : ∀ q, TyB H10 q t_api_Bar → ∀ a, q = some a → a.block ∉ blkOf out.p := fun q hq a ha => ty_ne hq (own_ty (o7.ext e710)) (by decide) a ha
      refine next2 hjn (by omega) ⟨T1 ++ [(f, cs)], ?_, ho, (GT.append (g7.ext e710) bc tc).mods m12 nout, Mods.ext (e7.trans e710) m12 (blkOf_new o7.new)⟩
      rw [htk, ← hf1]; simp
    · obtain rfl : j = T.length := by omega
      exact add_card hT hC hv hport hbusy (by omega) hcb o7 (by rw [hf1, List.take_of_length_le (by simp)]) g7 e7

end Go.Proofs.Ytnhhncjflnlfaaa
end

section
/-
  The contract of the reference's Add; ports that the laws choose; the law HotplugAdds.
-/
namespace Go.Proofs.Ytnhhncjflnlfaaa
open Go.Eng

/-- 'append([]Bar(nil), B...)' -/
theorem copyBars {B : List Bar} {s : Sl} {H : Heap} {K : Value → Heap → Prop} (h : Bars H s B) (hb : B.length * 16 ≤ 140737488355328) (hK : ∀ (c : Sl) (H' : Heap), Own H.size t_api_Bar 2 H' c (B.flatMap encBar) → Ext H H' → K (.slice c.p c.n c.c) H') :
    runH Try.prog (Builtin.append_ #[t_sl_api_Bar, t_sl_api_Bar] t_sl_api_Bar #[.slice none 0 0, .slice s.p s.n s.c]) H K := by
  refine apA rkBar (s := ⟨none, 0, 0⟩) (l := []) (lo := H.size) (Own.nil _ _ _ _) h (by simpa using hb) (Nat.le_refl _) ?_
  intro c H' o n m _
  exact hK c H' (by simpa using o) (m.to_ext)

theorem rAdd_spec (T C : List FS) (s c : Sl) (p : Int) (H : Heap) (hT : Topo H s T) (hC : Topo H c C) (hcl : C.length ≤ 1000) (hcb : ∀ x ∈ C, x.1.bars.length * 16 ≤ 140737488355328) :
    CallsH Try.prog n_ref21_Add #[.slice s.p s.n s.c, .int .i64 p, .slice c.p c.n c.c] H (fun v H' => ∃ (out : Sl) (e : Int) (L : List Fn) (T' : List FS), v = .tuple #[.slice out.p out.n out.c, .int .i64 e] ∧ AddIs T C p e L ∧ fns T' = L ∧ Topo H' out T' ∧ Ext H H') := by
  refine F_ref21_Add_ok _ _ _ ?_
  unfold F_ref21_Add
  have hn := hT.len
  have hcn := hC.len
  have no : ∀ e H', AddIs T C p e [] → Ext H H' → ∃ (out : Sl) (e' : Int) (L : List Fn) (T' : List FS), (.tuple #[.slice none 0 0, .int .i64 e] : Value) = .tuple #[.slice out.p out.n out.c, .int .i64 e'] ∧ AddIs T C p e' L ∧ fns T' = L ∧ Topo H' out T' ∧ Ext H H' := fun e H' ha he => ⟨⟨none, 0, 0⟩, e, [], [], rfl, ha, rfl, Topo.nil _, he⟩
  refine (rVal_spec T s H hT).mono ?_
  rintro v H1 ⟨rfl, e1⟩
  refine ⟨_, rfl, iteB_not (fun d => no _ _ (.inl ⟨by simpa using d, rfl, rfl⟩) e1) (fun d => ?_)⟩
  have hv : ValidT T := by simpa using d
  have hl64 := hv.1
  refine (rport_spec T s p H1 (hT.ext e1)).mono ?_
  rintro v H2 ⟨rfl, rfl⟩
  refine ⟨_, rfl, iteB_not (fun d => no _ _ (.inr (.inl ⟨hv, by simpa using d, rfl, rfl⟩)) e1) (fun d => ?_)⟩
  have hport : IsPort T p := by simpa using d
  refine (rBelow18_spec T s p H2 (hT.ext e1) hv).mono ?_
  rintro v H3 ⟨bl, rfl, hbl, e3⟩
  have x3 := e1.trans e3
  refine ⟨bl, rfl, iteB_dec (fun d1 => no _ _ (.inr (.inr (.inl ⟨hv, hport, hbl.1 (by omega), rfl, rfl⟩))) x3) (fun d1 => ?_)⟩
  have hbusy : ¬ Busy T p := fun hb => by have := hbl.2 hb; omega
  have bad : ∀ H', Ext H H' → ¬ Good T C p → ∃ (out : Sl) (e' : Int) (L : List Fn) (T' : List FS), (.tuple #[.slice none 0 0, .int .i64 1] : Value) = .tuple #[.slice out.p out.n out.c, .int .i64 e'] ∧ AddIs T C p e' L ∧ fns T' = L ∧ Topo H' out T' ∧ Ext H H' := fun H' he hg => no 1 H' (.inr (.inr (.inr (.inl ⟨hv, hport, hbusy, hg, rfl, rfl⟩)))) he
  refine apA rkFn (s := ⟨none, 0, 0⟩) (l := []) (lo := H3.size) (Own.nil _ _ _ _) (hT.is.ext x3) (by simp; omega) (Nat.le_refl _) ?_
  intro out H4 o4 n4 m4 _
  have x4 : Ext H H4 := x3.trans m4.to_ext
  refine ⟨out, rfl, ?_⟩
  have o4' : Own H.size t_api_Function 11 H4 out (T.flatMap encF) := by
    rw [List.nil_append] at o4
    obtain ⟨a, b⟩ := o4
    refine ⟨a, ?_⟩
    rcases b with b | ⟨g, cap, cur, u, v, w⟩
    · exact .inl b
    · exact .inr ⟨g, cap, cur, u, Nat.le_trans x3.size v, w⟩
  refine loop2 C.length (fun k out H' => ∃ C1 : List FS, fns C1 = ((fns C).map (adj p T.length)).take k ∧ Own H.size t_api_Function 11 H' out ((T ++ C1).flatMap encF) ∧ GT H' C1 ∧ Ext H H' ∧ ∀ i, i < k → -1 ≤ (fnAt C i).parent ∧ (fnAt C i).parent < i) ⟨[], rfl, by simpa using o4', (fun x hx => by cases hx), x4, fun i hi => by omega⟩ ?_
  rintro k out2 H5 hk ⟨C1, hC1, o5, g5, e5, hpar⟩
  unfold F_ref21_Add_r3
  have hc1 : C1.length = k := by have := congrArg List.length hC1; simp at this; omega
  have n5 := Own.len rkFn o5
  rw [List.length_append] at n5
  refine iteB_dec (fun c1 => ?_) (fun c1 => ?_)
  · have hkn : k < C.length := by omega
    obtain ⟨a, hp, hr⟩ := (hC.ext e5).at hkn
    obtain ⟨p0, p1, p2, p3, p4, p5, p6, p7, p8, p9, p10⟩ := rdFn hr
    have hbars := hC.barsAt hkn
    have hbl : (fnAt C k).bars.length * 16 ≤ 140737488355328 := by
      have : C.getD k zF = C[k] := by simp [List.getD, hkn]
      unfold fnAt; rw [this]; exact hcb _ (List.getElem_mem hkn)
    have hadj := adj_take p T.length hkn
    have hparG : Good T C p → -1 ≤ (fnAt C k).parent ∧ (fnAt C k).parent < k := fun hg => by
      have := hg.1 k (by simpa using hkn)
      rw [getD_take_fn hkn] at this
      exact this
    generalize hF : fnAt C k = f at *
    generalize slAt C k = fs at *
    refine ⟨by omega, by omega, unSome_mk hp ⟨_, p0, _, p1, _, p2, _, p3, _, p4, _, p5, _, p6, _, p7, _, p8, _, p9, fs, p10, local_mk (vs := fnL f fs) rfl rfl fun H7 e7 z7 b7 => ⟨fs, b7.rd (i := 10) rfl, copyBars (hbars.ext (e5.trans e7)) hbl ?_⟩⟩⟩
    intro cs H8 o8 e8
    refine ⟨cs, rfl, (b7.ext e8).ok (by simp), letH_mk ?_⟩
    intro H9 h9
    have b9 : Blk H9 H5.size t_api_Function (fnL f cs) := by rw [h9]; exact (b7.ext e8).wr1
    have m9 : Mods [H5.size] H8 H9 := by rw [h9]; exact mods_wr_add (by simp)
    clear h9
    have n8 : ∀ a, cs.p = some a → a.block ∉ [H5.size] := fun a ha => by have := o8.new a ha; simp; omega
    have o9 := o8.mods m9 n8
    have e59 : Ext H5 H9 := Mods.ext (e7.trans e8) m9 (by simp)
    have x9 := e5.trans e59
    have bt9 : TyB H9 (some ⟨H5.size, 0, none⟩) t_api_Function := fun a ha => by cases ha; exact ⟨_, _, b9⟩
    have n9 : ∀ a, cs.p = some a → a.block ∉ [H5.size] := fun a ha => by have := ty_ne (own_ty o9) bt9 (by decide) a ha; simpa [blkOf] using this
    refine ⟨fun H' => Blk H' H5.size t_api_Function (fnL (adj p T.length f) cs) ∧ Mods [H5.size] H9 H' ∧ -1 ≤ f.parent ∧ f.parent < k, ⟨fun b H' => (b = true ↔ ¬ (-1 ≤ f.parent ∧ f.parent < k)) ∧ H' = H9, ⟨_, b9.rd0 rfl, iteB_dec (fun d => ⟨by simp; omega, rfl⟩) (fun d => ⟨_, b9.rd0 rfl, by simp; omega, rfl⟩)⟩, ?_⟩, ?_⟩
    · rintro b H10 ⟨hb, rfl⟩
      unfold F_ref21_Add_k1
      refine iteB_intro (fun d => bad _ x9 (fun hg => hb.1 d (hparG hg))) (fun d => ?_)
      have hpk : -1 ≤ f.parent ∧ f.parent < k := by
        by_cases hh : -1 ≤ f.parent ∧ f.parent < k
        · exact hh
        · have := hb.2 hh; rw [d] at this; cases this
      refine ⟨_, b9.rd0 rfl, iteB_beq (fun d2 => ⟨b9.ok0 (by simp), letH_mk ?_⟩) (fun d2 => ⟨_, b9.rd0 rfl, b9.ok0 (by simp), letH_mk ?_⟩)⟩
      · rintro H11 rfl
        refine ⟨?_, Mods.wrs (by simp), hpk⟩
        have := b9.wr (o := 0) (ws := [.int .i64 p])
        have e : adj p T.length f = { f with parent := p } := by unfold adj; rw [if_pos d2]
        rw [e]
        exact this
      · rintro H11 rfl
        refine ⟨?_, Mods.wrs (by simp), hpk⟩
        have := b9.wr (o := 0) (ws := [.int .i64 (IntKind.i64.wrap (f.parent + (s.n : Int)))])
        rw [i64_in (by omega)] at this ⊢
        have e : adj p T.length f = { f with parent := f.parent + s.n } := by unfold adj; rw [if_neg d2, hn]
        rw [e]
        exact this
    · rintro H13 ⟨b13, m13, hpk⟩
      unfold F_ref21_Add_k2
      obtain ⟨u0, u1, u2, u3, u4, u5, u6, u7, u8, u9, u10⟩ := Blk.fn b13
      have e513 : Ext H5 H13 := Mods.ext e59 m13 (by simp)
      have o13 := o9.mods m13 n9
      refine ⟨_, u0, _, u1, _, u2, _, u3, _, u4, _, u5, _, u6, _, u7, _, u8, _, u9, cs, u10, ?_⟩
      refine apR rkFn (adj p T.length f, cs) (lo := H.size) (o5.ext e513) (by omega) (e5.trans e513).size ?_
      intro s' H15 ho hn15 m15
      have nout : ∀ q, TyB H13 q t_api_Bar → ∀ a, q = some a → a.block ∉ blkOf out2.p := fun q hq a ha => ty_ne hq (own_ty (o5.ext e513)) (by decide) a ha
      refine letV_mk _ rfl (next2 hkn (by omega) ⟨C1 ++ [(adj p T.length f, cs)], ?_, ?_, ?_, Mods.ext (e5.trans e513) m15 (blkOf_new o5.new), fun i hi => ?_⟩)
      · rw [hadj, ← hC1]; simp
      · rw [← List.append_assoc]; exact ho
      · exact (GT.append (f := adj p T.length f) (g5.ext e513) (Own.is rkBar o13) (own_ty o13)).mods m15 nout
      · by_cases e : i = k
        · subst e; rw [hF]; exact hpk
        · exact hpar i (by omega)
  · obtain rfl : k = C.length := by omega
    have hfull : fns (T ++ C1) = addL T C p := by
      show List.map _ _ = _
      rw [List.map_append]
      show fns T ++ fns C1 = _
      rw [hC1, List.take_of_length_le (by simp)]
      rfl
    have hT5 : Topo H5 out2 (T ++ C1) := ⟨Own.is rkFn o5, fun x hx => by
      simp only [List.mem_append] at hx
      rcases hx with hx | hx
      · exact (hT.bars x hx).ext e5
      · exact (g5 x hx).1⟩
    have hiff : ValidT (T ++ C1) ↔ ValidL (addL T C p) := by rw [ValidT_iff, hfull]
    refine (rVal_spec (T ++ C1) out2 H5 hT5).mono ?_
    rintro v H16 ⟨rfl, e16⟩
    refine ⟨_, rfl, iteB_not (fun d => bad _ (e5.trans e16) (fun hg => by simp at d; exact d (hiff.2 hg.2))) (fun d => ?_)⟩
    have hval : ValidT (T ++ C1) := by simpa using d
    refine ⟨out2, 0, _, T ++ C1, rfl, .inr (.inr (.inr (.inr ⟨hv, hport, hbusy, ⟨fun i hi => ?_, hiff.1 hval⟩, rfl, rfl⟩))), hfull, hT5.ext e16, e5.trans e16⟩
    have hi' : i < C.length := by simpa using hi
    rw [getD_take_fn hi']
    exact hpar i hi'

/-- The port that a law chooses. -/
theorem lport_spec (T : List FS) (s : Sl) (at' : Int) (H : Heap) (h : Topo H s T) (hl : T.length ≤ 1000) :
    CallsH Try.prog n_law23_port #[.slice s.p s.n s.c, .int .i64 at'] H (fun v H' => ∃ p : Int, v = .int .i64 p ∧ (p = -1 ∨ IsPort T p) ∧ Ext H H') := by
  refine F_law23_port_ok _ _ ?_
  unfold F_law23_port
  have hn := h.len
  refine loop2 T.length (fun k out H' => ∃ L : List Int, Own H.size t_int 1 H' out (L.flatMap (encI .i64)) ∧ L.length ≤ k ∧ (∀ x ∈ L, IsPort T x) ∧ Ext H H') ⟨[], Own.nil _ _ _ _, by simp, (fun x hx => by cases hx), .refl _⟩ ?_
  rintro k out H1 hk ⟨L, o1, l1, i1, e1⟩
  unfold F_law23_port_r1
  have n1 := Own.len rkInt o1
  refine iteB_dec (fun c => ?_) (fun c => ?_)
  · have hkn : k < T.length := by omega
    obtain ⟨a, hp, hr⟩ := (h.ext e1).at hkn
    obtain ⟨_, _, _, _, _, _, r6, _⟩ := rdFn hr
    refine ⟨by omega, by omega, unSome_mk hp ⟨_, r6, iteB_intro (fun d => ?_) (fun d => letV_mk _ rfl (next2 hkn (by omega) ⟨L, o1, by omega, i1, e1⟩))⟩⟩
    refine apR rkInt (k : Int) (lo := H.size) o1 (by omega) e1.size ?_
    intro s' H3 ho hn3 m3
    refine letV_mk _ rfl (next2 hkn (by omega) ⟨L ++ [(k : Int)], ho, by simp; omega, fun x hx => ?_, Mods.ext e1 m3 (blkOf_new o1.new)⟩)
    simp only [List.mem_append, List.mem_singleton] at hx
    rcases hx with hx | rfl
    · exact i1 x hx
    · exact ⟨by omega, by rw [Int.toNat_natCast]; exact d⟩
  · refine iteB_beq (fun d => ⟨-1, rfl, .inl rfl, e1⟩) (fun d => (Mod_spec _ _ H1 (by omega) (by omega)).mono ?_)
    rintro v H4 ⟨rfl, rfl⟩
    have hm := modI_range at' (n := (out.n : Int)) (by omega)
    obtain ⟨j, hj⟩ := Int.eq_ofNat_of_zero_le hm.1
    have hj' : j < L.length := by omega
    obtain ⟨a, hp, hr⟩ := Ints.atN (Own.is rkInt o1) hj'
    refine ⟨_, rfl, by omega, by omega, unSome_mk hp ⟨_, by rw [hj]; exact hr, _, rfl, .inr (i1 _ (getD_mem' 0 hj')), e1⟩⟩

theorem valid_regs {T : List FS} (hv : ValidT T) : ∀ x ∈ T, x.1.bars.length ≤ 6 := fun x hx => by
  obtain ⟨i, hi, rfl⟩ := List.getElem_of_mem hx
  have h1 := (hv.2 i hi).va.bl
  have h2 : T.getD i zF = T[i] := by simp [List.getD, hi]
  unfold fnAt at h1
  rw [h2] at h1
  have h3 : regs T[i].1.bridge ≤ 6 := by unfold regs; split <;> omega
  omega
theorem gtopo_len {most : Nat} {H : Heap} {v : Value} {H' : Heap} (h : GTopo most H v H') (_hm : most ≤ 64) : ∃ (t : Sl) (T : List FS), v = .slice t.p t.n t.c ∧ Topo H' t T ∧ ValidT T ∧ T.length ≤ most ∧ Ext H H' ∧ (∀ x ∈ T, x.1.bars.length ≤ 6) := by
  obtain ⟨t, T, rfl, hT, hv, hl, e⟩ := h
  exact ⟨t, T, rfl, hT, hv, by omega, e, valid_regs hv⟩

theorem law_adds (H : Heap) (s c : Sl) (L C0 : List FS) (at' : Int) (raw : Bool) (hL : Topo H s L) (hC : Topo H c C0) (hl : L.length ≤ 9223372036854775807) (hb : ∀ x ∈ L, x.1.bars.length ≤ 9223372036854775807) (hcl : C0.length ≤ 9223372036854775807) (hcb : ∀ x ∈ C0, x.1.bars.length * 16 ≤ 140737488355328) :
    CallsH Try.prog n_law23_HotplugAdds #[.slice s.p s.n s.c, .slice c.p c.n c.c, .int .i64 at', .bool raw] H (BoolP true H) := by
  refine F_law23_HotplugAdds_ok _ _ _ _ ?_
  unfold F_law23_HotplugAdds
  refine (gTopo_spec H s L 20 (by omega) hL hl hb).mono ?_
  intro v H1 h1
  obtain ⟨t, T, rfl, hT, hv, hT20, e1, hTb⟩ := gtopo_len h1 (by omega)
  refine ⟨t, rfl, F_law23_card_ok _ ?_⟩
  unfold F_law23_card
  refine (gTopo_spec H1 c C0 5 (by omega) (hC.ext e1) hcl (fun x hx => by have := hcb x hx; omega)).mono ?_
  intro v H2 h2
  obtain ⟨k, K, rfl, hK, hKv, hK5, e2, hKb⟩ := gtopo_len h2 (by omega)
  have hcn := hC.len
  refine ⟨k, rfl, k, rfl, fun _ cc H' => Ext H2 H' ∧ ∃ CC : List FS, Topo H' cc CC ∧ CC.length ≤ 70 ∧ ∀ x ∈ CC, x.1.bars.length * 16 ≤ 140737488355328, iteB_not (fun d => ?_) (fun d => iteB_dec (fun d1 => ⟨.refl _, C0, hC.ext (e1.trans e2), by omega, hcb⟩) (fun d1 => ⟨.refl _, K, hK, by omega, fun x hx => by have := hKb x hx; omega⟩)), ?_⟩
  · refine (lport_spec T t at' H2 (hT.ext e2) (by omega)).mono ?_
    rintro v H3 ⟨p, rfl, _, e3⟩
    exact ⟨p, rfl, e3, K, hK.ext e3, by omega, fun x hx => by have := hKb x hx; omega⟩
  rintro p cc H4 ⟨e4, CC, hCC, hCl, hCb⟩
  unfold F_law23_HotplugAdds_k1
  have hT4 := (hT.ext e2).ext e4
  refine (Add_spec T CC t cc p H4 hT4 hCC (by omega) hCb).mono ?_
  rintro v H5 ⟨a, ea, LA, TA, rfl, hA, hfA, hTA, _, e5⟩
  refine ⟨a, ea, rfl, (rAdd_spec T CC t cc p H5 (hT4.ext e5) (hCC.ext e5) (by omega) hCb).mono ?_⟩
  rintro v H6 ⟨b, eb, LB, TB, rfl, hB, hfB, hTB, e6⟩
  obtain ⟨rfl, rfl⟩ := hA.uni hB
  refine ⟨b, ea, rfl, (awake_spec H6).mono ?_⟩
  rintro v H7 ⟨rfl, e7⟩
  have lenA : LA.length ≤ 64 ∧ ∀ f ∈ LA, f.bars.length ≤ 140737488355328 := by
    rcases hA with ⟨_, _, rfl⟩ | ⟨_, _, _, rfl⟩ | ⟨_, _, _, _, rfl⟩ | ⟨_, _, _, _, _, rfl⟩ | ⟨_, _, _, hg, _, rfl⟩
    · simp
    · simp
    · simp
    · simp
    · refine ⟨by have := hg.2.1; simpa using this, fun f hf => ?_⟩
      simp only [addL, List.mem_append, List.mem_map] at hf
      rcases hf with ⟨x, hx, rfl⟩ | ⟨g, ⟨x, hx, rfl⟩, rfl⟩
      · have := hTb x hx; omega
      · have := hCb x hx
        show x.1.bars.length ≤ _
        omega
  have hlA : TA.length = LA.length := by rw [← hfA]; simp
  refine ⟨_, rfl, iteB_pos rfl ((EqualFunc_spec TA TB a b H7 ((hTA.ext e6).ext e7) (hTB.ext e7) (by omega) (fun x hx => ?_)).mono ?_)⟩
  · have := lenA.2 x.1 (by rw [← hfA]; exact List.mem_map.2 ⟨x, hx, rfl⟩)
    omega
  rintro v H8 ⟨q, rfl, hq, e8⟩
  have : q = true := hq.2 (by rw [hfA, hfB])
  subst this
  exact ⟨true, rfl, iteB_pos rfl ⟨by simp, (((((e1.trans e2).trans e4).trans e5).trans e6).trans e7).trans e8⟩⟩

end Go.Proofs.Ytnhhncjflnlfaaa
end

section
/-
  Ranges of addresses, in plain terms: which addresses a list covers; ascending lists with gaps are known by what they cover; merging, removing, cutting.
-/
namespace Go.Proofs.Ytnhhncjflnlfaaa
open Go.Eng
set_option linter.unusedVariables false

abbrev Rg := Int × Int
def Cov (l : List Rg) (x : Int) : Prop := ∃ r ∈ l, r.1 ≤ x ∧ x < r.1 + r.2
def Asc : List Rg → Prop
  | [] => True
  | r :: l => 1 ≤ r.2 ∧ (∀ s ∈ l, r.1 + r.2 < s.1) ∧ Asc l

theorem Cov_nil (x : Int) : ¬ Cov [] x := fun ⟨_, h, _⟩ => by cases h
theorem Cov_cons {r : Rg} {l : List Rg} {x : Int} : Cov (r :: l) x ↔ (r.1 ≤ x ∧ x < r.1 + r.2) ∨ Cov l x := by
  constructor
  · rintro ⟨s, hs, h⟩
    rcases List.mem_cons.1 hs with rfl | hs
    · exact .inl h
    · exact .inr ⟨s, hs, h⟩
  · rintro (h | ⟨s, hs, h⟩)
    · exact ⟨r, by simp, h⟩
    · exact ⟨s, by simp [hs], h⟩
theorem Cov_append {a b : List Rg} {x : Int} : Cov (a ++ b) x ↔ Cov a x ∨ Cov b x := by
  constructor
  · rintro ⟨s, hs, h⟩
    rcases List.mem_append.1 hs with hs | hs
    · exact .inl ⟨s, hs, h⟩
    · exact .inr ⟨s, hs, h⟩
  · rintro (⟨s, hs, h⟩ | ⟨s, hs, h⟩)
    · exact ⟨s, by simp [hs], h⟩
    · exact ⟨s, by simp [hs], h⟩
theorem Cov_perm {a b : List Rg} (h : a.Perm b) {x : Int} : Cov a x ↔ Cov b x :=
  ⟨fun ⟨s, hs, hh⟩ => ⟨s, h.mem_iff.1 hs, hh⟩, fun ⟨s, hs, hh⟩ => ⟨s, h.mem_iff.2 hs, hh⟩⟩

theorem Asc.len {l : List Rg} (h : Asc l) : ∀ r ∈ l, 1 ≤ r.2 := by
  induction l with
  | nil => intro r hr; cases hr
  | cons s l ih =>
    intro r hr
    rcases List.mem_cons.1 hr with rfl | hr
    · exact h.1
    · exact ih h.2.2 r hr

theorem Asc.head {r : Rg} {l : List Rg} (h : Asc (r :: l)) : Cov (r :: l) r.1 := Cov_cons.2 (.inl (by have := h.1; omega))
theorem Asc.least {r : Rg} {l : List Rg} (h : Asc (r :: l)) {x : Int} (hx : Cov (r :: l) x) : r.1 ≤ x := by
  rcases Cov_cons.1 hx with hx | ⟨s, hs, hx⟩
  · exact hx.1
  · have := h.2.1 s hs; have := h.1; omega
theorem Asc.gap {r : Rg} {l : List Rg} (h : Asc (r :: l)) : ¬ Cov (r :: l) (r.1 + r.2) := fun hx => by
  rcases Cov_cons.1 hx with hx | ⟨s, hs, hx⟩
  · omega
  · have := h.2.1 s hs; omega
theorem Asc.tail {r : Rg} {l : List Rg} (h : Asc (r :: l)) {x : Int} : Cov l x ↔ Cov (r :: l) x ∧ r.1 + r.2 ≤ x := by
  constructor
  · rintro ⟨s, hs, hx⟩
    have := h.2.1 s hs
    exact ⟨Cov_cons.2 (.inr ⟨s, hs, hx⟩), by omega⟩
  · rintro ⟨hx, hle⟩
    rcases Cov_cons.1 hx with hx | hx
    · omega
    · exact hx

theorem asc_unique : ∀ {l m : List Rg}, Asc l → Asc m → (∀ x, Cov l x ↔ Cov m x) → l = m
  | [], [], _, _, _ => rfl
  | [], s :: m, _, hm, h => absurd ((h s.1).2 hm.head) (Cov_nil _)
  | r :: l, [], hl, _, h => absurd ((h r.1).1 hl.head) (Cov_nil _)
  | r :: l, s :: m, hl, hm, h => by
    have h1 := hm.least ((h r.1).1 hl.head)
    have h2 := hl.least ((h s.1).2 hm.head)
    have e1 : r.1 = s.1 := by omega
    have g1 : ¬ Cov (s :: m) (r.1 + r.2) := fun hx => hl.gap ((h _).2 hx)
    have g2 : ¬ Cov (r :: l) (s.1 + s.2) := fun hx => hm.gap ((h _).1 hx)
    have e2 : r.2 = s.2 := by
      have n1 : ¬ (s.1 ≤ r.1 + r.2 ∧ r.1 + r.2 < s.1 + s.2) := fun hh => g1 (Cov_cons.2 (.inl hh))
      have n2 : ¬ (r.1 ≤ s.1 + s.2 ∧ s.1 + s.2 < r.1 + r.2) := fun hh => g2 (Cov_cons.2 (.inl hh))
      have := hl.1
      have := hm.1
      omega
    have e : r = s := Prod.ext e1 e2
    subst e
    rw [asc_unique hl.2.2 hm.2.2 (fun x => by rw [hl.tail, hm.tail, h])]

theorem Asc.append {a b : List Rg} (ha : Asc a) (hb : Asc b) (h : ∀ p ∈ a, ∀ q ∈ b, p.1 + p.2 < q.1) : Asc (a ++ b) := by
  induction a with
  | nil => exact hb
  | cons r a ih =>
    refine ⟨ha.1, fun s hs => ?_, ih ha.2.2 (fun p hp => h p (by simp [hp]))⟩
    rcases List.mem_append.1 hs with hs | hs
    · exact ha.2.1 s hs
    · exact h r (by simp) s hs

/-! ### merging -/

def Srt (l : List Rg) : Prop := l.Pairwise (fun a b => a.1 ≤ b.1)

def mrg : Rg → List Rg → List Rg
  | c, [] => [c]
  | c, x :: l => if x.1 ≤ c.1 + c.2 then mrg (c.1, max c.2 (x.1 + x.2 - c.1)) l else c :: mrg x l
def mergeS : List Rg → List Rg
  | [] => []
  | x :: l => mrg x l

theorem mrg_spec : ∀ (l : List Rg) (c : Rg), 1 ≤ c.2 → (∀ x ∈ l, c.1 ≤ x.1 ∧ 1 ≤ x.2) → Srt l →
    Asc (mrg c l) ∧ (∀ x, Cov (mrg c l) x ↔ Cov (c :: l) x) ∧ (∀ r ∈ mrg c l, c.1 ≤ r.1) ∧ (mrg c l).length ≤ l.length + 1
  | [], c, hc, _, _ => ⟨⟨hc, (fun s hs => by cases hs), trivial⟩, fun x => Iff.rfl, fun r hr => by simp [mrg] at hr; rw [hr]; omega, by simp [mrg]⟩
  | x :: l, c, hc, hl, hs => by
    have hx := hl x (by simp)
    have hs' : Srt l := (List.pairwise_cons.1 hs).2
    have hsx : ∀ y ∈ l, x.1 ≤ y.1 := (List.pairwise_cons.1 hs).1
    unfold mrg
    split
    · rename_i hle
      obtain ⟨h1, h2, h3, h4⟩ := mrg_spec l (c.1, max c.2 (x.1 + x.2 - c.1)) (by dsimp only; omega) (fun y hy => hl y (by simp [hy])) hs'
      refine ⟨h1, fun y => ?_, h3, by simp; omega⟩
      rw [h2, Cov_cons, Cov_cons, Cov_cons]
      dsimp only
      constructor
      · rintro (h | h)
        · by_cases hy : y < c.1 + c.2
          · exact .inl ⟨h.1, hy⟩
          · exact .inr (.inl (by omega))
        · exact .inr (.inr h)
      · rintro (h | h | h)
        · exact .inl (by omega)
        · exact .inl (by omega)
        · exact .inr h
    · rename_i hgt
      obtain ⟨h1, h2, h3, h4⟩ := mrg_spec l x hx.2 (fun y hy => ⟨hsx y hy, (hl y (by simp [hy])).2⟩) hs'
      refine ⟨⟨hc, fun s hs => by have := h3 s hs; omega, h1⟩, fun y => by rw [Cov_cons, h2, Cov_cons (l := x :: l)], fun r hr => ?_, by simp; omega⟩
      rcases List.mem_cons.1 hr with rfl | hr
      · omega
      · have := h3 r hr; omega

theorem mergeS_spec {l : List Rg} (hl : ∀ x ∈ l, 1 ≤ x.2) (hs : Srt l) : Asc (mergeS l) ∧ (∀ x, Cov (mergeS l) x ↔ Cov l x) ∧ (mergeS l).length ≤ l.length := by
  cases l with
  | nil => exact ⟨trivial, fun x => Iff.rfl, by simp [mergeS]⟩
  | cons x l =>
    obtain ⟨h1, h2, _, h4⟩ := mrg_spec l x (hl x (by simp)) (fun y hy => ⟨(List.pairwise_cons.1 hs).1 y hy, hl y (by simp [hy])⟩) (List.pairwise_cons.1 hs).2
    exact ⟨h1, h2, h4⟩

def rle (a b : Rg) : Bool := decide (a.1 ≤ b.1)
/-- What is covered, as an ascending list with gaps. -/
def mergeF (l : List Rg) : List Rg := mergeS (l.mergeSort rle)

theorem mergeF_srt (l : List Rg) : Srt (l.mergeSort rle) := by
  have := List.pairwise_mergeSort (le := rle) (fun a b c => by unfold rle; simp only [decide_eq_true_eq]; omega) (fun a b => by unfold rle; simp only [Bool.or_eq_true, decide_eq_true_eq]; omega) l
  exact this.imp (fun h => by unfold rle at h; simpa using h)
theorem mergeF_spec {l : List Rg} (hl : ∀ x ∈ l, 1 ≤ x.2) : Asc (mergeF l) ∧ (∀ x, Cov (mergeF l) x ↔ Cov l x) ∧ (mergeF l).length ≤ l.length := by
  have hp := List.mergeSort_perm l rle
  obtain ⟨h1, h2, h3⟩ := mergeS_spec (l := l.mergeSort rle) (fun x hx => hl x (hp.mem_iff.1 hx)) (mergeF_srt l)
  exact ⟨h1, fun x => by rw [show mergeF l = mergeS (l.mergeSort rle) from rfl, h2, Cov_perm hp], by rw [show mergeF l = mergeS (l.mergeSort rle) from rfl, ← hp.length_eq]; exact h3⟩
/-- Whatever order the equal ones have. -/
theorem mergeS_eq {l m : List Rg} (hl : ∀ x ∈ l, 1 ≤ x.2) (hp : m.Perm l) (hs : Srt m) : mergeS m = mergeF l := by
  obtain ⟨h1, h2, _⟩ := mergeS_spec (l := m) (fun x hx => hl x (hp.mem_iff.1 hx)) hs
  obtain ⟨h3, h4, _⟩ := mergeF_spec hl
  exact asc_unique h1 h3 (fun x => by rw [h2, h4, Cov_perm hp])
theorem mergeF_asc {l : List Rg} (h : Asc l) : mergeF l = l := by
  obtain ⟨h3, h4, _⟩ := mergeF_spec h.len
  exact asc_unique h3 h h4

/-! ### removing -/

def piece (f x : Rg) : List Rg :=
  if x.1 ≥ f.1 + f.2 ∨ x.1 + x.2 ≤ f.1 then [f] else (if f.1 < x.1 then [(f.1, x.1 - f.1)] else []) ++ (if x.1 + x.2 < f.1 + f.2 then [(x.1 + x.2, f.1 + f.2 - (x.1 + x.2))] else [])
def rmF (l : List Rg) (x : Rg) : List Rg := l.flatMap (fun f => piece f x)

theorem piece_spec {f x : Rg} (hf : 1 ≤ f.2) (hx : 1 ≤ x.2) : Asc (piece f x) ∧ (∀ y, Cov (piece f x) y ↔ (f.1 ≤ y ∧ y < f.1 + f.2) ∧ ¬ (x.1 ≤ y ∧ y < x.1 + x.2)) ∧ (∀ q ∈ piece f x, f.1 ≤ q.1 ∧ q.1 + q.2 ≤ f.1 + f.2) := by
  unfold piece
  split
  · rename_i h
    refine ⟨⟨hf, (fun s hs => by cases hs), trivial⟩, fun y => ?_, fun q hq => by simp at hq; rw [hq]; omega⟩
    rw [Cov_cons]
    constructor
    · rintro (hy | hy)
      · exact ⟨hy, by omega⟩
      · exact absurd hy (Cov_nil _)
    · rintro ⟨hy, _⟩; exact .inl hy
  · rename_i h
    have c1 : ∀ (p : Prop) [Decidable p] (r : Rg) y, Cov (if p then [r] else []) y ↔ p ∧ r.1 ≤ y ∧ y < r.1 + r.2 := by
      intro p _ r y
      split
      · rename_i hp
        rw [Cov_cons]
        exact ⟨fun hh => by rcases hh with hh | hh; exact ⟨hp, hh⟩; exact absurd hh (Cov_nil _), fun hh => .inl hh.2⟩
      · rename_i hp
        exact ⟨fun hh => absurd hh (Cov_nil _), fun hh => absurd hh.1 hp⟩
    refine ⟨?_, fun y => ?_, fun q hq => ?_⟩
    · refine Asc.append ?_ ?_ ?_
      · split
        · exact ⟨by dsimp only; omega, (fun s hs => by cases hs), trivial⟩
        · trivial
      · split
        · exact ⟨by dsimp only; omega, (fun s hs => by cases hs), trivial⟩
        · trivial
      · intro p hp q hq
        split at hp
        · split at hq
          · simp at hp hq
            rw [hp, hq]
            dsimp only
            omega
          · cases hq
        · cases hp
    · rw [Cov_append, c1, c1]
      dsimp only
      omega
    · rcases List.mem_append.1 hq with hq | hq
      · split at hq
        · simp at hq; rw [hq]; dsimp only; omega
        · cases hq
      · split at hq
        · simp at hq; rw [hq]; dsimp only; omega
        · cases hq

theorem rmF_spec {l : List Rg} {x : Rg} (h : Asc l) (hx : 1 ≤ x.2) : Asc (rmF l x) ∧ (∀ y, Cov (rmF l x) y ↔ Cov l y ∧ ¬ (x.1 ≤ y ∧ y < x.1 + x.2)) ∧ (∀ q ∈ rmF l x, ∃ f ∈ l, f.1 ≤ q.1 ∧ q.1 + q.2 ≤ f.1 + f.2) := by
  induction l with
  | nil => exact ⟨trivial, fun y => ⟨fun hh => absurd hh (Cov_nil _), fun hh => absurd hh.1 (Cov_nil _)⟩, fun q hq => by cases hq⟩
  | cons f l ih =>
    obtain ⟨i1, i2, i3⟩ := ih h.2.2
    obtain ⟨p1, p2, p3⟩ := piece_spec (x := x) h.1 hx
    have e : rmF (f :: l) x = piece f x ++ rmF l x := by unfold rmF; rw [List.flatMap_cons]
    rw [e]
    refine ⟨Asc.append p1 i1 (fun p hp q hq => ?_), fun y => ?_, fun q hq => ?_⟩
    · obtain ⟨g, hg, hgq⟩ := i3 q hq
      have := p3 p hp
      have := h.2.1 g hg
      omega
    · rw [Cov_append, p2, i2, Cov_cons]
      constructor
      · rintro (⟨a, b⟩ | ⟨a, b⟩)
        · exact ⟨.inl a, b⟩
        · exact ⟨.inr a, b⟩
      · rintro ⟨a | a, b⟩
        · exact .inl ⟨a, b⟩
        · exact .inr ⟨a, b⟩
    · rcases List.mem_append.1 hq with hq | hq
      · exact ⟨f, by simp, p3 q hq⟩
      · obtain ⟨g, hg, hgq⟩ := i3 q hq
        exact ⟨g, by simp [hg], hgq⟩

theorem piece_len (f x : Rg) : (piece f x).length ≤ 2 := by
  unfold piece
  split
  · simp
  · rw [List.length_append]
    split <;> split <;> simp

/-- The free space. -/
def freeF (l fixed : List Rg) : List Rg := fixed.foldl rmF (mergeF l)

theorem foldl_rm {m : List Rg} : ∀ (fixed : List Rg), (∀ x ∈ fixed, 1 ≤ x.2) → Asc m → Asc (fixed.foldl rmF m) ∧ ∀ y, Cov (fixed.foldl rmF m) y ↔ Cov m y ∧ ¬ Cov fixed y := by
  intro fixed
  induction fixed generalizing m with
  | nil => intro _ h; exact ⟨h, fun y => ⟨fun hh => ⟨hh, Cov_nil _⟩, fun hh => hh.1⟩⟩
  | cons x fixed ih =>
    intro hx h
    obtain ⟨r1, r2, _⟩ := rmF_spec h (hx x (by simp))
    obtain ⟨i1, i2⟩ := ih (fun y hy => hx y (by simp [hy])) r1
    refine ⟨i1, fun y => ?_⟩
    show Cov (fixed.foldl rmF (rmF m x)) y ↔ _
    rw [i2, r2, Cov_cons]
    constructor
    · rintro ⟨⟨a, b⟩, c⟩; exact ⟨a, fun hh => by rcases hh with hh | hh; exact b hh; exact c hh⟩
    · rintro ⟨a, b⟩; exact ⟨⟨a, fun hh => b (.inl hh)⟩, fun hh => b (.inr hh)⟩
theorem freeF_spec {l fixed : List Rg} (hl : ∀ x ∈ l, 1 ≤ x.2) (hf : ∀ x ∈ fixed, 1 ≤ x.2) : Asc (freeF l fixed) ∧ ∀ y, Cov (freeF l fixed) y ↔ Cov l y ∧ ¬ Cov fixed y := by
  obtain ⟨m1, m2, _⟩ := mergeF_spec hl
  obtain ⟨h1, h2⟩ := foldl_rm fixed hf m1
  exact ⟨h1, fun y => by rw [show freeF l fixed = fixed.foldl rmF (mergeF l) from rfl, h2, m2]⟩

/-! ### cutting holes out of one range after the other -/

def cutR (e : Int) : Int → List Rg → List Rg
  | b, [] => if b < e then [(b, e - b)] else []
  | b, h :: hs => if h.1 + h.2 ≤ b ∨ h.1 ≥ e then cutR e b hs else (if h.1 > b then [(b, h.1 - b)] else []) ++ cutR e (min e (h.1 + h.2)) hs

theorem cutR_spec (e : Int) : ∀ (hs : List Rg) (b : Int), b ≤ e → Asc hs → Asc (cutR e b hs) ∧ (∀ y, Cov (cutR e b hs) y ↔ (b ≤ y ∧ y < e) ∧ ¬ Cov hs y) ∧ (∀ q ∈ cutR e b hs, b ≤ q.1 ∧ q.1 + q.2 ≤ e)
  | [], b, hb, _ => by
    unfold cutR
    split
    · refine ⟨⟨by dsimp only; omega, (fun s hs => by cases hs), trivial⟩, fun y => ?_, fun q hq => by simp at hq; rw [hq]; dsimp only; omega⟩
      rw [Cov_cons]
      dsimp only
      exact ⟨fun hh => by rcases hh with hh | hh; exact ⟨by omega, Cov_nil _⟩; exact absurd hh (Cov_nil _), fun hh => .inl (by omega)⟩
    · exact ⟨trivial, fun y => ⟨fun hh => absurd hh (Cov_nil _), fun hh => by omega⟩, fun q hq => by cases hq⟩
  | h :: hs, b, hb, ha => by
    unfold cutR
    split
    · rename_i hc
      obtain ⟨i1, i2, i3⟩ := cutR_spec e hs b hb ha.2.2
      refine ⟨i1, fun y => ?_, i3⟩
      rw [i2, Cov_cons]
      constructor
      · rintro ⟨p, q⟩; exact ⟨p, fun hh => by rcases hh with hh | hh; omega; exact q hh⟩
      · rintro ⟨p, q⟩; exact ⟨p, fun hh => q (.inr hh)⟩
    · rename_i hc
      have hl := ha.1
      obtain ⟨i1, i2, i3⟩ := cutR_spec e hs (min e (h.1 + h.2)) (by omega) ha.2.2
      refine ⟨Asc.append ?_ i1 ?_, fun y => ?_, fun q hq => ?_⟩
      · split
        · exact ⟨by dsimp only; omega, (fun s hs => by cases hs), trivial⟩
        · trivial
      · intro p hp q hq
        split at hp
        · simp at hp
          have := i3 q hq
          rw [hp]
          dsimp only
          omega
        · cases hp
      · rw [Cov_append, i2, Cov_cons]
        have htail : Cov hs y → h.1 + h.2 < y := fun ⟨s, hs', hy⟩ => by have := ha.2.1 s hs'; omega
        constructor
        · rintro (hy | ⟨hy, hn⟩)
          · split at hy
            · rcases Cov_cons.1 hy with hy | hy
              · dsimp only at hy
                exact ⟨by omega, fun hh => by rcases hh with hh | hh; omega; have := htail hh; omega⟩
              · exact absurd hy (Cov_nil _)
            · exact absurd hy (Cov_nil _)
          · exact ⟨by omega, fun hh => by rcases hh with hh | hh; omega; exact hn hh⟩
        · rintro ⟨hy, hn⟩
          by_cases hlt : y < h.1
          · left
            rw [if_pos (by omega)]
            exact Cov_cons.2 (.inl (by dsimp only; omega))
          · right
            exact ⟨by have : ¬ (h.1 ≤ y ∧ y < h.1 + h.2) := fun hh => hn (.inl hh); omega, fun hh => hn (.inr hh)⟩
      · rcases List.mem_append.1 hq with hq | hq
        · split at hq
          · simp at hq; rw [hq]; dsimp only; omega
          · cases hq
        · have := i3 q hq; omega

theorem cutL_eq {l fixed : List Rg} (hl : ∀ x ∈ l, 1 ≤ x.2) (hf : ∀ x ∈ fixed, 1 ≤ x.2) : (mergeF l).flatMap (fun r => cutR (r.1 + r.2) r.1 (mergeF fixed)) = freeF l fixed := by
  obtain ⟨m1, m2, _⟩ := mergeF_spec hl
  obtain ⟨f1, f2, _⟩ := mergeF_spec hf
  obtain ⟨g1, g2⟩ := freeF_spec hl hf
  have key : ∀ (m : List Rg), Asc m → Asc (m.flatMap (fun r => cutR (r.1 + r.2) r.1 (mergeF fixed))) ∧ (∀ y, Cov (m.flatMap (fun r => cutR (r.1 + r.2) r.1 (mergeF fixed))) y ↔ Cov m y ∧ ¬ Cov fixed y) ∧ (∀ q ∈ m.flatMap (fun r => cutR (r.1 + r.2) r.1 (mergeF fixed)), ∃ r ∈ m, r.1 ≤ q.1 ∧ q.1 + q.2 ≤ r.1 + r.2) := by
    intro m
    induction m with
    | nil => intro _; exact ⟨trivial, fun y => ⟨fun hh => absurd hh (Cov_nil _), fun hh => absurd hh.1 (Cov_nil _)⟩, fun q hq => by cases hq⟩
    | cons r m ih =>
      intro h
      obtain ⟨i1, i2, i3⟩ := ih h.2.2
      have hr := h.1
      obtain ⟨c1, c2, c3⟩ := cutR_spec (r.1 + r.2) (mergeF fixed) r.1 (by omega) f1
      rw [List.flatMap_cons]
      refine ⟨Asc.append c1 i1 (fun p hp q hq => ?_), fun y => ?_, fun q hq => ?_⟩
      · obtain ⟨g, hg, hgq⟩ := i3 q hq
        have := c3 p hp
        have := h.2.1 g hg
        omega
      · rw [Cov_append, c2, i2, Cov_cons, f2]
        constructor
        · rintro (⟨a, b⟩ | ⟨a, b⟩)
          · exact ⟨.inl a, b⟩
          · exact ⟨.inr a, b⟩
        · rintro ⟨a | a, b⟩
          · exact .inl ⟨a, b⟩
          · exact .inr ⟨a, b⟩
      · rcases List.mem_append.1 hq with hq | hq
        · exact ⟨r, by simp, c3 q hq⟩
        · obtain ⟨g, hg, hgq⟩ := i3 q hq
          exact ⟨g, by simp [hg], hgq⟩
  obtain ⟨k1, k2, _⟩ := key _ m1
  exact asc_unique k1 g1 (fun y => by rw [k2, g2, m2])

end Go.Proofs.Ytnhhncjflnlfaaa
end

section
/-
  Aligned blocks, in plain terms: how many there are; placing items, greatest first, at the lowest place; when it goes.
-/
namespace Go.Proofs.Ytnhhncjflnlfaaa
open Go.Eng
set_option linter.unusedVariables false

/-- The quotient, rounded up. -/
def cd (a P : Int) : Int := (a + P - 1) / P
theorem cd_spec {a P : Int} (hP : 0 < P) : a ≤ cd a P * P ∧ cd a P * P < a + P := by
  unfold cd
  have h1 : (a + P - 1) / P * P ≤ a + P - 1 := Int.ediv_mul_le _ (by omega)
  have h2 : a + P - 1 < ((a + P - 1) / P + 1) * P := Int.lt_ediv_add_one_mul_self _ hP
  rw [Int.add_mul, Int.one_mul] at h2
  omega
theorem fl_spec {a P : Int} (hP : 0 < P) : a / P * P ≤ a ∧ a < a / P * P + P := by
  have h1 : a / P * P ≤ a := Int.ediv_mul_le _ (by omega)
  have h2 : a < (a / P + 1) * P := Int.lt_ediv_add_one_mul_self _ hP
  rw [Int.add_mul, Int.one_mul] at h2
  omega
theorem mul_le_of {x y P : Int} (hP : 0 < P) (h : x * P ≤ y * P) : x ≤ y := Int.le_of_mul_le_mul_right h hP
theorem mul_lt_of {x y P : Int} (hP : 0 < P) (h : x * P < y * P) : x < y := Int.lt_of_mul_lt_mul_right h (by omega)
theorem cd_le {a z P : Int} (hP : 0 < P) (h : a ≤ z * P) : cd a P ≤ z := by
  have h1 := (cd_spec (a := a) hP).2
  have : cd a P * P < (z + 1) * P := by rw [Int.add_mul, Int.one_mul]; omega
  have := mul_lt_of hP this
  omega
theorem cd_mul {z P : Int} (hP : 0 < P) : cd (z * P) P = z := by
  have h1 := cd_spec (a := z * P) hP
  have a1 := mul_le_of hP h1.1
  have a2 := cd_le hP (Int.le_refl (z * P))
  omega
theorem le_fl {b z P : Int} (hP : 0 < P) (h : z * P ≤ b) : z ≤ b / P := (Int.le_ediv_iff_mul_le hP).2 h
theorem fl_mul {z P : Int} (hP : 0 < P) : z * P / P = z := Int.mul_ediv_cancel _ (by omega)

/-- How many aligned blocks of size 'P' a range holds, a list holds. -/
def blkP (P : Int) (r : Rg) : Int := max 0 ((r.1 + r.2) / P - cd r.1 P)
def blkN (P : Int) : List Rg → Int
  | [] => 0
  | r :: l => blkP P r + blkN P l
theorem blkP_nn (P : Int) (r : Rg) : 0 ≤ blkP P r := by unfold blkP; omega
theorem blkN_nn (P : Int) (l : List Rg) : 0 ≤ blkN P l := by
  induction l with
  | nil => simp [blkN]
  | cons r l ih => have := blkP_nn P r; simp only [blkN]; omega
theorem blkN_append (P : Int) (a b : List Rg) : blkN P (a ++ b) = blkN P a + blkN P b := by
  induction a with
  | nil => simp [blkN]
  | cons r a ih => simp only [List.cons_append, blkN, ih]; omega

theorem blkP_cut {P z D : Int} {r : Rg} (hP : 0 < P) (hD : 1 ≤ D) (h1 : r.1 ≤ z * P) (h2 : z * P + D * P ≤ r.1 + r.2) :
    blkP P (r.1, z * P - r.1) + blkP P (z * P + D * P, r.1 + r.2 - (z * P + D * P)) + D = blkP P r := by
  unfold blkP
  dsimp only
  have e1 : r.1 + (z * P - r.1) = z * P := by omega
  have e2 : z * P + D * P + (r.1 + r.2 - (z * P + D * P)) = r.1 + r.2 := by omega
  have e3 : z * P + D * P = (z + D) * P := by rw [Int.add_mul]
  rw [e1, e2, fl_mul hP, e3, cd_mul hP]
  have a1 := cd_le hP h1
  have a2 := le_fl hP (show (z + D) * P ≤ r.1 + r.2 by rw [← e3]; exact h2)
  omega

theorem blkP_zero {P b : Int} (hP : 0 < P) : blkP P (b, 0) = 0 := by
  unfold blkP
  dsimp only
  rw [Int.add_zero]
  have h1 := (cd_spec (a := b) hP).1
  have h2 := (fl_spec (a := b) hP).1
  have : b / P * P ≤ cd b P * P := by omega
  have := mul_le_of hP this
  omega

theorem blkN_piece {P : Int} {f : Rg} {z D : Int} (hP : 0 < P) (hD : 1 ≤ D) (h1 : f.1 ≤ z * P) (h2 : z * P + D * P ≤ f.1 + f.2) : blkN P (piece f (z * P, D * P)) + D = blkP P f := by
  have hDP : 0 < D * P := Int.mul_pos (by omega) hP
  rw [← blkP_cut hP hD h1 h2]
  unfold piece
  dsimp only
  rw [if_neg (by omega), blkN_append]
  congr 1
  congr 1
  · split
    · simp [blkN]
    · rw [show z * P - f.1 = 0 by omega, blkP_zero hP]; rfl
  · split
    · simp [blkN]
    · rw [show f.1 + f.2 - (z * P + D * P) = 0 by omega, blkP_zero hP]; rfl
theorem piece_apart {f x : Rg} (h : x.1 ≥ f.1 + f.2 ∨ x.1 + x.2 ≤ f.1) : piece f x = [f] := by unfold piece; rw [if_pos h]

theorem rmF_apart {l : List Rg} {x : Rg} (h : ∀ f ∈ l, x.1 ≥ f.1 + f.2 ∨ x.1 + x.2 ≤ f.1) : rmF l x = l := by
  induction l with
  | nil => rfl
  | cons f l ih =>
    have e : rmF (f :: l) x = piece f x ++ rmF l x := by unfold rmF; rw [List.flatMap_cons]
    rw [e, piece_apart (h f (by simp)), ih (fun g hg => h g (by simp [hg]))]
    rfl

/-- What lies in one range lies in no other. -/
theorem rmF_in {a b : List Rg} {f x : Rg} (h : Asc (a ++ f :: b)) (hx : 1 ≤ x.2) (h1 : f.1 ≤ x.1) (h2 : x.1 + x.2 ≤ f.1 + f.2) : rmF (a ++ f :: b) x = a ++ piece f x ++ b := by
  have e : rmF (a ++ f :: b) x = rmF a x ++ (piece f x ++ rmF b x) := by unfold rmF; rw [List.flatMap_append, List.flatMap_cons]
  have hsplit : (∀ g ∈ a, g.1 + g.2 < f.1) ∧ (∀ g ∈ b, f.1 + f.2 < g.1) := by
    clear e
    induction a with
    | nil => exact ⟨(fun g hg => by cases hg), fun g hg => h.2.1 g hg⟩
    | cons r a ih =>
      obtain ⟨i1, i2⟩ := ih h.2.2
      refine ⟨fun g hg => ?_, i2⟩
      rcases List.mem_cons.1 hg with rfl | hg
      · exact h.2.1 f (by simp)
      · exact i1 g hg
  rw [e, rmF_apart (l := a) (fun g hg => by have := hsplit.1 g hg; omega), rmF_apart (l := b) (fun g hg => by have := hsplit.2 g hg; omega), List.append_assoc]

theorem blkN_rm {l : List Rg} {f : Rg} {P z D : Int} (h : Asc l) (hf : f ∈ l) (hP : 0 < P) (hD : 1 ≤ D) (h1 : f.1 ≤ z * P) (h2 : z * P + D * P ≤ f.1 + f.2) : blkN P (rmF l (z * P, D * P)) + D = blkN P l := by
  obtain ⟨a, b, rfl⟩ := List.append_of_mem hf
  have hDP : 0 < D * P := Int.mul_pos (by omega) hP
  rw [rmF_in h (by dsimp only; omega) h1 h2, blkN_append, blkN_append, blkN_append]
  have := blkN_piece (f := f) hP hD h1 h2
  simp only [blkN]
  omega

/-! ### placing -/

def fitQ (P : Int) (r : Rg) : Bool := decide (cd r.1 P * P + P ≤ r.1 + r.2)
theorem fitQ_iff {P : Int} (hP : 0 < P) (r : Rg) : fitQ P r = true ↔ 1 ≤ blkP P r := by
  unfold fitQ blkP
  rw [decide_eq_true_eq]
  constructor
  · intro h
    have := le_fl hP (show (cd r.1 P + 1) * P ≤ r.1 + r.2 by rw [Int.add_mul, Int.one_mul]; exact h)
    omega
  · intro h
    have h1 : cd r.1 P + 1 ≤ (r.1 + r.2) / P := by omega
    have h2 := (Int.le_ediv_iff_mul_le hP).1 h1
    rw [Int.add_mul, Int.one_mul] at h2
    exact h2

def takeF (l : List Rg) (P : Int) : Option (Int × List Rg) :=
  match l.find? (fitQ P) with
  | none => none
  | some r => some (cd r.1 P * P, rmF l (cd r.1 P * P, P))

theorem blkN_pos {l : List Rg} {P : Int} (hP : 0 < P) : 1 ≤ blkN P l ↔ ∃ r ∈ l, fitQ P r = true := by
  induction l with
  | nil => simp [blkN]
  | cons r l ih =>
    have n1 := blkP_nn P r
    have n2 := blkN_nn P l
    simp only [blkN]
    constructor
    · intro h
      by_cases h1 : 1 ≤ blkP P r
      · exact ⟨r, by simp, (fitQ_iff hP r).2 h1⟩
      · obtain ⟨s, hs, hq⟩ := ih.1 (by omega)
        exact ⟨s, by simp [hs], hq⟩
    · rintro ⟨s, hs, hq⟩
      rcases List.mem_cons.1 hs with rfl | hs
      · have := (fitQ_iff hP s).1 hq; omega
      · have := ih.2 ⟨s, hs, hq⟩; omega

theorem takeF_none {l : List Rg} {P : Int} (hP : 0 < P) : takeF l P = none ↔ blkN P l = 0 := by
  have hn := blkN_nn P l
  have hp := blkN_pos (l := l) hP
  unfold takeF
  constructor
  · intro h
    cases hf : l.find? (fitQ P) with
    | none =>
      have := List.find?_eq_none.1 hf
      by_cases h1 : 1 ≤ blkN P l
      · obtain ⟨r, hr, hq⟩ := hp.1 h1
        exact absurd hq (this r hr)
      · omega
    | some r => rw [hf] at h; cases h
  · intro h
    cases hf : l.find? (fitQ P) with
    | none => rfl
    | some r =>
      have := hp.2 ⟨r, List.mem_of_find?_eq_some hf, List.find?_some hf⟩
      omega

theorem takeF_some {l l' : List Rg} {b P : Int} (h : takeF l P = some (b, l')) (hP : 0 < P) : ∃ r ∈ l, r.1 ≤ b ∧ b + P ≤ r.1 + r.2 ∧ b = cd r.1 P * P ∧ l' = rmF l (b, P) := by
  unfold takeF at h
  cases hf : l.find? (fitQ P) with
  | none => rw [hf] at h; cases h
  | some r =>
    rw [hf] at h
    simp only [Option.some.injEq, Prod.mk.injEq] at h
    obtain ⟨rfl, rfl⟩ := h
    have hq := List.find?_some hf
    unfold fitQ at hq
    rw [decide_eq_true_eq] at hq
    exact ⟨r, List.mem_of_find?_eq_some hf, (cd_spec hP).1, hq, rfl, rfl⟩

theorem pow_pos2 (k : Nat) : (0 : Int) < 2 ^ k := Int.pow_pos (by omega)
theorem pow_split {j k : Nat} (h : j ≤ k) : (2 : Int) ^ k = 2 ^ (k - j) * 2 ^ j := by rw [← Int.pow_add, show k - j + j = k by omega]
theorem pow_ge1 (k : Nat) : (1 : Int) ≤ 2 ^ k := by have := pow_pos2 k; omega

/-- A block taken out: so many smaller blocks less. -/
theorem blkN_take {l : List Rg} {f : Rg} {j k : Nat} {y : Int} (h : Asc l) (hf : f ∈ l) (hj : j ≤ k) (h1 : f.1 ≤ y * 2 ^ k) (h2 : y * 2 ^ k + 2 ^ k ≤ f.1 + f.2) : blkN (2 ^ j) (rmF l (y * 2 ^ k, 2 ^ k)) + 2 ^ (k - j) = blkN (2 ^ j) l := by
  have e1 : y * (2 : Int) ^ k = (y * 2 ^ (k - j)) * 2 ^ j := by rw [pow_split hj, Int.mul_assoc]
  have e2 := pow_split hj
  rw [e1] at h1 h2 ⊢
  have := blkN_rm (P := 2 ^ j) (z := y * 2 ^ (k - j)) (D := 2 ^ (k - j)) h hf (pow_pos2 j) (pow_ge1 _) h1 (by rw [← e2]; exact h2)
  rw [← e2] at this
  exact this

/-- The bytes that items of size at least 'k' want. -/
def dem (k : Nat) : List Nat → Int
  | [] => 0
  | s :: ss => (if k ≤ s then 2 ^ s else 0) + dem k ss
theorem dem_nn (k : Nat) (ss : List Nat) : 0 ≤ dem k ss := by
  induction ss with
  | nil => simp [dem]
  | cons s ss ih => have := pow_pos2 s; simp only [dem]; split <;> omega
theorem dem_small {k : Nat} {ss : List Nat} (h : ∀ s ∈ ss, s < k) : dem k ss = 0 := by
  induction ss with
  | nil => rfl
  | cons s ss ih =>
    have := h s (by simp)
    simp only [dem]
    rw [if_neg (by omega), ih (fun t ht => h t (by simp [ht]))]
    rfl

def Desc : List Nat → Prop
  | [] => True
  | s :: ss => (∀ t ∈ ss, t ≤ s) ∧ Desc ss

/-- Some placement of the items, in this order. -/
def Plc : List Nat → List Rg → Prop
  | [], _ => True
  | s :: ss, l => ∃ y : Int, (∀ x, y * 2 ^ s ≤ x → x < y * 2 ^ s + 2 ^ s → Cov l x) ∧ Plc ss (rmF l (y * 2 ^ s, 2 ^ s))

theorem Asc.gap_mem {l : List Rg} (h : Asc l) : ∀ r ∈ l, ¬ Cov l (r.1 + r.2) := by
  induction l with
  | nil => intro r hr; cases hr
  | cons s l ih =>
    intro r hr
    rcases List.mem_cons.1 hr with rfl | hr
    · exact h.gap
    · intro hc
      have h1 := h.2.1 r hr
      have h2 := Asc.len h.2.2 r hr
      rcases Cov_cons.1 hc with hc | hc
      · omega
      · exact ih h.2.2 r hr hc
theorem cov_block {l : List Rg} (h : Asc l) {a b : Int} (hab : a < b) (hc : ∀ x, a ≤ x → x < b → Cov l x) : ∃ r ∈ l, r.1 ≤ a ∧ b ≤ r.1 + r.2 := by
  obtain ⟨r, hr, h1, h2⟩ := hc a (Int.le_refl _) hab
  refine ⟨r, hr, h1, ?_⟩
  by_cases hlt : r.1 + r.2 < b
  · exact absurd (hc (r.1 + r.2) (by omega) hlt) (h.gap_mem r hr)
  · omega

def Room (ss : List Nat) (l : List Rg) : Prop := ∀ k, dem k ss ≤ blkN (2 ^ k) l * 2 ^ k

theorem room_step {s : Nat} {ss : List Nat} {l : List Rg} {f : Rg} {y : Int} (hd : Desc (s :: ss)) (h : Asc l) (hf : f ∈ l) (h1 : f.1 ≤ y * 2 ^ s) (h2 : y * 2 ^ s + 2 ^ s ≤ f.1 + f.2) : Room (s :: ss) l ↔ Room ss (rmF l (y * 2 ^ s, 2 ^ s)) := by
  constructor
  · intro hr k
    by_cases hk : k ≤ s
    · have hb := blkN_take (j := k) h hf hk h1 h2
      have hd2 := hr k
      simp only [dem] at hd2
      rw [if_pos hk, pow_split hk] at hd2
      rw [← hb, Int.add_mul] at hd2
      omega
    · rw [dem_small (fun t ht => by have := hd.1 t ht; omega)]
      exact Int.mul_nonneg (blkN_nn _ _) (by have := pow_pos2 k; omega)
  · intro hr k
    by_cases hk : k ≤ s
    · have hb := blkN_take (j := k) h hf hk h1 h2
      have hd2 := hr k
      simp only [dem]
      rw [if_pos hk, pow_split hk, ← hb, Int.add_mul]
      omega
    · simp only [dem]
      rw [if_neg hk, dem_small (fun t ht => by have := hd.1 t ht; omega)]
      have := Int.mul_nonneg (blkN_nn (2 ^ k) l) (by have := pow_pos2 k; omega : (0 : Int) ≤ 2 ^ k)
      omega

theorem plc_room : ∀ (ss : List Nat) (l : List Rg), Desc ss → Asc l → Plc ss l → Room ss l
  | [], l, _, _, _ => fun k => by
    have := Int.mul_nonneg (blkN_nn (2 ^ k) l) (by have := pow_pos2 k; omega : (0 : Int) ≤ 2 ^ k)
    simpa [dem] using this
  | s :: ss, l, hd, ha, ⟨y, hc, hp⟩ => by
    obtain ⟨f, hf, h1, h2⟩ := cov_block ha (by have := pow_pos2 s; omega) hc
    refine (room_step hd ha hf h1 h2).2 (plc_room ss _ hd.2 (rmF_spec ha (pow_ge1 s)).1 hp)

def placeL : List Nat → List Rg → Option (List Int)
  | [], _ => some []
  | s :: ss, l => match takeF l (2 ^ s) with
    | none => none
    | some (b, l') => (placeL ss l').map (b :: ·)

theorem room_place : ∀ (ss : List Nat) (l : List Rg), Desc ss → Asc l → (Room ss l ↔ (placeL ss l).isSome = true)
  | [], l, _, _ => by
    simp only [placeL, Option.isSome_some, iff_true]
    exact plc_room [] l trivial (by assumption) trivial
  | s :: ss, l, hd, ha => by
    have hP := pow_pos2 s
    cases ht : takeF l (2 ^ s) with
    | none =>
      have h0 := (takeF_none hP).1 ht
      constructor
      · intro hr
        have := hr s
        simp only [dem] at this
        rw [if_pos (Nat.le_refl _), h0] at this
        have := dem_nn s ss
        omega
      · intro h; rw [placeL, ht] at h; cases h
    | some x =>
      obtain ⟨b, l'⟩ := x
      obtain ⟨r, hr, h1, h2, h3, h4⟩ := takeF_some ht hP
      rw [h3] at h1 h2 h4
      rw [room_step hd ha hr h1 h2, ← h4, room_place ss l' hd.2 (by rw [h4]; exact (rmF_spec ha (pow_ge1 s)).1)]
      simp only [placeL, ht, Option.isSome_map]

theorem place_plc : ∀ (ss : List Nat) (l : List Rg), (placeL ss l).isSome = true → Plc ss l
  | [], _, _ => trivial
  | s :: ss, l, h => by
    have hP := pow_pos2 s
    cases ht : takeF l (2 ^ s) with
    | none => rw [placeL, ht] at h; cases h
    | some x =>
      obtain ⟨b, l'⟩ := x
      obtain ⟨r, hr, h1, h2, h3, h4⟩ := takeF_some ht hP
      simp only [placeL, ht, Option.isSome_map] at h
      refine ⟨cd r.1 (2 ^ s), fun x hx1 hx2 => ⟨r, hr, ?_⟩, ?_⟩
      · rw [← h3] at hx1 hx2; omega
      · rw [← h3, ← h4]; exact place_plc ss l' h

end Go.Proofs.Ytnhhncjflnlfaaa
end

section
/-
  The size of a window: the program's and the reference's.
-/
namespace Go.Proofs.Ytnhhncjflnlfaaa
open Go.Eng

def sumW : List Int → Int
  | [] => 0
  | x :: l => 2 ^ x.toNat + sumW l
theorem sumW_append (l : List Int) (x : Int) : sumW (l ++ [x]) = sumW l + 2 ^ x.toNat := by
  induction l with
  | nil => simp [sumW]
  | cons y l ih => simp only [List.cons_append, sumW, ih]; omega
def InS (l : List Int) : Prop := ∀ x ∈ l, 0 ≤ x ∧ x ≤ 44
instance (l : List Int) : Decidable (InS l) := by unfold InS; infer_instance

theorem pow44 {x : Int} (h : 0 ≤ x ∧ x ≤ 44) : (1 : Int) ≤ 2 ^ x.toNat ∧ (2 : Int) ^ x.toNat ≤ 17592186044416 := by
  have h1 : (2 : Nat) ^ x.toNat ≤ 2 ^ 44 := Nat.pow_le_pow_right (by omega) (by omega)
  have h2 : 1 ≤ (2 : Nat) ^ x.toNat := Nat.one_le_two_pow
  have e : ((2 : Int) ^ x.toNat) = ((2 ^ x.toNat : Nat) : Int) := by push_cast; rfl
  rw [e]
  omega

theorem sumW_range {l : List Int} (h : InS l) : 0 ≤ sumW l ∧ sumW l ≤ l.length * 17592186044416 ∧ (l ≠ [] → 1 ≤ sumW l) := by
  induction l with
  | nil => simp [sumW]
  | cons x l ih =>
    have hx := pow44 (h x (by simp))
    obtain ⟨h1, h2, _⟩ := ih (fun y hy => h y (by simp [hy]))
    simp only [sumW, List.length_cons]
    refine ⟨by omega, by push_cast; omega, fun _ => by omega⟩

def wup (sum : Int) : Nat → Nat → Nat
  | 0, w => w
  | n + 1, w => if (2 : Int) ^ w < sum then wup sum n (w + 1) else w

/-- 'w' is the least size from 'least' on that is enough. -/
structure IsW (least : Nat) (sum : Int) (w : Nat) : Prop where
  ge : least ≤ w
  fits : sum ≤ 2 ^ w
  tight : w = least ∨ (2 : Int) ^ (w - 1) < sum

theorem pow_mono {a b : Nat} (h : a ≤ b) : (2 : Int) ^ a ≤ 2 ^ b := by
  have : (2 : Nat) ^ a ≤ 2 ^ b := Nat.pow_le_pow_right (by omega) h
  exact_mod_cast this

theorem IsW.unique {least : Nat} {sum : Int} {w w' : Nat} (h : IsW least sum w) (h' : IsW least sum w') : w = w' := by
  rcases Nat.lt_trichotomy w w' with c | c | c
  · have := h'.tight
    have := h.ge
    have hp := pow_mono (a := w) (b := w' - 1) (by omega)
    have := h.fits
    omega
  · exact c
  · have := h.tight
    have := h'.ge
    have hp := pow_mono (a := w') (b := w - 1) (by omega)
    have := h'.fits
    omega

theorem wup_isW (sum : Int) : ∀ n w, sum ≤ 2 ^ (w + n) → IsW w sum (wup sum n w)
  | 0, w, h => ⟨Nat.le_refl _, by simpa [wup] using h, .inl rfl⟩
  | n + 1, w, h => by
    unfold wup
    split
    · rename_i c
      have ih := wup_isW sum n (w + 1) (by rw [show w + 1 + n = w + (n + 1) by omega]; exact h)
      have h1 := ih.ge
      refine ⟨by omega, ih.fits, .inr ?_⟩
      rcases ih.tight with e | e
      · rw [e]; simpa using c
      · exact e
    · rename_i c
      exact ⟨Nat.le_refl _, by omega, .inl rfl⟩

def least (c : Int) (hot : Bool) : Nat := if c = 0 then 12 else if hot then 22 else 20
def WOk (l : List Int) (c : Int) (hot : Bool) : Prop := ¬ (l = [] ∧ hot = false) ∧ l.length ≤ 1024 ∧ (0 ≤ c ∧ c < 3) ∧ InS l
instance (l : List Int) (c : Int) (hot : Bool) : Decidable (WOk l c hot) := by unfold WOk; infer_instance
def wszF (l : List Int) (c : Int) (hot : Bool) : Int := if WOk l c hot then (wup (sumW l) 64 (least c hot) : Int) else 0
abbrev wszV (l : List Int) (c : Int) (hot : Bool) : Value := .tuple #[.int .i64 (wszF l c hot), .bool (decide (WOk l c hot))]

theorem sum_lt {l : List Int} (h : InS l) (hl : l.length ≤ 1024) : sumW l ≤ 18014398509481984 := by
  have := (sumW_range h).2.1
  have : (l.length : Int) ≤ 1024 := by omega
  omega

theorem wsz_of {l : List Int} {c : Int} {hot : Bool} (h : WOk l c hot) {w : Nat} (hw : IsW (least c hot) (sumW l) w) : wszV l c hot = .tuple #[.int .i64 w, .bool true] := by
  have hs := sum_lt h.2.2.2 h.2.1
  have h1 : sumW l ≤ 2 ^ (least c hot + 64) := by
    have := pow_mono (a := 64) (b := least c hot + 64) (by omega)
    have e : (2 : Int) ^ 64 = 18446744073709551616 := by decide
    omega
  have := hw.unique (wup_isW _ 64 _ h1)
  unfold wszV wszF
  rw [if_pos h, decide_eq_true h, this]
theorem wsz_no {l : List Int} {c : Int} {hot : Bool} (h : ¬ WOk l c hot) : wszV l c hot = .tuple #[.int .i64 0, .bool false] := by
  unfold wszV wszF
  rw [if_neg h, decide_eq_false h]

/-! ### Len64 -/

structure IsBL (x : Int) (k : Nat) : Prop where
  lt : x < 2 ^ k
  ge : k = 0 ∨ (2 : Int) ^ (k - 1) ≤ x

theorem IsBL.shift {x : Int} {k j : Nat} (hx : (2 : Int) ^ j ≤ x) (h : IsBL (x / 2 ^ j) k) : IsBL x (j + k) := by
  have hp : (0 : Int) < 2 ^ j := Int.pow_pos (by omega)
  have e : (2 : Int) ^ (j + k) = 2 ^ k * 2 ^ j := by rw [Nat.add_comm, Int.pow_add]
  refine ⟨?_, ?_⟩
  · rw [e]
    exact Int.lt_mul_of_ediv_lt hp h.lt
  · rcases h.ge with hk | hk
    · exfalso
      have := h.lt
      rw [hk] at this
      have h1 : 1 ≤ x / 2 ^ j := by
        rw [Int.le_ediv_iff_mul_le hp]
        omega
      simp at this
      omega
    · by_cases hk0 : k = 0
      · subst hk0
        right
        have h3 := (Int.le_ediv_iff_mul_le hp).1 hk
        have : (2 : Int) ^ (j + 0 - 1) ≤ 2 ^ j := pow_mono (by omega)
        omega
      · right
        rw [show j + k - 1 = (k - 1) + j by omega, Int.pow_add]
        exact (Int.le_ediv_iff_mul_le hp).1 hk

theorem IsBL.shiftN {x Q : Int} {k : Nat} (j : Nat) (hQ : (2 : Int) ^ j = Q) (hx : x ≥ Q) (h : IsBL (x / Q) k) : IsBL x (j + k) := by
  subst hQ
  exact IsBL.shift hx h
theorem fdivN {y Q : Int} (x : Int) (j : Nat) (hQ : (2 : Int) ^ j = Q) (hx : min x.toNat IntKind.u64.bits = j) (_hy : 0 ≤ y) : y.fdiv (2 ^ (min x.toNat IntKind.u64.bits)) = y / Q := by
  rw [hx, Int.fdiv_eq_ediv_of_nonneg _ (Int.pow_nonneg (by omega)), hQ]

theorem iteB_d {p : Prop} {i : Decidable p} {A B : Prop} (h1 : p → A) (h2 : ¬ p → B) : iteB (@decide p i) A B := iteB_dec h1 h2

def okT (i k : Nat) : Bool := decide ((i : Int) < 2 ^ k) && decide (k = 0 ∨ (2 : Int) ^ (k - 1) ≤ i)
theorem okT_elim {i k : Nat} (h : okT i k = true) : IsBL i k := by
  unfold okT at h
  rw [Bool.and_eq_true] at h
  exact ⟨of_decide_eq_true h.1, of_decide_eq_true h.2⟩

theorem IsBL.le64 {x : Int} {k : Nat} (h : IsBL x k) (hx : x < 18446744073709551616) : k ≤ 64 := by
  rcases h.ge with e | e
  · omega
  · by_cases c : k ≤ 64
    · exact c
    · have := pow_mono (a := 64) (b := k - 1) (by omega)
      have e : (2 : Int) ^ 64 = 18446744073709551616 := by decide
      omega


theorem isW_of_bl {L : Nat} {sum : Int} {k : Nat} (h : IsBL (sum - 1) k) (_h0 : 1 ≤ sum) : IsW L sum (max L k) := by
  have hlt := h.lt
  refine ⟨by omega, ?_, ?_⟩
  · have := pow_mono (a := k) (b := max L k) (by omega)
    omega
  · by_cases c : k ≤ L
    · left; omega
    · right
      rw [Nat.max_eq_right (by omega)]
      rcases h.ge with e | e
      · omega
      · omega

end Go.Proofs.Ytnhhncjflnlfaaa
end

section
/-
  Lists of ranges in memory: the contracts of the reference's ValidRanges, remove, merge, Free.
-/
namespace Go.Proofs.Ytnhhncjflnlfaaa
open Go.Eng
set_option linter.unusedVariables false

def encR (r : Rg) : List Value := [.int .u64 r.1, .int .u64 r.2]
theorem encR_len (r : Rg) : (encR r).length = 2 := rfl
theorem encR_one (r : Rg) : ∀ u ∈ encR r, oneC u = true := fun u hu => by simp [encR] at hu; rcases hu with rfl | rfl <;> rfl
theorem rkRange : RK Try.prog t_sl_api_Range t_api_Range (.agg #[.int .u64 0, .int .u64 0]) 2 16 encR := ⟨by kernel_rfl, by kernel_rfl, rfl, by omega, by omega, encR_len, encR_one⟩
abbrev Rgs (H : Heap) (s : Sl) (l : List Rg) : Prop := IsS 2 encR H s l

def U64L (l : List Rg) : Prop := ∀ r ∈ l, (0 ≤ r.1 ∧ r.1 ≤ 18446744073709551615) ∧ (0 ≤ r.2 ∧ r.2 ≤ 18446744073709551615)
def RgOk (r : Rg) : Prop := 1 ≤ r.2 ∧ 0 ≤ r.1 ∧ r.1 + r.2 ≤ 4503599627370496
instance (r : Rg) : Decidable (RgOk r) := by unfold RgOk; infer_instance
def ValidR (l : List Rg) : Prop := l.length ≤ 1024 ∧ ∀ r ∈ l, RgOk r
instance (l : List Rg) : Decidable (ValidR l) := by unfold ValidR; infer_instance

theorem Rgs.atN {H : Heap} {s : Sl} {l : List Rg} (h : Rgs H s l) {k : Nat} (hk : k < l.length) :
    ∃ a, s.p = some a ∧ rd H (a.add ((k : Int).toNat * 2)) = some (.int .u64 (l.getD k (0, 0)).1) ∧ rd H ((a.add ((k : Int).toNat * 2)).add 1) = some (.int .u64 (l.getD k (0, 0)).2) := by
  obtain ⟨a, hp, hr⟩ := IsS.atN h (0, 0) hk
  exact ⟨a, hp, hr 0 _ rfl, hr 1 _ rfl⟩

theorem all_take {α : Type} {Q : α → Prop} {l : List α} {k : Nat} (d : α) (h : ∀ i, i < k → Q (l.getD i d)) (hk : k < l.length) (hq : Q (l.getD k d)) : ∀ i, i < k + 1 → Q (l.getD i d) := fun i hi => by
  by_cases e : i = k
  · subst e; exact hq
  · exact h i (by omega)
theorem all_of_getD {α : Type} {Q : α → Prop} {l : List α} (d : α) (h : ∀ i, i < l.length → Q (l.getD i d)) : ∀ x ∈ l, Q x := fun x hx => by
  obtain ⟨i, hi, rfl⟩ := List.getElem_of_mem hx
  have := h i hi
  simpa [List.getD, hi] using this

theorem rValidRanges_spec (H : Heap) (s : Sl) (l : List Rg) (h : Rgs H s l) (hu : U64L l) :
    CallsH Try.prog n_ref21_ValidRanges #[.slice s.p s.n s.c] H (fun v H' => v = .bool (decide (ValidR l)) ∧ H' = H) := by
  refine F_ref21_ValidRanges_ok _ ?_
  unfold F_ref21_ValidRanges
  have hn := h.len
  have no : ¬ ValidR l → (.bool false : Value) = .bool (decide (ValidR l)) ∧ H = H := fun hh => ⟨by rw [decide_eq_false hh], rfl⟩
  refine iteB_dec (fun c => no (fun hv => by have := hv.1; omega)) (fun c => ?_)
  refine loop1 l.length (fun k H' => H' = H ∧ ∀ i, i < k → RgOk (l.getD i (0, 0))) ⟨rfl, fun i hi => by omega⟩ ?_
  rintro k H1 hk ⟨rfl, hok⟩
  unfold F_ref21_ValidRanges_r1
  refine iteB_dec (fun c1 => ?_) (fun c1 => ⟨?_, rfl⟩)
  · have hkn : k < l.length := by omega
    obtain ⟨a, hp, r0, r1⟩ := h.atN hkn
    have hm := getD_mem' (0, 0) hkn
    have hur := hu _ hm
    have hbad : ¬ RgOk (l.getD k (0, 0)) → ¬ ValidR l := fun hh hv => hh (hv.2 _ hm)
    generalize hre : l.getD k (0, 0) = r at *
    refine ⟨by omega, by omega, unSome_mk hp ⟨_, r1, iteB_dec (fun d => no (hbad (fun ho => by have := ho.1; omega))) (fun d => ⟨by omega, by omega, unSome_mk hp ⟨_, r1, iteB_dec (fun d1 => no (hbad (fun ho => by have := ho.2; omega))) (fun d1 => ⟨by omega, by omega, unSome_mk hp ⟨_, r0, by omega, by omega, unSome_mk hp ⟨_, r1, ?_⟩⟩⟩)⟩⟩)⟩⟩
    rw [u64_in (n := 4503599627370496 - r.2) (by omega)]
    refine iteB_dec (fun d2 => no (hbad (fun ho => by have := ho.2; omega))) (fun d2 => letV_mk _ rfl (next1 hkn (by omega) ⟨rfl, fun i hi => ?_⟩))
    by_cases e : i = k
    · subst e; rw [hre]; exact ⟨by omega, by omega, by omega⟩
    · exact hok i (by omega)
  · rw [decide_eq_true]
    exact ⟨by omega, all_of_getD (0, 0) (fun i hi => hok i (by omega))⟩

/-! ### removing a range -/

/-- Addresses that leave room above. -/
def Low (l : List Rg) : Prop := ∀ r ∈ l, 1 ≤ r.2 ∧ 0 ≤ r.1 ∧ r.1 + r.2 ≤ 9007199254740992
theorem ValidR.low {l : List Rg} (h : ValidR l) : Low l := fun r hr => by have := h.2 r hr; unfold RgOk at this; omega
theorem Low.rm {l : List Rg} {x : Rg} (h : Low l) (ha : Asc l) (hx : 1 ≤ x.2) : Low (rmF l x) := fun q hq => by
  obtain ⟨r1, _, r3⟩ := rmF_spec ha hx
  obtain ⟨f, hf, h1, h2⟩ := r3 q hq
  have := h f hf
  have := Asc.len r1 q hq
  omega

/-- A list of ranges of one's own. -/
def RgP (L : List Rg) (H : Heap) (v : Value) (H' : Heap) : Prop := ∃ out : Sl, v = .slice out.p out.n out.c ∧ Own H.size t_api_Range 2 H' out (L.flatMap encR) ∧ Ext H H'

theorem rmF_succ {l : List Rg} {x : Rg} {k : Nat} (hk : k < l.length) : rmF (l.take (k + 1)) x = rmF (l.take k) x ++ piece (l.getD k (0, 0)) x := by
  rw [take_succ_d (0, 0) hk]
  unfold rmF
  rw [List.flatMap_append]
  simp
theorem rmF_len (l : List Rg) (x : Rg) : (rmF l x).length ≤ 2 * l.length := by
  induction l with
  | nil => simp [rmF]
  | cons f l ih =>
    have e : rmF (f :: l) x = piece f x ++ rmF l x := by unfold rmF; rw [List.flatMap_cons]
    have := piece_len f x
    rw [e, List.length_append, List.length_cons]
    omega

theorem rmF_len1 {l : List Rg} {x : Rg} (h : Asc l) (hx : 1 ≤ x.2) : (rmF l x).length ≤ l.length + 1 := by
  induction l with
  | nil => simp [rmF]
  | cons f l ih =>
    have e : rmF (f :: l) x = piece f x ++ rmF l x := by unfold rmF; rw [List.flatMap_cons]
    rw [e, List.length_append, List.length_cons]
    by_cases hs : f.1 < x.1 ∧ x.1 + x.2 < f.1 + f.2
    · have : rmF l x = l := rmF_apart (fun g hg => by have := h.2.1 g hg; omega)
      have := piece_len f x
      rw [‹rmF l x = l›]
      omega
    · have hp : (piece f x).length ≤ 1 := by
        unfold piece
        split
        · simp
        · rw [List.length_append]
          split <;> split <;> simp <;> omega
      have := ih h.2.2
      omega

theorem rremove_spec (H : Heap) (s : Sl) (l : List Rg) (x : Rg) (h : Rgs H s l) (hlow : Low l) (hx : 1 ≤ x.2 ∧ 0 ≤ x.1 ∧ x.1 + x.2 ≤ 9007199254740992) (hll : l.length ≤ 100000) :
    CallsH Try.prog n_ref21_remove #[.slice s.p s.n s.c, .agg #[.int .u64 x.1, .int .u64 x.2]] H (RgP (rmF l x) H) := by
  refine F_ref21_remove_ok _ _ _ ?_
  unfold F_ref21_remove
  have hn := h.len
  refine push_mk (vs := encR x) fun H1 e1 z1 b1 => ?_
  refine loop2 l.length (fun k out H' => Own H1.size t_api_Range 2 H' out ((rmF (l.take k) x).flatMap encR) ∧ Ext H1 H') ⟨Own.nil _ _ _ _, .refl _⟩ ?_
  rintro k out H2 hk ⟨o2, e2⟩
  unfold F_ref21_remove_r3
  have n2 := Own.len rkRange o2
  have hl2 := rmF_len (l.take k) x
  have hl3 : (l.take k).length ≤ k := by simp; omega
  refine iteB_dec (fun c => ?_) (fun c => ?_)
  · have hkn : k < l.length := by omega
    obtain ⟨a, hp, r0, r1⟩ := Rgs.atN (h.ext (e1.trans e2)) hkn
    have hf := hlow _ (getD_mem' (0, 0) hkn)
    have hstep := rmF_succ (x := x) hkn
    generalize l.getD k (0, 0) = f at *
    have x2 := e1.trans e2
    refine ⟨by omega, by omega, unSome_mk hp ⟨_, r0, _, r1, local_mk (vs := encR f) rfl rfl fun H4 e4 z4 b4 => ?_⟩⟩
    have bx := (b1.ext e2).ext e4
    refine ⟨_, b4.rd0 rfl, _, b4.rd (i := 1) rfl, _, bx.rd0 rfl, _, bx.rd (i := 1) rfl, letV_mk (f.1 + f.2) (u64_in (by omega)) (letV_mk (x.1 + x.2) (u64_in (by omega)) ?_)⟩
    refine ⟨fun b H' => (b = true ↔ (x.1 ≥ f.1 + f.2 ∨ x.1 + x.2 ≤ f.1)) ∧ H' = H4, ⟨_, bx.rd0 rfl, iteB_dec (fun d => ⟨by simp [d], rfl⟩) (fun d => ⟨_, b4.rd0 rfl, by simp; omega, rfl⟩)⟩, ?_⟩
    rintro b H5 ⟨hb, rfl⟩
    unfold F_ref21_remove_k2
    have fin : ∀ (s' : Sl) (H' : Heap), Own H1.size t_api_Range 2 H' s' ((rmF (l.take k) x ++ piece f x).flatMap encR) → Ext H1 H' → CI2 l.length (fun k out H' => Own H1.size t_api_Range 2 H' out ((rmF (l.take k) x).flatMap encR) ∧ Ext H1 H') s' (IntKind.i64.wrap ((k : Int) + 1)) H' ∧ CM2 l.length s' (IntKind.i64.wrap ((k : Int) + 1)) H' < CM2 l.length out (k : Int) H2 := fun s' H' ho he => next2 hkn (by omega) ⟨by rw [hstep]; exact ho, he⟩
    have e5 := e2.trans e4
    have o5 := o2.ext e4
    refine iteB_intro (fun d => ⟨_, b4.rd0 rfl, _, b4.rd (i := 1) rfl, ?_⟩) (fun d => ?_)
    · refine apR rkRange f (lo := H1.size) o5 (by omega) e5.size ?_
      intro s' H7 ho hn7 m7
      refine letV_mk _ rfl (fin s' H7 ?_ (Mods.ext e5 m7 (blkOf_new o5.new)))
      rw [piece_apart (hb.1 d)]
      exact ho
    · have hnap : ¬ (x.1 ≥ f.1 + f.2 ∨ x.1 + x.2 ≤ f.1) := fun hh => by have := hb.2 hh; rw [d] at this; cases this
      have hpc : piece f x = (if f.1 < x.1 then [(f.1, x.1 - f.1)] else []) ++ (if x.1 + x.2 < f.1 + f.2 then [(x.1 + x.2, f.1 + f.2 - (x.1 + x.2))] else []) := by unfold piece; rw [if_neg hnap]
      refine ⟨fun o3 H' => Own H1.size t_api_Range 2 H' o3 ((rmF (l.take k) x ++ (if f.1 < x.1 then [(f.1, x.1 - f.1)] else [])).flatMap encR) ∧ Ext H1 H', ⟨_, b4.rd0 rfl, _, bx.rd0 rfl, iteB_dec (fun d1 => ⟨_, b4.rd0 rfl, _, bx.rd0 rfl, _, b4.rd0 rfl, ?_⟩) (fun d1 => ⟨by rw [if_neg d1, List.append_nil]; exact o5, e5⟩)⟩, ?_⟩
      · rw [u64_in (n := x.1 - f.1) (by omega)]
        refine apR rkRange (f.1, x.1 - f.1) (lo := H1.size) o5 (by omega) e5.size ?_
        intro s' H9 ho hn9 m9
        exact ⟨by rw [if_pos d1]; exact ho, Mods.ext e5 m9 (blkOf_new o5.new)⟩
      · rintro o3 H10 ⟨o10, e10⟩
        unfold F_ref21_remove_k1
        have n10 := Own.len rkRange o10
        have hl10 : (rmF (l.take k) x ++ (if f.1 < x.1 then [(f.1, x.1 - f.1)] else [])).length ≤ 2 * k + 1 := by
          rw [List.length_append]; split <;> simp <;> omega
        refine iteB_dec (fun d1 => ?_) (fun d1 => letV_mk _ rfl (fin o3 H10 ?_ e10))
        · rw [u64_in (n := f.1 + f.2 - (x.1 + x.2)) (by omega)]
          refine apR rkRange (x.1 + x.2, f.1 + f.2 - (x.1 + x.2)) (lo := H1.size) o10 (by omega) e10.size ?_
          intro s' H12 ho hn12 m12
          refine letV_mk _ rfl (fin s' H12 ?_ (Mods.ext e10 m12 (blkOf_new o10.new)))
          rw [hpc, if_pos d1, ← List.append_assoc]
          exact ho
        · rw [hpc, if_neg d1, List.append_nil]
          exact o10
  · obtain rfl : k = l.length := by omega
    rw [List.take_length] at o2
    exact ⟨out, rfl, own_lo o2 e1.size, e1.trans e2⟩

/-! ### merging -/

def mst (O : List Rg) (x : Rg) : List Rg :=
  if 0 < O.length ∧ x.1 ≤ (O.getD (O.length - 1) (0, 0)).1 + (O.getD (O.length - 1) (0, 0)).2 then O.set (O.length - 1) ((O.getD (O.length - 1) (0, 0)).1, max (O.getD (O.length - 1) (0, 0)).2 (x.1 + x.2 - (O.getD (O.length - 1) (0, 0)).1)) else O ++ [x]

theorem mst_cons {c x : Rg} {O : List Rg} (h : O ≠ []) : mst (c :: O) x = c :: mst O x := by
  have hl : 0 < O.length := List.length_pos_iff.2 h
  obtain ⟨n, hn⟩ : ∃ n, O.length = n + 1 := ⟨O.length - 1, by omega⟩
  have e : (c :: O).length - 1 = (O.length - 1) + 1 := by simp; omega
  unfold mst
  rw [e, List.getD_cons_succ, List.set_cons_succ]
  split
  · rename_i hc
    rw [if_pos ⟨hl, hc.2⟩]
  · rename_i hc
    rw [if_neg (fun hh => hc ⟨by simp, hh.2⟩)]
    rfl
theorem mrg_ne (c : Rg) (l : List Rg) : mrg c l ≠ [] := by
  induction l generalizing c with
  | nil => simp [mrg]
  | cons x l ih => unfold mrg; split; exact ih _; simp
theorem mrg_snoc (x : Rg) : ∀ (l : List Rg) (c : Rg), mrg c (l ++ [x]) = mst (mrg c l) x
  | [], c => by
    show mrg c [x] = mst [c] x
    by_cases h : x.1 ≤ c.1 + c.2
    · have e : mrg c [x] = [(c.1, max c.2 (x.1 + x.2 - c.1))] := by simp [mrg, h]
      rw [e]
      unfold mst
      rw [if_pos ⟨by simp, by simpa using h⟩]
      rfl
    · have e : mrg c [x] = [c, x] := by simp [mrg, h]
      rw [e]
      unfold mst
      rw [if_neg (fun hh => h (by simpa using hh.2))]
      rfl
  | y :: l, c => by
    rw [List.cons_append, mrg, mrg]
    split
    · exact mrg_snoc x l _
    · rw [mrg_snoc x l y, mst_cons (mrg_ne y l)]
theorem mergeS_snoc (l : List Rg) (x : Rg) : mergeS (l ++ [x]) = mst (mergeS l) x := by
  cases l with
  | nil => simp [mergeS, mrg, mst]
  | cons y l => exact mrg_snoc x l y

theorem mst_len (O : List Rg) (x : Rg) : (mst O x).length ≤ O.length + 1 := by
  unfold mst
  split <;> simp

theorem mrg_base : ∀ (l : List Rg) (c r : Rg), r ∈ mrg c l → r.1 = c.1 ∨ ∃ z ∈ l, z.1 = r.1
  | [], c, r, h => by simp [mrg] at h; exact .inl (by rw [h])
  | x :: l, c, r, h => by
    unfold mrg at h
    split at h
    · rcases mrg_base l _ r h with h1 | ⟨z, hz, h1⟩
      · exact .inl h1
      · exact .inr ⟨z, by simp [hz], h1⟩
    · rcases List.mem_cons.1 h with rfl | h
      · exact .inl rfl
      · rcases mrg_base l x r h with h1 | ⟨z, hz, h1⟩
        · exact .inr ⟨x, by simp, h1.symm⟩
        · exact .inr ⟨z, by simp [hz], h1⟩
theorem mergeS_base {l : List Rg} {r : Rg} (h : r ∈ mergeS l) : ∃ z ∈ l, z.1 = r.1 := by
  cases l with
  | nil => cases h
  | cons c l =>
    rcases mrg_base l c r h with h1 | ⟨z, hz, h1⟩
    · exact ⟨c, by simp, h1.symm⟩
    · exact ⟨z, by simp [hz], h1⟩

/-- Ranges that end below 2^53; what is merged out of such. -/
theorem mrg_low {B : Int} : ∀ (l : List Rg) (c : Rg), (∀ x ∈ c :: l, 0 ≤ x.1 ∧ 1 ≤ x.2 ∧ x.1 + x.2 ≤ B) → ∀ x ∈ mrg c l, 0 ≤ x.1 ∧ 1 ≤ x.2 ∧ x.1 + x.2 ≤ B
  | [], c, h, x, hx => by simp [mrg] at hx; rw [hx]; exact h c (by simp)
  | y :: l, c, h, x, hx => by
    have hc := h c (by simp)
    have hy := h y (by simp)
    unfold mrg at hx
    split at hx
    · refine mrg_low l _ (fun z hz => ?_) x hx
      rcases List.mem_cons.1 hz with rfl | hz
      · dsimp only; omega
      · exact h z (by simp [hz])
    · rcases List.mem_cons.1 hx with rfl | hx
      · exact hc
      · exact mrg_low l y (fun z hz => h z (by rcases List.mem_cons.1 hz with rfl | hz; simp; simp [hz])) x hx
theorem mergeS_low {B : Int} {l : List Rg} (h : ∀ x ∈ l, 0 ≤ x.1 ∧ 1 ≤ x.2 ∧ x.1 + x.2 ≤ B) : ∀ x ∈ mergeS l, 0 ≤ x.1 ∧ 1 ≤ x.2 ∧ x.1 + x.2 ≤ B := by
  cases l with
  | nil => intro x hx; cases hx
  | cons c l => exact mrg_low l c h
theorem mergeF_low {B : Int} {l : List Rg} (h : ∀ x ∈ l, 0 ≤ x.1 ∧ 1 ≤ x.2 ∧ x.1 + x.2 ≤ B) : ∀ x ∈ mergeF l, 0 ≤ x.1 ∧ 1 ≤ x.2 ∧ x.1 + x.2 ≤ B :=
  mergeS_low (fun x hx => h x ((List.mergeSort_perm l rle).mem_iff.1 hx))
theorem ValidR.merge {l : List Rg} (h : ValidR l) : ValidR (mergeF l) ∧ Asc (mergeF l) := by
  have hl : ∀ x ∈ l, 1 ≤ x.2 := fun x hx => (h.2 x hx).1
  obtain ⟨h1, _, h3⟩ := mergeF_spec hl
  refine ⟨⟨by have := h.1; omega, fun r hr => ?_⟩, h1⟩
  have := mergeF_low (B := 4503599627370496) (fun x hx => by have := h.2 x hx; unfold RgOk at this; omega) r hr
  exact ⟨this.2.1, this.1, this.2.2⟩

/-- The last element of an own list of ranges is written. -/
theorem own_last {lo : Nat} {H : Heap} {out : Sl} {O : List Rg} (o : Own lo t_api_Range 2 H out (O.flatMap encR)) {n : Nat} (hn : n < O.length) (v : Int) :
    ∃ a, out.p = some a ∧ okRow H ((a.add ((n : Int).toNat * 2)).add 1) 1 ∧ ∀ H', H' = wrs H ((a.add ((n : Int).toNat * 2)).add 1) [.int .u64 v] → Own lo t_api_Range 2 H' out ((O.set n ((O.getD n (0, 0)).1, v)).flatMap encR) ∧ Mods (blkOf out.p) H H' := by
  obtain ⟨h1, h2 | ⟨g, cap, cur, hv, hg, hb, hc, hm, hs, ht⟩⟩ := o
  · exfalso
    obtain ⟨hv, h0⟩ := h2
    rw [flat_len encR_len] at h1
    omega
  · simp only [Value.slice.injEq] at hv
    obtain ⟨hp, hnn, hcc⟩ := hv
    have hlen : O.length * 2 = out.n * 2 := by rw [← flat_len encR_len O]; exact h1
    rw [Int.toNat_natCast, hp]
    refine ⟨⟨g, 0, none⟩, rfl, ?_, ?_⟩
    · rw [add_mk, add_mk]
      exact okRow_mk hb (by omega)
    · rintro H' rfl
      have hsplit := flat_split_set (enc := encR) (l := O) (i := n) (y := ((O.getD n (0, 0)).1, v)) hn
      have hsplit0 := flat_split (enc := encR) (l := O) (i := n) (x := O.getD n (0, 0)) (by simp [List.getD, hn])
      have htl := flat_take_len (enc := encR) encR_len hn
      refine ⟨⟨?_, .inr ⟨g, cap, splice cur (0 + n * 2 + 1) [.int .u64 v], ?_, hg, ?_, hc, hm, ?_, ?_⟩⟩, ?_⟩
      · rw [flat_len encR_len, List.length_set]; omega
      · rw [hp, hcc]
      · rw [add_mk, add_mk]
        exact wrs_get hb
      · simp [splice, hs]
      · simp only [splice, Array.toList_setIfInBounds]
        rw [List.take_set, ht, hsplit0, hsplit, List.append_assoc, List.append_assoc, Nat.zero_add, ← htl, List.set_append_right _ _ (by omega)]
        congr 1
        rw [show ((O.take n).flatMap encR).length + 1 - ((O.take n).flatMap encR).length = 1 by omega]
        rfl
      · refine Mods.wrs ?_
        rw [add_mk, add_mk]
        simp [blkOf]

end Go.Proofs.Ytnhhncjflnlfaaa
end

section
/-
  The contracts of the reference's merge and Free.
-/
namespace Go.Proofs.Ytnhhncjflnlfaaa
open Go.Eng
set_option linter.unusedVariables false

/-- The state between the rounds of merge. -/
def MI (l : List Rg) (H : Heap) (out left : Sl) (H' : Heap) : Prop :=
  ∃ done rest : List Rg, (done ++ rest).Perm l ∧ Srt done ∧ (∀ a ∈ done, ∀ b ∈ rest, a.1 ≤ b.1) ∧ Own H.size t_api_Range 2 H' out ((mergeS done).flatMap encR) ∧ Own H.size t_api_Range 2 H' left (rest.flatMap encR) ∧
    (∀ a, left.p = some a → a.block ∉ blkOf out.p) ∧ Ext H H'

theorem srt_snoc {d : List Rg} {x : Rg} (h : Srt d) (hx : ∀ a ∈ d, a.1 ≤ x.1) : Srt (d ++ [x]) := by
  refine List.pairwise_append.2 ⟨h, by simp, fun a ha b hb => ?_⟩
  simp at hb
  rw [hb]
  exact hx a ha

theorem erase_perm {l : List Rg} {k : Nat} (hk : k < l.length) : l.Perm (l.getD k (0, 0) :: (l.take k ++ l.drop (k + 1))) := by
  have e : l = l.take k ++ l.getD k (0, 0) :: l.drop (k + 1) := by
    have : l.getD k (0, 0) = l[k] := by simp [List.getD, hk]
    rw [this, ← List.drop_eq_getElem_cons hk, List.take_append_drop]
  conv => lhs; rw [e]
  exact List.perm_middle

theorem rmerge_spec (H : Heap) (s : Sl) (l : List Rg) (h : Rgs H s l) (hv : ValidR l) : CallsH Try.prog n_ref21_merge #[.slice s.p s.n s.c] H (RgP (mergeF l) H) := by
  refine F_ref21_merge_ok _ ?_
  unfold F_ref21_merge
  have hl1 : ∀ x ∈ l, 1 ≤ x.2 := fun x hx => (hv.2 x hx).1
  have hlen := hv.1
  refine apA rkRange (s := ⟨none, 0, 0⟩) (l := []) (lo := H.size) (Own.nil _ _ _ _) h (by simp; omega) (Nat.le_refl _) ?_
  intro left0 H1 o1 n1 m1 _
  rw [List.nil_append] at o1
  refine ⟨left0, rfl, MI l H, fun _ left _ => left.n, ⟨[], l, by simp, List.Pairwise.nil, (fun a ha => by cases ha), Own.nil _ _ _ _, o1, (fun a _ => by simp [blkOf]), m1.to_ext⟩, ?_⟩
  rintro out left H2 ⟨done, rest, hp, hsd, hcr, oo, ol, hap, e2⟩
  unfold F_ref21_merge_r3
  have nl := Own.len rkRange ol
  have no := Own.len rkRange oo
  have hok : ∀ x ∈ done ++ rest, RgOk x := fun x hx => hv.2 x (hp.mem_iff.1 hx)
  have hlen2 : done.length + rest.length ≤ 1024 := by rw [← List.length_append, hp.length_eq]; exact hlen
  have hml : (mergeS done).length ≤ done.length := (mergeS_spec (l := done) (fun x hx => (hok x (by simp [hx])).1) hsd).2.2
  refine iteB_dec (fun c => ?_) (fun c => ?_)
  rotate_left
  · have : rest = [] := List.eq_nil_of_length_eq_zero (by omega)
    subst this
    rw [List.append_nil] at hp
    rw [mergeS_eq hl1 hp hsd] at oo
    exact ⟨out, rfl, oo, e2⟩
  have isl := Own.is rkRange ol
  have hcap := ol.cap
  refine ⟨fun k i H' => H' = H2 ∧ ∃ kk ii : Nat, k = kk ∧ i = ii ∧ kk < ii ∧ ii ≤ rest.length ∧ ∀ j, j < ii → (rest.getD kk (0, 0)).1 ≤ (rest.getD j (0, 0)).1, fun _ i _ => (rest.length - i).toNat, ⟨rfl, 0, 1, rfl, rfl, by omega, by omega, fun j hj => by obtain rfl : j = 0 := (by omega); exact Int.le_refl _⟩, ?_⟩
  rintro _ _ H3 ⟨rfl, k, i, rfl, rfl, hki, hi, hmin⟩
  unfold F_ref21_merge_r2
  obtain ⟨ak, hpk, rk0, rk1⟩ := Rgs.atN isl (k := k) (by omega)
  refine iteB_dec (fun c1 => ?_) (fun c1 => ?_)
  · have hin : i < rest.length := by omega
    obtain ⟨ai, hpi, ri0, _⟩ := Rgs.atN isl hin
    refine ⟨by omega, by omega, unSome_mk hpi ⟨_, ri0, by omega, by omega, unSome_mk hpk ⟨_, rk0, iteB_dec (fun d => letV_mk _ (i64_succ (by omega)) ⟨⟨rfl, i, i + 1, rfl, rfl, by omega, by omega, fun j hj => ?_⟩, by dsimp only; omega⟩) (fun d => letV_mk _ (i64_succ (by omega)) ⟨⟨rfl, k, i + 1, rfl, rfl, by omega, by omega, fun j hj => ?_⟩, by dsimp only; omega⟩)⟩⟩⟩
    · by_cases e : j = i
      · subst e; exact Int.le_refl _
      · have := hmin j (by omega); omega
    · by_cases e : j = i
      · subst e; omega
      · exact hmin j (by omega)
  · obtain rfl : i = rest.length := by omega
    have hkn : k < rest.length := by omega
    have hxm := getD_mem' (0, 0) hkn
    have hx := hok _ (by simp only [List.mem_append]; exact .inr hxm)
    have hper := erase_perm hkn
    have hminx : ∀ b ∈ rest, (rest.getD k (0, 0)).1 ≤ b.1 := all_of_getD (Q := fun b => (rest.getD k (0, 0)).1 ≤ b.1) (0, 0) hmin
    have hdx : ∀ a ∈ done, a.1 ≤ (rest.getD k (0, 0)).1 := fun a ha => hcr a ha _ hxm
    have is1 := IsS.takeS isl k left.c (by omega)
    have is2 := IsS.dropS isl hcap (k + 1) (by omega)
    generalize hxe : rest.getD k (0, 0) = x at *
    unfold RgOk at hx
    rw [i64_succ (k := k) (by omega), Int.toNat_natCast, Int.toNat_natCast, slP0, Nat.sub_zero, Nat.sub_zero]
    refine ⟨by omega, by omega, unSome_mk hpk ⟨_, rk0, _, rk1, local_mk (vs := encR x) rfl rfl fun H5 e5 z5 b5 => ⟨by omega, by omega, by omega, by omega, ?_⟩⟩⟩
    refine apA rkRange (s := ⟨none, 0, 0⟩) (l := []) (src := ⟨left.p, k, left.c⟩) (ys := rest.take k) (lo := H.size) (Own.nil _ _ _ _) (is1.ext e5) (by simp; omega) (by have := (e2.trans e5).size; omega) ?_
    intro x4 H6 o6 n6 m6 at6
    rw [List.nil_append] at o6
    have e6 : Ext H5 H6 := m6.to_ext
    have hz5 := e5.size
    have new6 : ∀ a, x4.p = some a → H3.size ≤ a.block := fun a ha => by
      rcases at6 a ha with hh | hh
      · simp [blkOf] at hh
      · omega
    refine ⟨x4, rfl, ?_⟩
    refine apA rkRange (src := ⟨slP left.p left.c (k + 1) 2, left.n - (k + 1), left.c - (k + 1)⟩) (ys := rest.drop (k + 1)) (lo := H.size) o6 (is2.ext (e5.trans e6)) (by simp at n6 ⊢; omega) (by have := ((e2.trans e5).trans e6).size; omega) ?_
    intro left2 H7 o7 n7 m7 at7
    have e37 : Ext H3 H7 := Mods.ext (e5.trans e6) m7 (fun y hy => by
      cases hpx : x4.p with
      | none => rw [hpx] at hy; simp [blkOf] at hy
      | some a => rw [hpx] at hy; simp [blkOf] at hy; rw [hy]; exact new6 a hpx)
    have hz6 := (e5.trans e6).size
    have new7 : ∀ a, left2.p = some a → H3.size ≤ a.block := fun a ha => by
      rcases at7 a ha with hh | hh
      · cases hpx : x4.p with
        | none => rw [hpx] at hh; simp [blkOf] at hh
        | some b => rw [hpx] at hh; simp [blkOf] at hh; rw [hh]; exact new6 b hpx
      · omega
    have b7 : Blk H7 H3.size t_api_Range (encR x) := by
      refine (b5.ext e6).mods m7 (fun hy => ?_)
      cases hpx : x4.p with
      | none => rw [hpx] at hy; simp [blkOf] at hy
      | some a =>
        rw [hpx] at hy; simp [blkOf] at hy
        rcases at6 a hpx with hh | hh
        · simp [blkOf] at hh
        · omega
    have oo7 := oo.ext e37
    have hperm' : (done ++ [x] ++ (rest.take k ++ rest.drop (k + 1))).Perm l := by
      refine List.Perm.trans ?_ hp
      rw [List.append_assoc]
      exact List.Perm.append_left _ hper.symm
    have hsd' := srt_snoc hsd hdx
    have hcr' : ∀ a ∈ done ++ [x], ∀ b ∈ rest.take k ++ rest.drop (k + 1), a.1 ≤ b.1 := fun a ha b hb => by
      have hbr : b ∈ rest := hper.symm.mem_iff.1 (by simp at hb ⊢; exact .inr hb)
      simp only [List.mem_append, List.mem_singleton] at ha
      rcases ha with ha | rfl
      · exact hcr a ha b hbr
      · exact hminx b hbr
    have hol : ∀ a, out.p = some a → a.block < H3.size := fun a ha => oo.lt a ha
    have hsub : left2.n < left.n := by
      have := Own.len rkRange o7
      simp only [List.length_append, List.length_take, List.length_drop] at this
      omega
    refine ⟨left2, rfl, letV_mk ((out.n : Int) - 1) (i64_in (by omega)) ⟨fun b H' => (b = true ↔ (0 < (mergeS done).length ∧ x.1 ≤ ((mergeS done).getD ((mergeS done).length - 1) (0, 0)).1 + ((mergeS done).getD ((mergeS done).length - 1) (0, 0)).2)) ∧ H' = H7, iteB_dec (fun d => ?_) (fun d => ⟨by simp; omega, rfl⟩), ?_⟩⟩
    · obtain ⟨n, hn⟩ : ∃ n, (mergeS done).length = n + 1 := ⟨(mergeS done).length - 1, by omega⟩
      have he : (out.n : Int) - 1 = (n : Int) := by omega
      rw [he, hn, Nat.add_sub_cancel]
      obtain ⟨a, hpa, q0, q1⟩ := Rgs.atN (Own.is rkRange oo7) (k := n) (by omega)
      have hlow := mergeS_low (B := 4503599627370496) (l := done) (fun y hy => by have := hok y (by simp [hy]); unfold RgOk at this; omega) _ (getD_mem' (l := mergeS done) (k := n) (0, 0) (by omega))
      refine ⟨_, b7.rd0 rfl, by omega, by omega, unSome_mk hpa ⟨_, q0, by omega, by omega, unSome_mk hpa ⟨_, q1, ?_, rfl⟩⟩⟩
      rw [u64_in (by omega)]
      simp
    · rintro b H8 ⟨hb, rfl⟩
      unfold F_ref21_merge_k1
      refine iteB_intro (fun d => ?_) (fun d => ⟨_, b7.rd0 rfl, _, b7.rd (i := 1) rfl, ?_⟩)
      · have hcond := hb.1 d
        obtain ⟨n, hn⟩ : ∃ n, (mergeS done).length = n + 1 := ⟨(mergeS done).length - 1, by omega⟩
        have he : (out.n : Int) - 1 = (n : Int) := by omega
        rw [hn, Nat.add_sub_cancel] at hcond
        have hmst : mergeS (done ++ [x]) = (mergeS done).set n (((mergeS done).getD n (0, 0)).1, max ((mergeS done).getD n (0, 0)).2 (x.1 + x.2 - ((mergeS done).getD n (0, 0)).1)) := by
          rw [mergeS_snoc]
          unfold mst
          rw [hn, Nat.add_sub_cancel, if_pos hcond]
        have hlow := mergeS_low (B := 4503599627370496) (l := done) (fun y hy => by have := hok y (by simp [hy]); unfold RgOk at this; omega) _ (getD_mem' (l := mergeS done) (k := n) (0, 0) (by omega))
        have hsrt : ((mergeS done).getD n (0, 0)).1 ≤ x.1 := by
          obtain ⟨z, hz, hze⟩ := mergeS_base (getD_mem' (l := mergeS done) (k := n) (0, 0) (by omega))
          have := hdx z hz
          omega
        obtain ⟨a, hpa, q0, q1⟩ := Rgs.atN (Own.is rkRange oo7) (k := n) (by omega)
        rw [he]
        refine ⟨by omega, by omega, unSome_mk hpa ⟨_, q1, _, b7.rd0 rfl, _, b7.rd (i := 1) rfl, by omega, by omega, unSome_mk hpa ⟨_, q0, by omega, by omega, ?_⟩⟩⟩
        generalize hlast : (mergeS done).getD n (0, 0) = y at *
        obtain ⟨a', hpa', hokr, hwr⟩ := own_last oo7 (n := n) (by omega) (max y.2 (x.1 + x.2 - y.1))
        have hval : (if IntKind.u64.wrap (IntKind.u64.wrap (x.1 + x.2) - y.1) > y.2 then IntKind.u64.wrap (IntKind.u64.wrap (x.1 + x.2) - y.1) else y.2) = max y.2 (x.1 + x.2 - y.1) := by
          rw [u64_in (n := x.1 + x.2) (by omega), u64_in (by omega)]
          split <;> omega
        rw [hval]
        refine unSome_mk hpa' ⟨hokr, letH_mk ?_⟩
        intro H9 h9
        obtain ⟨o9, m9⟩ := hwr H9 h9
        clear h9
        rw [hlast] at o9
        have nout : ∀ a, left2.p = some a → a.block ∉ blkOf out.p := fun a ha hh => by
          have := new7 a ha
          cases hpo : out.p with
          | none => rw [hpo] at hh; simp [blkOf] at hh
          | some b => rw [hpo] at hh; simp [blkOf] at hh; have := hol b hpo; omega
        exact ⟨⟨done ++ [x], _, hperm', hsd', hcr', by rw [hmst]; exact o9, o7.mods m9 nout, nout, Mods.ext (e2.trans e37) m9 (blkOf_new oo.new)⟩, hsub⟩
      · have hncond : ¬ (0 < (mergeS done).length ∧ x.1 ≤ ((mergeS done).getD ((mergeS done).length - 1) (0, 0)).1 + ((mergeS done).getD ((mergeS done).length - 1) (0, 0)).2) := fun hh => by have := hb.2 hh; rw [d] at this; cases this
        have hmst : mergeS (done ++ [x]) = mergeS done ++ [x] := by
          rw [mergeS_snoc]
          unfold mst
          rw [if_neg hncond]
        refine apRat rkRange x (lo := H.size) oo7 (by omega) ((e2.trans e37).size) ?_
        intro s' H11 ho hn11 m11 hat
        have nout : ∀ a, left2.p = some a → a.block ∉ blkOf out.p := fun a ha hh => by
          have := new7 a ha
          cases hpo : out.p with
          | none => rw [hpo] at hh; simp [blkOf] at hh
          | some b => rw [hpo] at hh; simp [blkOf] at hh; have := hol b hpo; omega
        refine ⟨⟨done ++ [x], _, hperm', hsd', hcr', by rw [hmst]; exact ho, o7.mods m11 nout, fun a ha hh => ?_, Mods.ext (e2.trans e37) m11 (blkOf_new oo.new)⟩, hsub⟩
        have hlt := o7.lt a ha
        cases hps : s'.p with
        | none => rw [hps] at hh; simp [blkOf] at hh
        | some b =>
          rw [hps] at hh
          simp [blkOf] at hh
          rcases hat b hps with h1 | h1
          · rw [← hh] at h1; exact nout a ha h1
          · omega

theorem rFree_spec (H : Heap) (s t : Sl) (l f : List Rg) (h : Rgs H s l) (hf : Rgs H t f) (hu : U64L l) (hfu : U64L f) :
    CallsH Try.prog n_ref21_Free #[.slice s.p s.n s.c, .slice t.p t.n t.c] H (RgP (if ValidR l ∧ ValidR f then freeF l f else []) H) := by
  refine F_ref21_Free_ok _ _ ?_
  unfold F_ref21_Free
  have no : ¬ (ValidR l ∧ ValidR f) → RgP (if ValidR l ∧ ValidR f then freeF l f else []) H (.slice none 0 0) H := fun hh => by
    rw [if_neg hh]
    exact ⟨⟨none, 0, 0⟩, rfl, Own.nil _ _ _ _, .refl _⟩
  have hfn := hf.len
  refine (rValidRanges_spec H s l h hu).mono ?_
  rintro v H1 ⟨rfl, rfl⟩
  refine ⟨_, rfl, iteB_not (fun c => no (fun hh => by simp at c; exact c hh.1)) (fun c => (rValidRanges_spec H1 t f hf hfu).mono ?_)⟩
  rintro v H2 ⟨rfl, rfl⟩
  refine ⟨_, rfl, iteB_not (fun c1 => no (fun hh => by simp at c1; exact c1 hh.2)) (fun c1 => (rmerge_spec H2 s l h (by simpa using c)).mono ?_)⟩
  rintro v H3 ⟨fr, rfl, o3, e3⟩
  have hv : ValidR l := by simpa using c
  have hvf : ValidR f := by simpa using c1
  rw [if_pos ⟨hv, hvf⟩]
  obtain ⟨vm, am⟩ := hv.merge
  have hfl := hvf.1
  have hml := vm.1
  refine ⟨fr, rfl, ?_⟩
  refine loop2 f.length (fun k out H' => Own H2.size t_api_Range 2 H' out (((f.take k).foldl rmF (mergeF l)).flatMap encR) ∧ ((f.take k).foldl rmF (mergeF l)).length ≤ 1024 + k ∧ Low ((f.take k).foldl rmF (mergeF l)) ∧ Asc ((f.take k).foldl rmF (mergeF l)) ∧ Ext H2 H') ⟨o3, by simpa using hml, vm.low, am, e3⟩ ?_
  rintro k out H4 hk ⟨o4, l4, low4, a4, e4⟩
  unfold F_ref21_Free_r1
  refine iteB_dec (fun d => ?_) (fun d => ?_)
  · have hkn : k < f.length := by omega
    obtain ⟨a, hp, r0, r1⟩ := Rgs.atN (hf.ext e4) hkn
    have hx := hvf.2 _ (getD_mem' (0, 0) hkn)
    have htk := take_succ_d (0, 0) hkn
    generalize f.getD k (0, 0) = x at *
    unfold RgOk at hx
    have hstep : (f.take (k + 1)).foldl rmF (mergeF l) = rmF ((f.take k).foldl rmF (mergeF l)) x := by rw [htk, List.foldl_append]; rfl
    refine ⟨by omega, by omega, unSome_mk hp ⟨_, r0, _, r1, (rremove_spec H4 out _ x (Own.is rkRange o4) low4 (by omega) (by omega)).mono ?_⟩⟩
    rintro v H5 ⟨o, rfl, o5, e5⟩
    refine ⟨o, rfl, letV_mk _ rfl (next2 hkn (by omega) ⟨?_, ?_, ?_, ?_, e4.trans e5⟩)⟩
    · rw [hstep]; exact own_lo o5 e4.size
    · rw [hstep]; have := rmF_len1 a4 (x := x) (by omega); omega
    · rw [hstep]; exact low4.rm a4 (by omega)
    · rw [hstep]; exact (rmF_spec a4 (by omega)).1
  · obtain rfl : k = f.length := by omega
    rw [List.take_length] at o4
    exact ⟨out, rfl, o4, e4⟩

end Go.Proofs.Ytnhhncjflnlfaaa
end
