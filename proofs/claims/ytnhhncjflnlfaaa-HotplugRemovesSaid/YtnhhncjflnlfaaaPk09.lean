import Derived.Deep.Slices
import Derived.OpenShut
import Derived.SizedLaws
import Derived.Test.YtnhhncjflnlfaaaPk08

section
/-
  HotplugRemoves.
-/
namespace Go.Proofs.Ytnhhncjflnlfaaa
open Go.Eng
set_option linter.unusedVariables false

theorem Equal_api_Assignment_spec (H : Heap) (a b : Sl) (A B : List Asg) (ha : IsS 5 encA H a A) (hb : IsS 5 encA H b B) (hl : A.length ≤ 9223372036854775807) :
    CallsH Try.prog n_help_Equal_api_Assignment #[.slice a.p a.n a.c, .slice b.p b.n b.c] H (fun v H' => v = .bool (decide (A = B)) ∧ H' = H) := by
  refine F_help_Equal_api_Assignment_ok _ _ ?_
  unfold F_help_Equal_api_Assignment
  have na := ha.len
  have nb := hb.len
  refine iteB_bne (fun c => ⟨by rw [decide_eq_false (fun e => c (by rw [na, nb, e]))], rfl⟩) (fun c => ?_)
  have hlen : A.length = B.length := by omega
  refine loop1 A.length (fun k H' => H' = H ∧ ∀ i, i < k → A[i]? = B[i]?) ⟨rfl, fun i hi => by omega⟩ ?_
  rintro k H1 hk ⟨rfl, heq⟩
  unfold F_help_Equal_api_Assignment_r1
  refine iteB_dec (fun c1 => ?_) (fun c1 => ⟨?_, rfl⟩)
  · have hkA : k < A.length := by omega
    have hkB : k < B.length := by omega
    obtain ⟨p, hp, hr⟩ := IsS.atN ha ((0, 0, 0, 0), 0) hkA
    obtain ⟨q, hq, hs⟩ := IsS.atN hb ((0, 0, 0, 0), 0) hkB
    have eA : A[k]? = some (A.getD k ((0, 0, 0, 0), 0)) := by simp [List.getD, hkA]
    have eB : B[k]? = some (B.getD k ((0, 0, 0, 0), 0)) := by simp [List.getD, hkB]
    generalize A.getD k ((0, 0, 0, 0), 0) = x at *
    generalize B.getD k ((0, 0, 0, 0), 0) = y at *
    obtain ⟨⟨x0, x1, x2, x3⟩, x4⟩ := x
    obtain ⟨⟨y0, y1, y2, y3⟩, y4⟩ := y
    refine ⟨by omega, by omega, unSome_mk hp ⟨_, hr 0 _ rfl, _, hr 1 _ rfl, _, hr 2 _ rfl, _, hr 3 _ rfl, _, hr 4 _ rfl, by omega, by omega, unSome_mk hq ⟨_, hs 0 _ rfl, _, hs 1 _ rfl, _, hs 2 _ rfl, _, hs 3 _ rfl, _, hs 4 _ rfl, iteB_not (fun c2 => ⟨?_, rfl⟩) (fun c2 => letV_mk _ rfl (next1 hkA (by omega) ⟨rfl, fun i hi => ?_⟩))⟩⟩⟩
    · rw [decide_eq_false]
      intro e
      rw [e, eB] at eA
      simp at eA
      simp at c2
      simp_all
    · by_cases e : i = k
      · subst e
        simp at c2
        rw [eA, eB]
        simp_all
      · exact heq i (by omega)
  · rw [decide_eq_true]
    apply List.ext_getElem?
    intro i
    by_cases hi : i < A.length
    · exact heq i (by omega)
    · rw [List.getElem?_eq_none (by omega), List.getElem?_eq_none (by omega)]


theorem AssignIs.len {T : List FS} {h : Host} {e : Int} {A : List Asg} {c : Cert} (a : AssignIs T h e A c) : A.length ≤ 1000 := by
  rcases a with ⟨_, _, rfl, _⟩ | ⟨_, e0, N, hN, h1⟩
  · simp
  · have := hN.len
    rcases h1 with ⟨_, _, rfl, _⟩ | ⟨_, _, _, rfl, _⟩ | ⟨_, _, _, rfl, _⟩
    · simp
    · simp
    · rw [List.length_zip]; omega

theorem RemIs.len {T : List FS} {A : List Asg} {p e : Int} {L : List Fn} {B : List Asg} {ix : List Int} (h : RemIs T A p e L B ix) : L.length ≤ 64 ∧ B.length ≤ A.length ∧ ix.length ≤ 64 ∧ ((∀ x ∈ T, x.1.bars.length ≤ 6) → ∀ f ∈ L, f.bars.length ≤ 6) := by
  rcases h with ⟨_, _, rfl, rfl, rfl⟩ | ⟨_, _, _, rfl, rfl, rfl⟩ | ⟨hv, _, _, rfl, rfl, rfl⟩
  · simp
  · simp
  · have h1 := remF_len p (fns T)
    have h2 := hv.1
    simp only [List.length_map] at h1
    refine ⟨by omega, List.length_filterMap_le _ _, by omega, fun hb => ?_⟩
    have key : ∀ (M : List Fn) (st : List Int × List Fn), (∀ f ∈ M, f.bars.length ≤ 6) → (∀ f ∈ st.2, f.bars.length ≤ 6) → ∀ f ∈ (M.foldl (remS p) st).2, f.bars.length ≤ 6 := by
      intro M
      induction M with
      | nil => intro st _ h f hf; exact h f hf
      | cons g M ih =>
        intro st hM h
        rw [List.foldl_cons]
        refine ih _ (fun f hf => hM f (by simp [hf])) (fun f hf => ?_)
        unfold remS at hf
        split at hf
        · exact h f hf
        · simp only [List.mem_append, List.mem_singleton] at hf
          rcases hf with hf | rfl
          · exact h f hf
          · exact hM g (by simp)
    exact key (fns T) ([], []) (fun f hf => by obtain ⟨x, hx, rfl⟩ := List.mem_map.1 hf; exact hb x hx) (by simp)

theorem removes_tail {Ha H1 Hg H8 : Heap} {t : Sl} {T : List FS} {g : Host} {gs : HostS} {x : Asg} {p : Int} (hT : Topo H8 t T) (hTb : ∀ x ∈ T, x.1.bars.length ≤ 6) (hTl : T.length ≤ 64) (hg : HostM H8 g gs) (bg : Blk H8 Hg.size t_api_Host (hostL g gs)) (bx : Blk H8 H1.size t_api_Assignment (encA x)) (e8 : Ext Ha H8) :
    F_law23_HotplugRemoves_k1 (BoolP true Ha) H1 t Hg p H8 := by
  unfold F_law23_HotplugRemoves_k1
  obtain ⟨p0, p1, p2, p3, p4, p5, p6, p7⟩ := Blk.host bg
  refine ⟨_, p0, _, p1, _, p2, _, p3, _, p4, _, p5, _, p6, _, p7, (rAssign_spec T t g gs H8 hT hg).mono ?_⟩
  rintro v H9 ⟨xs, ea, A, ce, rfl, hA, isA, ownA, e9⟩
  have hAl := hA.len
  have nA := isA.len
  refine ⟨xs, _, _, _, _, ea, rfl, local_mk (vs := encC ce) rfl rfl fun H11 e11 z11 b11 => ?_⟩
  have bx11 := (bx.ext e9).ext e11
  refine ⟨_, bx11.rd0 rfl, _, bx11.rd (i := 1) rfl, _, bx11.rd (i := 2) rfl, _, bx11.rd (i := 3) rfl, _, bx11.rd (i := 4) rfl, ?_⟩
  refine apR rkAsg x (lo := H8.size) (ownA.ext e11) (by omega) (e9.trans e11).size ?_
  intro y H13 o13 n13 m13
  have e13 : Ext H8 H13 := Mods.ext (e9.trans e11) m13 (blkOf_new ownA.new)
  have is13 := Own.is rkAsg o13
  refine (Remove_spec T (A ++ [x]) t y p H13 (hT.ext e13) is13 (by simp; omega)).mono ?_
  rintro v H14 ⟨a1, a2, a3, ea', LA, TA, BA, IA, rfl, rA, fA, tA, sA, nA', e14⟩
  refine ⟨a1, a2, a3, ea', rfl, (rRemove_spec T (A ++ [x]) t y p H14 ((hT.ext e13).ext e14) (is13.ext e14) (by simp; omega)).mono ?_⟩
  rintro v H15 ⟨b1, b2, b3, eb, LB, TB, BB, IB, rfl, rB, fB, tB, sB, nB', e15⟩
  obtain ⟨rfl, rfl, rfl, rfl⟩ := rA.uni rB
  obtain ⟨l1, l2, l3, l4⟩ := rA.len
  have hTAl : TA.length = LA.length := by rw [← fA]; simp
  refine ⟨b1, b2, b3, ea', rfl, (awake_spec H15).mono ?_⟩
  rintro v H16 ⟨rfl, e16⟩
  refine ⟨_, rfl, iteB_pos rfl ((EqualFunc_spec TA TB a1 b1 H16 ((tA.ext e15).ext e16) (tB.ext e16) (by omega) (fun z hz => ?_)).mono ?_)⟩
  · have := l4 hTb z.1 (by rw [← fA]; exact List.mem_map.2 ⟨z, hz, rfl⟩)
    omega
  rintro v H17 ⟨q, rfl, hq, e17⟩
  have : q = true := hq.2 (by rw [fA, fB])
  subst this
  refine ⟨true, rfl, iteB_pos rfl ((Equal_api_Assignment_spec H17 a2 b2 _ _ ((sA.ext e15).ext (e16.trans e17)) (sB.ext (e16.trans e17)) (by simp at l2; omega)).mono ?_)⟩
  rintro v H18 ⟨rfl, rfl⟩
  refine ⟨_, rfl, iteB_pos (by simp) ((Equal_int_spec H18 a3 b3 _ _ ((nA'.ext e15).ext (e16.trans e17)) (nB'.ext (e16.trans e17)) (by omega)).mono ?_)⟩
  rintro v H19 ⟨rfl, rfl⟩
  exact ⟨_, rfl, iteB_pos (by simp) ⟨by simp, ((((e8.trans e13).trans e14).trans e15).trans e16).trans e17⟩⟩

theorem law_removes (H : Heap) (s : Sl) (L : List FS) (h : Host) (hs : HostS) (at' : Int) (raw : Bool) (x : Asg) (hL : Topo H s L) (hl : L.length ≤ 9223372036854775807) (hb : ∀ x ∈ L, x.1.bars.length ≤ 9223372036854775807) (hm : HostM H h hs) :
    CallsH Try.prog n_law23_HotplugRemoves #[.slice s.p s.n s.c, hostV h hs, .int .i64 at', .bool raw, .agg #[.int .i64 x.1.1, .int .i64 x.1.2.1, .int .i64 x.1.2.2.1, .int .i64 x.1.2.2.2, .int .u64 x.2]] H (BoolP true H) := by
  refine F_law23_HotplugRemoves_ok _ _ _ _ _ _ _ _ _ _ _ _ _ _ _ _ ?_
  unfold F_law23_HotplugRemoves
  refine push_mk (vs := hostL h hs) fun H1 e1 z1 b1 => push_mk (vs := encA x) fun H2 e2 z2 b2 => ?_
  have x2 := e1.trans e2
  obtain ⟨p0, p1, p2, p3, p4, p5, p6, p7⟩ := Blk.host (b1.ext e2)
  -- the port, and the end, whatever came before
  have tail : ∀ (Hg H6 : Heap) (t : Sl) (T : List FS) (g : Host) (gs : HostS), Topo H6 t T → (∀ x ∈ T, x.1.bars.length ≤ 6) → T.length ≤ 24 → HostM H6 g gs → Blk H6 Hg.size t_api_Host (hostL g gs) → Blk H6 H1.size t_api_Assignment (encA x) → Ext H H6 →
      ∃ J_ : Int → Heap → Prop, (iteB (!raw) (CallsH Try.prog n_law23_port #[.slice t.p t.n t.c, .int .i64 at'] H6 (fun v2 H7 => ∃ p : Int, v2 = .int .i64 p ∧ J_ p H7)) (J_ at' H6)) ∧ (∀ p1 : Int, ∀ H8 : Heap, J_ p1 H8 → F_law23_HotplugRemoves_k1 (BoolP true H) H1 t Hg p1 H8) := by
    intro Hg H6 t T g gs hT hTb hTl hg bg bx e6
    refine ⟨fun _ H' => Ext H6 H', iteB_not (fun c => ?_) (fun c => .refl _), fun p H8 e8 => removes_tail (hT.ext e8) hTb (by omega) (hg.ext e8) (bg.ext e8) (bx.ext e8) (e6.trans e8)⟩
    refine (lport_spec T t at' H6 hT (by omega)).mono ?_
    rintro v H7 ⟨p, rfl, _, e7⟩
    exact ⟨p, rfl, e7⟩
  refine ⟨_, p0, _, p1, _, p2, _, p3, _, p4, _, p5, _, p6, _, p7, ?_, ?_⟩
  · refine (gTopo_spec H2 s L 24 (by omega) (hL.ext x2) hl hb).mono ?_
    intro v H3 h3
    obtain ⟨t, T, rfl, hT, hv, hT24, e3, hTb⟩ := gtopo_len h3 (by omega)
    have x3 := x2.trans e3
    refine ⟨t, rfl, e3.keeps, ?_, ?_⟩
    · refine (gHost_spec h hs H3 (hm.ext x3)).mono ?_
      rintro v H4 ⟨g, gs, rfl, hg, _, _, _, e4⟩
      refine ⟨_, _, _, _, _, _, _, _, rfl, push_mk (vs := hostL ⟨0, [], [], [], [], [], [], []⟩ ⟨⟨none, 0, 0⟩, ⟨none, 0, 0⟩, ⟨none, 0, 0⟩, ⟨none, 0, 0⟩, ⟨none, 0, 0⟩, ⟨none, 0, 0⟩, ⟨none, 0, 0⟩⟩) fun H5 e5 z5 b5 => ⟨e5.keeps, b5.ok0 (by simp), letH_mk ?_⟩⟩
      intro H6 h6
      have b6 : Blk H6 H4.size t_api_Host (hostL g gs) := by rw [h6]; exact b5.wr
      have m6 : Mods [H4.size] H5 H6 := by rw [h6]; exact Mods.wrs (by simp)
      clear h6
      have e46 : Ext H4 H6 := Mods.ext e5 m6 (by simp)
      exact tail H4 H6 t T g gs (hT.ext (e4.trans e46)) hTb hT24 (hg.ext e46) b6 (((b2.ext e3).ext e4).ext e46) ((x3.trans e4).trans e46)
    · refine push_mk (vs := hostL ⟨0, [], [], [], [], [], [], []⟩ ⟨⟨none, 0, 0⟩, ⟨none, 0, 0⟩, ⟨none, 0, 0⟩, ⟨none, 0, 0⟩, ⟨none, 0, 0⟩, ⟨none, 0, 0⟩, ⟨none, 0, 0⟩⟩) fun H20 e20 z20 b20 => ⟨e20.keeps, ?_⟩
      refine (gHost_spec h hs H20 (hm.ext (x3.trans e20))).mono ?_
      rintro v H21 ⟨g, gs, rfl, hg, hty, _, _, e21⟩
      refine ⟨_, _, _, _, _, _, _, _, rfl, (b20.ext e21).ok0 (by simp), letH_mk ?_⟩
      intro H22 h22
      have b22 : Blk H22 H3.size t_api_Host (hostL g gs) := by rw [h22]; exact (b20.ext e21).wr
      have m22 : Mods [H3.size] H21 H22 := by rw [h22]; exact Mods.wrs (by simp)
      clear h22
      have e322 : Ext H3 H22 := Mods.ext (e20.trans e21) m22 (by simp)
      exact tail H3 H22 t T g gs (hT.ext e322) hTb hT24 (hg.modsT hty (b20.ext e21) m22) b22 ((b2.ext e3).ext e322) (x3.trans e322)
  · refine push_mk (vs := hostL ⟨0, [], [], [], [], [], [], []⟩ ⟨⟨none, 0, 0⟩, ⟨none, 0, 0⟩, ⟨none, 0, 0⟩, ⟨none, 0, 0⟩, ⟨none, 0, 0⟩, ⟨none, 0, 0⟩, ⟨none, 0, 0⟩⟩) fun H36 e36 z36 b36 => ⟨e36.keeps, ?_⟩
    refine (gTopoT_spec H36 s L 24 (by omega) (hL.ext (x2.trans e36)) hl hb).mono ?_
    rintro v H37 ⟨t, T, rfl, hT, hv, hT24, e37, ty37, gt37⟩
    have hTb := valid_regs hv
    have x37 := (x2.trans e36).trans e37
    refine ⟨t, rfl, e37.keeps, (gHost_spec h hs H37 (hm.ext x37)).mono ?_⟩
    rintro v H38 ⟨g, gs, rfl, hg, hty, _, _, e38⟩
    have b38 := (b36.ext e37).ext e38
    refine ⟨_, _, _, _, _, _, _, _, rfl, b38.ok0 (by simp), letH_mk ?_⟩
    intro H39 h39
    have b39 : Blk H39 H2.size t_api_Host (hostL g gs) := by rw [h39]; exact b38.wr
    have m39 : Mods [H2.size] H38 H39 := by rw [h39]; exact Mods.wrs (by simp)
    clear h39
    have e239 : Ext H2 H39 := Mods.ext ((e36.trans e37).trans e38) m39 (by simp)
    have hT39 : Topo H39 t T := by
      have h38 := hT.ext e38
      have hlt : ∀ {q : Option Addr} {e : TypeId}, e ≠ t_api_Host → TyB H38 q e → ∀ a, q = some a → a.block ∉ [H2.size] := fun {q e} he hq a ha => by
        have t1 : TyB H38 (some ⟨H2.size, 0, none⟩) t_api_Host := fun a ha => by cases ha; exact ⟨_, _, b38⟩
        have := ty_ne hq t1 he a ha
        simpa [blkOf] using this
      exact ⟨h38.1.mods m39 (hlt (by decide) (ty37.mods (S := []) e38.mods (fun _ _ => by simp))), fun x hx => ((gt37.ext e38).mods m39 (fun p hp => hlt (by decide) hp) x hx).1⟩
    exact tail H2 H39 t T g gs hT39 hTb hT24 (hg.modsT hty b38 m39) b39 (b2.ext e239) (x2.trans e239)

end Go.Proofs.Ytnhhncjflnlfaaa
end

section
/-
  The engine, part 5: what the arguments of a law hold, read off the statement's own reading of them.
-/
namespace Go.Eng

/-- Whatever the statement reads at type 't' is something of which 'R' holds. -/
def Opens {α : Type} (P : Program) (t : TypeId) (R : Heap → List Value → α → Prop) : Prop :=
  ∀ (H : Type) (enc : TypeId × Value → H) (w : World) (base : Nat) (spare : Nat → Bool) (held : Bool) (fuel : Nat) (cs : List Value) (x : DataW H × List MemPlace),
    DataW.trod enc P w base spare held fuel t cs = some x → ∃ a, R w.heap cs a

theorem opens_int {P : Program} {t : TypeId} {k : IntKind} (ht : P.underlying t = some (.int k)) : Opens P t (fun _ cs (n : Int) => cs = [.int k n] ∧ (Lit.int k n).wf = true) := by
  intro H enc w base spare held fuel cs x h
  obtain ⟨n, h1, _, h2⟩ := DataW.trod_int ht h
  exact ⟨n, h1, h2⟩

theorem opens_bool {P : Program} {t : TypeId} (ht : P.underlying t = some .bool) : Opens P t (fun _ cs (n : Bool) => cs = [.bool n]) := by
  intro H enc w base spare held fuel cs x h
  obtain ⟨n, h1, _⟩ := DataW.trod_bool ht h
  exact ⟨n, h1⟩

theorem opens_string {P : Program} {t : TypeId} (ht : P.underlying t = some .string) : Opens P t (fun _ cs (s : ByteArray) => cs = [.string s] ∧ s.size ≤ maxLen) := by
  intro H enc w base spare held fuel cs x h
  obtain ⟨n, h1, _, h2⟩ := DataW.trod_string ht h
  exact ⟨n, h1, h2⟩

theorem list_choose {α : Type} {Q : Nat → α → Prop} : ∀ n : Nat, (∀ i, i < n → ∃ x, Q i x) → ∃ l : List α, l.length = n ∧ ∀ i x, l[i]? = some x → Q i x := by
  intro n
  induction n with
  | zero => intro _; exact ⟨[], rfl, fun i x h => by simp at h⟩
  | succ n ih =>
    intro h
    obtain ⟨l, hl, hq⟩ := ih (fun i hi => h i (by omega))
    obtain ⟨x, hx⟩ := h n (by omega)
    refine ⟨l ++ [x], by simp [hl], fun i y hy => ?_⟩
    rw [List.getElem?_append] at hy
    split at hy
    · exact hq i y hy
    · rename_i hlt
      have hi : i - l.length = 0 := by
        have := (List.getElem?_eq_some_iff.1 hy).1
        simp at this
        omega
      rw [hi] at hy
      cases hy
      have : i = n := by omega
      subst this
      exact hx

/-- A slice whose elements are something of which 'R' holds. -/
structure SlR {α : Type} (sz : Nat) (R : Heap → List Value → α → Prop) (H : Heap) (s : Sl) (l : List α) : Prop where
  len : s.n = l.length
  cap : s.n ≤ s.c
  max : s.c ≤ maxLen
  row : l = [] ∨ ∃ a, s.p = some a ∧ ∀ i x, l[i]? = some x → ∃ cs, cs.length = sz ∧ R H cs x ∧ ∀ j v, cs[j]? = some v → rd H ((a.add (i * sz)).add j) = some v

def IsSl {α : Type} (sz : Nat) (R : Heap → List Value → α → Prop) (H : Heap) (cs : List Value) (l : List α) : Prop := ∃ s : Sl, cs = [.slice s.p s.n s.c] ∧ SlR sz R H s l

theorem opens_slice {α : Type} {P : Program} {t e : TypeId} {sz : Nat} {R : Heap → List Value → α → Prop} (ht : P.underlying t = some (.slice e)) (hc : P.cellsOf e = sz) (he : Opens P e R) : Opens P t (IsSl sz R) := by
  intro H enc w base spare held fuel cs x h
  rcases Go.Deep.open_slice ht h with ⟨rfl, _⟩ | ⟨a, len, cap, m, n, D, Pl, rfl, _, hl, hm, hmm, _, hx⟩
  · exact ⟨[], ⟨none, 0, 0⟩, rfl, rfl, Nat.le_refl _, Nat.zero_le _, .inl rfl⟩
  · obtain ⟨l, h1, h2⟩ := list_choose (Q := fun i x => ∃ cs, cs.length = sz ∧ R w.heap cs x ∧ ∀ j v, cs[j]? = some v → rd w.heap ((a.add (i * sz)).add j) = some v) len (fun i hi => by
      obtain ⟨cs', g1, g2⟩ := hx i (by rw [hmm]; split <;> omega)
      obtain ⟨_, g3, g4⟩ := World.cells?_some g1
      obtain ⟨y, hy⟩ := he H enc w base spare held n cs' _ g2
      refine ⟨y, cs', by rw [g3, hc], hy, fun j v hv => ?_⟩
      have hj : j < P.cellsOf e := by rw [← g3]; exact (List.getElem?_eq_some_iff.1 hv).1
      have := g4 j hj
      rw [hv, hc] at this
      exact this)
    exact ⟨l, ⟨some a, len, cap⟩, rfl, h1.symm, hl, hm, .inr ⟨a, rfl, h2⟩⟩

theorem Opens.mono {α β : Type} {P : Program} {t : TypeId} {R : Heap → List Value → α → Prop} {S : Heap → List Value → β → Prop} (h : Opens P t R) (hm : ∀ H cs a, R H cs a → ∃ b, S H cs b) : Opens P t S := by
  intro H enc w base spare held fuel cs x hx
  obtain ⟨a, ha⟩ := h H enc w base spare held fuel cs x hx
  exact hm _ _ a ha

/-- A struct: each field's cells are something of which that field's relation holds. -/
theorem opens_fields {P : Program} {t : TypeId} {fs : Array Field} (ht : P.underlying t = some (.struct fs)) {H : Type} {enc : TypeId × Value → H} {w : World} {base : Nat} {spare : Nat → Bool} {held : Bool} {fuel : Nat} {cs : List Value} {x : DataW H × List MemPlace}
    (h : DataW.trod enc P w base spare held fuel t cs = some x) {α : Type} {R : Heap → List Value → α → Prop} (i : Nat) {ft : TypeId} {o c : Nat} (hf : (fs[i]?).map (fun f => (f.type, f.offset)) = some (ft, o)) (hc : P.cellsOf ft = c) (ho : Opens P ft R) :
    ∃ a, R w.heap ((cs.drop o).take c) a := by
  obtain ⟨xs, n, _, _, hl, hx, hg⟩ := DataW.trod_struct ht h
  cases hfi : fs[i]? with
  | none => rw [hfi] at hf; cases hf
  | some f =>
    rw [hfi] at hf
    simp only [Option.map_some, Option.some.injEq, Prod.mk.injEq] at hf
    obtain ⟨rfl, rfl⟩ := hf
    have h1 := hg i f hfi
    have hi : i < fs.size := (Array.getElem?_eq_some_iff.1 hfi).1
    rw [List.getElem?_eq_getElem (by omega), hc] at h1
    exact ho H enc w base spare held n _ _ h1

theorem opens_len {P : Program} {t : TypeId} {fs : Array Field} (ht : P.underlying t = some (.struct fs)) {H : Type} {enc : TypeId × Value → H} {w : World} {base : Nat} {spare : Nat → Bool} {held : Bool} {fuel : Nat} {cs : List Value} {x : DataW H × List MemPlace}
    (h : DataW.trod enc P w base spare held fuel t cs = some x) : cs.length = P.cellsOf t := by
  obtain ⟨xs, n, _, _, hl, _⟩ := DataW.trod_struct ht h
  exact hl

/-- The relation says what the cells are. -/
theorem SlR.isS {α : Type} {sz : Nat} {R : Heap → List Value → α → Prop} {enc : α → List Value} {H : Heap} {s : Sl} {l : List α} (h : SlR sz R H s l) (he : ∀ cs x, R H cs x → cs = enc x) : IsS sz enc H s l := by
  refine ⟨h.len, ?_⟩
  rcases h.row with h0 | ⟨a, hp, hr⟩
  · exact .inl h0
  · refine .inr ⟨a, hp, fun i x hi j v hv => ?_⟩
    obtain ⟨cs, _, h2, h3⟩ := hr i x hi
    rw [he cs x h2] at h3
    exact h3 j v hv

theorem SlR.all {α : Type} {sz : Nat} {R : Heap → List Value → α → Prop} {H : Heap} {s : Sl} {l : List α} (h : SlR sz R H s l) : ∀ x ∈ l, ∃ cs, R H cs x := by
  intro x hx
  rcases h.row with h0 | ⟨a, _, hr⟩
  · rw [h0] at hx; cases hx
  · obtain ⟨i, hi, rfl⟩ := List.getElem_of_mem hx
    obtain ⟨cs, _, h2, _⟩ := hr i l[i] (by simp [hi])
    exact ⟨cs, h2⟩

theorem SlR.lt {α : Type} {sz : Nat} {R : Heap → List Value → α → Prop} {H : Heap} {s : Sl} {l : List α} (h : SlR sz R H s l) : l.length ≤ maxLen := by
  have := h.len; have := h.cap; have := h.max; omega

/-- A slice of slices of integers. -/
structure IRows (k : IntKind) (H : Heap) (s : Sl) (l : List (List Int)) : Prop where
  len : s.n = l.length
  row : l = [] ∨ ∃ a, s.p = some a ∧ ∀ i x, l[i]? = some x → ∃ r : Sl, rd H (a.add (i * 1)) = some (.slice r.p r.n r.c) ∧ Ints k H r x ∧ x.length ≤ maxLen ∧ (∀ a, r.p = some a → x ≠ [] → a.block < H.size)

theorem rd_lt' {H : Heap} {a : Addr} {v : Value} (h : rd H a = some v) : a.block < H.size := rd_lt h

theorem IRows.at {k : IntKind} {H : Heap} {s : Sl} {l : List (List Int)} (h : IRows k H s l) {x : Int} (h0 : 0 ≤ x) (h1 : x < l.length) :
    ∃ a r, s.p = some a ∧ rd H (a.add (x.toNat * 1)) = some (.slice r.p r.n r.c) ∧ Ints k H r (l.getD x.toNat []) ∧ (l.getD x.toNat []).length ≤ maxLen := by
  have hx : x.toNat < l.length := by omega
  rcases h.row with h2 | ⟨a, hp, hr⟩
  · rw [h2] at h1; simp at h1; omega
  · obtain ⟨r, g1, g2, g3, _⟩ := hr x.toNat (l.getD x.toNat []) (by simp [hx])
    exact ⟨a, r, hp, g1, g2, g3⟩

theorem IRows.ext {k : IntKind} {H H' : Heap} {s : Sl} {l : List (List Int)} (h : IRows k H s l) (he : Ext H H') : IRows k H' s l := by
  refine ⟨h.len, ?_⟩
  rcases h.row with h2 | ⟨a, hp, hr⟩
  · exact .inl h2
  · refine .inr ⟨a, hp, fun i x hi => ?_⟩
    obtain ⟨r, g1, g2, g3, g4⟩ := hr i x hi
    exact ⟨r, he.mods (S := []) |>.rd g1 (by simp), g2.ext he, g3, fun a ha hx => Nat.lt_of_lt_of_le (g4 a ha hx) he.size⟩

theorem rows_of {k : IntKind} {H : Heap} {s : Sl} {l : List (List Int)} (h : SlR 1 (IsSl 1 (fun _ cs (n : Int) => cs = [.int k n] ∧ (Lit.int k n).wf = true)) H s l) : IRows k H s l := by
  refine ⟨h.len, ?_⟩
  rcases h.row with h2 | ⟨a, hp, hr⟩
  · exact .inl h2
  · refine .inr ⟨a, hp, fun i x hi => ?_⟩
    obtain ⟨cs, g1, ⟨r, rfl, g2⟩, g3⟩ := hr i x hi
    have hi : Ints k H r x := g2.isS (enc := encI k) (fun cs n hc => hc.1)
    have h0 := g3 0 _ rfl
    rw [add_add'] at h0
    refine ⟨r, h0, hi, g2.lt, fun b hb hx => ?_⟩
    cases x with
    | nil => exact absurd rfl hx
    | cons n x =>
      obtain ⟨a', ha', hr'⟩ := hi.get (i := 0) (x := n) rfl
      rw [hb] at ha'
      cases ha'
      have := rd_lt (hr' 0 _ rfl)
      simpa [add_block] using this

theorem Opens.trod {α : Type} {P : Program} {t : TypeId} {R : Heap → List Value → α → Prop} (h : Opens P t R) {H : Type} {enc : TypeId × Value → H} {w : World} {base : Nat} {spare : Nat → Bool} {held : Bool} {v : Value} {d : DataW H} {ps : List MemPlace}
    (ht : DataW.Trod enc P w base spare held t v d ps) : ∃ a, R w.heap v.cells.toList a := by
  obtain ⟨fuel, hf⟩ := ht
  exact h H enc w base spare held fuel _ _ hf

end Go.Eng
end

section
/-
  The engine, part 10: what the arguments of a law hold, where no slice among them is greater than a machine's memory (as the statements say).
-/
namespace Go.Eng

def OpensZ {α : Type} (P : Program) (t : TypeId) (R : Heap → List Value → α → Prop) : Prop :=
  ∀ (H : Type) (enc : TypeId × Value → H) (w : World) (base : Nat) (spare : Nat → Bool) (held : Bool) (fuel : Nat) (cs : List Value) (x : DataW H × List MemPlace),
    DataW.trod enc P w base spare held fuel t cs = some x → (∀ n ∈ x.1.weights P t, n ≤ reachBytes) → ∃ a, R w.heap cs a

theorem Opens.z {α : Type} {P : Program} {t : TypeId} {R : Heap → List Value → α → Prop} (h : Opens P t R) : OpensZ P t R := fun H enc w base spare held fuel cs x hx _ => h H enc w base spare held fuel cs x hx

theorem mem_weightsAll {H : Type} {P : Program} {e : TypeId} {d : DataW H} : ∀ {l : List (DataW H)}, d ∈ l → ∀ n ∈ d.weights P e, n ∈ DataW.weightsAll P e l
  | [], h, _, _ => by cases h
  | y :: l, h, n, hn => by
    simp only [DataW.weightsAll, List.mem_append]
    rcases List.mem_cons.1 h with rfl | h
    · exact .inl hn
    · exact .inr (mem_weightsAll h n hn)

theorem opens_slice_z {α : Type} {P : Program} {t e : TypeId} {sz : Nat} {R : Heap → List Value → α → Prop} (ht : P.underlying t = some (.slice e)) (hc : P.cellsOf e = sz) (he : OpensZ P e R) :
    OpensZ P t (fun H cs l => IsSl sz R H cs l ∧ l.length * P.bytesOf e ≤ reachBytes) := by
  intro H enc w base spare held fuel cs x h hw
  rcases Go.Deep.open_slice ht h with ⟨rfl, _⟩ | ⟨a, len, cap, m, n, D, Pl, rfl, _, hl, hm, hmm, rfl, hx⟩
  · exact ⟨[], ⟨⟨none, 0, 0⟩, rfl, rfl, Nat.le_refl _, Nat.zero_le _, .inl rfl⟩, by simp⟩
  · simp only [DataW.weights, ht] at hw
    obtain ⟨l, h1, h2⟩ := list_choose (Q := fun i x => ∃ cs, cs.length = sz ∧ R w.heap cs x ∧ ∀ j v, cs[j]? = some v → rd w.heap ((a.add (i * sz)).add j) = some v) len (fun i hi => by
      obtain ⟨cs', g1, g2⟩ := hx i (by rw [hmm]; split <;> omega)
      obtain ⟨_, g3, g4⟩ := World.cells?_some g1
      obtain ⟨y, hy⟩ := he H enc w base spare held n cs' _ g2 (fun k hk => hw k (List.mem_cons_of_mem _ (List.mem_append_left _ (mem_weightsAll (List.mem_map.2 ⟨i, List.mem_range.2 hi, rfl⟩) k hk))))
      refine ⟨y, cs', by rw [g3, hc], hy, fun j v hv => ?_⟩
      have hj : j < P.cellsOf e := by rw [← g3]; exact (List.getElem?_eq_some_iff.1 hv).1
      have := g4 j hj
      rw [hv, hc] at this
      exact this)
    refine ⟨l, ⟨⟨some a, len, cap⟩, rfl, h1.symm, hl, hm, .inr ⟨a, rfl, h2⟩⟩, ?_⟩
    have := hw _ (List.mem_cons_self)
    rw [List.length_map, List.length_range] at this
    rw [h1]
    exact Nat.le_trans (Nat.mul_le_mul_right _ (Nat.le_add_right _ _)) this

theorem opens_fields_z {P : Program} {t : TypeId} {fs : Array Field} (ht : P.underlying t = some (.struct fs)) {H : Type} {enc : TypeId × Value → H} {w : World} {base : Nat} {spare : Nat → Bool} {held : Bool} {fuel : Nat} {cs : List Value} {x : DataW H × List MemPlace}
    (h : DataW.trod enc P w base spare held fuel t cs = some x) (hw : ∀ n ∈ x.1.weights P t, n ≤ reachBytes) {α : Type} {R : Heap → List Value → α → Prop} (i : Nat) {ft : TypeId} {o c : Nat} (hf : (fs[i]?).map (fun f => (f.type, f.offset)) = some (ft, o)) (hc : P.cellsOf ft = c) (ho : OpensZ P ft R) :
    ∃ a, R w.heap ((cs.drop o).take c) a := by
  obtain ⟨xs, n, _, rfl, hl, hx, hg⟩ := DataW.trod_struct ht h
  simp only [DataW.weights, ht] at hw
  cases hfi : fs[i]? with
  | none => rw [hfi] at hf; cases hf
  | some f =>
    rw [hfi] at hf
    simp only [Option.map_some, Option.some.injEq, Prod.mk.injEq] at hf
    obtain ⟨rfl, rfl⟩ := hf
    have h1 := hg i f hfi
    have hi : i < fs.size := (Array.getElem?_eq_some_iff.1 hfi).1
    have hxi : xs[i]? = some (xs[i]'(by omega)) := List.getElem?_eq_getElem (by omega)
    rw [hxi, hc] at h1
    refine ho H enc w base spare held n _ _ h1 (fun k hk => hw k (DataW.weights_mem_each (j := i) (t := f.type) ?_ ?_ k hk))
    · rw [List.getElem?_map, Array.getElem?_toList, hfi]; rfl
    · rw [List.getElem?_map, hxi]; rfl

theorem OpensZ.trod {α : Type} {P : Program} {t : TypeId} {R : Heap → List Value → α → Prop} (h : OpensZ P t R) {H : Type} {enc : TypeId × Value → H} {w : World} {base : Nat} {spare : Nat → Bool} {held : Bool} {v : Value} {d : DataW H} {ps : List MemPlace}
    (ht : DataW.Trod enc P w base spare held t v d ps) (hw : ∀ n ∈ d.weights P t, n ≤ reachBytes) : ∃ a, R w.heap v.cells.toList a := by
  obtain ⟨fuel, hf⟩ := ht
  exact h H enc w base spare held fuel _ _ hf hw

theorem each_z {H : Type} {P : Program} {ts : List TypeId} {ds : List (DataW H)} (h : (DataW.weightsEach P ts ds).all (· ≤ reachBytes) = true) {j : Nat} {t : TypeId} {d : DataW H} (ht : ts[j]? = some t) (hd : ds[j]? = some d) : ∀ n ∈ d.weights P t, n ≤ reachBytes := fun n hn => by
  simpa using List.all_eq_true.1 h n (DataW.weights_mem_each ht hd n hn)

theorem reach47 {n : Nat} (h : n ≤ reachBytes) : n ≤ 140737488355328 := Nat.le_trans h (by decide)

end Go.Eng
end

section
/-
  What the arguments hold.
-/
namespace Go.Proofs.Ytnhhncjflnlfaaa
open Go.Eng

def RBar (_ : Heap) (cs : List Value) (d : Bar) : Prop := cs = encBar d ∧ (Lit.int .i64 d.1).wf = true ∧ (Lit.int .i64 d.2).wf = true ∧ True

theorem opens_api_Bar : Opens Try.prog t_api_Bar RBar := by
  intro H enc w base spare held fuel cs x h
  have hl := opens_len Try.underlying93 h
  obtain ⟨a, ha, wa⟩ := opens_fields Try.underlying93 h 0 (o := 0) (c := 1) rfl (by kernel_rfl) (opens_int Try.underlying3)
  obtain ⟨b, hb, wb⟩ := opens_fields Try.underlying93 h 1 (o := 1) (c := 1) rfl (by kernel_rfl) (opens_int Try.underlying3)
  rw [show Try.prog.cellsOf t_api_Bar = 2 by kernel_rfl] at hl
  clear h
  match cs, hl, ha, hb with
  | [u0, u1], _, ha, hb =>
    simp at ha hb
    subst ha hb
    exact ⟨(a, b), rfl, wa, wb, trivial⟩

def RFn (H : Heap) (cs : List Value) (d : Fn × Sl) : Prop := cs = fnL d.1 d.2 ∧ SlR 2 RBar H d.2 d.1.bars ∧ (Lit.int .i64 d.1.parent).wf = true ∧ (Lit.int .i64 d.1.slot).wf = true ∧ (Lit.int .i64 d.1.vendor).wf = true ∧ (Lit.int .i64 d.1.device).wf = true ∧ (Lit.int .i64 d.1.spare).wf = true ∧ (Lit.int .i64 d.1.pin).wf = true ∧ (Lit.int .i64 d.1.vec).wf = true

theorem opens_api_Function : Opens Try.prog t_api_Function RFn := by
  intro H enc w base spare held fuel cs x h
  have hl := opens_len Try.underlying49 h
  obtain ⟨pa, hpa, wpa⟩ := opens_fields Try.underlying49 h 0 (o := 0) (c := 1) rfl (by kernel_rfl) (opens_int Try.underlying3)
  obtain ⟨sl, hsl, wsl⟩ := opens_fields Try.underlying49 h 1 (o := 1) (c := 1) rfl (by kernel_rfl) (opens_int Try.underlying3)
  obtain ⟨ve, hve, wve⟩ := opens_fields Try.underlying49 h 2 (o := 2) (c := 1) rfl (by kernel_rfl) (opens_int Try.underlying3)
  obtain ⟨de, hde, wde⟩ := opens_fields Try.underlying49 h 3 (o := 3) (c := 1) rfl (by kernel_rfl) (opens_int Try.underlying3)
  obtain ⟨br, hbr⟩ := opens_fields Try.underlying49 h 4 (o := 4) (c := 1) rfl (by kernel_rfl) (opens_bool Try.underlying4)
  obtain ⟨pr, hpr⟩ := opens_fields Try.underlying49 h 5 (o := 5) (c := 1) rfl (by kernel_rfl) (opens_bool Try.underlying4)
  obtain ⟨ho, hho⟩ := opens_fields Try.underlying49 h 6 (o := 6) (c := 1) rfl (by kernel_rfl) (opens_bool Try.underlying4)
  obtain ⟨sp, hsp, wsp⟩ := opens_fields Try.underlying49 h 7 (o := 7) (c := 1) rfl (by kernel_rfl) (opens_int Try.underlying3)
  obtain ⟨pi, hpi, wpi⟩ := opens_fields Try.underlying49 h 8 (o := 8) (c := 1) rfl (by kernel_rfl) (opens_int Try.underlying3)
  obtain ⟨vc, hvc, wvc⟩ := opens_fields Try.underlying49 h 9 (o := 9) (c := 1) rfl (by kernel_rfl) (opens_int Try.underlying3)
  obtain ⟨ba, sba, hba, wba⟩ := opens_fields Try.underlying49 h 10 (o := 10) (c := 1) rfl (by kernel_rfl) (opens_slice (sz := 2) Try.underlying47 (by kernel_rfl) opens_api_Bar)
  rw [show Try.prog.cellsOf t_api_Function = 11 by kernel_rfl] at hl
  clear h
  match cs, hl, hpa, hsl, hve, hde, hbr, hpr, hho, hsp, hpi, hvc, hba with
  | [u0, u1, u2, u3, u4, u5, u6, u7, u8, u9, u10], _, hpa, hsl, hve, hde, hbr, hpr, hho, hsp, hpi, hvc, hba =>
    simp at hpa hsl hve hde hbr hpr hho hsp hpi hvc hba
    subst hpa hsl hve hde hbr hpr hho hsp hpi hvc hba
    exact ⟨(⟨pa, sl, ve, de, br, pr, ho, sp, pi, vc, ba⟩, sba), rfl, wba, wpa, wsl, wve, wde, wsp, wpi, wvc⟩

theorem RFn.bars {H : Heap} {cs : List Value} {d : Fn × Sl} (h : RFn H cs d) : Bars H d.2 d.1.bars := h.2.1.isS (fun _ _ hc => hc.1)
theorem RFn.len {H : Heap} {cs : List Value} {d : Fn × Sl} (h : RFn H cs d) : d.1.bars.length ≤ 9223372036854775807 := h.2.1.lt

def RFnZ (H : Heap) (cs : List Value) (d : Fn × Sl) : Prop := RFn H cs d ∧ d.1.bars.length * 16 ≤ reachBytes
theorem opens_api_Function_z : OpensZ Try.prog t_api_Function RFnZ := by
  intro H enc w base spare held fuel cs x h hw
  obtain ⟨d, hd⟩ := opens_api_Function H enc w base spare held fuel cs x h
  obtain ⟨l, ⟨s, hs, hr⟩, hz⟩ := opens_fields_z Try.underlying49 h hw 10 (o := 10) (c := 1) rfl (by kernel_rfl) (opens_slice_z (sz := 2) Try.underlying47 (by kernel_rfl) opens_api_Bar.z)
  refine ⟨d, hd, ?_⟩
  have h1 := hr.len
  have h2 := hd.bars.len
  rw [hd.1] at hs
  simp at hs
  rw [show Try.prog.bytesOf 93 = 16 by kernel_rfl] at hz
  rw [← h2, hs.2.1, h1]
  exact hz

theorem topo_of {H : Heap} {s : Sl} {l : List FS} (h : SlR 11 RFn H s l) : Topo H s l :=
  ⟨h.isS (fun _ _ hc => hc.1), fun x hx => by obtain ⟨cs, hc⟩ := h.all x hx; exact hc.bars⟩
theorem lens_of {H : Heap} {s : Sl} {l : List FS} (h : SlR 11 RFn H s l) : ∀ x ∈ l, x.1.bars.length ≤ 9223372036854775807 := fun x hx => by obtain ⟨cs, hc⟩ := h.all x hx; exact hc.len
theorem topo_ofz {H : Heap} {s : Sl} {l : List FS} (h : SlR 11 RFnZ H s l) : Topo H s l :=
  ⟨h.isS (fun _ _ hc => hc.1.1), fun x hx => by obtain ⟨cs, hc⟩ := h.all x hx; exact hc.1.bars⟩
theorem lens_ofz {H : Heap} {s : Sl} {l : List FS} (h : SlR 11 RFnZ H s l) : ∀ x ∈ l, x.1.bars.length ≤ 9223372036854775807 := fun x hx => by obtain ⟨cs, hc⟩ := h.all x hx; exact hc.1.len
theorem sizes_ofz {H : Heap} {s : Sl} {l : List FS} (h : SlR 11 RFnZ H s l) : ∀ x ∈ l, x.1.bars.length * 16 ≤ 140737488355328 := fun x hx => by obtain ⟨cs, hc⟩ := h.all x hx; exact reach47 hc.2

end Go.Proofs.Ytnhhncjflnlfaaa
end

section
/-
  What the arguments hold: hosts and assignments.
-/
namespace Go.Proofs.Ytnhhncjflnlfaaa
open Go.Eng

def RRange (_ : Heap) (cs : List Value) (d : Rg) : Prop := cs = encR d ∧ (Lit.int .u64 d.1).wf = true ∧ (Lit.int .u64 d.2).wf = true

theorem opens_api_Range : Opens Try.prog t_api_Range RRange := by
  intro H enc w base spare held fuel cs x h
  have hl := opens_len Try.underlying65 h
  obtain ⟨a0, ha0, w0⟩ := opens_fields Try.underlying65 h 0 (o := 0) (c := 1) rfl (by kernel_rfl) (opens_int Try.underlying30)
  obtain ⟨a1, ha1, w1⟩ := opens_fields Try.underlying65 h 1 (o := 1) (c := 1) rfl (by kernel_rfl) (opens_int Try.underlying30)
  rw [show Try.prog.cellsOf t_api_Range = 2 by kernel_rfl] at hl
  clear h
  match cs, hl, ha0, ha1 with
  | [u0, u1], _, ha0, ha1 =>
    simp at ha0 ha1
    subst ha0 ha1
    exact ⟨(a0, a1), rfl, w0, w1⟩

theorem opens_api_Range_z : OpensZ Try.prog t_api_Range RRange := opens_api_Range.z

def RLink (_ : Heap) (cs : List Value) (d : Int) : Prop := cs = encI .u32 d ∧ (Lit.int .u32 d).wf = true

theorem opens_api_IntLink : Opens Try.prog t_api_IntLink RLink := by
  intro H enc w base spare held fuel cs x h
  have hl := opens_len Try.underlying68 h
  obtain ⟨a0, ha0, w0⟩ := opens_fields Try.underlying68 h 0 (o := 0) (c := 1) rfl (by kernel_rfl) (opens_int Try.underlying66)
  rw [show Try.prog.cellsOf t_api_IntLink = 1 by kernel_rfl] at hl
  clear h
  match cs, hl, ha0 with
  | [u0], _, ha0 =>
    simp at ha0
    subst ha0
    exact ⟨a0, rfl, w0⟩

theorem opens_api_IntLink_z : OpensZ Try.prog t_api_IntLink RLink := opens_api_IntLink.z

def RRoute (_ : Heap) (cs : List Value) (d : Rt) : Prop := cs = encRt d ∧ (Lit.int .i64 d.1).wf = true ∧ (Lit.int .i64 d.2.1).wf = true ∧ (Lit.int .i64 d.2.2).wf = true

theorem opens_api_Route : Opens Try.prog t_api_Route RRoute := by
  intro H enc w base spare held fuel cs x h
  have hl := opens_len Try.underlying70 h
  obtain ⟨a0, ha0, w0⟩ := opens_fields Try.underlying70 h 0 (o := 0) (c := 1) rfl (by kernel_rfl) (opens_int Try.underlying3)
  obtain ⟨a1, ha1, w1⟩ := opens_fields Try.underlying70 h 1 (o := 1) (c := 1) rfl (by kernel_rfl) (opens_int Try.underlying3)
  obtain ⟨a2, ha2, w2⟩ := opens_fields Try.underlying70 h 2 (o := 2) (c := 1) rfl (by kernel_rfl) (opens_int Try.underlying3)
  rw [show Try.prog.cellsOf t_api_Route = 3 by kernel_rfl] at hl
  clear h
  match cs, hl, ha0, ha1, ha2 with
  | [u0, u1, u2], _, ha0, ha1, ha2 =>
    simp at ha0 ha1 ha2
    subst ha0 ha1 ha2
    exact ⟨(a0, a1, a2), rfl, w0, w1, w2⟩

theorem opens_api_Route_z : OpensZ Try.prog t_api_Route RRoute := opens_api_Route.z

def RNeed (_ : Heap) (cs : List Value) (d : Need) : Prop := cs = encN d ∧ (Lit.int .i64 d.1).wf = true ∧ (Lit.int .i64 d.2.1).wf = true ∧ (Lit.int .i64 d.2.2.1).wf = true ∧ (Lit.int .i64 d.2.2.2).wf = true

theorem opens_api_Need : Opens Try.prog t_api_Need RNeed := by
  intro H enc w base spare held fuel cs x h
  have hl := opens_len Try.underlying29 h
  obtain ⟨a0, ha0, w0⟩ := opens_fields Try.underlying29 h 0 (o := 0) (c := 1) rfl (by kernel_rfl) (opens_int Try.underlying3)
  obtain ⟨a1, ha1, w1⟩ := opens_fields Try.underlying29 h 1 (o := 1) (c := 1) rfl (by kernel_rfl) (opens_int Try.underlying3)
  obtain ⟨a2, ha2, w2⟩ := opens_fields Try.underlying29 h 2 (o := 2) (c := 1) rfl (by kernel_rfl) (opens_int Try.underlying3)
  obtain ⟨a3, ha3, w3⟩ := opens_fields Try.underlying29 h 3 (o := 3) (c := 1) rfl (by kernel_rfl) (opens_int Try.underlying3)
  rw [show Try.prog.cellsOf t_api_Need = 4 by kernel_rfl] at hl
  clear h
  match cs, hl, ha0, ha1, ha2, ha3 with
  | [u0, u1, u2, u3], _, ha0, ha1, ha2, ha3 =>
    simp at ha0 ha1 ha2 ha3
    subst ha0 ha1 ha2 ha3
    exact ⟨(a0, a1, a2, a3), rfl, w0, w1, w2, w3⟩

theorem opens_api_Need_z : OpensZ Try.prog t_api_Need RNeed := opens_api_Need.z

def RAsg (_ : Heap) (cs : List Value) (d : Asg) : Prop := cs = encA d ∧ RNeed #[] (encN d.1) d.1 ∧ (Lit.int .u64 d.2).wf = true

theorem opens_api_Assignment : Opens Try.prog t_api_Assignment RAsg := by
  intro H enc w base spare held fuel cs x h
  have hl := opens_len Try.underlying32 h
  obtain ⟨n, hn, wn⟩ := opens_fields Try.underlying32 h 0 (o := 0) (c := 4) rfl (by kernel_rfl) opens_api_Need
  obtain ⟨a, ha, wa⟩ := opens_fields Try.underlying32 h 1 (o := 4) (c := 1) rfl (by kernel_rfl) (opens_int Try.underlying30)
  rw [show Try.prog.cellsOf t_api_Assignment = 5 by kernel_rfl] at hl
  clear h
  match cs, hl, hn, ha with
  | [u0, u1, u2, u3, u4], _, hn, ha =>
    simp [encN] at hn ha
    obtain ⟨rfl, rfl, rfl, rfl⟩ := hn
    subst ha
    exact ⟨(n, a), rfl, ⟨rfl, wn⟩, wa⟩

theorem opens_api_Assignment_z : OpensZ Try.prog t_api_Assignment RAsg := opens_api_Assignment.z

theorem u64L_of {H : Heap} {s : Sl} {l : List Rg} (h : SlR 2 RRange H s l) : U64L l := fun r hr => by
  obtain ⟨cs, _, h1, h2⟩ := h.all r hr
  simp [Lit.wf, IntKind.min, IntKind.max, IntKind.bits, IntKind.signed] at h1 h2
  omega
theorem rgs_of {H : Heap} {s : Sl} {l : List Rg} (h : SlR 2 RRange H s l) : Rgs H s l := h.isS (fun _ _ hc => hc.1)

def RHost (H : Heap) (cs : List Value) (d : Host × HostS) : Prop := cs = hostL d.1 d.2 ∧ HostM H d.1 d.2 ∧ (Lit.int .i64 d.1.buses).wf = true ∧ d.1.io.length ≤ 9223372036854775807 ∧ d.1.mem.length ≤ 9223372036854775807 ∧ d.1.high.length ≤ 9223372036854775807 ∧ d.1.fio.length ≤ 9223372036854775807 ∧ d.1.fix.length ≤ 9223372036854775807 ∧ d.1.links.length ≤ 9223372036854775807 ∧ d.1.routes.length ≤ 9223372036854775807

theorem opens_api_Host : Opens Try.prog t_api_Host RHost := by
  intro H enc w base spare held fuel cs x h
  have hl := opens_len Try.underlying27 h
  obtain ⟨bu, hbu, wbu⟩ := opens_fields Try.underlying27 h 0 (o := 0) (c := 1) rfl (by kernel_rfl) (opens_int Try.underlying3)
  obtain ⟨io, sio, hio, rio⟩ := opens_fields Try.underlying27 h 1 (o := 1) (c := 1) rfl (by kernel_rfl) (opens_slice (sz := 2) Try.underlying23 (by kernel_rfl) opens_api_Range)
  obtain ⟨me, sme, hme, rme⟩ := opens_fields Try.underlying27 h 2 (o := 2) (c := 1) rfl (by kernel_rfl) (opens_slice (sz := 2) Try.underlying23 (by kernel_rfl) opens_api_Range)
  obtain ⟨hi, shi, hhi, rhi⟩ := opens_fields Try.underlying27 h 3 (o := 3) (c := 1) rfl (by kernel_rfl) (opens_slice (sz := 2) Try.underlying23 (by kernel_rfl) opens_api_Range)
  obtain ⟨fi, sfi, hfi, rfi⟩ := opens_fields Try.underlying27 h 4 (o := 4) (c := 1) rfl (by kernel_rfl) (opens_slice (sz := 2) Try.underlying23 (by kernel_rfl) opens_api_Range)
  obtain ⟨fx, sfx, hfx, rfx⟩ := opens_fields Try.underlying27 h 5 (o := 5) (c := 1) rfl (by kernel_rfl) (opens_slice (sz := 2) Try.underlying23 (by kernel_rfl) opens_api_Range)
  obtain ⟨li, sli, hli, rli⟩ := opens_fields Try.underlying27 h 6 (o := 6) (c := 1) rfl (by kernel_rfl) (opens_slice (sz := 1) Try.underlying24 (by kernel_rfl) opens_api_IntLink)
  obtain ⟨ro, sro, hro, rro⟩ := opens_fields Try.underlying27 h 7 (o := 7) (c := 1) rfl (by kernel_rfl) (opens_slice (sz := 3) Try.underlying25 (by kernel_rfl) opens_api_Route)
  rw [show Try.prog.cellsOf t_api_Host = 8 by kernel_rfl] at hl
  clear h
  match cs, hl, hbu, hio, hme, hhi, hfi, hfx, hli, hro with
  | [u0, u1, u2, u3, u4, u5, u6, u7], _, hbu, hio, hme, hhi, hfi, hfx, hli, hro =>
    simp at hbu hio hme hhi hfi hfx hli hro
    subst hbu hio hme hhi hfi hfx hli hro
    exact ⟨(⟨bu, io, me, hi, fi, fx, li, ro⟩, ⟨sio, sme, shi, sfi, sfx, sli, sro⟩), rfl, ⟨rgs_of rio, rgs_of rme, rgs_of rhi, rgs_of rfi, rgs_of rfx, rli.isS (fun _ _ hc => hc.1), rro.isS (fun _ _ hc => hc.1), u64L_of rio, u64L_of rme, u64L_of rhi, u64L_of rfi, u64L_of rfx⟩, wbu, rio.lt, rme.lt, rhi.lt, rfi.lt, rfx.lt, rli.lt, rro.lt⟩

theorem opens_api_Host_z : OpensZ Try.prog t_api_Host RHost := opens_api_Host.z

end Go.Proofs.Ytnhhncjflnlfaaa
end
