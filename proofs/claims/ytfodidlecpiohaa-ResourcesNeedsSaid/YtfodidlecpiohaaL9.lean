/-
  ResourcesNeeds.
-/
import Derived.Test.YtfodidlecpiohaaC4
namespace Go.Proofs.Ytfodidlecpiohaa
open Go.Eng

theorem slP0 (p : Option Addr) (m s : Nat) : slP p m 0 s = p := by
  unfold slP
  split
  · rfl
  · cases p with
    | none => rfl
    | some a => simp [Addr.add]

theorem IsS.takeS {α : Type} {sz : Nat} {enc : α → List Value} {H : Heap} {s : Sl} {l : List α} (h : IsS sz enc H s l) (m c : Nat) (hm : m ≤ l.length) : IsS sz enc H ⟨s.p, m, c⟩ (l.take m) := by
  refine ⟨by simp; omega, ?_⟩
  rcases h.row with e | ⟨a, hp, hr⟩
  · subst e; exact .inl (by simp)
  · refine .inr ⟨a, hp, fun i x hx => hr i x ?_⟩
    rw [List.getElem?_take] at hx
    split at hx
    · exact hx
    · cases hx
theorem Topo.takeS {H : Heap} {s : Sl} {T : List FS} (h : Topo H s T) (m c : Nat) (hm : m ≤ T.length) : Topo H ⟨s.p, m, c⟩ (T.take m) :=
  ⟨IsS.takeS h.is m c hm, fun x hx => h.bars x (List.mem_of_mem_take hx)⟩

def NeedsIs (T : List FS) (high : Bool) (e : Int) (L : List Need) : Prop := (¬ ValidT T ∧ e = 1 ∧ L = []) ∨ (ValidT T ∧ Ovf T high ∧ e = 11 ∧ L = []) ∨ (ValidT T ∧ ¬ Ovf T high ∧ e = 0 ∧ L = needsAll T high)

theorem NeedsIs.uni {T : List FS} {high : Bool} {e e' : Int} {L L' : List Need} (h : NeedsIs T high e L) (h' : NeedsIs T high e' L') : e = e' ∧ L = L' := by
  rcases h with ⟨a, rfl, rfl⟩ | ⟨a, b, rfl, rfl⟩ | ⟨a, b, rfl, rfl⟩ <;> rcases h' with ⟨a', rfl, rfl⟩ | ⟨a', b', rfl, rfl⟩ | ⟨a', b', rfl, rfl⟩ <;> first | exact ⟨rfl, rfl⟩ | contradiction

theorem NeedsR.outI {T : List FS} {high : Bool} {H H' : Heap} {v : Value} (h : NeedsR T high H v H') : ∃ (out : Sl) (e : Int) (L : List Need), v = .tuple #[.slice out.p out.n out.c, .int .i64 e] ∧ IsS 4 encN H' out L ∧ NeedsIs T high e L ∧ Ext H H' := by
  rcases h with ⟨hn, he⟩ | ⟨hv, ho, he⟩ | ⟨out, hv, ho, hs, hn, he⟩
  · exact ⟨⟨none, 0, 0⟩, 1, [], rfl, IsS.nil _ _ _, .inl ⟨hn, rfl, rfl⟩, he⟩
  · exact ⟨⟨none, 0, 0⟩, 11, [], rfl, IsS.nil _ _ _, .inr (.inl ⟨hv, ho, rfl, rfl⟩), he⟩
  · exact ⟨out, 0, needsAll T high, rfl, hs.isS encN_len (by omega), .inr (.inr ⟨hv, ho, rfl, rfl⟩), he⟩
theorem NeedsIs.len {T : List FS} {high : Bool} {e : Int} {L : List Need} (h : NeedsIs T high e L) : L.length ≤ 1000 := by
  rcases h with ⟨a, rfl, rfl⟩ | ⟨a, b, rfl, rfl⟩ | ⟨a, b, rfl, rfl⟩
  · simp
  · simp
  · exact out_len (high := high) (e := 0) a (.inl ⟨rfl, rfl⟩)

theorem law_needs (H : Heap) (s : Sl) (L0 : List FS) (high : Bool) (function cls : Int) (h : Topo H s L0) (hcap : s.n ≤ s.c) (hl : L0.length ≤ 9223372036854775807) (hb : ∀ x ∈ L0, x.1.bars.length ≤ 9223372036854775807) :
    CallsH Try.prog n_law20_ResourcesNeeds #[.slice s.p s.n s.c, .bool high, .int .i64 function, .int .i64 cls] H (BoolP true H) := by
  refine F_law20_ResourcesNeeds_ok _ _ _ _ ?_
  unfold F_law20_ResourcesNeeds
  have hn := h.len
  have hmin : (if (80 : Int) < (s.n : Int) then (80 : Int) else (s.n : Int)) = ((min 80 s.n : Nat) : Int) := by split <;> omega
  rw [hmin, slP0, Nat.sub_zero, Nat.sub_zero, Int.toNat_natCast]
  have hT0 := h.takeS (min 80 s.n) s.c (by omega)
  generalize L0.take (min 80 s.n) = T0 at *
  refine ⟨by omega, by omega, (Needs_spec T0 ⟨s.p, min 80 s.n, s.c⟩ high H hT0).mono ?_⟩
  intro v H1 h1
  obtain ⟨a, ea, A, rfl, iA, cA, e1⟩ := h1.outI
  refine ⟨a, ea, rfl, by omega, by omega, (rNeeds_spec T0 ⟨s.p, min 80 s.n, s.c⟩ high H1 (hT0.ext e1)).mono ?_⟩
  intro v H2 h2
  obtain ⟨b, eb, B, rfl, iB, cB, e2⟩ := h2.outI
  obtain ⟨rfl, rfl⟩ := cA.uni cB
  have lA := cA.len
  refine ⟨b, ea, rfl, (awake_spec H2).mono ?_⟩
  rintro v H3 ⟨rfl, e3⟩
  refine ⟨_, rfl, iteB_neg rfl ((Equal_spec H3 a b A A (iA.ext (e2.trans e3)) (iB.ext e3) (by omega)).mono ?_)⟩
  rintro v H4 ⟨rfl, rfl⟩
  have x4 := (e1.trans e2).trans e3
  refine ⟨_, rfl, iteB_neg (by simp) (iteB_neg (by simp) ((gTopo_spec H4 s L0 30 (by omega) (h.ext x4) hl hb).mono ?_))⟩
  rintro v H5 ⟨t, T, rfl, hT, hv, hT30, e5⟩
  refine ⟨t, rfl, (Needs_spec T t high H5 hT).mono ?_⟩
  intro v H6 h6
  obtain ⟨c, ec, C, rfl, iC, cC, e6⟩ := h6.outI
  refine ⟨c, ec, rfl, (rNeeds_spec T t high H6 (hT.ext e6)).mono ?_⟩
  intro v H7 h7
  obtain ⟨d, ed, D, rfl, iD, cD, e7⟩ := h7.outI
  obtain ⟨rfl, rfl⟩ := cC.uni cD
  have lC := cC.len
  refine ⟨d, ec, rfl, (Equal_spec H7 c d C C (iC.ext e7) iD (by omega)).mono ?_⟩
  rintro v H8 ⟨rfl, rfl⟩
  have hT8 := (hT.ext e6).ext e7
  have hnT := hT.len
  have both : ∀ (p q : Int) (H9 : Heap), Ext H8 H9 → ∀ K : Value → Heap → Prop, (∀ v H', v = .bool true → Ext H9 H' → K v H') →
      CallsH Try.prog n_resources_Below #[.slice t.p t.n t.c, .slice d.p d.n d.c, .int .i64 p, .int .i64 q] H9 (fun v8 H9 =>
      ∃ x11 : Sl, v8 = .slice x11.p x11.n x11.c ∧ (
      CallsH Try.prog n_ref18_NeedsBelow #[.slice t.p t.n t.c, .slice d.p d.n d.c, .int .i64 p, .int .i64 q] H9 (fun v9 H10 =>
      ∃ x12 : Sl, v9 = .slice x12.p x12.n x12.c ∧ (
      CallsH Try.prog n_help_Equal_api_Need #[.slice x11.p x11.n x11.c, .slice x12.p x12.n x12.c] H10 K)))) := by
    intro p q H9 e9 K hK
    refine (Below_spec T t d C p q H9 (hT8.ext e9) (iD.ext e9) (by omega)).mono ?_
    rintro v H10 ⟨x, rfl, o10, n10, e10⟩
    refine ⟨x, rfl, (rBelow_spec T t d C p q H10 ((hT8.ext e9).ext e10) ((iD.ext e9).ext e10) (by omega)).mono ?_⟩
    rintro v H11 ⟨y, rfl, o11, n11, e11⟩
    have hle : (belF T C p q).length ≤ C.length := by
      unfold belF
      split
      · exact List.length_filter_le _ _
      · simp
    refine ⟨y, rfl, (Equal_spec H11 x y _ _ ((Own.is rkNeed o10).ext e11) (Own.is rkNeed o11) (by omega)).mono ?_⟩
    rintro v H12 ⟨rfl, rfl⟩
    exact hK _ _ (by simp) (e10.trans e11)
  refine ⟨_, rfl, iteB_neg (by simp) (iteB_neg (by simp) (both _ _ H8 (.refl _) _ ?_))⟩
  rintro v H11 rfl e11
  have x11 : Ext H H11 := ((x4.trans e5).trans (e6.trans e7)).trans e11
  refine ⟨_, rfl, iteB_neg rfl ⟨fun p H' => -1 ≤ p ∧ p ≤ T.length ∧ Ext H8 H', fun p _ => (T.length - p).toNat, ⟨by omega, by omega, e11⟩, ?_⟩⟩
  rintro p H12 ⟨hp0, hp1, e12⟩
  unfold F_law20_ResourcesNeeds_r2
  refine iteB_d (fun c1 => ?_) (fun c1 => ⟨rfl, ((x4.trans e5).trans (e6.trans e7)).trans e12⟩)
  refine loop1 3 (fun k H' => Ext H8 H') e12 ?_
  rintro k H13 hk e13
  unfold F_law20_ResourcesNeeds_r1
  refine iteB_d (fun c2 => both _ _ H13 e13 _ ?_) (fun c2 => letV_mk (p + 1) (i64_in (by omega)) ⟨⟨by omega, by omega, e13⟩, by dsimp only; omega⟩)
  rintro v H14 rfl e14
  exact ⟨_, rfl, iteB_neg rfl (letV_mk _ rfl (next1 (by omega) (by omega) (e13.trans e14)))⟩

end Go.Proofs.Ytfodidlecpiohaa
