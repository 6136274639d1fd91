/-
  Equal on needs; the fixed example; ResourcesWindowSize.
-/
import Derived.Test.YtfodidlecpiohaaR8
namespace Go.Proofs.Ytfodidlecpiohaa
open Go.Eng

theorem Equal_spec (H : Heap) (a b : Sl) (A B : List Need) (ha : IsS 4 encN H a A) (hb : IsS 4 encN H b B) (hl : A.length ≤ 9223372036854775807) :
    CallsH Try.prog n_help_Equal_api_Need #[.slice a.p a.n a.c, .slice b.p b.n b.c] H (fun v H' => v = .bool (decide (A = B)) ∧ H' = H) := by
  refine F_help_Equal_api_Need_ok _ _ ?_
  unfold F_help_Equal_api_Need
  have na := ha.len
  have nb := hb.len
  refine iteB_bne (fun c => ⟨by rw [decide_eq_false (fun e => c (by rw [na, nb, e]))], rfl⟩) (fun c => ?_)
  have hlen : A.length = B.length := by omega
  refine loop1 A.length (fun k H' => H' = H ∧ ∀ i, i < k → A[i]? = B[i]?) ⟨rfl, fun i hi => by omega⟩ ?_
  rintro k H1 hk ⟨rfl, heq⟩
  unfold F_help_Equal_api_Need_r1
  refine iteB_d (fun c1 => ?_) (fun c1 => ⟨?_, rfl⟩)
  · have hkA : k < A.length := by omega
    have hkB : k < B.length := by omega
    obtain ⟨p, hp, hr⟩ := IsS.atN ha (0, 0, 0, 0) hkA
    obtain ⟨q, hq, hs⟩ := IsS.atN hb (0, 0, 0, 0) hkB
    have eA : A[k]? = some (A.getD k (0, 0, 0, 0)) := by simp [List.getD, hkA]
    have eB : B[k]? = some (B.getD k (0, 0, 0, 0)) := by simp [List.getD, hkB]
    generalize A.getD k (0, 0, 0, 0) = x at *
    generalize B.getD k (0, 0, 0, 0) = y at *
    obtain ⟨x0, x1, x2, x3⟩ := x
    obtain ⟨y0, y1, y2, y3⟩ := y
    refine ⟨by omega, by omega, unSome_mk hp ⟨_, hr 0 _ rfl, _, hr 1 _ rfl, _, hr 2 _ rfl, _, hr 3 _ rfl, by omega, by omega, unSome_mk hq ⟨_, hs 0 _ rfl, _, hs 1 _ rfl, _, hs 2 _ rfl, _, hs 3 _ rfl, iteB_not (fun c2 => ⟨?_, rfl⟩) (fun c2 => letV_mk _ rfl (next1 hkA (by omega) ⟨rfl, fun i hi => ?_⟩))⟩⟩⟩
    · rw [decide_eq_false]
      intro e
      rw [e, eB] at eA
      simp at eA
      simp at c2
      obtain ⟨e0, e1, e2, e3⟩ := eA
      exact c2 e0.symm e1.symm e2.symm e3.symm
    · by_cases e : i = k
      · subst e
        simp at c2
        rw [eA, eB, c2.1, c2.2.1, c2.2.2.1, c2.2.2.2]
      · exact heq i (by omega)
  · rw [decide_eq_true]
    apply List.ext_getElem?
    intro i
    by_cases hi : i < A.length
    · exact heq i (by omega)
    · rw [List.getElem?_eq_none (by omega), List.getElem?_eq_none (by omega)]

def T0 (b : Nat) : List FS := [(⟨-1, 0, 1, 0, true, false, false, 0, 0, 0, []⟩, ⟨none, 0, 0⟩), (⟨0, 0, 1, 0, false, false, false, 0, 0, 0, [(2, 12)]⟩, ⟨some ⟨b, 0, none⟩, 1, 1⟩)]
def F0 : List Fn := [⟨-1, 0, 1, 0, true, false, false, 0, 0, 0, []⟩, ⟨0, 0, 1, 0, false, false, false, 0, 0, 0, [(2, 12)]⟩]

theorem T0_valid (b : Nat) : ValidT (T0 b) := by
  refine ⟨by simp [T0], fun i hi => ?_⟩
  rcases (by simp [T0] at hi; omega : i = 0 ∨ i = 1) with rfl | rfl
  · exact ⟨by show ValidF ⟨-1, 0, 1, 0, true, false, false, 0, 0, 0, []⟩; decide +kernel, by show (-1 : Int) ≤ -1 ∧ (-1 : Int) < _; omega, fun h => absurd h (by show ¬ (0 : Int) ≤ -1; omega), fun k hk => by omega⟩
  · refine ⟨by show ValidF ⟨0, 0, 1, 0, false, false, false, 0, 0, 0, [(2, 12)]⟩; decide +kernel, by show (-1 : Int) ≤ 0 ∧ (0 : Int) < _; omega, fun _ => rfl, fun k hk => ?_⟩
    obtain rfl : k = 0 := by omega
    show ¬ ((-1 : Int) = 0 ∧ _)
    omega
theorem T0_needs (b : Nat) : needsAll (T0 b) false = [(0, -2, 1, 20), (1, 0, 1, 12)] := by kernel_rfl
theorem T0_ovf (b : Nat) : ¬ Ovf (T0 b) false := by
  rintro ⟨i, hi, x, hx, hgt⟩
  have hx' : x ∈ needsAll (T0 b) false := List.mem_flatMap.2 ⟨i, List.mem_range.2 hi, hx⟩
  rw [T0_needs] at hx'
  simp only [List.mem_cons, List.not_mem_nil, or_false] at hx'
  rcases hx' with rfl | rfl
  · have : ¬ ((20 : Int) > largestF 1) := by decide
    exact this hgt
  · have : ¬ ((12 : Int) > largestF 1) := by decide
    exact this hgt

theorem awake_spec (H : Heap) : CallsH Try.prog n_law20_awake #[] H (BoolP true H) := by
  refine F_law20_awake_ok ?_
  unfold F_law20_awake
  refine push_mk (vs := encBar (2, 12)) fun H1 e1 z1 b1 => push_mk (vs := (T0 H.size).flatMap encF) fun H2 e2 z2 b2 => ?_
  have hT : Topo H2 ⟨some ⟨H1.size, 0, none⟩, 2, 2⟩ (T0 H.size) := by
    refine ⟨IsS.of_blk encF_len b2 rfl (fun i v h => h), fun x hx => ?_⟩
    simp only [T0, List.mem_cons, List.not_mem_nil, or_false] at hx
    rcases hx with rfl | rfl
    · exact IsS.nil _ _ _
    · exact IsS.of_blk encBar_len (b1.ext e2) rfl (fun i v h => h)
  refine (Needs_spec (T0 H.size) _ false H2 hT).mono ?_
  rintro v H3 (⟨hv, he⟩ | ⟨hv, ho, he⟩ | ⟨out, hv, ho, hs, hn, he⟩)
  · exact absurd (T0_valid _) hv
  · exact absurd ho (T0_ovf _)
  refine ⟨out, _, rfl, push_mk (vs := [20, 20, 20].map (Value.int .i64)) fun H4 e4 z4 b4 => ?_⟩
  have hI : Ints .i64 H4 ⟨some ⟨H3.size, 0, none⟩, 3, 3⟩ [20, 20, 20] := Ints.of_blk b4 rfl
  refine (WindowSize_spec H4 _ [20, 20, 20] 1 false hI (by simp)).mono ?_
  rintro v H5 ⟨rfl, rfl⟩
  refine ⟨_, _, rfl, iteB_pos rfl (push_mk (vs := ([(0, -2, 1, 20), (1, 0, 1, 12)] : List Need).flatMap encN) fun H6 e6 z6 b6 => ?_)⟩
  have hO : IsS 4 encN H6 out (needsAll (T0 H.size) false) := (hs.isS encN_len (by omega)).ext (e4.trans e6)
  have hW : IsS 4 encN H6 ⟨some ⟨H5.size, 0, none⟩, 2, 2⟩ [(0, -2, 1, 20), (1, 0, 1, 12)] := IsS.of_blk encN_len b6 rfl (fun i v h => h)
  refine (Equal_spec H6 out _ _ _ hO hW (by rw [T0_needs]; simp)).mono ?_
  rintro v H7 ⟨rfl, rfl⟩
  have hd : decide (needsAll (T0 H.size) false = [(0, -2, 1, 20), (1, 0, 1, 12)]) = true := decide_eq_true (T0_needs _)
  have h22 : wszF [20, 20, 20] 1 false = 22 := by decide +kernel
  have hok : decide (WOk [20, 20, 20] 1 false) = true := by decide +kernel
  refine ⟨_, rfl, ?_⟩
  rw [hd, h22, hok]
  exact iteB_pos rfl (iteB_pos rfl ⟨rfl, ((((e1.trans e2).trans he).trans e4).trans e6)⟩)

end Go.Proofs.Ytfodidlecpiohaa
