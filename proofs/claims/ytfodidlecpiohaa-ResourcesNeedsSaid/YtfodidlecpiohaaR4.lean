/-
  The needs of one function: the contracts of registers and windows.
-/
import Derived.Test.YtfodidlecpiohaaR3
namespace Go.Proofs.Ytfodidlecpiohaa
open Go.Eng

abbrev Need := Int × Int × Int × Int
def encN (x : Need) : List Value := [.int .i64 x.1, .int .i64 x.2.1, .int .i64 x.2.2.1, .int .i64 x.2.2.2]
theorem encN_len (x : Need) : (encN x).length = 4 := rfl
theorem encN_one (x : Need) : ∀ u ∈ encN x, oneC u = true := fun u hu => by simp [encN] at hu; rcases hu with rfl | rfl | rfl | rfl <;> rfl

def regL (T : List FS) (high : Bool) (i : Nat) (B : List Bar) : Nat → List Need
  | 0 => []
  | j + 1 => regL T high i B j ++ (if bk B j = 0 then [] else [((i : Int), (j : Int), classF T high i (bk B j), bz B j)])
theorem regL_len (T : List FS) (high : Bool) (i : Nat) (B : List Bar) : ∀ n, (regL T high i B n).length ≤ n
  | 0 => by simp [regL]
  | n + 1 => by
    have := regL_len T high i B n
    simp only [regL, List.length_append]
    split <;> simp <;> omega

/-- A list of needs of one's own. -/
structure NeedsP (lo : Nat) (L : List Need) (H : Heap) (v : Value) (H' : Heap) : Prop where
  ex : ∃ out : Sl, v = .slice out.p out.n out.c ∧ Own lo t_api_Need 4 H' out (L.flatMap encN) ∧ out.n = L.length ∧ Ext H H'

theorem registers_spec' (T : List FS) (s : Sl) (high : Bool) (i : Nat) (H : Heap) (h : Topo H s T) (hv : ValidT T) (hi : i < T.length) :
    CallsH Try.prog n_resources_registers #[.slice s.p s.n s.c, .bool high, .int .i64 i] H (NeedsP H.size (regL T high i (fnAt T i).bars (fnAt T i).bars.length) H) := by
  refine F_resources_registers_ok _ _ _ ?_
  unfold F_resources_registers
  have hn := h.len
  obtain ⟨a, hp, hr⟩ := h.at hi
  have hB := h.barsAt hi
  have hbl := (hv.2 i hi).va.bl
  have hrg : regs (fnAt T i).bridge ≤ 6 := by unfold regs; split <;> omega
  have hbn := hB.len
  have r10 := (rdFn hr).2.2.2.2.2.2.2.2.2.2
  generalize hBB : (fnAt T i).bars = B at *
  generalize slAt T i = bs at *
  refine ⟨by omega, by omega, unSome_mk hp ⟨bs, r10, ?_⟩⟩
  refine loop2 B.length (fun k out H' => Own H.size t_api_Need 4 H' out ((regL T high i B k).flatMap encN) ∧ out.n = (regL T high i B k).length ∧ Ext H H') ⟨Own.nil _ _ _ _, rfl, .refl _⟩ ?_
  rintro k out H1 hk ⟨o1, n1, x1⟩
  unfold F_resources_registers_r1
  have hlen := regL_len T high i B k
  refine iteB_d (fun c => ?_) (fun c => ?_)
  · have hkn : k < B.length := by omega
    obtain ⟨b, hq, r0, r1⟩ := Bars.atN (hB.ext x1) hkn
    refine ⟨by omega, by omega, unSome_mk hq ⟨_, r0, _, r1, local_mk rfl rfl fun H3 e3 z3 b3 => ⟨_, b3.rd0 rfl, iteB_beq (fun c0 => next2 hkn (by omega) ⟨?_, ?_, x1.trans e3⟩) (fun c0 => ⟨_, b3.rd0 rfl, (classOf_spec T s high i _ H3 (h.ext (x1.trans e3)) hv hi).mono ?_⟩)⟩⟩⟩
    · simp only [regL]; rw [if_pos c0, List.append_nil]; exact o1.ext e3
    · simp only [regL]; rw [if_pos c0, List.append_nil]; exact n1
    · rintro v H4 ⟨rfl, rfl⟩
      have x4 := x1.trans e3
      refine ⟨_, rfl, _, b3.rd (i := 1) rfl, ?_⟩
      refine append_row (enc := encN) (l := regL T high i B k) (z := .agg #[.int .i64 0, .int .i64 0, .int .i64 0, .int .i64 0]) (sz := 4) (bytes := 32) (lo := H.size) ((i : Int), (k : Int), classF T high i (bk B k), bz B k) (by kernel_rfl) (by kernel_rfl) rfl (by omega) encN_len encN_one (o1.ext e3) (by simp [maxLen]; omega) (by omega) x4.size ?_
      intro s' H6 ho hn6 m6
      refine next2 hkn (by omega) ⟨?_, ?_, Mods.ext x4 m6 (blkOf_new o1.new)⟩
      · simp only [regL]; rw [if_neg c0]; exact ho
      · simp only [regL]; rw [if_neg c0]; simp; omega
  · obtain rfl : k = B.length := by omega
    exact ⟨out, rfl, o1, n1, x1⟩

theorem own_lo {lo lo' : Nat} {e : TypeId} {sz : Nat} {H : Heap} {s : Sl} {xs : List Value} (h : Own lo e sz H s xs) (hl : lo' ≤ lo) : Own lo' e sz H s xs := by
  obtain ⟨h1, h2⟩ := h
  refine ⟨h1, ?_⟩
  rcases h2 with h2 | ⟨g, cap, cur, a, b, c⟩
  · exact .inl h2
  · exact .inr ⟨g, cap, cur, a, Nat.le_trans hl b, c⟩

/-- Class 'c' of bridge 'i' may have a window. -/
def WCond (T : List FS) (high : Bool) (i c : Nat) : Prop := c = 2 → high = true ∧ (fnAt T i).pref = true ∧ aboveF T i = true
instance (T : List FS) (high : Bool) (i c : Nat) : Decidable (WCond T high i c) := by unfold WCond; infer_instance
def winN (T : List FS) (high : Bool) (i : Nat) (S : Nat → List Int) : Nat → List Need
  | 0 => []
  | c + 1 => winN T high i S c ++ (if WCond T high i c ∧ WOk (S c) c (fnAt T i).hot then [((i : Int), -1 - (c : Int), (c : Int), wszF (S c) c (fnAt T i).hot)] else [])
theorem winN_len (T : List FS) (high : Bool) (i : Nat) (S : Nat → List Int) : ∀ n, (winN T high i S n).length ≤ n
  | 0 => by simp [winN]
  | n + 1 => by
    have := winN_len T high i S n
    simp only [winN, List.length_append]
    split <;> simp <;> omega
def winAll (T : List FS) (high : Bool) (i : Nat) (S : Nat → List Int) : List Need := if (fnAt T i).bridge then winN T high i S 3 else []

abbrev WInv (T : List FS) (high : Bool) (i : Nat) (S : Nat → List Int) (H : Heap) (k : Nat) (out : Sl) (H' : Heap) : Prop :=
  Own H.size t_api_Need 4 H' out ((winN T high i S k).flatMap encN) ∧ out.n = (winN T high i S k).length ∧ Ext H H'

theorem windows_tail (T : List FS) (high : Bool) (i : Nat) (S : Nat → List Int) (H H4 H6 : Heap) (b : Sl) (k : Nat) (hk : k < 3) (out : Sl) (hS : Ints .i64 H6 b (S k)) (hSl : (S k).length ≤ 9223372036854775807) (hw : WCond T high i k)
    (o4 : Own H.size t_api_Need 4 H6 out ((winN T high i S k).flatMap encN)) (n4 : out.n = (winN T high i S k).length) (x6 : Ext H H6)
    {I : Sl → Int → Heap → Prop} {M : Sl → Int → Heap → Nat} (hI : I = CI2 3 (WInv T high i S H)) (hM : M = CM2 3) :
    CallsH Try.prog n_resources_WindowSize #[.slice b.p b.n b.c, .int .i64 k, .bool (fnAt T i).hot] H6 (fun v1 H7 =>
      ∃ x19 : Int, ∃ x20 : Bool, v1 = .tuple #[.int .i64 x19, .bool x20] ∧ (iteB x20 (
        letH (H7.push (.cells #[.int .i64 (i : Int), .int .i64 (IntKind.i64.wrap ((-1 : Int) - (k : Int))), .int .i64 (k : Int), .int .i64 x19] t_api_Need (0, 0))) (fun H8 : Heap =>
        runH Try.prog (Builtin.append_ #[t_sl_api_Need, t_sl_api_Need] t_sl_api_Need #[.slice out.p out.n out.c, .slice (some (⟨H7.size, 0, none⟩ : Addr)) 1 1]) H8 (fun v2 H9 =>
        ∃ needs1 : Sl, v2 = .slice needs1.p needs1.n needs1.c ∧ (I needs1 (IntKind.i64.wrap ((k : Int) + (1 : Int))) H9 ∧ M needs1 (IntKind.i64.wrap ((k : Int) + (1 : Int))) H9 < M out k H4)))) (
        I out (IntKind.i64.wrap ((k : Int) + (1 : Int))) H7 ∧ M out (IntKind.i64.wrap ((k : Int) + (1 : Int))) H7 < M out k H4))) := by
  subst hI hM
  have hlen := winN_len T high i S k
  refine (WindowSize_spec H6 b (S k) k (fnAt T i).hot hS hSl).mono ?_
  rintro v H7 ⟨rfl, rfl⟩
  refine ⟨_, _, rfl, iteB_d (fun c => ?_) (fun c => next2 hk (by omega) ⟨?_, ?_, x6⟩)⟩
  · rw [i64_in (n := (-1 : Int) - k) (by omega)]
    refine append_row (enc := encN) (l := winN T high i S k) (z := .agg #[.int .i64 0, .int .i64 0, .int .i64 0, .int .i64 0]) (sz := 4) (bytes := 32) (lo := H.size) ((i : Int), -1 - (k : Int), (k : Int), wszF (S k) k (fnAt T i).hot) (by kernel_rfl) (by kernel_rfl) rfl (by omega) encN_len encN_one o4 (by simp [maxLen]; omega) (by omega) x6.size ?_
    intro s' H9 ho hn9 m9
    refine next2 hk (by omega) ⟨?_, ?_, Mods.ext x6 m9 (blkOf_new o4.new)⟩
    · simp only [winN]; rw [if_pos ⟨hw, c⟩]; exact ho
    · simp only [winN]; rw [if_pos ⟨hw, c⟩]; simp; omega
  · simp only [winN]; rw [if_neg (fun hh => c hh.2), List.append_nil]; exact o4
  · simp only [winN]; rw [if_neg (fun hh => c hh.2), List.append_nil]; exact n4

theorem windows_spec (T : List FS) (s : Sl) (high : Bool) (i : Nat) (H : Heap) (h : Topo H s T) (hv : ValidT T) (hi : i < T.length) (b0 b1 b2 : Sl) (S : Nat → List Int) (h0 : Ints .i64 H b0 (S 0)) (h1 : Ints .i64 H b1 (S 1)) (h2 : Ints .i64 H b2 (S 2)) (hl : ∀ c, (S c).length ≤ 9223372036854775807) :
    CallsH Try.prog n_resources_windows #[.slice s.p s.n s.c, .bool high, .int .i64 i, .agg #[.slice b0.p b0.n b0.c, .slice b1.p b1.n b1.c, .slice b2.p b2.n b2.c]] H (NeedsP H.size (winAll T high i S) H) := by
  refine F_resources_windows_ok _ _ _ _ _ _ ?_
  unfold F_resources_windows
  refine push_mk (vs := [.slice b0.p b0.n b0.c, .slice b1.p b1.n b1.c, .slice b2.p b2.n b2.c]) fun H1 e1 z1 v1 => ?_
  have hn := h.len
  obtain ⟨a, hp, hr⟩ := (h.ext e1).at hi
  obtain ⟨p0, p1, p2, p3, p4, p5, p6, p7, p8, p9, p10⟩ := rdFn hr
  refine ⟨by omega, by omega, unSome_mk hp ⟨_, p0, _, p1, _, p2, _, p3, _, p4, _, p5, _, p6, _, p7, _, p8, _, p9, slAt T i, p10, local_mk (vs := fnL (fnAt T i) (slAt T i)) rfl rfl fun H3 e3 z3 b3 => ⟨_, (Blk.fn b3).2.2.2.2.1, iteB_not (fun c => ?_) (fun c => ?_)⟩⟩⟩
  · refine ⟨⟨none, 0, 0⟩, rfl, ?_, ?_, e1.trans e3⟩
    · unfold winAll; rw [if_neg (by rw [c]; simp)]; exact Own.nil _ _ _ _
    · unfold winAll; rw [if_neg (by rw [c]; simp)]; rfl
  have v3 := v1.ext e3
  refine ⟨b0, v3.rd0 rfl, b1, v3.rd (i := 1) rfl, b2, v3.rd (i := 2) rfl, ?_⟩
  refine loop2 3 (WInv T high i S H3) ⟨Own.nil _ _ _ _, rfl, .refl _⟩ ?_
  rintro k out H4 hk ⟨o4, n4, x4⟩
  unfold F_resources_windows_r4
  have x3 := e1.trans e3
  have f4 := b3.ext x4
  obtain ⟨_, _, _, _, _, q5, q6, _, _, _, _⟩ := Blk.fn f4
  have skip : ∀ c, c < 3 → ¬ WCond T high i c → WInv T high i S H3 c out H4 → WInv T high i S H3 (c + 1) out H4 := fun c _ hc ⟨u1, u2, u3⟩ => by
    refine ⟨?_, ?_, u3⟩
    · simp only [winN]; rw [if_neg (fun hh => hc hh.1), List.append_nil]; exact u1
    · simp only [winN]; rw [if_neg (fun hh => hc hh.1), List.append_nil]; exact u2
  refine iteB_d (fun c1 => ?_) (fun c1 => ?_)
  · refine ⟨by omega, by omega, ?_⟩
    rcases (by omega : k = 0 ∨ k = 1 ∨ k = 2) with rfl | rfl | rfl
    · refine iteB_pos rfl ⟨fun H' => H' = H4, iteB_neg rfl rfl, ?_⟩
      rintro H6 rfl
      unfold F_resources_windows_k1
      exact ⟨_, q6, windows_tail T high i S H3 H6 H6 b0 0 (by omega) out (h0.ext (x3.trans x4)) (hl 0) (fun hh => by omega) o4 n4 x4 rfl rfl⟩
    · refine iteB_neg rfl (iteB_pos rfl ⟨fun H' => H' = H4, iteB_neg rfl rfl, ?_⟩)
      rintro H6 rfl
      unfold F_resources_windows_k2
      exact ⟨_, q6, windows_tail T high i S H3 H6 H6 b1 1 (by omega) out (h1.ext (x3.trans x4)) (hl 1) (fun hh => by omega) o4 n4 x4 rfl rfl⟩
    · refine iteB_neg rfl (iteB_neg rfl (iteB_pos rfl ⟨fun H' => H' = H4 ∧ WCond T high i 2, iteB_pos rfl (iteB_intro (fun d1 => ⟨_, q5, iteB_intro (fun d2 => (prefAbove_spec T s i H4 (h.ext (x3.trans x4)) hv hi).mono ?_) (fun d2 => next2 (by omega : 2 < 3) (by omega) (skip 2 (by omega) (fun hw => by have := (hw rfl).2.1; rw [d2] at this; cases this) ⟨o4, n4, x4⟩))⟩) (fun d1 => next2 (by omega : 2 < 3) (by omega) (skip 2 (by omega) (fun hw => by have := (hw rfl).1; rw [d1] at this; cases this) ⟨o4, n4, x4⟩))), ?_⟩))
      · rintro v H5 ⟨rfl, rfl⟩
        exact ⟨_, rfl, iteB_not (fun d3 => next2 (by omega : 2 < 3) (by omega) (skip 2 (by omega) (fun hw => by have := (hw rfl).2.2; rw [d3] at this; cases this) ⟨o4, n4, x4⟩)) (fun d3 => ⟨rfl, fun _ => ⟨d1, d2, d3⟩⟩)⟩
      · rintro H6 ⟨rfl, hw⟩
        unfold F_resources_windows_k3
        exact ⟨_, q6, windows_tail T high i S H3 H6 H6 b2 2 (by omega) out (h2.ext (x3.trans x4)) (hl 2) hw o4 n4 x4 rfl rfl⟩
  · obtain rfl : k = 3 := by omega
    refine ⟨out, rfl, ?_, ?_, x3.trans x4⟩
    · unfold winAll; rw [if_pos c]; exact own_lo o4 x3.size
    · unfold winAll; rw [if_pos c]; exact n4

end Go.Proofs.Ytfodidlecpiohaa
