/-
  The contract of the reference's window.
-/
import Derived.Test.YtfodidlecpiohaaR9
import Derived.Test.YtfodidlecpiohaaC1
namespace Go.Proofs.Ytfodidlecpiohaa
open Go.Eng

theorem rkInt : RK Try.prog t_sl_int t_int (.int .i64 0) 1 8 (encI .i64) := ⟨by kernel_rfl, by kernel_rfl, rfl, by omega, by omega, ints_row _, ints_one _⟩

def Port (T : List FS) (high : Bool) (i c : Nat) : Prop := (fnAt T i).hot = true ∧ WCond T high i c
instance (T : List FS) (high : Bool) (i c : Nat) : Decidable (Port T high i c) := by unfold Port; infer_instance
def WinR (T : List FS) (high : Bool) (i c : Nat) (l : List Int) : Prop := ¬ (l = [] ∧ ¬ Port T high i c) ∧ WOk l c (fnAt T i).hot
instance (T : List FS) (high : Bool) (i c : Nat) (l : List Int) : Decidable (WinR T high i c l) := by unfold WinR; infer_instance

def winRP (T : List FS) (high : Bool) (i c : Nat) (l : List Int) (H : Heap) (v : Value) (H' : Heap) : Prop :=
  ∃ x b, v = .tuple #[.int .i64 x, .bool b] ∧ (b = true ↔ WinR T high i c l) ∧ (b = true → x = wszF l c (fnAt T i).hot) ∧ Ext H H'

theorem belS_succ {T : List FS} {N : List Need} {i : Nat} {c : Int} {k : Nat} (hk : k < N.length) : belS T (N.take (k + 1)) i c = belS T (N.take k) i c ++ (if belQ T i c (N.getD k (0, 0, 0, 0)) then [(N.getD k (0, 0, 0, 0)).2.2.2] else []) := by
  unfold belS
  rw [filter_succ (0, 0, 0, 0) _ hk, List.map_append]
  congr 1
  split <;> rfl
theorem belS_len (T : List FS) (N : List Need) (i : Nat) (c : Int) : (belS T N i c).length ≤ N.length := by
  unfold belS
  rw [List.length_map]
  exact List.length_filter_le _ _

theorem rwindow_spec (T : List FS) (s ns : Sl) (high : Bool) (i c : Nat) (N : List Need) (H : Heap) (h : Topo H s T) (hv : ValidT T) (hi : i < T.length) (hN : IsS 4 encN H ns N) (hl : N.length ≤ 100000) (hf : ∀ x ∈ N, 0 ≤ x.1 ∧ x.1 < T.length) :
    CallsH Try.prog n_ref18_window #[.slice s.p s.n s.c, .bool high, .int .i64 i, .int .i64 c, .slice ns.p ns.n ns.c] H (winRP T high i c (belS T N i c) H) := by
  refine F_ref18_window_ok _ _ _ _ _ ?_
  unfold F_ref18_window
  have hn := h.len
  have hnn := hN.len
  refine loop2 N.length (fun k out H' => Own H.size t_int 1 H' out ((belS T (N.take k) i c).flatMap (encI .i64)) ∧ Ext H H') ⟨Own.nil _ _ _ _, .refl _⟩ ?_
  rintro k out H1 hk ⟨o1, e1⟩
  unfold F_ref18_window_r4
  have hlen := belS_len T (N.take k) i c
  have hlk : (N.take k).length ≤ k := by simp; omega
  have n1 := Own.len rkInt o1
  refine iteB_d (fun c1 => ?_) (fun c1 => ?_)
  · have hkn : k < N.length := by omega
    obtain ⟨a, hp, hr⟩ := IsS.atN (hN.ext e1) (0, 0, 0, 0) hkn
    have hfs := belS_succ (T := T) (i := i) (c := c) hkn
    have hm := hf _ (getD_mem' (0, 0, 0, 0) hkn)
    generalize N.getD k (0, 0, 0, 0) = x at *
    obtain ⟨x0, x1, x2, x3⟩ := x
    have hr0 := hr 0 _ rfl
    rw [add_add', Nat.add_zero] at hr0
    obtain ⟨j, rfl⟩ := Int.eq_ofNat_of_zero_le (by have := hm.1; exact this : 0 ≤ x0)
    have hjT : j < T.length := by have := hm.2; dsimp only at this; omega
    obtain ⟨b, hq, hrq⟩ := (h.ext e1).at hjT
    refine ⟨fun b H' => b = belQ T i c ((j : Int), x1, x2, x3) ∧ H' = H1, ⟨by omega, by omega, unSome_mk hp ⟨x2, hr 2 _ rfl, iteB_beq (fun d1 => ⟨by omega, by omega, unSome_mk hp ⟨(j : Int), hr0, by omega, by omega, unSome_mk hq ⟨_, (rdFn hrq).1, ?_, rfl⟩⟩⟩) (fun d1 => ⟨?_, rfl⟩)⟩⟩, ?_⟩
    · by_cases d4 : (fnAt T j).parent = i
      · rw [d4]
        symm
        simp only [beq_self_eq_true, belQ, decide_eq_true_eq]
        exact ⟨d1, by omega, d4⟩
      · have : ((fnAt T j).parent == (i : Int)) = false := by simpa using d4
        rw [this]
        symm
        simp only [belQ, decide_eq_false_iff_not]
        exact fun hh => d4 hh.2.2
    · symm; simp only [belQ, decide_eq_false_iff_not]; intro hh; exact d1 hh.1
    · rintro b H3 ⟨rfl, rfl⟩
      unfold F_ref18_window_k1
      refine iteB_intro (fun d => ⟨by omega, by omega, unSome_mk hp ⟨x3, hr 3 _ rfl, ?_⟩⟩) (fun d => letV_mk _ rfl (next2 hkn (by omega) ⟨?_, e1⟩))
      · refine apR rkInt x3 (lo := H.size) o1 (by omega) e1.size ?_
        intro s' H6 ho hn6 m6
        refine letV_mk _ rfl (next2 hkn (by omega) ⟨?_, Mods.ext e1 m6 (blkOf_new o1.new)⟩)
        rw [hfs, d]
        exact ho
      · rw [hfs, d]
        simpa using o1
  · obtain rfl : k = N.length := by omega
    rw [List.take_length] at o1 n1 hlen
    generalize belS T N i c = l at *
    obtain ⟨b, hq, hrq⟩ := (h.ext e1).at hi
    obtain ⟨_, _, _, _, _, r5, r6, _⟩ := rdFn hrq
    refine ⟨fun b H' => (b = true ↔ Port T high i c) ∧ H' = H1, ⟨by omega, by omega, unSome_mk hq ⟨_, r6, iteB_intro (fun d1 => iteB_bne (fun d2 => ⟨?_, rfl⟩) (fun d2 => iteB_intro (fun d3 => ⟨by omega, by omega, unSome_mk hq ⟨_, r5, iteB_intro (fun d4 => (above_spec T s i H1 (h.ext e1) hv hi).mono ?_) (fun d4 => ⟨?_, rfl⟩)⟩⟩) (fun d3 => ⟨?_, rfl⟩))) (fun d1 => ⟨?_, rfl⟩)⟩⟩, ?_⟩
    · simp only [true_iff]
      exact ⟨d1, fun hh => absurd hh (by omega)⟩
    · rintro v H2 ⟨rfl, rfl⟩
      refine ⟨_, rfl, ⟨fun hh => ⟨d1, fun _ => ⟨d3, d4, hh⟩⟩, fun hh => (hh.2 (by omega)).2.2⟩, rfl⟩
    · simp only [Bool.false_eq_true, false_iff]
      intro hh
      have := (hh.2 (by omega)).2.1
      rw [d4] at this; cases this
    · simp only [Bool.false_eq_true, false_iff]
      intro hh
      have := (hh.2 (by omega)).1
      rw [d3] at this; cases this
    · simp only [Bool.false_eq_true, false_iff]
      intro hh
      have := hh.1
      rw [d1] at this; cases this
    · rintro port H6 ⟨hport, rfl⟩
      unfold F_ref18_window_k3
      refine ⟨fun H' => H' = H6 ∧ ¬ (l = [] ∧ ¬ Port T high i c), iteB_beq (fun d => iteB_not (fun d1 => ⟨0, false, rfl, ?_, (fun hh => by cases hh), e1⟩) (fun d1 => ⟨rfl, fun hh => hh.2 (hport.1 d1)⟩)) (fun d => ⟨rfl, fun hh => d (by rw [n1, hh.1]; rfl)⟩), ?_⟩
      · simp only [Bool.false_eq_true, false_iff]
        intro hh
        refine hh.1 ⟨List.eq_nil_of_length_eq_zero (by omega), fun hp => ?_⟩
        have := hport.2 hp
        rw [d1] at this; cases this
      · rintro H7 ⟨rfl, hne⟩
        unfold F_ref18_window_k2
        refine ⟨by omega, by omega, unSome_mk hq ⟨_, r6, (rWindowSize_spec H7 out l c _ (Own.is rkInt o1) (by omega)).mono ?_⟩⟩
        rintro v H8 ⟨rfl, rfl⟩
        exact ⟨_, _, rfl, _, _, rfl, ⟨fun hh => ⟨hne, by simpa using hh⟩, fun hh => by simpa using hh.2⟩, fun _ => rfl, e1⟩

/-- Below a bridge lies something prefetchable only if the bridge has such a window. -/
theorem WinR_iff {T : List FS} {high : Bool} (hv : ValidT T) {i c : Nat} (hi : i < T.length) (hc : c < 3) :
    WinR T high i c (belS T (allFrom T high (T.length - 1 - i)) i c) ↔ WCond T high i c ∧ WOk ((nB T high (T.length - 1 - i)).2 (i * 3 + c)) c (fnAt T i).hot := by
  have hp := tab_perm T high i c hc (T.length - 1 - i) (by omega)
  have hw := WOk_perm hp c (fnAt T i).hot
  constructor
  · rintro ⟨h1, h2⟩
    refine ⟨fun hc2 => ?_, hw.2 h2⟩
    by_cases hE : belS T (allFrom T high (T.length - 1 - i)) i c = []
    · exact (Decidable.by_contra fun hn => h1 ⟨hE, fun hp => hn (hp.2 hc2)⟩)
    · have : ∃ x, x ∈ (allFrom T high (T.length - 1 - i)).filter (belQ T i c) := by
        cases hL : (allFrom T high (T.length - 1 - i)).filter (belQ T i c) with
        | nil => exact absurd (by unfold belS; rw [hL]; rfl) hE
        | cons x _ => exact ⟨x, by simp⟩
      obtain ⟨x, hx⟩ := this
      obtain ⟨hx1, hx2⟩ := List.mem_filter.1 hx
      obtain ⟨d, hd, hxd⟩ := List.mem_flatMap.1 hx1
      have hd' := List.mem_range.1 hd
      have hj : T.length - (T.length - 1 - i) + d < T.length := by omega
      generalize T.length - (T.length - 1 - i) + d = j at *
      obtain ⟨S, hS⟩ := needsAt_own (high := high) hj
      rw [hS] at hxd
      obtain ⟨g1, g2⟩ := ownL_pref _ _ _ _ x hxd
      simp only [belQ, decide_eq_true_eq] at hx2
      obtain ⟨q1, _, q3⟩ := hx2
      rw [g1, Int.toNat_natCast] at q3
      obtain ⟨g3, g4⟩ := g2 (by omega)
      unfold aboveF at g4
      rw [q3] at g4
      have hpf : (fnAt T i).pref = true := by
        cases hq' : (fnAt T i).pref
        · unfold abF at g4
          rw [if_neg (by omega), Int.toNat_natCast, if_pos hq'] at g4
          cases g4
        · rfl
      refine ⟨g3, hpf, ?_⟩
      rw [abF_fuel hv _ _ (by omega) (by omega), abF_step hv hi hpf] at g4
      have hpa := (hv.2 i hi).pa
      unfold aboveF
      rw [abF_fuel hv _ _ (by omega) (by omega)]
      exact g4
  · rintro ⟨h1, h2⟩
    refine ⟨fun ⟨hE, hn⟩ => ?_, hw.1 h2⟩
    have hS : (nB T high (T.length - 1 - i)).2 (i * 3 + c) = [] := by unfold belS at hE; rw [hE] at hp; exact hp.eq_nil
    refine hn ⟨?_, h1⟩
    cases hq' : (fnAt T i).hot
    · exact absurd ⟨hS, hq'⟩ h2.1
    · rfl

end Go.Proofs.Ytfodidlecpiohaa
