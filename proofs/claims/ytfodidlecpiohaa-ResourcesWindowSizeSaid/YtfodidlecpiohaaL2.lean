/-
  ResourcesWindowSize.
-/
import Derived.Test.YtfodidlecpiohaaL1
namespace Go.Proofs.Ytfodidlecpiohaa
open Go.Eng

theorem law_windowSize (H : Heap) (s : Sl) (l : List Int) (c : Int) (hot : Bool) (h : Ints .i64 H s l) (hl : l.length ≤ 9223372036854775807) :
    CallsH Try.prog n_law20_ResourcesWindowSize #[.slice s.p s.n s.c, .int .i64 c, .bool hot] H (BoolP true H) := by
  refine F_law20_ResourcesWindowSize_ok _ _ _ ?_
  unfold F_law20_ResourcesWindowSize
  refine loop3 2 (fun k (sl : Sl) (_ : Int) H' => ∃ L, Ints .i64 H' sl L ∧ L.length ≤ 9223372036854775807 ∧ Ext H H') ⟨l, h, hl, .refl _⟩ ?_
  rintro k sl cl H1 hk ⟨L, hL, hLl, e1⟩
  unfold F_law20_ResourcesWindowSize_r3
  refine iteB_d (fun c1 => ?_) (fun c1 => ?_)
  · refine (WindowSize_spec H1 sl L cl hot hL hLl).mono ?_
    rintro v H2 ⟨rfl, rfl⟩
    refine ⟨_, _, rfl, (rWindowSize_spec H2 sl L cl hot hL hLl).mono ?_⟩
    rintro v H3 ⟨rfl, rfl⟩
    refine ⟨_, _, rfl, iteB_neg (by simp) (iteB_neg (by simp) ⟨fun m H' => ∃ Ms : List Int, Own H3.size t_int 1 H' m (Ms.flatMap (encI .i64)) ∧ m.n = Ms.length ∧ Ms.length ≤ 100 ∧ Ext H3 H', ?_, ?_⟩)⟩
    · have hn := hL.len
      refine loop2 40 (fun k m H' => ∃ Ms : List Int, Own H3.size t_int 1 H' m (Ms.flatMap (encI .i64)) ∧ m.n = Ms.length ∧ Ms.length ≤ k ∧ Ext H3 H') ⟨[], Own.nil _ _ _ _, rfl, by simp, .refl _⟩ ?_
      rintro j m H4 hj ⟨Ms, o, nm, lm, e4⟩
      unfold F_law20_ResourcesWindowSize_r1
      refine iteB_d (fun d1 => iteB_d (fun d2 => ?_) (fun d2 => ⟨Ms, o, nm, by omega, e4⟩)) (fun d1 => ⟨Ms, o, nm, by omega, e4⟩)
      obtain ⟨a, hp, hr⟩ := Ints.atN (hL.ext e4) (i := j) (by omega)
      refine ⟨by omega, by omega, unSome_mk hp ⟨_, hr, (Mod_spec _ _ H4 (by omega) (by omega)).mono ?_⟩⟩
      rintro v H5 ⟨rfl, rfl⟩
      refine ⟨_, rfl, append_row (enc := encI .i64) (l := Ms) (z := .int .i64 0) (sz := 1) (bytes := 8) (lo := H3.size) (modI (L.getD j 0) 46) (by kernel_rfl) (by kernel_rfl) rfl (by omega) (ints_row _) (ints_one _) o (by simp [maxLen]; omega) (by omega) e4.size ?_⟩
      intro s' H7 ho hn7 m7
      exact letV_mk _ rfl (next2 (by omega) (by omega) ⟨_, ho, by simp; omega, by simp; omega, Mods.ext e4 m7 (blkOf_new o.new)⟩)
    · rintro m2 H8 ⟨Ms, o, nm, lm, e8⟩
      unfold F_law20_ResourcesWindowSize_k2
      refine (Mod_spec _ _ H8 (by omega) (by omega)).mono ?_
      rintro v H9 ⟨rfl, rfl⟩
      exact ⟨_, rfl, letV_mk _ rfl (next3 (by omega) (by omega) ⟨Ms, o.isS (ints_row _) (by omega), by omega, e1.trans e8⟩)⟩
  · refine (awake_spec H1).mono ?_
    rintro v H10 ⟨rfl, e10⟩
    exact ⟨_, rfl, rfl, e1.trans e10⟩

end Go.Proofs.Ytfodidlecpiohaa
