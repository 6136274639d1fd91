/-
  The contract of the law ThermalThrottle.
-/
import Derived.Test.YtiikkapdchodkaaL3
import Derived.Test.YtiikkapdchodkaaT8
namespace Go.Proofs.Ytiikkapdchodkaa
open Go.Eng

theorem law_throttle (H : Heap) (s : Sl) (A : List Act) (g : Int) (h : Acts H s A) (ho : okA A) (hg : 0 ≤ g) :
    CallsH Try.prog n_law39_ThermalThrottle #[.slice s.p s.n s.c, .int .u64 g] H (fun v H' => v = .bool true ∧ Ext H H') := by
  refine F_law39_ThermalThrottle_ok _ _ ?_
  unfold F_law39_ThermalThrottle
  refine iteB_dec (fun c => awake39_true _ _ (.refl _)) (fun c => ?_)
  refine (Table_spec H s A h ho).mono ?_
  rintro v H2 ⟨t, rfl, hown, e2⟩
  have ht : Acts H2 t (tableF A) := hown.isS encA_len (by omega)
  have hV := tableF_VP ho
  have htn := ht.len
  have hN : tblN A = max 1 (min A.length 8) := rfl
  have hTl := tableF_len A
  refine ⟨t, rfl, letV_mk (g % 250) (Int.tmod_eq_emod_of_nonneg hg) ?_⟩
  generalize g % 250 = w
  refine (Throttle_spec H2 s A g (h.ext e2)).mono ?_
  rintro v1 H3 ⟨q1, e3⟩
  have out : ∀ {v : Value} {B : List Act} {g : Int}, ThrP B g v → ∃ x y : Int, v = .tuple #[.int .i64 x, .int .i64 y] := by
    rintro v B g (⟨_, rfl⟩ | ⟨_, _, rfl⟩ | ⟨_, c, _, _, _, rfl⟩)
    · exact ⟨_, _, rfl⟩
    · exact ⟨_, _, rfl⟩
    · exact ⟨_, _, rfl⟩
  obtain ⟨x1, x2, rfl⟩ := out q1
  refine ⟨_, _, rfl, (rThrottle_spec H3 s A g (h.ext (e2.trans e3))).mono ?_⟩
  rintro v2 H4 ⟨q2, e4⟩
  obtain rfl := q2.uniq q1
  have x4 := e3.trans e4
  refine ⟨_, _, rfl, (Throttle_spec H4 t (tableF A) w (ht.ext x4)).mono ?_⟩
  rintro v3 H5 ⟨q3, e5⟩
  have t5 := (ht.ext x4).ext e5
  have x5 := (e2.trans x4).trans e5
  rcases q3 with ⟨hb, _⟩ | ⟨_, hall, rfl⟩ | ⟨_, cc, h1, h2, h3, rfl⟩
  · exact absurd hV hb
  · obtain ⟨a, hp, r0, r1, r2⟩ := Acts.atN t5 (k := 0) (by omega)
    refine ⟨_, _, rfl, iteB_neg (by simp) (iteB_neg (by simp) (iteB_pos rfl (iteB_pos rfl ⟨by omega, by omega, unSome_mk hp ⟨_, r2, iteB_pos ?_ (awake39_true _ _ x5)⟩⟩)))⟩
    have := hall 0 (by omega)
    simpa using this
  · obtain ⟨a, hp, r0, r1, r2⟩ := Acts.atN t5 h1
    refine ⟨_, _, rfl, iteB_neg (by simp) (iteB_neg (by simp) (iteB_neg rfl (iteB_pos (by simp) (iteB_pos (by simp; omega) ⟨by omega, by omega, unSome_mk hp ⟨_, r2, iteB_pos (by simpa using h2) (iteB_beq (fun c1 => awake39_true _ _ x5) (fun c1 => ?_))⟩⟩))))⟩
    rw [i64_succ (by omega)]
    rw [i64_in (n := (t.n : Int) - 1) (by omega)] at c1
    obtain ⟨a', hp', r0', r1', r2'⟩ := Acts.atN t5 (k := cc + 1) (by omega)
    refine ⟨by omega, by omega, unSome_mk hp' ⟨_, r2', iteB_pos ?_ (awake39_true _ _ x5)⟩⟩
    have := h3 (cc + 1) (by omega) (by omega)
    simpa using this

end Go.Proofs.Ytiikkapdchodkaa
