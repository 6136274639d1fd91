/-
  Contracts of Equal, and the laws' awake.
-/
import Derived.Test.YtiikkapdchodkaaT5
namespace Go.Proofs.Ytiikkapdchodkaa
open Go.Eng

variable {Q : Nat → Prop}

theorem take_eq_all {α : Type} {la lb : List α} (hlen : la.length = lb.length) (ht : la.take la.length = lb.take la.length) : la = lb := by
  rw [List.take_of_length_le (Nat.le_refl _), hlen, List.take_of_length_le (Nat.le_refl _)] at ht
  exact ht

theorem Equal_uint64_spec (H : Heap) (a b : Sl) (la lb : List Int) (ha : Ints .u64 H a la) (hb : Ints .u64 H b lb) (hl : la.length ≤ 9223372036854775807) :
    CallsH Try.prog n_help_Equal_uint64 #[.slice a.p a.n a.c, .slice b.p b.n b.c] H (fun r H' => r = .bool (la == lb) ∧ H' = H) := by
  refine F_help_Equal_uint64_ok a b ?_
  unfold F_help_Equal_uint64
  rw [ha.len, hb.len]
  refine iteB_bne (fun h => ?_) (fun h => ?_)
  · refine ⟨?_, rfl⟩
    rw [beq_eq_false_iff_ne.2]; intro e; rw [e] at h; exact h rfl
  · have hlen : la.length = lb.length := by omega
    refine loop1 la.length (fun k H' => H' = H ∧ la.take k = lb.take k) ⟨rfl, by simp⟩ ?_
    rintro k H1 hk ⟨rfl, ht⟩
    unfold F_help_Equal_uint64_r1
    rw [ha.len, hb.len]
    refine iteB_dec (fun h1 => ?_) (fun h1 => ?_)
    · have hlt : k < la.length := by omega
      have hlt2 : k < lb.length := by omega
      obtain ⟨a1, hp1, hr1⟩ := Ints.atN ha hlt
      obtain ⟨b1, hp2, hr2⟩ := Ints.atN hb hlt2
      refine ⟨by omega, by omega, unSome_mk hp1 ⟨_, hr1, by omega, by omega, unSome_mk hp2 ⟨_, hr2, ?_⟩⟩⟩
      have ga : la.getD k 0 = la[k] := by simp [hlt]
      have gb : lb.getD k 0 = lb[k] := by simp [hlt2]
      rw [ga, gb]
      refine iteB_bne (fun h2 => ⟨?_, rfl⟩) (fun h2 => ?_)
      · rw [beq_eq_false_iff_ne.2]; intro e; subst e; exact h2 rfl
      · refine next1 hlt (by omega) ⟨rfl, ?_⟩
        rw [List.take_succ_eq_append_getElem hlt, List.take_succ_eq_append_getElem hlt2, ht, h2]
    · obtain rfl : k = la.length := by omega
      refine ⟨?_, rfl⟩
      have := take_eq_all hlen ht
      subst this
      simp

theorem Equal_bool_spec (H : Heap) (a b : Sl) (la lb : List Bool) (ha : IsS 1 encB H a la) (hb : IsS 1 encB H b lb) (hl : la.length ≤ 9223372036854775807) :
    CallsH Try.prog n_help_Equal_bool #[.slice a.p a.n a.c, .slice b.p b.n b.c] H (fun r H' => r = .bool (la == lb) ∧ H' = H) := by
  refine F_help_Equal_bool_ok a b ?_
  unfold F_help_Equal_bool
  rw [ha.len, hb.len]
  refine iteB_bne (fun h => ?_) (fun h => ?_)
  · refine ⟨?_, rfl⟩
    rw [beq_eq_false_iff_ne.2]; intro e; rw [e] at h; exact h rfl
  · have hlen : la.length = lb.length := by omega
    refine loop1 la.length (fun k H' => H' = H ∧ la.take k = lb.take k) ⟨rfl, by simp⟩ ?_
    rintro k H1 hk ⟨rfl, ht⟩
    unfold F_help_Equal_bool_r1
    rw [ha.len, hb.len]
    refine iteB_dec (fun h1 => ?_) (fun h1 => ?_)
    · have hlt : k < la.length := by omega
      have hlt2 : k < lb.length := by omega
      obtain ⟨a1, hp1, hr1⟩ := IsS.atN ha false hlt
      obtain ⟨b1, hp2, hr2⟩ := IsS.atN hb false hlt2
      refine ⟨by omega, by omega, unSome_mk hp1 ⟨_, hr1 0 _ rfl, by omega, by omega, unSome_mk hp2 ⟨_, hr2 0 _ rfl, ?_⟩⟩⟩
      have ga : la.getD k false = la[k] := by simp [hlt]
      have gb : lb.getD k false = lb[k] := by simp [hlt2]
      rw [ga, gb]
      refine iteB_not (fun h2 => ⟨?_, rfl⟩) (fun h2 => ?_)
      · rw [beq_eq_false_iff_ne.2]; intro e; subst e; simp at h2
      · refine next1 hlt (by omega) ⟨rfl, ?_⟩
        rw [List.take_succ_eq_append_getElem hlt, List.take_succ_eq_append_getElem hlt2, ht, (by simpa using h2 : la[k] = lb[k])]
    · obtain rfl : k = la.length := by omega
      refine ⟨?_, rfl⟩
      have := take_eq_all hlen ht
      subst this
      simp

theorem at_mono (A : List Act) {l l' : Int} (h : l ≤ l') (i : Nat) : atI A l i ≤ atI A l' i := by
  unfold atI atF wantF; omega
theorem tot_mono (A : List Act) {l l' : Int} (h : l ≤ l') : ∀ k, totA A l k ≤ totA A l' k := by
  intro k
  induction k with
  | zero => exact Int.le_refl _
  | succ k ih => have := at_mono A h k; simp only [totA]; omega

def awA : List Act := [(9, 0, 9), (1, 0, 9), (9, 2, 9)]

theorem awA_lev {lev : Int} (h : IsLev 10 awA lev) : lev = 4 := by
  have t0 : totA awA 4294967296 awA.length = 19 := by decide
  have t4 : totA awA 4 awA.length = 9 := by decide
  have t5 : totA awA 5 awA.length = 11 := by decide
  rcases h with ⟨_, h⟩ | ⟨h1, h2, h3, h4, h5⟩
  · omega
  · rcases (by omega : lev < 4 ∨ 4 ≤ lev) with h6 | h6
    · have := tot_mono awA (l := lev + 1) (l' := 4) (by omega) awA.length
      omega
    · rcases (by omega : 4 < lev ∨ lev ≤ 4) with h7 | h7
      · have := tot_mono awA (l := 5) (l' := lev) (by omega) awA.length
        omega
      · omega

def awT : List Trp := [(2, 50, 5)]

theorem awA_ok : okA awA := by
  intro i
  match i with
  | 0 => decide
  | 1 => decide
  | 2 => decide
  | n + 3 => unfold rq mn mx awA; simp

theorem awake39_spec (H : Heap) : CallsH Try.prog n_law39_awake #[] H (fun v H' => v = .bool true ∧ Ext H H') := by
  refine F_law39_awake_ok ?_
  unfold F_law39_awake
  refine push_mk (vs := awA.flatMap encA) fun H1 e1 z1 b1 => ?_
  have a1 : Acts H1 ⟨some ⟨H.size, 0, none⟩, 3, 3⟩ awA := IsS.of_blk encA_len b1 rfl (fun _ _ h => h)
  refine (Allocate_spec H1 _ awA 10 a1 awA_ok (by omega)).mono ?_
  rintro v H2 ⟨e2, ⟨hb, _⟩ | ⟨_, hb, _⟩ | ⟨hv, _, lev, hl, s, rfl, hrow⟩⟩
  · exact absurd hb (by decide)
  · exact absurd hb (by decide)
  obtain rfl := awA_lev hl
  refine ⟨s, 0, rfl, push_mk (vs := awT.flatMap encT) fun H3 e3 z3 b3 => ?_⟩
  have t3 : Trps H3 ⟨some ⟨H2.size, 0, none⟩, 1, 1⟩ awT := IsS.of_blk encT_len b3 rfl (fun _ _ h => h)
  refine (NewZone_spec H3 _ awT 3 t3).mono ?_
  rintro v H4 (⟨hz, b, ba, rfl, hb, hba, hzm, e4⟩ | ⟨hb, _⟩)
  rotate_left
  · exact absurd hb (by decide)
  have zm := hzm (fun _ h => h.elim)
  refine ⟨_, _, rfl, iteB_neg rfl (iteB_neg rfl (iteB_neg rfl (push_mk (vs := ([5, 1, 4] : List Int).map (Value.int .u64)) fun H5 e5 z5 b5 => ?_)))⟩
  have g5 := ((hrow.ext e3).ext e4).ext e5
  refine (Equal_uint64_spec H5 s ⟨some ⟨H4.size, 0, none⟩, 3, 3⟩ _ [5, 1, 4] g5.ints (Ints.of_blk b5 rfl) (by rw [tab_length]; decide)).mono ?_
  rintro v H6 ⟨rfl, rfl⟩
  refine ⟨true, by congr 1, iteB_neg rfl ?_⟩
  have hx : Ext H H6 := (((e1.trans e2).trans e3).trans e4).trans e5
  have z2 := e2.size
  refine (Update_spec b ba awT _ 3 0 50 H6 (zm.ext e5) (by decide) (by omega) (by omega)).mono ?_
  rintro v H7 (⟨_, rfl, z7, m7⟩ | ⟨hb, _⟩)
  rotate_left
  · exact absurd hb (by decide)
  refine ⟨1, _, _, rfl, ?_⟩
  refine (Update_spec b ba awT _ 3 1 45 H7 z7 (by decide) (by omega) (by omega)).mono ?_
  rintro v H8 (⟨_, rfl, z8, m8⟩ | ⟨hb, _⟩)
  rotate_left
  · exact absurd hb (by decide)
  refine ⟨2, _, _, rfl, ?_⟩
  refine (Update_spec b ba awT _ 3 2 44 H8 z8 (by decide) (by omega) (by omega)).mono ?_
  rintro v H9 (⟨_, rfl, z9, m9⟩ | ⟨hb, _⟩)
  rotate_left
  · exact absurd hb (by decide)
  refine ⟨1, _, _, rfl, iteB_pos rfl (iteB_pos rfl (iteB_pos rfl (iteB_pos rfl (iteB_pos rfl (iteB_pos rfl (push_mk (vs := ([(0, 0, 0)] : List Trp).flatMap encT) fun H10 e10 z10 b10 => ?_))))))⟩
  refine (CheckTrips_spec H10 ⟨some ⟨H9.size, 0, none⟩, 1, 1⟩ [(0, 0, 0)] (IsS.of_blk encT_len b10 rfl (fun _ _ h => h))).mono ?_
  rintro v H11 ⟨rfl, e11⟩
  refine ⟨_, rfl, by congr 1, ?_⟩
  have mm : Mods [b, ba] H6 H9 := (m7.trans m8).trans m9
  exact ((Mods.ext hx mm (by simp; omega)).trans e10).trans e11

end Go.Proofs.Ytiikkapdchodkaa
