/-
  The contract of the reference's Allocate.
-/
import Derived.Test.YtiikkapdchodkaaT2
namespace Go.Proofs.Ytiikkapdchodkaa
open Go.Eng

theorem rsA_stop (A : List Act) (lev r0 : Int) {k : Nat} (h : rsA A lev r0 k = 0) : ∀ m, k ≤ m → rsA A lev r0 m = 0 := by
  intro m
  induction m with
  | zero =>
    intro hm
    obtain rfl : k = 0 := by omega
    exact h
  | succ m ih =>
    intro hm
    by_cases e : k = m + 1
    · subst e; exact h
    · have := ih (by omega)
      simp only [rsA]
      rw [if_neg (by omega)]
      exact this

theorem grA_stop (A : List Act) (lev r0 : Int) {k i : Nat} (h : rsA A lev r0 k = 0) (hi : k ≤ i) : grA A lev r0 i = atI A lev i := by
  unfold grA
  rw [if_neg]
  have := rsA_stop A lev r0 h i hi
  omega

theorem rAllocate_spec (H : Heap) (s : Sl) (A : List Act) (b : Int) (h : Acts H s A) (ho : okA A) (hb : 0 ≤ b ∧ b ≤ 18446744073709551615) :
    CallsH Try.prog n_ref39_Allocate #[.int .u64 b, .slice s.p s.n s.c] H (AllocP b A H) := by
  refine F_ref39_Allocate_ok _ _ ?_
  unfold F_ref39_Allocate
  refine (rvalid_actors_spec H s A h).mono ?_
  rintro v H1 ⟨rfl, rfl⟩
  refine ⟨_, rfl, iteB_not (fun c => ?_) (fun c => ?_)⟩
  · exact ⟨.refl _, .inl ⟨by simpa using c, rfl⟩⟩
  have hv : VA A := by simpa using c
  refine (rat_spec H1 s A 0 h hv ho).mono ?_
  rintro v H2 ⟨s2, rfl, _, _, e2⟩
  refine ⟨_, _, rfl, iteB_dec (fun c => ?_) (fun c => ?_)⟩
  · exact ⟨e2, .inr (.inl ⟨hv, by omega, rfl⟩)⟩
  have h0 : totA A 0 A.length ≤ b := by omega
  refine (rat_spec H2 s A 4294967296 (h.ext e2) hv ho).mono ?_
  rintro v H3 ⟨s3, rfl, o3, _, e3⟩
  have x3 := e2.trans e3
  have z2 := e2.size
  have hl := hv.1
  refine ⟨_, _, rfl, iteB_dec (fun c => ?_) (fun c => ?_)⟩
  · refine ⟨x3, .inr (.inr ⟨hv, h0, 4294967296, .inl ⟨rfl, c⟩, s3, rfl, ?_⟩)⟩
    obtain ⟨q1, q2⟩ := (RowI.of_own o3).congr (fun i hi => (grA_top hv hi (b - totA A 4294967296 A.length)).symm)
    exact ⟨q1, q2.imp id (fun ⟨g, w1, w2, w3⟩ => ⟨g, w1, by omega, w3⟩)⟩
  refine ⟨fun lo hi H' => Ext H1 H' ∧ 0 ≤ lo ∧ lo < hi ∧ hi ≤ 4294967296 ∧ totA A lo A.length ≤ b ∧ b < totA A hi A.length, fun lo hi _ => (hi - lo).toNat, ⟨x3, by omega, by omega, by omega, h0, by omega⟩, ?_⟩
  rintro lo hi H4 ⟨e4, l1, l2, l3, l4, l5⟩
  unfold F_ref39_Allocate_r3
  rw [u64_in (n := hi - lo) (by omega)]
  refine iteB_dec (fun c3 => ?_) (fun c3 => ?_)
  · rw [u64_in (n := lo + hi) (by omega), Int.tdiv_eq_ediv_of_nonneg (by omega)]
    refine letV_mk ((lo + hi) / 2) (u64_in (by omega)) ?_
    refine (rat_spec H4 s A _ (h.ext e4) hv ho).mono ?_
    rintro v H5 ⟨s5, rfl, _, _, e5⟩
    refine ⟨_, _, rfl, iteB_dec (fun c4 => ?_) (fun c4 => ?_)⟩
    · exact ⟨⟨e4.trans e5, by omega, by omega, by omega, c4, l5⟩, by dsimp only; omega⟩
    · exact ⟨⟨e4.trans e5, by omega, by omega, by omega, l4, by omega⟩, by dsimp only; omega⟩
  obtain rfl : hi = lo + 1 := by omega
  have hlev : IsLev b A lo := .inr ⟨by omega, by omega, by omega, l4, l5⟩
  refine (rat_spec H4 s A lo (h.ext e4) hv ho).mono ?_
  rintro v H6 ⟨s6, rfl, o6, n6, e6⟩
  have x6 := e4.trans e6
  have z4 := e4.size
  refine ⟨_, _, rfl, ?_⟩
  have htb := tot_bound hv ho lo _ (Nat.le_refl _)
  generalize hr0 : b - totA A lo A.length = r0 at *
  refine loop2 A.length (fun k (u : Int) H' => Ext H1 H' ∧ u = b - rsA A lo r0 k ∧ RowI .u64 H' t_uint64 H4.size s6 A.length (fun i => if i < k then grA A lo r0 i else atI A lo i))
    ⟨x6, by simp only [rsA]; omega, (RowI.of_own o6).congr (fun i hi => by simp)⟩ ?_
  rintro k u H7 hk ⟨e7, rfl, b7⟩
  have hrs := rsA_bound A lo r0 (by omega) k
  have fin : (∀ i, k ≤ i → i < A.length → grA A lo r0 i = atI A lo i) → AllocP b A H1 (.tuple #[.slice s6.p s6.n s6.c, .int .i64 0]) H7 := by
    intro hst
    refine ⟨e7, .inr (.inr ⟨hv, h0, lo, hlev, s6, rfl, ?_⟩)⟩
    rw [hr0]
    obtain ⟨q1, q2⟩ := b7.congr (g := grA A lo r0) (fun i hi => by
      by_cases e : i < k
      · rw [if_pos e]
      · rw [if_neg e, hst i (by omega) hi])
    exact ⟨q1, q2.imp id (fun ⟨g, w1, w2, w3⟩ => ⟨g, w1, by omega, w3⟩)⟩
  unfold F_ref39_Allocate_r2
  rw [h.len]
  refine iteB_dec (fun c => iteB_dec (fun c2 => ?_) (fun c2 => ?_)) (fun c => ?_)
  · have hkn : k < A.length := by omega
    obtain ⟨a, hp, q0, q1, q2⟩ := Acts.atN (h.ext e7) hkn
    have hpos : 0 < rsA A lo r0 k := by omega
    have hat := at_bound hv ho lo hkn
    obtain ⟨hn6, hb6⟩ := id b7
    rcases hb6 with hb6 | ⟨g, hg, hg2, hb6⟩
    · omega
    refine ⟨fun x H' => x = decide (0 < rsA A lo r0 k ∧ Cnd A lo k) ∧ Ext H7 H', ?_, ?_⟩
    · refine ⟨by omega, by omega, unSome_mk hp ⟨_, q1, iteB_dec (fun c2 => ⟨by omega, by omega, unSome_mk hp ⟨_, q0, _, q1, _, q2, (rwant_spec _ _ _ H7).mono ?_⟩⟩) (fun c2 => ?_)⟩⟩
      · rintro v H8 ⟨rfl, e8⟩
        refine ⟨_, rfl, ?_, e8⟩
        unfold Cnd wantI
        exact decide_eq_decide.2 ⟨fun h => ⟨hpos, c2, h⟩, fun h => h.2.2⟩
      · exact ⟨by rw [decide_eq_false]; rintro ⟨_, h, _⟩; exact c2 h, .refl _⟩
    rintro x H9 ⟨rfl, e9⟩
    unfold F_ref39_Allocate_k1
    have b9 := hb6.ext e9
    refine iteB_dec (fun c3 => ?_) (fun c3 => ?_)
    · have rr := b9.rd hkn
      simp only [Nat.lt_irrefl, if_false] at rr
      refine ⟨by omega, by omega, unSome_mk hg ⟨_, rr, by omega, by omega, unSome_mk hg ⟨b9.ok hkn, letH_mk ?_⟩⟩⟩
      intro H10 h10
      have m10 : Mods [g] H9 H10 := by rw [h10]; exact mods_wr_add (by simp)
      have b10 := b9.wr hkn (atI A lo k + 1)
      rw [u64_in (n := atI A lo k + 1) (by omega)] at h10
      change IBlk .u64 (wrs H9 ((⟨g, 0, none⟩ : Addr).add ((k : Int).toNat * 1)) _) g t_uint64 A.length _ at b10
      rw [← h10] at b10
      clear h10
      refine letV_mk (b - rsA A lo r0 (k + 1)) ?_ (next2 hkn (by omega) ⟨Mods.ext (e7.trans e9) m10 (by simp; omega), rfl, hn6, .inr ⟨g, hg, hg2, b10.congr (fun i hi => ?_)⟩⟩)
      · simp only [rsA]
        rw [if_pos c3]
        rw [u64_in (by omega)]
        omega
      · by_cases e : i = k
        · subst e; rw [upd_same, if_pos (by omega), grA, if_pos c3]
        · rw [upd_ne e]
          by_cases e2 : i < k
          · rw [if_pos e2, if_pos (by omega)]
          · rw [if_neg e2, if_neg (by omega)]
    · refine next2 hkn (by omega) ⟨e7.trans e9, ?_, hn6, .inr ⟨g, hg, hg2, b9.congr (fun i hi => ?_)⟩⟩
      · simp only [rsA]
        rw [if_neg c3]
      · by_cases e : i = k
        · subst e; rw [if_neg (by omega), if_pos (by omega), grA, if_neg c3]
        · by_cases e2 : i < k
          · rw [if_pos e2, if_pos (by omega)]
          · rw [if_neg e2, if_neg (by omega)]
  · exact fin (fun i hi _ => grA_stop A lo r0 (k := k) (by omega) hi)
  · exact fin (fun i hi hi2 => by omega)

end Go.Proofs.Ytiikkapdchodkaa
