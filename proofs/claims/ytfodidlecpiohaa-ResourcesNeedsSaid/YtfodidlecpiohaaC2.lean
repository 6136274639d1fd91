/-
  The contracts of Below, the program's and the reference's.
-/
import Derived.Test.YtfodidlecpiohaaR8
import Derived.Test.YtfodidlecpiohaaEngQ
namespace Go.Proofs.Ytfodidlecpiohaa
open Go.Eng

theorem rkNeed : RK Try.prog t_sl_api_Need t_api_Need (.agg #[.int .i64 0, .int .i64 0, .int .i64 0, .int .i64 0]) 4 32 encN := ⟨by kernel_rfl, by kernel_rfl, rfl, by omega, by omega, encN_len, encN_one⟩

def belQ (T : List FS) (p c : Int) (x : Need) : Bool := decide (x.2.2.1 = c ∧ (0 ≤ x.1 ∧ x.1 < T.length) ∧ (fnAt T x.1.toNat).parent = p)
def BelOk (T : List FS) (p : Int) : Prop := (-1 ≤ p ∧ p < T.length) ∧ (0 ≤ p → (fnAt T p.toNat).bridge = true)
instance (T : List FS) (p : Int) : Decidable (BelOk T p) := by unfold BelOk; infer_instance
def belF (T : List FS) (N : List Need) (p c : Int) : List Need := if BelOk T p then N.filter (belQ T p c) else []

theorem belF_no {T : List FS} {N : List Need} {p c : Int} (h : ¬ BelOk T p) (lo : Nat) (H : Heap) : NeedsP lo (belF T N p c) H (.slice none 0 0) H := by
  unfold belF
  rw [if_neg h]
  exact ⟨⟨none, 0, 0⟩, rfl, Own.nil _ _ _ _, rfl, .refl _⟩

theorem Below_spec (T : List FS) (s ns : Sl) (N : List Need) (p c : Int) (H : Heap) (h : Topo H s T) (hN : IsS 4 encN H ns N) (hl : N.length ≤ 100000) :
    CallsH Try.prog n_resources_Below #[.slice s.p s.n s.c, .slice ns.p ns.n ns.c, .int .i64 p, .int .i64 c] H (NeedsP H.size (belF T N p c) H) := by
  refine F_resources_Below_ok _ _ _ _ ?_
  unfold F_resources_Below
  have hn := h.len
  have hnn := hN.len
  refine ⟨fun H' => H' = H ∧ BelOk T p, iteB_d (fun c1 => belF_no (fun ho => by have := ho.1; omega) _ _) (fun c1 => iteB_d (fun c2 => belF_no (fun ho => by have := ho.1; omega) _ _) (fun c2 => iteB_d (fun c3 => ?_) (fun c3 => ⟨rfl, by omega, fun h0 => absurd h0 c3⟩))), ?_⟩
  · obtain ⟨j, rfl⟩ := Int.eq_ofNat_of_zero_le c3
    obtain ⟨a, hp, hr⟩ := h.at (i := j) (by omega)
    have r4 := (rdFn hr).2.2.2.2.1
    exact ⟨by omega, by omega, unSome_mk hp ⟨_, r4, iteB_not (fun c4 => belF_no (fun ho => by have := ho.2 c3; rw [Int.toNat_natCast, c4] at this; cases this) _ _) (fun c4 => ⟨rfl, by omega, fun _ => by rw [Int.toNat_natCast]; exact c4⟩)⟩⟩
  rintro H1 ⟨rfl, hok⟩
  unfold F_resources_Below_k2
  have hF : belF T N p c = N.filter (belQ T p c) := by unfold belF; rw [if_pos hok]
  rw [hF]
  refine loop2 N.length (fun k out H' => Own H1.size t_api_Need 4 H' out (((N.take k).filter (belQ T p c)).flatMap encN) ∧ Ext H1 H') ⟨Own.nil _ _ _ _, .refl _⟩ ?_
  rintro k out H2 hk ⟨o2, e2⟩
  unfold F_resources_Below_r1
  have hlen := filter_take_len N k (belQ T p c)
  have n2 := Own.len rkNeed o2
  refine iteB_d (fun c1 => ?_) (fun c1 => ?_)
  · have hkn : k < N.length := by omega
    obtain ⟨a, hp, hr⟩ := IsS.atN (hN.ext e2) (0, 0, 0, 0) hkn
    have hfs := filter_succ (0, 0, 0, 0) (belQ T p c) hkn
    generalize N.getD k (0, 0, 0, 0) = x at *
    obtain ⟨x0, x1, x2, x3⟩ := x
    have skip : ∀ H', Ext H2 H' → belQ T p c (x0, x1, x2, x3) = false → CI2 N.length (fun k out H' => Own H1.size t_api_Need 4 H' out (((N.take k).filter (belQ T p c)).flatMap encN) ∧ Ext H1 H') out (IntKind.i64.wrap ((k : Int) + 1)) H' ∧ CM2 N.length out (IntKind.i64.wrap ((k : Int) + 1)) H' < CM2 N.length out (k : Int) H2 := by
      intro H' e' hq
      refine next2 hkn (by omega) ⟨?_, e2.trans e'⟩
      rw [hfs, hq]
      simpa using o2.ext e'
    refine ⟨by omega, by omega, unSome_mk hp ⟨_, hr 0 _ rfl, _, hr 1 _ rfl, _, hr 2 _ rfl, _, hr 3 _ rfl, local_mk (vs := encN (x0, x1, x2, x3)) rfl rfl fun H4 e4 z4 b4 => ⟨_, b4.rd (i := 2) rfl, iteB_bne (fun d1 => skip H4 e4 (by simp [belQ, d1])) (fun d1 => ⟨_, b4.rd0 rfl, iteB_d (fun d2 => skip H4 e4 (by simp [belQ]; omega)) (fun d2 => ⟨_, b4.rd0 rfl, iteB_d (fun d3 => skip H4 e4 (by simp [belQ]; omega)) (fun d3 => ⟨_, b4.rd0 rfl, by omega, by omega, ?_⟩)⟩)⟩)⟩⟩⟩
    obtain ⟨j, rfl⟩ := Int.eq_ofNat_of_zero_le (by omega : 0 ≤ x0)
    obtain ⟨b, hq, hrq⟩ := (h.ext (e2.trans e4)).at (i := j) (by omega)
    refine unSome_mk hq ⟨_, (rdFn hrq).1, iteB_beq (fun d4 => ⟨_, b4.rd0 rfl, _, b4.rd (i := 1) rfl, _, b4.rd (i := 2) rfl, _, b4.rd (i := 3) rfl, ?_⟩) (fun d4 => skip H4 e4 (by simp only [belQ, decide_eq_false_iff_not]; exact fun hh => d4 hh.2.2))⟩
    have hyes : belQ T p c ((j : Int), x1, x2, x3) = true := by
      simp only [belQ, decide_eq_true_eq]
      exact ⟨d1, by omega, d4⟩
    refine apR rkNeed ((j : Int), x1, x2, x3) (lo := H1.size) (o2.ext e4) (by omega) (e2.trans e4).size ?_
    intro s' H6 ho hn6 m6
    refine next2 hkn (by omega) ⟨?_, Mods.ext (e2.trans e4) m6 (blkOf_new o2.new)⟩
    rw [hfs, hyes]
    exact ho
  · obtain rfl : k = N.length := by omega
    rw [List.take_length] at o2 n2
    exact ⟨out, rfl, o2, n2, e2⟩

theorem rBelow_spec (T : List FS) (s ns : Sl) (N : List Need) (p c : Int) (H : Heap) (h : Topo H s T) (hN : IsS 4 encN H ns N) (hl : N.length ≤ 100000) :
    CallsH Try.prog n_ref18_NeedsBelow #[.slice s.p s.n s.c, .slice ns.p ns.n ns.c, .int .i64 p, .int .i64 c] H (NeedsP H.size (belF T N p c) H) := by
  refine F_ref18_NeedsBelow_ok _ _ _ _ ?_
  unfold F_ref18_NeedsBelow
  have hn := h.len
  have hnn := hN.len
  refine ⟨fun H' => H' = H ∧ BelOk T p, iteB_d (fun c1 => belF_no (fun ho => by have := ho.1; omega) _ _) (fun c1 => iteB_d (fun c2 => belF_no (fun ho => by have := ho.1; omega) _ _) (fun c2 => iteB_d (fun c3 => ?_) (fun c3 => ⟨rfl, by omega, fun h0 => absurd h0 c3⟩))), ?_⟩
  · obtain ⟨j, rfl⟩ := Int.eq_ofNat_of_zero_le c3
    obtain ⟨a, hp, hr⟩ := h.at (i := j) (by omega)
    have r4 := (rdFn hr).2.2.2.2.1
    exact ⟨by omega, by omega, unSome_mk hp ⟨_, r4, iteB_not (fun c4 => belF_no (fun ho => by have := ho.2 c3; rw [Int.toNat_natCast, c4] at this; cases this) _ _) (fun c4 => ⟨rfl, by omega, fun _ => by rw [Int.toNat_natCast]; exact c4⟩)⟩⟩
  rintro H1 ⟨rfl, hok⟩
  unfold F_ref18_NeedsBelow_k3
  have hF : belF T N p c = N.filter (belQ T p c) := by unfold belF; rw [if_pos hok]
  rw [hF]
  refine loop2 N.length (fun k out H' => Own H1.size t_api_Need 4 H' out (((N.take k).filter (belQ T p c)).flatMap encN) ∧ Ext H1 H') ⟨Own.nil _ _ _ _, .refl _⟩ ?_
  rintro k out H2 hk ⟨o2, e2⟩
  unfold F_ref18_NeedsBelow_r2
  have hlen := filter_take_len N k (belQ T p c)
  have n2 := Own.len rkNeed o2
  refine iteB_d (fun c1 => ?_) (fun c1 => ?_)
  · have hkn : k < N.length := by omega
    obtain ⟨a, hp, hr⟩ := IsS.atN (hN.ext e2) (0, 0, 0, 0) hkn
    have hfs := filter_succ (0, 0, 0, 0) (belQ T p c) hkn
    generalize N.getD k (0, 0, 0, 0) = x at *
    obtain ⟨x0, x1, x2, x3⟩ := x
    have hr0 := hr 0 _ rfl
    rw [add_add', Nat.add_zero] at hr0
    refine ⟨by omega, by omega, unSome_mk hp ⟨x0, hr0, fun b H' => b = belQ T p c (x0, x1, x2, x3) ∧ H' = H2, ⟨by omega, by omega, unSome_mk hp ⟨_, hr 2 _ rfl, iteB_beq (fun d1 => iteB_d (fun d2 => iteB_d (fun d3 => ⟨by omega, by omega, ?_⟩) (fun d3 => ⟨?_, rfl⟩)) (fun d2 => ⟨?_, rfl⟩)) (fun d1 => ⟨?_, rfl⟩)⟩⟩, ?_⟩⟩
    · obtain ⟨j, rfl⟩ := Int.eq_ofNat_of_zero_le (by omega : 0 ≤ x0)
      obtain ⟨b, hq, hrq⟩ := (h.ext e2).at (i := j) (by omega)
      refine unSome_mk hq ⟨_, (rdFn hrq).1, ?_, rfl⟩
      by_cases d4 : (fnAt T j).parent = p
      · rw [d4]
        symm
        simp only [beq_self_eq_true, belQ, decide_eq_true_eq]
        exact ⟨d1, by omega, d4⟩
      · have : ((fnAt T j).parent == p) = false := by simpa using d4
        rw [this]
        symm
        simp only [belQ, decide_eq_false_iff_not]
        exact fun hh => d4 hh.2.2
    · symm; simp only [belQ, decide_eq_false_iff_not]; intro hh; have := hh.2.1; omega
    · symm; simp only [belQ, decide_eq_false_iff_not]; intro hh; have := hh.2.1; omega
    · symm; simp only [belQ, decide_eq_false_iff_not]; intro hh; exact d1 hh.1
    · rintro b H3 ⟨rfl, rfl⟩
      unfold F_ref18_NeedsBelow_k1
      refine iteB_intro (fun d => ⟨by omega, by omega, unSome_mk hp ⟨_, hr0, _, hr 1 _ rfl, _, hr 2 _ rfl, _, hr 3 _ rfl, ?_⟩⟩) (fun d => letV_mk _ rfl (next2 hkn (by omega) ⟨?_, e2⟩))
      · refine apR rkNeed (x0, x1, x2, x3) (lo := H1.size) o2 (by omega) e2.size ?_
        intro s' H6 ho hn6 m6
        refine letV_mk _ rfl (next2 hkn (by omega) ⟨?_, Mods.ext e2 m6 (blkOf_new o2.new)⟩)
        rw [hfs, d]
        exact ho
      · rw [hfs, d]
        simpa using o2
  · obtain rfl : k = N.length := by omega
    rw [List.take_length] at o2 n2
    exact ⟨out, rfl, o2, n2, e2⟩

end Go.Proofs.Ytfodidlecpiohaa
