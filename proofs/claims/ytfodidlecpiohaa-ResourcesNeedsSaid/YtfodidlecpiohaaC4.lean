/-
  The contract of the reference's Needs.
-/
import Derived.Test.YtfodidlecpiohaaC3
namespace Go.Proofs.Ytfodidlecpiohaa
open Go.Eng

/-- The state between the rounds. -/
def RNI (T : List FS) (high : Bool) (H0 : Heap) (k : Nat) (all : Sl) (bad : Bool) (H : Heap) : Prop :=
  bad = false ∧ Own H0.size t_api_Need 4 H all ((allFrom T high k).flatMap encN) ∧ Ext H0 H ∧ ∀ j, T.length - k ≤ j → j < T.length → ¬ Over (needsAt T high j)

theorem allFrom_fst {T : List FS} {high : Bool} {k : Nat} (hk : k ≤ T.length) : ∀ x ∈ allFrom T high k, 0 ≤ x.1 ∧ x.1 < T.length := by
  intro x hx
  obtain ⟨d, hd, hxd⟩ := List.mem_flatMap.1 hx
  have := List.mem_range.1 hd
  have h2 := needsAt_fst (T := T) (high := high) (i := T.length - k + d) (by omega) x hxd
  omega
theorem allFrom_len {T : List FS} {high : Bool} (hv : ValidT T) : ∀ k, k ≤ T.length → (allFrom T high k).length ≤ 9 * k
  | 0, _ => by simp [allFrom]
  | k + 1, hk => by
    have ih := allFrom_len (high := high) hv k (by omega)
    rw [allFrom_succ (by omega), List.length_append, needsAt_own' (by omega)]
    have := ownL_len hv high (i := T.length - 1 - k) (by omega) (nB T high (T.length - 1 - (T.length - 1 - k))).2
    omega

/-- The check of the sizes of one function, and the end of a round. -/
theorem rneeds_check {T : List FS} {high : Bool} {H0 H2 H11 : Heap} {k i : Nat} {all own : Sl} {I : Sl → Bool → Int → Heap → Prop} {M : Sl → Bool → Int → Heap → Nat} {R : Value → Heap → Prop} (hv : ValidT T) (hk : k < T.length) (hi : i = T.length - 1 - k)
    (ha : RNI T high H0 k all false H2) (e2 : Ext H2 H11) (ho : Own H2.size t_api_Need 4 H11 own ((needsAt T high i).flatMap encN))
    (hR : R = NeedsR T high H0) (hI : I = fun al b j H' => ∃ k : Nat, j = (T.length : Int) - 1 - k ∧ k ≤ T.length ∧ RNI T high H0 k al b H') (hM : M = fun _ _ j _ => (j + 1).toNat) :
    F_ref18_Needs_k3 R I M all false (i : Int) H2 own H11 := by
  subst hR hI hM
  unfold F_ref18_Needs_k3
  have hown := needsAt_own' (T := T) (high := high) (i := i) (by omega)
  have hcl : ∀ x ∈ needsAt T high i, 0 ≤ x.2.2.1 ∧ x.2.2.1 < 3 := by rw [hown]; exact ownL_cl _ _ _ _
  have hlen : (needsAt T high i).length ≤ 9 := by rw [hown]; exact ownL_len hv high (by omega) _
  have hfrom := allFrom_succ (high := high) hk
  rw [← hi] at hfrom
  obtain ⟨_, oa, ea, hno⟩ := ha
  have hal := allFrom_len (high := high) hv k (by omega)
  have n0 := Own.len rkNeed ho
  have is0 := Own.is rkNeed ho
  have hT64 := hv.1
  have hover : Over (needsAt T high i) → Ovf T high := fun h => ⟨i, by omega, h⟩
  generalize hL : needsAt T high i = L at *
  refine loop2 L.length (fun j b H' => (b = true ↔ Over (L.take j)) ∧ H' = H11) ⟨by simp [Over], rfl⟩ ?_
  rintro j b H12 hj ⟨hb, rfl⟩
  unfold F_ref18_Needs_r2
  refine iteB_d (fun c => ?_) (fun c => ?_)
  · have hjn : j < L.length := by omega
    obtain ⟨a, hp, hr⟩ := IsS.atN is0 (0, 0, 0, 0) hjn
    have hc := hcl _ (getD_mem' (0, 0, 0, 0) hjn)
    have htk := take_succ_d (0, 0, 0, 0) hjn
    generalize L.getD j (0, 0, 0, 0) = x at *
    obtain ⟨x0, x1, x2, x3⟩ := x
    dsimp only at hc
    have hstep : Over (L.take (j + 1)) ↔ Over (L.take j) ∨ x3 > largestF x2 := by
      rw [htk]
      unfold Over
      constructor
      · rintro ⟨y, hy, hg⟩
        simp only [List.mem_append, List.mem_singleton] at hy
        rcases hy with hy | rfl
        · exact .inl ⟨y, hy, hg⟩
        · exact .inr hg
      · rintro (⟨y, hy, hg⟩ | hg)
        · exact ⟨y, by simp [hy], hg⟩
        · exact ⟨(x0, x1, x2, x3), by simp, hg⟩
    refine ⟨by omega, by omega, unSome_mk hp ⟨x2, hr 2 _ rfl, by omega, by omega, ?_⟩⟩
    rcases (by omega : x2 = 0 ∨ x2 = 1 ∨ x2 = 2) with rfl | rfl | rfl
    · refine iteB_pos rfl (iteB_intro (fun d => letV_mk _ rfl (next2 hjn (by omega) ⟨by simp only [true_iff]; exact hstep.2 (.inl (hb.1 d)), rfl⟩)) (fun d => ⟨by omega, by omega, unSome_mk hp ⟨x3, hr 3 _ rfl, letV_mk _ rfl (next2 hjn (by omega) ⟨?_, rfl⟩)⟩⟩))
      rw [hstep, ← hb, d]
      simp [largestF]
    · refine iteB_neg rfl (iteB_pos rfl (iteB_intro (fun d => letV_mk _ rfl (next2 hjn (by omega) ⟨by simp only [true_iff]; exact hstep.2 (.inl (hb.1 d)), rfl⟩)) (fun d => ⟨by omega, by omega, unSome_mk hp ⟨x3, hr 3 _ rfl, letV_mk _ rfl (next2 hjn (by omega) ⟨?_, rfl⟩)⟩⟩)))
      rw [hstep, ← hb, d]
      simp [largestF]
    · refine iteB_neg rfl (iteB_neg rfl (iteB_pos rfl (iteB_intro (fun d => letV_mk _ rfl (next2 hjn (by omega) ⟨by simp only [true_iff]; exact hstep.2 (.inl (hb.1 d)), rfl⟩)) (fun d => ⟨by omega, by omega, unSome_mk hp ⟨x3, hr 3 _ rfl, letV_mk _ rfl (next2 hjn (by omega) ⟨?_, rfl⟩)⟩⟩))))
      rw [hstep, ← hb, d]
      simp [largestF]
  · obtain rfl : j = L.length := by omega
    rw [List.take_length] at hb
    have x12 := ea.trans e2
    refine iteB_intro (fun d => .over hv (hover (hb.1 d)) x12) (fun d => ?_)
    have hnover : ¬ Over L := fun hh => by have := hb.2 hh; rw [d] at this; cases this
    refine apA rkNeed (lo := H2.size) ho ((Own.is rkNeed oa).ext e2) (by omega) e2.size ?_
    intro s' H13 o13 n13 m13 _
    have x13 : Ext H2 H13 := Mods.ext e2 m13 (blkOf_new ho.new)
    refine ⟨s', rfl, letV_mk ((T.length : Int) - 1 - (k + 1 : Nat)) (by rw [i64_in (by omega)]; omega) ⟨⟨k + 1, rfl, by omega, d, ?_, ea.trans x13, fun q h1 h2 => ?_⟩, by dsimp only; omega⟩⟩
    · rw [hfrom]; exact own_lo o13 ea.size
    · by_cases e : q = i
      · subst e; rw [hL]; exact hnover
      · exact hno q (by omega) h2

theorem rneeds_round {T : List FS} {s : Sl} {high : Bool} {H0 H2 : Heap} {k i : Nat} {all : Sl} {I : Sl → Bool → Int → Heap → Prop} {M : Sl → Bool → Int → Heap → Nat} (hT : Topo H0 s T) (hv : ValidT T) (hk : k < T.length) (hi : i = T.length - 1 - k)
    (ha : RNI T high H0 k all false H2) (hI : I = fun al b j H' => ∃ k : Nat, j = (T.length : Int) - 1 - k ∧ k ≤ T.length ∧ RNI T high H0 k al b H') (hM : M = fun _ _ j _ => (j + 1).toNat) :
    F_ref18_Needs_r5 (NeedsR T high H0) s high I M all false (i : Int) H2 := by
  unfold F_ref18_Needs_r5
  have hiT : i < T.length := by omega
  have hn := hT.len
  have ea := ha.2.2.1
  have oa := ha.2.1
  have hT2 := hT.ext ea
  have hbl := (hv.2 i hiT).va.bl
  have hrg : regs (fnAt T i).bridge ≤ 6 := by unfold regs; split <;> omega
  have hal := allFrom_len (high := high) hv k (by omega)
  have hT64 := hv.1
  have hkk : T.length - 1 - i = k := by omega
  refine iteB_pos (by simp) ?_
  refine loop2 (fnAt T i).bars.length (fun j own H' => Own H2.size t_api_Need 4 H' own ((regL T high i (fnAt T i).bars j).flatMap encN) ∧ Ext H2 H') ⟨Own.nil _ _ _ _, .refl _⟩ ?_
  rintro j own H3 hj ⟨o3, e3⟩
  unfold F_ref18_Needs_r4
  obtain ⟨a, hp, hr⟩ := (hT2.ext e3).at hiT
  have r10 := (rdFn hr).2.2.2.2.2.2.2.2.2.2
  have hB := (hT2.ext e3).barsAt hiT
  have hbn := hB.len
  have hrl := regL_len T high i (fnAt T i).bars j
  have n3 := Own.len rkNeed o3
  refine ⟨by omega, by omega, unSome_mk hp ⟨_, r10, iteB_d (fun c => ?_) (fun c => ?_)⟩⟩
  · have hjn : j < (fnAt T i).bars.length := by omega
    refine (rClass_spec T s high i j H3 (hT2.ext e3)).mono ?_
    rintro v H4 ⟨rfl, e4⟩
    have hbk : bkI (fnAt T i).bars j = bk (fnAt T i).bars j := by unfold bkI; rw [if_pos (by omega)]; rfl
    by_cases hz : bk (fnAt T i).bars j = 0
    · have hcls : clsV T high i j = .tuple #[.int .i64 0, .bool false] := by unfold clsV; rw [if_neg (fun hh => hh.2.2 (by rw [Int.toNat_natCast, hbk]; exact hz))]
      refine ⟨_, _, hcls, iteB_neg rfl (letV_mk _ rfl (next2 hjn (by omega) ⟨?_, e3.trans e4⟩))⟩
      simp only [regL]; rw [if_pos hz, List.append_nil]; exact o3.ext e4
    · have hcls : clsV T high i j = .tuple #[.int .i64 (classF T high i (bk (fnAt T i).bars j)), .bool true] := by unfold clsV; rw [if_pos ⟨hv, by omega, by rw [Int.toNat_natCast, hbk]; exact hz⟩, Int.toNat_natCast, hbk]
      obtain ⟨b, hq, r0, r1⟩ := Bars.atN (hB.ext e4) hjn
      refine ⟨_, _, hcls, iteB_pos rfl ⟨by omega, by omega, unSome_mk hp ⟨_, e4.rd r10, by omega, by omega, unSome_mk hq ⟨_, r1, ?_⟩⟩⟩⟩
      refine apR rkNeed ((i : Int), (j : Int), classF T high i (bk (fnAt T i).bars j), bz (fnAt T i).bars j) (lo := H2.size) (o3.ext e4) (by omega) (e3.trans e4).size ?_
      intro s' H6 ho hn6 m6
      refine letV_mk _ rfl (next2 hjn (by omega) ⟨?_, Mods.ext (e3.trans e4) m6 (blkOf_new o3.new)⟩)
      simp only [regL]; rw [if_neg hz]; exact ho
  · obtain rfl : j = (fnAt T i).bars.length := by omega
    refine ⟨fun own H' => Own H2.size t_api_Need 4 H' own ((needsAt T high i).flatMap encN) ∧ Ext H2 H', ?_, ?_⟩
    · have hown := needsAt_own' (T := T) (high := high) hiT
      generalize hRL : regL T high i (fnAt T i).bars (fnAt T i).bars.length = RL at *
      have hownL : needsAt T high i = RL ++ winAll T high i (fun c => if c < 3 then (nB T high (T.length - 1 - i)).2 (i * 3 + c) else []) := by rw [hown, ← hRL]; rfl
      generalize hSf : (fun c => if c < 3 then (nB T high (T.length - 1 - i)).2 (i * 3 + c) else []) = Sf at *
      refine loop2 3 (fun c own H' => Own H2.size t_api_Need 4 H' own ((RL ++ (if (fnAt T i).bridge then winN T high i Sf c else [])).flatMap encN) ∧ Ext H2 H') ⟨by simpa [winN] using o3, e3⟩ ?_
      rintro c2 own2 H7 hc2 ⟨o7, e7⟩
      unfold F_ref18_Needs_r1
      obtain ⟨a, hp, hr⟩ := (hT2.ext e7).at hiT
      have r4 := (rdFn hr).2.2.2.2.1
      have n7 := Own.len rkNeed o7
      refine ⟨by omega, by omega, unSome_mk hp ⟨_, r4, iteB_intro (fun d1 => iteB_d (fun d2 => ?_) (fun d2 => ?_)) (fun d1 => ⟨?_, e7⟩)⟩⟩
      · have hc3 : c2 < 3 := by omega
        rw [d1, if_pos rfl] at o7 n7
        have hwl := winN_len T high i Sf c2
        refine (rwindow_spec T s all high i c2 (allFrom T high k) H7 (hT2.ext e7) hv hiT ((Own.is rkNeed oa).ext e7) (by omega) (allFrom_fst (by omega))).mono ?_
        rintro v H8 ⟨x, b, rfl, hb1, hb2, e8⟩
        have hiff := WinR_iff (T := T) (high := high) hv hiT hc3
        have hperm := tab_perm T high i c2 hc3 k (by omega)
        have hSc : Sf c2 = (nB T high k).2 (i * 3 + c2) := by rw [← hSf]; dsimp only; rw [if_pos hc3, hkk]
        rw [hkk, ← hSc] at hiff
        rw [← hSc] at hperm
        refine ⟨x, b, rfl, iteB_intro (fun d3 => ?_) (fun d3 => letV_mk _ rfl (next2 hc3 (by omega) ⟨?_, e7.trans e8⟩))⟩
        · have hw := hiff.1 (hb1.1 d3)
          have hx : x = wszF (Sf c2) c2 (fnAt T i).hot := by rw [hb2 d3]; exact (wszF_perm hperm _ _).symm
          rw [i64_in (n := (-1 : Int) - c2) (by omega), hx]
          rw [List.length_append] at n7
          refine apR rkNeed ((i : Int), -1 - (c2 : Int), (c2 : Int), wszF (Sf c2) c2 (fnAt T i).hot) (lo := H2.size) (o7.ext e8) (by omega) (e7.trans e8).size ?_
          intro s' H10 ho hn10 m10
          refine letV_mk _ rfl (next2 hc3 (by omega) ⟨?_, Mods.ext (e7.trans e8) m10 (blkOf_new o7.new)⟩)
          rw [d1, if_pos rfl]
          simp only [winN]
          rw [if_pos hw, ← List.append_assoc]
          exact ho
        · have hw : ¬ (WCond T high i c2 ∧ WOk (Sf c2) c2 (fnAt T i).hot) := fun hh => by have := hb1.2 (hiff.2 hh); rw [d3] at this; cases this
          rw [d1, if_pos rfl]
          simp only [winN]
          rw [if_neg hw, List.append_nil]
          exact o7.ext e8
      · obtain rfl : c2 = 3 := by omega
        refine ⟨?_, e7⟩
        rw [hownL]
        unfold winAll
        exact o7
      · rw [hownL]
        unfold winAll
        rw [d1] at o7 ⊢
        simpa using o7
    · rintro own4 H11 ⟨o11, e11⟩
      exact rneeds_check hv hk hi ha e11 o11 rfl hI hM

theorem rNeeds_spec (T : List FS) (s : Sl) (high : Bool) (H : Heap) (h : Topo H s T) : CallsH Try.prog n_ref18_Needs #[.slice s.p s.n s.c, .bool high] H (NeedsR T high H) := by
  refine F_ref18_Needs_ok _ _ ?_
  unfold F_ref18_Needs
  refine (rVal_spec T s H h).mono ?_
  rintro v H1 ⟨rfl, e1⟩
  refine ⟨_, rfl, iteB_not (fun c => .bad (by simpa using c) e1) (fun c => ?_)⟩
  have hv : ValidT T := by simpa using c
  have hl64 := hv.1
  have hsn := h.len
  refine letV_mk ((T.length : Int) - 1) (by rw [hsn, i64_in (by omega)]) ⟨fun al b i H' => ∃ k : Nat, i = (T.length : Int) - 1 - k ∧ k ≤ T.length ∧ RNI T high H k al b H', fun _ _ i _ => (i + 1).toNat, ⟨0, by simp, by omega, rfl, Own.nil _ _ _ _, e1, fun j h1 h2 => by omega⟩, ?_⟩
  rintro al b i H4 ⟨k, rfl, hk, h4⟩
  obtain rfl : b = false := h4.1
  by_cases hkT : k = T.length
  · subst hkT
    unfold F_ref18_Needs_r5
    refine iteB_neg (by simp; omega) ?_
    obtain ⟨_, o4, e4, hno⟩ := h4
    rw [allFrom_all] at o4
    refine .good al hv ?_ o4 (Own.len rkNeed o4) e4
    rintro ⟨j, hj, ho⟩
    exact hno j (by omega) hj ho
  · have he : (T.length : Int) - 1 - k = ((T.length - 1 - k : Nat) : Int) := by omega
    rw [he]
    exact rneeds_round h hv (by omega) rfl h4 rfl rfl

end Go.Proofs.Ytfodidlecpiohaa
