/-
  The contracts of the laws ThermalAllocateIsFair and ThermalFairAgrees.
-/
import Derived.Test.YtiikkapdchodkaaT7
import Derived.Test.YtiikkapdchodkaaL3
namespace Go.Proofs.Ytiikkapdchodkaa
open Go.Eng

/-! ### what Allocate gives is fair -/

theorem gI_tab {n i : Nat} {f : Nat → Int} (hi : i < n) : gI (tab n f) i = f i := by unfold gI; exact tab_getD _ hi

theorem gr_fr1 {A : List Act} (hv : VA A) (ho : okA A) (lev r0 : Int) {i : Nat} (hi : i < A.length) : mn A i ≤ grA A lev r0 i ∧ grA A lev r0 i ≤ wantI A i := by
  have h := at_bound hv ho lev hi
  unfold grA
  split
  · rename_i hc
    obtain ⟨_, h1, h2⟩ := hc
    have hv' := hv.2 i hi
    unfold wantI wantF at h2
    unfold atI atF wantI wantF at h ⊢
    omega
  · omega

theorem gr_fr2 {A : List Act} (hv : VA A) (lev r0 : Int) {i k : Nat} (hi : i < A.length) (hk : k < A.length) : grA A lev r0 i < wantI A i → grA A lev r0 k > mn A k → grA A lev r0 k ≤ grA A lev r0 i + 1 := by
  intro h1 h2
  have vi := hv.2 i hi
  have vk := hv.2 k hk
  have a1 : lev ≤ grA A lev r0 i := by
    unfold grA at h1 ⊢
    unfold wantI wantF at h1
    unfold atI atF wantF at h1 ⊢
    split
    · rename_i hc; rw [if_pos hc] at h1; omega
    · rename_i hc; rw [if_neg hc] at h1; omega
  have a2 : grA A lev r0 k ≤ lev + 1 := by
    unfold grA at h2 ⊢
    unfold atI atF wantF at h2 ⊢
    split
    · rename_i hc
      obtain ⟨_, c1, c2⟩ := hc
      omega
    · rename_i hc; rw [if_neg hc] at h2; omega
  omega

theorem gr_sum {A : List Act} (lev r0 : Int) : ∀ k, sumG (tab k (grA A lev r0)) k = totA A lev k + (r0 - rsA A lev r0 k) := by
  have key : ∀ n k, k ≤ n → sumG (tab n (grA A lev r0)) k = totA A lev k + (r0 - rsA A lev r0 k) := by
    intro n k
    induction k with
    | zero => intro _; simp [sumG, totA, rsA]
    | succ k ih =>
      intro hk
      have h1 := ih (by omega)
      simp only [sumG, totA, rsA]
      rw [h1, gI_tab (by omega)]
      unfold grA
      split <;> omega
  exact fun k => key k k (Nat.le_refl _)

theorem gr_all {b : Int} {A : List Act} (hv : VA A) {lev : Int} (hl : IsLev b A lev) : sumG (tab A.length (grA A lev (b - totA A lev A.length))) A.length = min b (totA A 4294967296 A.length) := by
  have hle := hl.le
  rw [gr_sum lev _, rsA_eq A lev _ (by omega)]
  rcases hl with ⟨rfl, h1⟩ | ⟨h1, h2, h3, h4, h5⟩
  · have hc : ∀ k, k ≤ A.length → cntA A 4294967296 k = 0 := by
      intro k
      induction k with
      | zero => intro _; rfl
      | succ k ih =>
        intro hk
        simp only [cntA]
        rw [ih (by omega), if_neg]
        · rfl
        · rintro ⟨_, h⟩
          have := want_top hv (i := k) (by omega)
          omega
    rw [hc _ (Nat.le_refl _)]
    omega
  · have := tot_next hv lev _ (Nat.le_refl A.length)
    omega

theorem gr_fair {b : Int} {A : List Act} (hv : VA A) (ho : okA A) {lev : Int} (hl : IsLev b A lev) : FairP b A (tab A.length (grA A lev (b - totA A lev A.length))) := by
  refine ⟨hv, tab_length _ _, fun i hi => ?_, gr_all hv hl, fun i hi k hk => ?_⟩
  · unfold Fr1; rw [gI_tab hi]; exact gr_fr1 hv ho _ _ hi
  · unfold Fr2; rw [gI_tab hi, gI_tab hk]; exact gr_fr2 hv _ _ hi hk

def minsA (A : List Act) : Nat → Int
  | 0 => 0
  | k + 1 => minsA A k + mn A k
def wantsA (A : List Act) : Nat → Int
  | 0 => 0
  | k + 1 => wantsA A k + wantI A k

theorem mins_tot {A : List Act} (hv : VA A) (ho : okA A) : ∀ k, k ≤ A.length → minsA A k = totA A 0 k := by
  intro k
  induction k with
  | zero => intro _; rfl
  | succ k ih =>
    intro hk
    have h1 := hv.2 k (by omega)
    have h2 := ho k
    simp only [minsA, totA]
    rw [ih (by omega)]
    unfold atI atF wantF
    omega

theorem wants_tot {A : List Act} (hv : VA A) (ho : okA A) : ∀ k, k ≤ A.length → wantsA A k = totA A 4294967296 k := by
  intro k
  induction k with
  | zero => intro _; rfl
  | succ k ih =>
    intro hk
    have h1 := hv.2 k (by omega)
    have h2 := ho k
    simp only [wantsA, totA]
    rw [ih (by omega)]
    unfold wantI atI atF wantF
    omega

theorem law_allocateIsFair (H : Heap) (s : Sl) (A0 : List Act) (b0 : Int) (h : Acts H s A0) (ho0 : okA A0) (hb0 : 0 ≤ b0 ∧ b0 ≤ 18446744073709551615) :
    CallsH Try.prog n_law39_ThermalAllocateIsFair #[.int .u64 b0, .slice s.p s.n s.c] H (fun v H' => v = .bool true ∧ Ext H H') := by
  refine F_law39_ThermalAllocateIsFair_ok _ _ ?_
  unfold F_law39_ThermalAllocateIsFair
  refine iteB_dec (fun c => awake39_true _ _ (.refl _)) (fun c => ?_)
  refine (Actors_spec H s A0 h ho0).mono ?_
  rintro v H2 ⟨l, rfl, hl, e2⟩
  have hl2 : Acts H2 l (actorsF A0) := hl.isS encA_len (by omega)
  have ho := okA_actorsF ho0
  have hv := VA_actorsF ho0
  have hln := hl2.len
  refine ⟨l, rfl, letV_mk (b0 % 200) (Int.tmod_eq_emod_of_nonneg hb0.1) ?_⟩
  have hb : 0 ≤ b0 % 200 ∧ b0 % 200 < 200 := by omega
  generalize b0 % 200 = b at *
  generalize actorsF A0 = A at *
  refine (Allocate_spec H2 l A b hl2 ho (by omega)).mono ?_
  intro v H3 hA
  obtain ⟨s1, r1, l1, rfl, i1, o1, e3⟩ := hA.out
  have hl32 := hv.1
  refine ⟨_, _, rfl, ?_⟩
  refine loop3 A.length (fun k (x y : Int) H' => Ext H3 H' ∧ x = minsA A k ∧ y = wantsA A k) ⟨.refl _, rfl, rfl⟩ ?_
  rintro k x y H4 hk ⟨e4, rfl, rfl⟩
  unfold F_law39_ThermalAllocateIsFair_r2
  refine iteB_dec (fun c1 => ?_) (fun c1 => ?_)
  · have hkn : k < A.length := by omega
    obtain ⟨a, hp, q0, q1, q2⟩ := Acts.atN ((hl2.ext e3).ext e4) hkn
    refine ⟨by omega, by omega, unSome_mk hp ⟨_, q1, by omega, by omega, unSome_mk hp ⟨_, q0, _, q1, _, q2, (lwant_spec _ _ _ H4).mono ?_⟩⟩⟩
    rintro v H5 ⟨rfl, e5⟩
    have t1 := mins_tot hv ho (k + 1) (by omega)
    have t2 := wants_tot hv ho (k + 1) (by omega)
    have t3 := tot_bound hv ho 0 (k + 1) (by omega)
    have t4 := tot_bound hv ho 4294967296 (k + 1) (by omega)
    exact ⟨_, rfl, e5, letV_mk (minsA A (k + 1)) (u64_in (by simp only [minsA] at t1; omega)) (letV_mk (wantsA A (k + 1)) (u64_in (by simp only [wantsA] at t2; unfold wantI at t2; omega)) (next3 hkn (by omega) ⟨e4.trans e5, rfl, rfl⟩))⟩
  obtain rfl : k = A.length := by omega
  rw [mins_tot hv ho _ (Nat.le_refl _), wants_tot hv ho _ (Nat.le_refl _)]
  by_cases ht : b < totA A 0 A.length
  · obtain ⟨rfl, rfl⟩ := o1.no hv ht
    exact iteB_pos rfl (iteB_pos rfl (iteB_pos (by simpa using ht) (awake39_true _ _ ((e2.trans e3).trans e4))))
  obtain ⟨rfl, lev, hlev, rfl⟩ := o1.ok hv (by omega)
  have n1 := i1.len
  rw [tab_length] at n1
  refine iteB_neg rfl (iteB_neg (by rw [n1, hln]; simp) ?_)
  refine (Fair_spec H4 l s1 A _ b ((hl2.ext e3).ext e4) ho (i1.ext e4)).mono ?_
  rintro v H7 ⟨rfl, e7⟩
  rw [decide_eq_true (gr_fair hv ho hlev)]
  refine ⟨_, rfl, iteB_neg rfl ?_⟩
  have x7 := e4.trans e7
  have hall : ∀ i, i < A.length → Fr1 A (tab A.length (grA A lev (b - totA A lev A.length))) i := (gr_fair hv ho hlev).2.2.1
  generalize hG : tab A.length (grA A lev (b - totA A lev A.length)) = G at *
  have hGl : G.length = A.length := by rw [← hG, tab_length]
  refine loop2 A.length (fun k (t : Int) H' => Ext H3 H' ∧ t = sumG G k) ⟨x7, rfl⟩ ?_
  rintro k t H8 hk ⟨e8, rfl⟩
  unfold F_law39_ThermalAllocateIsFair_r1
  refine iteB_dec (fun c2 => ?_) (fun c2 => ?_)
  · have hkn : k < A.length := by omega
    obtain ⟨a, hp, q0, q1, q2⟩ := Acts.atN ((hl2.ext e3).ext e8) hkn
    obtain ⟨ag, hpg, rg⟩ := Ints.atN (i1.ext e8) (i := k) (by omega)
    have hf := hall k hkn
    unfold Fr1 gI wantI at hf
    refine ⟨by omega, by omega, unSome_mk hpg ⟨_, rg, by omega, by omega, unSome_mk hp ⟨_, q1, iteB_dec (fun c3 => by omega) (fun c3 => ?_)⟩⟩⟩
    refine ⟨by omega, by omega, unSome_mk hpg ⟨_, rg, by omega, by omega, unSome_mk hp ⟨_, q0, _, q1, _, q2, (lwant_spec _ _ _ H8).mono ?_⟩⟩⟩
    rintro v H9 ⟨rfl, e9⟩
    refine ⟨_, rfl, e9, iteB_dec (fun c4 => by omega) (fun c4 => ?_)⟩
    obtain ⟨ag', hpg', rg'⟩ := Ints.atN (i1.ext (e8.trans e9)) (i := k) (by omega)
    have hs := sumG_bound hv ho (k + 1) (by omega) (fun i hi => hall i (by omega))
    exact ⟨by omega, by omega, unSome_mk hpg' ⟨_, rg', letV_mk (sumG G (k + 1)) (u64_in (by simp only [sumG] at hs; unfold gI at hs; omega)) (next2 hkn (by omega) ⟨e8.trans e9, rfl⟩)⟩⟩
  · obtain rfl : k = A.length := by omega
    have hsum := gr_all hv hlev
    rw [hG] at hsum
    rw [min_code]
    exact iteB_pos (by simp; omega) (iteB_pos (by simp; omega) (awake39_true _ _ ((e2.trans e3).trans e8)))

/-! ### Fair agrees -/

def someF (G : List Int) (i : Nat) : Int := gI G i % 40

theorem law_fairAgrees (H : Heap) (s sg : Sl) (A0 : List Act) (G : List Int) (b0 k m : Int) (h : Acts H s A0) (ho0 : okA A0) (hg : Ints .u64 H sg G) (hgo : ∀ i, 0 ≤ gI G i) (hb0 : 0 ≤ b0 ∧ b0 ≤ 18446744073709551615) :
    CallsH Try.prog n_law39_ThermalFairAgrees #[.int .u64 b0, .slice s.p s.n s.c, .slice sg.p sg.n sg.c, .int .i64 k, .int .i64 m] H (fun v H' => v = .bool true ∧ Ext H H') := by
  refine F_law39_ThermalFairAgrees_ok _ _ _ _ _ ?_
  unfold F_law39_ThermalFairAgrees
  refine ⟨fun x H' => x = decide (s.n > 40 ∨ sg.n > 40) ∧ H' = H, ?_, ?_⟩
  · refine iteB_dec (fun c => ?_) (fun c => ?_)
    · exact ⟨by rw [decide_eq_true]; omega, rfl⟩
    · exact ⟨decide_eq_decide.2 (by omega), rfl⟩
  rintro x H1 ⟨rfl, rfl⟩
  unfold F_law39_ThermalFairAgrees_k5
  refine iteB_dec (fun c => awake39_true _ _ (.refl _)) (fun c => ?_)
  refine (Actors_spec H1 s A0 h ho0).mono ?_
  rintro v H3 ⟨l, rfl, hl, e3⟩
  have hl3 : Acts H3 l (actorsF A0) := hl.isS encA_len (by omega)
  have ho := okA_actorsF ho0
  have hv := VA_actorsF ho0
  have hln := hl3.len
  refine ⟨l, rfl, letV_mk (b0 % 200) (Int.tmod_eq_emod_of_nonneg hb0.1) ?_⟩
  have hb : 0 ≤ b0 % 200 ∧ b0 % 200 < 200 := by omega
  generalize b0 % 200 = b at *
  have hl32 := hv.1
  have hgn := hg.len
  generalize actorsF A0 = A at *
  have z3 := e3.size
  refine ⟨fun o H' => Ext H3 H' ∧ ∃ L, Ints .u64 H' o L, ?_, ?_⟩
  · refine loop2 (min A.length G.length) (fun k (o : Sl) H' => Ext H3 H' ∧ o.n = k ∧ Own H3.size t_uint64 1 H' o ((tab k (someF G)).flatMap (encI .u64))) ⟨.refl _, rfl, Own.nil _ _ _ _⟩ ?_
    rintro k o H4 hk ⟨e4, hn, ho4⟩
    unfold F_law39_ThermalFairAgrees_r1
    have fin : Ext H3 H4 ∧ ∃ L, Ints .u64 H4 o L := ⟨e4, _, ho4.isS (fun _ => rfl) (by omega)⟩
    refine iteB_dec (fun c1 => iteB_dec (fun c2 => ?_) (fun c2 => fin)) (fun c1 => fin)
    have hkn : k < G.length := by omega
    obtain ⟨ag, hpg, rg⟩ := Ints.atN ((hg.ext e3).ext e4) hkn
    refine ⟨by omega, by omega, unSome_mk hpg ⟨_, rg, ?_⟩⟩
    have hk0 := hgo k
    unfold gI at hk0
    rw [Int.tmod_eq_emod_of_nonneg hk0]
    refine append_row (enc := encI .u64) (l := tab k (someF G)) (z := .int .u64 0) (sz := 1) (bytes := 8) (lo := H3.size) (someF G k) (by kernel_rfl) (by kernel_rfl) rfl (by omega) (fun _ => rfl) (fun x u hu => by simp [encI] at hu; subst hu; rfl) ho4 (by simp [maxLen]; omega) (by omega) e4.size ?_
    intro o' H5 ho5 hn5 m5
    exact next2 (by omega) (by omega) ⟨Mods.ext e4 m5 (blkOf_new ho4.new), by omega, by rw [tab_succ]; exact ho5⟩
  rintro o H7 ⟨e7, L, hL⟩
  unfold F_law39_ThermalFairAgrees_k4
  have x7 := e3.trans e7
  refine (Fair_spec H7 s sg A0 G b0 (h.ext x7) ho0 (hg.ext x7)).mono ?_
  rintro v H8 ⟨rfl, e8⟩
  refine ⟨_, rfl, (rFair_spec H8 s sg A0 G b0 ((h.ext x7).ext e8) ho0 ((hg.ext x7).ext e8)).mono ?_⟩
  rintro v H9 ⟨rfl, e9⟩
  have y9 := e8.trans e9
  refine ⟨_, rfl, iteB_neg (by simp) ((Fair_spec H9 l o A L b ((hl3.ext e7).ext y9) ho (hL.ext y9)).mono ?_)⟩
  rintro v H10 ⟨rfl, e10⟩
  have y10 := y9.trans e10
  refine ⟨_, rfl, (rFair_spec H10 l o A L b ((hl3.ext e7).ext y10) ho (hL.ext y10)).mono ?_⟩
  rintro v H11 ⟨rfl, e11⟩
  have y11 := y10.trans e11
  have l11 := (hl3.ext e7).ext y11
  refine ⟨_, rfl, iteB_neg (by simp) ((rAllocate_spec H11 l A b l11 ho (by omega)).mono ?_)⟩
  rintro v H12 ⟨e12, hcase⟩
  have x11 : Ext H1 H11 := x7.trans y11
  have x12 := x11.trans e12
  have done : ∀ e, e ≠ 0 → ∃ x7 : Sl, ∃ x8 : Int, Value.tuple #[.slice none 0 0, .int .i64 e] = .tuple #[.slice x7.p x7.n x7.c, .int .i64 x8] ∧ (∃ J_2 : Bool → Heap → Prop, (iteB (x8 != (0 : Int)) (J_2 true H12) (J_2 ((x7.n : Int) == (0 : Int)) H12)) ∧ (∀ x9 : Bool, ∀ H13 : Heap, J_2 x9 H13 → F_law39_ThermalFairAgrees_k3 (fun v H' => v = .bool true ∧ Ext H1 H') k m l b x7 x9 H13)) := by
    intro e he
    refine ⟨⟨none, 0, 0⟩, e, rfl, fun x H' => x = true ∧ H' = H12, iteB_pos (by simpa using he) ⟨rfl, rfl⟩, ?_⟩
    rintro x H13 ⟨rfl, rfl⟩
    unfold F_law39_ThermalFairAgrees_k3
    exact awake39_true _ _ x12
  rcases hcase with ⟨_, rfl⟩ | ⟨_, _, rfl⟩ | ⟨_, _, lev, hlev, sr, rfl, hn, hrow⟩
  · exact done 1 (by omega)
  · exact done 19 (by omega)
  refine ⟨sr, 0, rfl, fun x H' => x = ((sr.n : Int) == 0) ∧ H' = H12, iteB_neg rfl ⟨rfl, rfl⟩, ?_⟩
  rintro x H13 ⟨rfl, rfl⟩
  unfold F_law39_ThermalFairAgrees_k3
  refine iteB_beq (fun c1 => awake39_true _ _ x12) (fun c1 => ?_)
  rcases hrow with hrow | ⟨g, hg1, hg2, hrow⟩
  · omega
  have hm1 := modI_range k (n := sr.n) (by omega)
  have hm2 := modI_range m (n := sr.n) (by omega)
  refine (Mod_spec k sr.n H13 (by omega) (by omega)).mono ?_
  rintro v H15 ⟨rfl, rfl⟩
  refine ⟨_, rfl, (Mod_spec m sr.n H15 (by omega) (by omega)).mono ?_⟩
  rintro v H16 ⟨rfl, rfl⟩
  generalize modI k sr.n = i at *
  generalize modI m sr.n = j at *
  have hi : i.toNat < A.length := by omega
  have hj : j.toNat < A.length := by omega
  have z12 := x12.size
  have z11 := x11.size
  have z7 := e7.size
  have z11' := y11.size
  have lb : ∀ a, l.p = some a → a.block ≠ g := fun a ha => by have := hl.lt a ha; omega
  refine ⟨_, rfl, fun H' => Ext H1 H' ∧ (∃ f, IBlk .u64 H' g t_uint64 A.length f) ∧ Acts H' l A, ?_, ?_⟩
  · refine ⟨hm1.1, hm1.2, unSome_mk hg1 ⟨_, hrow.rd hi, iteB_dec (fun c2 => ?_) (fun c2 => ⟨x12, ⟨_, hrow⟩, l11.ext e12⟩)⟩⟩
    refine ⟨hm1.1, hm1.2, unSome_mk hg1 ⟨_, hrow.rd hi, hm1.1, hm1.2, unSome_mk hg1 ⟨hrow.ok hi, letH_mk ?_⟩⟩⟩
    rintro H17 rfl
    have w1 := hrow.wr hi (IntKind.u64.wrap (grA A lev (b - totA A lev A.length) i.toNat - 1))
    refine ⟨hm2.1, hm2.2, unSome_mk hg1 ⟨_, w1.rd hj, hm2.1, hm2.2, unSome_mk hg1 ⟨w1.ok hj, letH_mk ?_⟩⟩⟩
    rintro H18 rfl
    refine ⟨?_, ⟨_, w1.wr hj _⟩, ?_⟩
    · exact Mods.ext (Mods.ext x12 (mods_wr_add (S := [g]) (by simp)) (by simp; omega)) (mods_wr_add (S := [g]) (by simp)) (by simp; omega)
    · exact ((l11.ext e12).mods (mods_wr_add (S := [g]) (by simp)) (fun a ha => by simpa using lb a ha)).mods (mods_wr_add (S := [g]) (by simp)) (fun a ha => by simpa using lb a ha)
  rintro H19 ⟨x19, ⟨f, hf⟩, l19⟩
  unfold F_law39_ThermalFairAgrees_k2
  have hr : Ints .u64 H19 sr (tab A.length f) := RowI.ints (lo := 0) ⟨hn, .inr ⟨g, hg1, by omega, hf⟩⟩
  refine (Fair_spec H19 l sr A _ b l19 ho hr).mono ?_
  rintro v H20 ⟨rfl, e20⟩
  refine ⟨_, rfl, (rFair_spec H20 l sr A _ b (l19.ext e20) ho (hr.ext e20)).mono ?_⟩
  rintro v H21 ⟨rfl, e21⟩
  exact ⟨_, rfl, iteB_pos (by simp) (awake39_true _ _ ((x19.trans e20).trans e21))⟩

end Go.Proofs.Ytiikkapdchodkaa
