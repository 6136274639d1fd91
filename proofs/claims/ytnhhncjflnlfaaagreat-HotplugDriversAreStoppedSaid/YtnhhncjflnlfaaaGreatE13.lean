/-
  HotplugDriversAreStopped.
-/
import Derived.Test.YtnhhncjflnlfaaaGreatJE
namespace Go.Proofs.YtnhhncjflnlfaaaGreat
open Go.Eng
set_option linter.unusedVariables false

/-! ### carrying out moves (plain) -/
abbrev DSt := (Nat → Bool) × (Nat → Int)
def mvStep (n m : Nat) (st : DSt) (x : Mv) : Option DSt :=
  if 0 ≤ x.2.1 ∧ x.2.1 < m then
    (if x.1 = 1 then (if st.1 x.2.1.toNat = true ∧ x.2.1 < n then some (upd st.1 x.2.1.toNat false, st.2) else none)
     else if x.1 = 2 then (if st.1 x.2.1.toNat = false then some st else none)
     else if x.1 = 3 then (if st.1 x.2.1.toNat = false then some (upd st.1 x.2.1.toNat true, upd st.2 x.2.1.toNat (st.2 x.2.1.toNat + 1)) else none)
     else none)
  else none
def mvRun (n m : Nat) (st : DSt) : List Mv → Option DSt
  | [] => some st
  | x :: l => (mvStep n m st x).bind (fun s => mvRun n m s l)
theorem mvRun_append (n m : Nat) : ∀ (l r : List Mv) (st : DSt), mvRun n m st (l ++ r) = (mvRun n m st l).bind (fun s => mvRun n m s r)
  | [], r, st => rfl
  | x :: l, r, st => by
    show (mvStep n m st x).bind (fun s => mvRun n m s (l ++ r)) = ((mvStep n m st x).bind (fun s => mvRun n m s l)).bind (fun s => mvRun n m s r)
    cases mvStep n m st x with
    | none => rfl
    | some s => exact mvRun_append n m l r s
theorem mvRun_one (n m : Nat) (st : DSt) (x : Mv) : mvRun n m st [x] = mvStep n m st x := by
  show (mvStep n m st x).bind (fun s => some s) = _
  cases mvStep n m st x <;> rfl

section
variable {A B : List Asg} {n m : Nat}
def run1 (A B : List Asg) (n k : Nat) : Nat → Bool := fun i => decide (i < n) && !(affB A B i && decide (n ≤ i + k))
def run3 (A B : List Asg) (n k : Nat) : Nat → Bool := fun i => (decide (i < n) && !affB A B i) || (decide (i < k) && startQ A B n i)
def cnt3 (A B : List Asg) (n k : Nat) : Nat → Int := fun i => if i < k ∧ startQ A B n i = true then 1 else 0

theorem run_stop (hnm : n ≤ m) : ∀ k, k ≤ n → mvRun n m (run1 A B n 0, fun _ => 0) (stopL A B n k) = some (run1 A B n k, fun _ => 0)
  | 0, _ => rfl
  | k + 1, hk => by
    rw [stopL_succ, mvRun_append, run_stop hnm k (by omega)]
    show mvRun n m _ _ = _
    by_cases h : affB A B ((n : Int) - 1 - k) = true
    · rw [if_pos h, mvRun_one]
      have e : ((n : Int) - 1 - k).toNat = n - 1 - k := by omega
      have e2 : ((n : Int) - 1 - k) = ((n - 1 - k : Nat) : Int) := by omega
      have hr : run1 A B n k (n - 1 - k) = true := by
        unfold run1
        rw [decide_eq_true (by omega), decide_eq_false (by omega)]
        simp
      unfold mvStep
      dsimp only
      rw [if_pos ⟨by omega, by omega⟩, if_pos rfl, e, if_pos ⟨hr, by omega⟩]
      congr 2
      funext i
      unfold upd run1
      rw [e2] at h
      by_cases hi : i = n - 1 - k
      · subst hi
        simp
        exact fun _ => ⟨h, by omega⟩
      · rw [if_neg hi]
        congr 2
        have : (n ≤ i + k) ↔ (n ≤ i + (k + 1)) := by omega
        simp only [this]
    · rw [if_neg h]
      show some _ = some _
      congr 2
      funext i
      have e2 : ((n : Int) - 1 - k) = ((n - 1 - k : Nat) : Int) := by omega
      rw [e2] at h
      unfold run1
      by_cases hi : i = n - 1 - k
      · subst hi
        have : affB A B ((n - 1 - k : Nat) : Int) = false := by simpa using h
        rw [this]
        simp
      · congr 3
        have : (n ≤ i + k) ↔ (n ≤ i + (k + 1)) := by omega
        simp only [this]

theorem run_write (hB : ∀ x ∈ B, 0 ≤ x.1.1 ∧ x.1.1 < m) (st : DSt) (hst : st.1 = run1 A B n n) : ∀ l : List Asg, (∀ x ∈ l, x ∈ B) → mvRun n m st ((l.filter (writeQ A B n)).map (fun x => (2, x.1.1, x.1.2.1, x.2))) = some st
  | [], _ => rfl
  | x :: l, h => by
    rw [List.filter_cons]
    by_cases hw : writeQ A B n x = true
    · rw [if_pos hw, List.map_cons]
      show (mvStep n m st _).bind _ = _
      obtain ⟨h1, h2⟩ := hB x (h x (by simp))
      have hr : st.1 x.1.1.toNat = false := by
        rw [hst]
        unfold run1
        unfold writeQ at hw
        have e : ((x.1.1.toNat : Nat) : Int) = x.1.1 := by omega
        rw [e]
        rw [Bool.or_eq_true, decide_eq_true_eq] at hw
        rcases hw with hw | hw
        · rw [decide_eq_false (by omega)]; rfl
        · rw [hw]; simp
      have : mvStep n m st (2, x.1.1, x.1.2.1, x.2) = some st := by
        unfold mvStep
        dsimp only
        rw [if_pos ⟨h1, h2⟩, if_neg (by decide), if_pos rfl, if_pos hr]
      rw [this]
      exact run_write hB st hst l (fun y hy => h y (by simp [hy]))
    · rw [if_neg hw]
      exact run_write hB st hst l (fun y hy => h y (by simp [hy]))

theorem run_start : ∀ k, k ≤ m → mvRun n m (run3 A B n 0, cnt3 A B n 0) (startL A B n k) = some (run3 A B n k, cnt3 A B n k)
  | 0, _ => rfl
  | k + 1, hk => by
    rw [startL_succ, mvRun_append, run_start k (by omega)]
    show mvRun n m _ _ = _
    by_cases h : startQ A B n k = true
    · rw [if_pos h, mvRun_one]
      have hr : run3 A B n k k = false := by
        unfold run3
        unfold startQ at h
        rw [Bool.or_eq_true, decide_eq_true_eq] at h
        rcases h with h | h
        · rw [decide_eq_false (show ¬ k < n by omega)]; simp
        · rw [h]; simp
      have hc : cnt3 A B n k k = 0 := by unfold cnt3; rw [if_neg (by omega)]
      unfold mvStep
      dsimp only
      rw [if_pos ⟨by omega, by omega⟩, if_neg (by decide), if_neg (by decide), if_pos rfl, Int.toNat_natCast, if_pos hr, hc]
      congr 2
      · funext i
        unfold upd
        by_cases hi : i = k
        · subst hi; unfold run3; simp [h]
        · rw [if_neg hi]
          unfold run3
          have : (i < k) ↔ (i < k + 1) := by omega
          simp only [this]
      · funext i
        unfold upd
        by_cases hi : i = k
        · subst hi; unfold cnt3; simp [h]
        · rw [if_neg hi]
          unfold cnt3
          have : (i < k) ↔ (i < k + 1) := by omega
          simp only [this]
    · rw [if_neg h]
      show some _ = some _
      congr 2
      · funext i
        unfold run3
        by_cases hi : i = k
        · subst hi
          have : startQ A B n i = false := by simpa using h
          rw [this]
          simp
        · have : (i < k) ↔ (i < k + 1) := by omega
          simp only [this]
      · funext i
        unfold cnt3
        by_cases hi : i = k
        · subst hi
          rw [if_neg (by omega), if_neg (fun hh => h hh.2)]
        · have : (i < k) ↔ (i < k + 1) := by omega
          simp only [this]

theorem run_all (hnm : n ≤ m) (hB : ∀ x ∈ B, 0 ≤ x.1.1 ∧ x.1.1 < m) : mvRun n m (fun i => decide (i < n), fun _ => 0) (movesF A B n m) = some (run3 A B n m, cnt3 A B n m) := by
  have e0 : (fun i : Nat => decide (i < n)) = run1 A B n 0 := by
    funext i
    unfold run1
    by_cases h : i < n
    · rw [decide_eq_true h, decide_eq_false (by omega)]; simp
    · rw [decide_eq_false h]; rfl
  have e1 : run1 A B n n = run3 A B n 0 := by
    funext i
    unfold run1 run3
    rw [decide_eq_true (show n ≤ i + n by omega)]
    simp
  have e2 : cnt3 A B n 0 = fun _ => 0 := by
    funext i
    unfold cnt3
    rw [if_neg (by omega)]
  unfold movesF
  rw [mvRun_append, mvRun_append, e0, run_stop hnm n (Nat.le_refl _)]
  show (mvRun n m (run1 A B n n, fun _ => 0) (writeL A B n B.length)).bind _ = _
  unfold writeL
  rw [List.take_length, run_write hB _ rfl B (fun x hx => hx)]
  show mvRun n m (run1 A B n n, fun _ => 0) _ = _
  rw [e1, ← e2]
  exact run_start m (Nat.le_refl _)
theorem run_fin {i : Nat} (hi : i < m) : run3 A B n m i = true ∧ (n ≤ i → cnt3 A B n m i = 1) := by
  unfold run3 cnt3
  have hq : startQ A B n i = (decide (n ≤ i) || affB A B i) := by
    unfold startQ
    congr 1
    exact decide_eq_decide.2 (by omega)
  rw [decide_eq_true hi, hq]
  refine ⟨?_, fun h => ?_⟩
  · by_cases h : i < n
    · rw [decide_eq_true h, decide_eq_false (by omega)]
      cases affB A B i <;> rfl
    · rw [decide_eq_false h, decide_eq_true (by omega)]
      simp
  · rw [if_pos ⟨hi, by rw [decide_eq_true h]; rfl⟩]
end

theorem PlanIs.fns {T : List FS} {h : Host} {A : List Asg} {n : Int} {Bs : List Asg} {M : List Mv} {c : Cert} (ha : AccOk T h n) (p : PlanIs T h A n 0 Bs M c) : M = movesF A Bs n.toNat T.length ∧ ∀ x ∈ Bs, 0 ≤ x.1.1 ∧ x.1.1 < T.length := by
  rcases p with ⟨h0, _⟩ | ⟨_, e0, N, hN, ⟨h1, h2, _⟩ | ⟨h0, _, B, _, _, h1, h2, _⟩ | ⟨h0, _, e1, B1, c1, hA, ⟨h1, h2, _⟩ | ⟨_, _, h1, h2, _⟩⟩⟩
  · exact absurd ha h0
  · exact absurd h2.symm h1
  · subst h0 h1
    refine ⟨h2, fun x hx => ?_⟩
    obtain ⟨hv, ho, rfl⟩ := hN.all
    exact (needs_ok hv ho x.1 (List.of_mem_zip (show (x.1, x.2) ∈ _ from hx)).1).fn
  · exact absurd h2.symm h1
  · subst h1
    exact ⟨h2, hA.fns⟩

structure DrI (H0 : Heap) (b1 b2 : Nat) (m : Nat) (st : DSt) (H : Heap) : Prop where
  r : BBlk H b1 t_bool m st.1
  s : IBlk .i64 H b2 t_int m st.2
  ext : Ext H0 H

theorem dr_last {H0 : Heap} {b1 b2 m n : Nat} {out : Sl} {st : DSt} {H10 H11 : Heap} (e0 : Ext H0 H10) (hb1 : b1 = H10.size) (hb2 : b2 = H11.size) (hm : out.n = m) (hm64 : m ≤ 64) (hf : ∀ i, i < m → st.1 i = true ∧ (n ≤ i → st.2 i = 1)) (H15 : Heap) (d : DrI H10 b1 b2 m st H15) :
    ∃ I_2 : Int → Heap → Prop, ∃ M_2 : Int → Heap → Nat, I_2 (0 : Int) H15 ∧ (∀ i6 : Int, ∀ H19 : Heap, I_2 i6 H19 → F_law23_HotplugDriversAreStopped_r1 (BoolP true H0) out n H10 H11 I_2 M_2 i6 H19) := by
  subst hb1 hb2
  refine loop1 m (fun k H' => H' = H15) rfl ?_
  rintro k H19 hk rfl
  unfold F_law23_HotplugDriversAreStopped_r1
  have ht : ((out.n : Int).toNat : Int) = m := by omega
  refine iteB_dec (fun c => ?_) (fun c => ⟨rfl, e0.trans d.ext⟩)
  have hkm : k < m := by omega
  obtain ⟨f1, f2⟩ := hf k hkm
  have r1 := d.r.rd hkm
  have r2 := d.s.rd hkm
  rw [f1] at r1
  refine ⟨by omega, by omega, _, r1, iteB_neg (by simp) (iteB_dec (fun g => ?_) (fun g => letV_mk _ rfl (next1 hkm (by omega) rfl)))⟩
  rw [f2 (by omega)] at r2
  exact ⟨by omega, by omega, _, r2, iteB_neg (by simp) (letV_mk _ rfl (next1 hkm (by omega) rfl))⟩

theorem dr_moves {H0 : Heap} {b1 b2 m n : Nat} {ms out : Sl} {M : List Mv} {H10 H11 : Heap} (e0 : Ext H0 H10) (mv : IsS 4 encMv H10 ms M) (hb1 : b1 = H10.size) (hb2 : b2 = H11.size) (hne : b1 ≠ b2) (hz1 : H10.size ≤ b1) (hz2 : H10.size ≤ b2) (hm : out.n = m) (hm64 : m ≤ 64) (hMl : M.length ≤ 10000) (fin : DSt) (hrun : mvRun n m (fun i => decide (i < n), fun _ => 0) M = some fin) (hf : ∀ i, i < m → fin.1 i = true ∧ (n ≤ i → fin.2 i = 1)) (hcn : ∀ l st, mvRun n m (fun i => decide (i < n), fun _ => 0) l = some st → ∀ i, 0 ≤ st.2 i ∧ st.2 i ≤ l.length) (H13 : Heap) (d : DrI H10 b1 b2 m (fun i => decide (i < n), fun _ => 0) H13) :
    ∃ I_1 : Int → Heap → Prop, ∃ M_1 : Int → Heap → Nat, I_1 (0 : Int) H13 ∧ (∀ i2 : Int, ∀ H15 : Heap, I_1 i2 H15 → F_law23_HotplugDriversAreStopped_r2 (BoolP true H0) out n ms H10 H11 I_1 M_1 i2 H15) := by
  refine loop1 M.length (fun k H' => ∃ st, mvRun n m (fun i => decide (i < n), fun _ => 0) (M.take k) = some st ∧ DrI H10 b1 b2 m st H') ⟨_, rfl, d⟩ ?_
  rintro k H15 hk ⟨st, hst, d15⟩
  unfold F_law23_HotplugDriversAreStopped_r2
  have mv15 := mv.ext d15.ext
  have hmn := mv15.len
  refine iteB_dec (fun c => ?_) (fun c => ?_)
  · have hkM : k < M.length := by omega
    obtain ⟨a, hp, hr⟩ := IsS.atN mv15 ((0, 0, 0, 0) : Mv) hkM
    have r0 : rd H15 (a.add ((k : Int).toNat * 4)) = some (.int .i64 (M.getD k (0, 0, 0, 0)).1) := by have := hr 0 _ rfl; rwa [add_zero'] at this
    have r1 := hr 1 _ rfl
    have htk := take_succ_d (l := M) ((0, 0, 0, 0) : Mv) hkM
    have hstep : mvRun n m (fun i => decide (i < n), fun _ => 0) (M.take (k + 1)) = mvStep n m st (M.getD k (0, 0, 0, 0)) := by
      rw [htk, mvRun_append, hst]
      exact mvRun_one n m st _
    obtain ⟨st', hst'⟩ : ∃ st', mvStep n m st (M.getD k (0, 0, 0, 0)) = some st' := by
      rw [← hstep]
      have e : M = M.take (k + 1) ++ M.drop (k + 1) := (List.take_append_drop _ _).symm
      rw [e, mvRun_append] at hrun
      cases hq : mvRun n m (fun i => decide (i < n), fun _ => 0) (M.take (k + 1)) with
      | none => rw [hq] at hrun; cases hrun
      | some s => exact ⟨s, rfl⟩
    have hc := hcn _ _ hst
    rw [List.length_take] at hc
    rw [hst'] at hstep
    generalize M.getD k (0, 0, 0, 0) = x at *
    obtain ⟨x0, f, x2, x3⟩ := x
    dsimp only at r0 r1
    have r1' : rd H15 ((a.add ((k : Int).toNat * 4)).add 1) = some (.int .i64 f) := r1
    unfold mvStep at hst'
    dsimp only at hst'
    by_cases hfm : 0 ≤ f ∧ f < m
    · rw [if_pos hfm] at hst'
      obtain ⟨fn, rfl⟩ : ∃ fn : Nat, f = fn := ⟨f.toNat, by omega⟩
      rw [Int.toNat_natCast] at hst'
      have hfm' : fn < m := by omega
      have q1 := d15.r.rd hfm'
      have hto : ((out.n : Int).toNat : Int) = m := by omega
      have hof : ((fn : Nat) : Int).toNat = fn := Int.toNat_natCast fn
      refine ⟨by omega, by omega, unSome_mk hp ⟨_, r1', iteB_dec (fun g => by omega) (fun _ => iteB_dec (fun g => by omega) (fun _ => ⟨by omega, by omega, unSome_mk hp ⟨_, r0, ?_⟩⟩))⟩⟩
      rw [hof]
      by_cases k1 : x0 = 1
      · subst k1
        rw [if_pos rfl] at hst'
        by_cases hg : st.1 fn = true ∧ (fn : Int) < n
        · rw [if_pos hg] at hst'
          injection hst' with hst'
          subst hst'
          rw [hg.1] at q1
          refine iteB_pos (by simp) ⟨by omega, by omega, _, by rw [← hb1]; exact q1, iteB_neg (by simp) (iteB_dec (fun g => by omega) (fun _ => ⟨by omega, by omega, by rw [← hb1]; exact d15.r.ok hfm', letH_mk ?_⟩))⟩
          intro H16 h16
          have m16 : Mods [b1] H15 H16 := by rw [h16, ← hb1]; exact mods_wr_add (by simp)
          have r16 : BBlk H16 b1 t_bool m (upd st.1 fn false) := by rw [h16, ← hb1]; exact d15.r.wr hfm' false
          clear h16
          exact letV_mk _ rfl (next1 hkM (by omega) ⟨_, hstep, r16, d15.s.mods m16 (by simp; exact fun e => hne e.symm), Mods.ext d15.ext m16 (by simpa using hz1)⟩)
        · rw [if_neg hg] at hst'; cases hst'
      · rw [if_neg k1] at hst'
        refine iteB_neg (by simpa using k1) ?_
        by_cases k2 : x0 = 2
        · subst k2
          rw [if_pos rfl] at hst'
          by_cases hg : st.1 fn = false
          · rw [if_pos hg] at hst'
            injection hst' with hst'
            subst hst'
            rw [hg] at q1
            exact iteB_pos (by simp) ⟨by omega, by omega, _, by rw [← hb1]; exact q1, iteB_neg (by simp) (letV_mk _ rfl (next1 hkM (by omega) ⟨_, hstep, d15⟩))⟩
          · rw [if_neg hg] at hst'; cases hst'
        · rw [if_neg k2] at hst'
          refine iteB_neg (by simpa using k2) ?_
          by_cases k3 : x0 = 3
          · subst k3
            rw [if_pos rfl] at hst'
            by_cases hg : st.1 fn = false
            · rw [if_pos hg] at hst'
              injection hst' with hst'
              subst hst'
              rw [hg] at q1
              refine iteB_pos (by simp) ⟨by omega, by omega, _, by rw [← hb1]; exact q1, iteB_neg (by simp) ⟨by omega, by omega, by rw [← hb1]; exact d15.r.ok hfm', letH_mk ?_⟩⟩
              intro H17 h17
              have m17 : Mods [b1] H15 H17 := by rw [h17, ← hb1]; exact mods_wr_add (by simp)
              have r17 : BBlk H17 b1 t_bool m (upd st.1 fn true) := by rw [h17, ← hb1]; exact d15.r.wr hfm' true
              clear h17
              have s17 := d15.s.mods m17 (by simp; exact fun e => hne e.symm)
              have q2 := s17.rd hfm'
              have hcf := hc fn
              refine ⟨by omega, by omega, _, by rw [← hb2]; exact q2, by omega, by omega, by rw [← hb2]; exact s17.ok hfm', letH_mk ?_⟩
              intro H18 h18
              rw [i64_in (by omega)] at h18
              have m18 : Mods [b2] H17 H18 := by rw [h18, ← hb2]; exact mods_wr_add (by simp)
              have s18 : IBlk .i64 H18 b2 t_int m (upd st.2 fn (st.2 fn + 1)) := by rw [h18, ← hb2]; exact s17.wr hfm' _
              clear h18
              exact letV_mk _ rfl (next1 hkM (by omega) ⟨_, hstep, r17.mods m18 (by simpa using hne), s18, Mods.ext (Mods.ext d15.ext m17 (by simpa using hz1)) m18 (by simpa using hz2)⟩)
            · rw [if_neg hg] at hst'; cases hst'
          · rw [if_neg k3] at hst'; cases hst'
    · rw [if_neg hfm] at hst'; cases hst'
  · obtain rfl : k = M.length := by omega
    rw [List.take_length, hrun] at hst
    injection hst with hst
    subst hst
    exact dr_last e0 hb1 hb2 hm hm64 hf H15 d15

theorem mvRun_cnt {n m : Nat} : ∀ (l : List Mv) (st st' : DSt) (c : Int), (∀ i, 0 ≤ st.2 i ∧ st.2 i ≤ c) → mvRun n m st l = some st' → ∀ i, 0 ≤ st'.2 i ∧ st'.2 i ≤ c + l.length
  | [], st, st', c, h, hr, i => by
    injection hr with hr
    subst hr
    have := h i
    simp
    omega
  | x :: l, st, st', c, h, hr, i => by
    have hr' : (mvStep n m st x).bind (fun s => mvRun n m s l) = some st' := hr
    cases hs : mvStep n m st x with
    | none => rw [hs] at hr'; cases hr'
    | some s =>
      rw [hs] at hr'
      have hc : ∀ i, 0 ≤ s.2 i ∧ s.2 i ≤ c + 1 := fun i => by
        have h0 := h i
        have h1 := h x.2.1.toNat
        unfold mvStep at hs
        split at hs
        · split at hs
          · split at hs
            · injection hs with hs; subst hs; dsimp only; omega
            · cases hs
          · split at hs
            · split at hs
              · injection hs with hs; subst hs; omega
              · cases hs
            · split at hs
              · split at hs
                · injection hs with hs; subst hs; dsimp only; unfold upd; split <;> omega
                · cases hs
              · cases hs
        · cases hs
      have := mvRun_cnt l s st' (c + 1) hc hr' i
      simp
      omega

theorem stopped_k4 {H0 : Heap} {out sa : Sl} {T' : List FS} {g : Host} {gs : HostS} {A : List Asg} {n : Nat} {ok : Bool} {H2 H6 : Heap} (p : PlQ H0 H2.size out sa T' g gs A n ok H6) : F_law23_HotplugDriversAreStopped_k4 (BoolP true H0) H2 out sa n (!ok) H6 := by
  unfold F_law23_HotplugDriversAreStopped_k4
  have p6 := p.s
  have hAl := p6.len
  refine iteB_not (fun _ => (awake_spec H6).mono ?_) (fun hk => ?_)
  · rintro v H7 ⟨rfl, e7⟩
    exact ⟨_, rfl, rfl, p6.ext.trans e7⟩
  obtain ⟨pt, pl⟩ := p.yes hk
  obtain ⟨q0, q1, q2, q3, q4, q5, q6, q7⟩ := Blk.host p6.blk
  refine ⟨_, q0, _, q1, _, q2, _, q3, _, q4, _, q5, _, q6, _, q7, (Plan_spec T' out g gs A sa n H6 p6.topo p6.cap p6.m p6.isA p6.acap (by omega) p6.u64).mono ?_⟩
  rintro v H8 ⟨o1, m1, ea, B1, M1, c, rfl, pl1, ⟨is1, cp1⟩, mv1, e8⟩
  refine ⟨o1, m1, _, _, _, _, _, rfl, local_mk (vs := encC c) rfl rfl fun H10 e10 z10 b10 => ?_⟩
  have p10 := p6.go (e8.trans e10)
  have mv10 := mv1.ext e10
  have hml := mv1.len
  have hon := p10.topo.len
  refine iteB_bne (fun q => ?_) (fun q => ?_)
  · have : M1 = [] := by
      rcases pl1 with ⟨_, _, _, h, _⟩ | ⟨_, e0, N, hN, ⟨_, _, _, h, _⟩ | ⟨_, _, B, _, h, _⟩ | ⟨_, _, e1, B1, c1, hA, ⟨_, _, _, h, _⟩ | ⟨_, h, _⟩⟩⟩
      · exact h
      · exact h
      · exact absurd h q
      · exact h
      · exact absurd h q
    subst this
    exact ⟨by rw [hml]; rfl, p10.ext⟩
  subst q
  obtain ⟨hM, hB⟩ := pl1.fns pl.acc
  have hbd := pl1.bounds
  rw [Int.toNat_natCast] at hM
  have hT64 := pl.acc.1.1.1
  have hnT := pl.le
  have hrun := run_all (A := A) hnT hB
  rw [← hM] at hrun
  refine ⟨by omega, by omega, by omega, letH_mk ?_⟩
  intro H11 h11
  have e11 : Ext H10 H11 := by rw [h11]; exact Ext.push _ _
  have b11 : BBlk H11 H10.size t_bool T'.length (fun _ => false) := by
    rw [h11]
    refine BBlk.of ?_
    rw [Int.toNat_natCast, hon]
    have hz := Blk.new H10 t_bool (List.replicate T'.length (.bool false))
    rw [← zeroRow_bool] at hz
    exact hz
  clear h11
  refine ⟨by omega, by omega, by omega, letH_mk ?_⟩
  intro H12 h12
  have e12 : Ext H11 H12 := by rw [h12]; exact Ext.push _ _
  have i12 : IBlk .i64 H12 H11.size t_int T'.length (fun _ => 0) := by
    rw [h12, Int.toNat_natCast, hon]
    exact IBlk.zero _ _ _
  clear h12
  have x12 := e11.trans e12
  have hz1 := p10.ext.size
  have hz11 := e11.size
  have hb11 := b11.lt
  have hne : H10.size ≠ H11.size := by omega
  refine loop1 n (fun k H' => DrI H10 H10.size H11.size T'.length (fun i => decide (i < k), fun _ => 0) H') ⟨(b11.ext e12).congr (fun i hi => by simp), i12, x12⟩ ?_
  rintro k H13 hk d13
  unfold F_law23_HotplugDriversAreStopped_r3
  refine iteB_dec (fun c => ?_) (fun c => ?_)
  · have hkT : k < T'.length := by omega
    refine ⟨by omega, by omega, by rw [Int.toNat_natCast]; exact d13.r.ok hkT, letH_mk ?_⟩
    intro H14 h14
    rw [Int.toNat_natCast] at h14
    have m14 : Mods [H10.size] H13 H14 := by rw [h14]; exact mods_wr_add (by simp)
    have r14 : BBlk H14 H10.size t_bool T'.length (upd (fun i => decide (i < k)) k true) := by rw [h14]; exact d13.r.wr hkT true
    clear h14
    refine letV_mk _ rfl (next1 (by omega) (by omega) ⟨r14.congr (fun i hi => ?_), d13.s.mods m14 (by simp; exact fun e => hne e.symm), Mods.ext d13.ext m14 (by simp)⟩)
    dsimp only
    unfold upd
    by_cases e : i = k
    · subst e; simp
    · rw [if_neg e]
      exact decide_eq_decide.2 (by omega)
  · obtain rfl : k = n := by omega
    exact dr_moves p10.ext mv10 rfl rfl hne (Nat.le_refl _) (by omega) hon hT64 hbd.2 _ hrun (fun i hi => run_fin hi) (fun l st h i => by have := mvRun_cnt l _ st 0 (fun i => ⟨Int.le_refl _, Int.le_refl _⟩) h i; omega) H13 d13

theorem law_stopped (H : Heap) (l c : Sl) (L C0 : List FS) (h : Host) (hs : HostS) (atv : Int) (hL : Topo H l L) (hl : L.length ≤ 9223372036854775807) (hb : ∀ x ∈ L, x.1.bars.length ≤ 9223372036854775807) (hC : Topo H c C0) (hcl : C0.length ≤ 9223372036854775807) (hcb : ∀ x ∈ C0, x.1.bars.length ≤ 9223372036854775807) (hm : HostM H h hs) :
    CallsH Tryz.prog n_law23_HotplugDriversAreStopped #[.slice l.p l.n l.c, .slice c.p c.n c.c, hostV h hs, .int .i64 atv] H (BoolP true H) := by
  refine F_law23_HotplugDriversAreStopped_ok _ _ _ _ _ _ _ _ _ _ _ ?_
  unfold F_law23_HotplugDriversAreStopped
  exact plug_open H l c L C0 h hs atv hL hl hb hC hcl hcb hm (fun H2 x8 x17 x18 x21 H6 => F_law23_HotplugDriversAreStopped_k4 (BoolP true H) H2 x8 x17 x18 x21 H6) (fun H2 out sa T' g gs A n ok H6 p => stopped_k4 p)

end Go.Proofs.YtnhhncjflnlfaaaGreat
