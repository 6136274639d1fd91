/-
  Contracts of Update, Level, Active, Trips, degree.
-/
import Derived.Test.YtiikkapdchodkaaT4
namespace Go.Proofs.Ytiikkapdchodkaa
open Go.Eng

variable {Q : Nat → Prop}

def newAct (T : List Trp) (t : Int) (act : Nat → Bool) (i : Nat) : Bool := if t ≥ tp T i then true else if t < tp T i - hy T i then false else act i
def anyK (T : List Trp) (a : Nat → Bool) (kind : Int) : Nat → Bool
  | 0 => false
  | k + 1 => anyK T a kind k || (a k && (kd T k == kind))
def newLev (T : List Trp) (a : Nat → Bool) (n lev : Int) : Int := if anyK T a 2 T.length then min (lev + 1) n else max (lev - 1) 0

theorem anyK_congr {T : List Trp} {a a' : Nat → Bool} {kind : Int} : ∀ k, (∀ i, i < k → a i = a' i) → anyK T a kind k = anyK T a' kind k := by
  intro k
  induction k with
  | zero => intro _; rfl
  | succ k ih => intro h; simp only [anyK]; rw [ih (fun i hi => h i (by omega)), h k (by omega)]

def UpdP (tm : TypeId) (Q : Nat → Prop) (b ba : Nat) (T : List Trp) (act : Nat → Bool) (n lev t : Int) (H : Heap) (v : Value) (H' : Heap) : Prop :=
  ((-134217728 ≤ t ∧ t ≤ 134217728) ∧ v = .tuple #[.int .i64 (newLev T (newAct T t act) n lev), .bool (anyK T (newAct T t act) 3 T.length), .int .i64 0] ∧
    ZM tm Q H' b ba T (newAct T t act) n (newLev T (newAct T t act) n lev) ∧ Mods [b, ba] H H') ∨
  (¬ (-134217728 ≤ t ∧ t ≤ 134217728) ∧ v = .tuple #[.int .i64 0, .bool false, .int .i64 1] ∧ H' = H)

theorem min_code (x y : Int) : (if x < y then x else y) = min y x := by split <;> omega
theorem max_code (x y : Int) : (if x > y then x else y) = max y x := by split <;> omega

theorem Update_spec (b ba : Nat) (T : List Trp) (act : Nat → Bool) (n lev t : Int) (H : Heap) (h : ZM t_thermal_Zone Q H b ba T act n lev) (hv : VT T) (hn : 0 ≤ n ∧ n ≤ 64) (hl : 0 ≤ lev ∧ lev ≤ n) :
    CallsH Try.prog n_thermal_Zone_Update #[.pointer (some ⟨b, 0, none⟩), .int .i64 t] H (UpdP t_thermal_Zone Q b ba T act n lev t H) := by
  refine F_thermal_Zone_Update_ok _ _ ?_
  unfold F_thermal_Zone_Update
  refine ⟨fun x H' => x = decide (t < -134217728 ∨ t > 134217728) ∧ H' = H, ?_, ?_⟩
  · refine iteB_dec (fun c => ?_) (fun c => ?_)
    · exact ⟨by rw [decide_eq_true (.inl c)], rfl⟩
    · exact ⟨decide_eq_decide.2 ⟨.inr, fun h => h.resolve_left c⟩, rfl⟩
  rintro x H1 ⟨rfl, rfl⟩
  unfold F_thermal_Zone_Update_k5
  refine iteB_dec (fun c => ?_) (fun c => ?_)
  · exact .inr ⟨by omega, rfl, rfl⟩
  have hT := hv.1
  obtain ⟨⟨d, ca, g1, g2, g3⟩, g4, g5⟩ := id h
  refine ⟨d, g1.rd0 rfl, ?_⟩
  refine loop3 T.length (fun k (p cr : Bool) H' => p = anyK T (newAct T t act) 2 k ∧ cr = anyK T (newAct T t act) 3 k ∧ ZM t_thermal_Zone Q H' b ba T (fun i => if i < k then newAct T t act i else act i) n lev ∧ Mods [b, ba] H1 H')
    ⟨rfl, rfl, h.congr (fun i _ => by simp), .refl _ _⟩ ?_
  rintro k p cr H2 hk ⟨rfl, rfl, z2, m2⟩
  unfold F_thermal_Zone_Update_r4
  rw [g2.len]
  have d2 : Trps H2 d T := g2.mods m2 (fun a ha => by have := g3 a ha; simp; omega)
  refine iteB_dec (fun c1 => ?_) (fun c1 => ?_)
  · have hkn : k < T.length := by omega
    obtain ⟨o1, o2, o3, o4, o5, o6⟩ := hv.2 k hkn
    obtain ⟨a, hp, r0, r1, r2⟩ := Trps.atN d2 hkn
    have hlt := z2.lt
    refine ⟨by omega, by omega, unSome_mk hp ⟨_, r0, _, r1, _, r2, local_mk rfl rfl fun H4 e4 _ b4 => ?_⟩⟩
    have z4 := z2.ext e4
    obtain ⟨⟨d', ca', q1, q2, q3⟩, q4, q5⟩ := id z4
    have m4 : Mods [b, ba] H1 H4 := m2.trans e4.mods
    refine ⟨fun H' => ZM t_thermal_Zone Q H' b ba T (fun i => if i < k + 1 then newAct T t act i else act i) n lev ∧ Mods [b, ba] H1 H' ∧ Blk H' H2.size t_api_Trip [.int .i64 (kd T k), .int .i64 (tp T k), .int .i64 (hy T k)], ?_, ?_⟩
    · have wr : ∀ v : Bool, newAct T t act k = v → ZM t_thermal_Zone Q (wrs H4 ((⟨ba, 0, none⟩ : Addr).add ((k : Int).toNat * 1)) [.bool v]) b ba T (fun i => if i < k + 1 then newAct T t act i else act i) n lev ∧ Mods [b, ba] H1 (wrs H4 ((⟨ba, 0, none⟩ : Addr).add ((k : Int).toNat * 1)) [.bool v]) ∧ Blk (wrs H4 ((⟨ba, 0, none⟩ : Addr).add ((k : Int).toNat * 1)) [.bool v]) H2.size t_api_Trip [.int .i64 (kd T k), .int .i64 (tp T k), .int .i64 (hy T k)] := by
        intro v hvv
        refine ⟨(z4.setAct hkn v).congr (fun i hi => ?_), m4.trans (mods_wr_add (by simp)), b4.mods (mods_wr_add (S := [ba]) (by simp)) (by simp; omega)⟩
        by_cases e : i = k
        · subst e; rw [upd_same, if_pos (by omega), hvv]
        · rw [upd_ne e]
          by_cases e2 : i < k
          · rw [if_pos e2, if_pos (by omega)]
          · rw [if_neg e2, if_neg (by omega)]
      refine ⟨_, b4.rd (i := 1) rfl, iteB_dec (fun c2 => ?_) (fun c2 => ⟨_, b4.rd (i := 1) rfl, _, b4.rd (i := 2) rfl, ?_⟩)⟩
      · refine ⟨⟨_, _, _⟩, q1.rd (i := 1) rfl, by omega, by simpa using hkn, q4.ok hkn, letH_mk ?_⟩
        rintro H5 rfl
        exact wr true (by unfold newAct; rw [if_pos c2])
      · rw [i64_in (n := tp T k - hy T k) (by omega)]
        refine iteB_dec (fun c3 => ?_) (fun c3 => ?_)
        · refine ⟨⟨_, _, _⟩, q1.rd (i := 1) rfl, by omega, by simpa using hkn, q4.ok hkn, letH_mk ?_⟩
          rintro H5 rfl
          exact wr false (by unfold newAct; rw [if_neg c2, if_pos c3])
        · refine ⟨z4.congr (fun i hi => ?_), m4, b4⟩
          by_cases e : i = k
          · subst e; rw [if_neg (by omega), if_pos (by omega), newAct, if_neg c2, if_neg c3]
          · by_cases e2 : i < k
            · rw [if_pos e2, if_pos (by omega)]
            · rw [if_neg e2, if_neg (by omega)]
    rintro H7 ⟨z7, m7, b7⟩
    unfold F_thermal_Zone_Update_k2
    obtain ⟨⟨d7, ca7, u1, u2, u3⟩, u4, u5⟩ := id z7
    have ra := u4.rd hkn
    rw [if_pos (by omega)] at ra
    refine ⟨⟨_, _, _⟩, u1.rd (i := 1) rfl, by omega, by simpa using hkn, _, ra, iteB_intro (fun c2 => ?_) (fun c2 => ?_)⟩
    · refine ⟨fun x H' => x = anyK T (newAct T t act) 2 (k + 1) ∧ H' = H7, ?_, ?_⟩
      · refine iteB_intro (fun c3 => ⟨by simp only [anyK]; rw [c3]; rfl, rfl⟩) (fun c3 => ⟨_, b7.rd0 rfl, by simp only [anyK]; rw [c3, c2]; rfl, rfl⟩)
      rintro x H8 ⟨rfl, rfl⟩
      unfold F_thermal_Zone_Update_k1
      refine iteB_intro (fun c3 => next3 hkn (by omega) ⟨rfl, by simp only [anyK]; rw [c3]; rfl, z7, m7⟩) (fun c3 => ⟨_, b7.rd0 rfl, next3 hkn (by omega) ⟨rfl, by simp only [anyK]; rw [c3, c2]; rfl, z7, m7⟩⟩)
    · exact next3 hkn (by omega) ⟨by simp only [anyK]; rw [c2]; simp, by simp only [anyK]; rw [c2]; simp, z7, m7⟩
  · obtain rfl : k = T.length := by omega
    have z2' := z2.congr (act' := newAct T t act) (fun i hi => by rw [if_pos hi])
    obtain ⟨⟨d', ca', q1, q2, q3⟩, q4, q5⟩ := id z2'
    refine ⟨fun H' => ZM t_thermal_Zone Q H' b ba T (newAct T t act) n (newLev T (newAct T t act) n lev) ∧ Mods [b, ba] H1 H', ?_, ?_⟩
    · refine iteB_intro (fun c2 => ⟨_, q1.rd (i := 3) rfl, _, q1.rd (i := 2) rfl, q1.ok (i := 3) (n := 1) (by simp), letH_mk ?_⟩) (fun c2 => ⟨_, q1.rd (i := 3) rfl, q1.ok (i := 3) (n := 1) (by simp), letH_mk ?_⟩)
      · rw [min_code, i64_in (n := lev + 1) (by omega)]
        rintro H9 rfl
        have : newLev T (newAct T t act) n lev = min (lev + 1) n := by unfold newLev; rw [if_pos c2]
        rw [this]
        exact ⟨z2'.setLev _, m2.trans (mods_wr_add (by simp))⟩
      · rw [max_code, i64_in (n := lev - 1) (by omega)]
        rintro H9 rfl
        have : newLev T (newAct T t act) n lev = max (lev - 1) 0 := by unfold newLev; rw [if_neg (by rw [c2]; simp)]
        rw [this]
        exact ⟨z2'.setLev _, m2.trans (mods_wr_add (by simp))⟩
    rintro H11 ⟨z11, m11⟩
    unfold F_thermal_Zone_Update_k3
    obtain ⟨⟨d11, ca11, u1, u2, u3⟩, u4, u5⟩ := id z11
    exact ⟨_, u1.rd (i := 3) rfl, .inl ⟨by omega, rfl, z11, m11⟩⟩

theorem rUpdate_spec (b ba : Nat) (T : List Trp) (act : Nat → Bool) (n lev t : Int) (H : Heap) (h : ZM t_ref39_Zone Q H b ba T act n lev) (hv : VT T) (hn : 0 ≤ n ∧ n ≤ 64) (hl : 0 ≤ lev ∧ lev ≤ n) :
    CallsH Try.prog n_ref39_Zone_Update #[.pointer (some ⟨b, 0, none⟩), .int .i64 t] H (UpdP t_ref39_Zone Q b ba T act n lev t H) := by
  refine F_ref39_Zone_Update_ok _ _ ?_
  unfold F_ref39_Zone_Update
  refine ⟨fun x H' => x = decide (t < -134217728 ∨ t > 134217728) ∧ H' = H, ?_, ?_⟩
  · refine iteB_dec (fun c => ?_) (fun c => ?_)
    · exact ⟨by rw [decide_eq_true (.inl c)], rfl⟩
    · exact ⟨decide_eq_decide.2 ⟨.inr, fun h => h.resolve_left c⟩, rfl⟩
  rintro x H1 ⟨rfl, rfl⟩
  unfold F_ref39_Zone_Update_k5
  refine iteB_dec (fun c => ?_) (fun c => ?_)
  · exact .inr ⟨by omega, rfl, rfl⟩
  have hT := hv.1
  refine loop3 T.length (fun k (p cr : Bool) H' => p = anyK T (newAct T t act) 2 k ∧ cr = anyK T (newAct T t act) 3 k ∧ ZM t_ref39_Zone Q H' b ba T (fun i => if i < k then newAct T t act i else act i) n lev ∧ Mods [b, ba] H1 H')
    ⟨rfl, rfl, h.congr (fun i _ => by simp), .refl _ _⟩ ?_
  rintro k p cr H2 hk ⟨rfl, rfl, z2, m2⟩
  unfold F_ref39_Zone_Update_r4
  obtain ⟨⟨d, ca, g1, d2, g3⟩, g4, g5⟩ := id z2
  have dn := d2.len
  refine ⟨d, g1.rd0 rfl, ?_⟩
  rw [dn]
  refine iteB_dec (fun c1 => ?_) (fun c1 => ?_)
  · have hkn : k < T.length := by omega
    obtain ⟨o1, o2, o3, o4, o5, o6⟩ := hv.2 k hkn
    obtain ⟨a, hp, r0, r1, r2⟩ := Trps.atN d2 hkn
    refine ⟨fun H' => ZM t_ref39_Zone Q H' b ba T (fun i => if i < k + 1 then newAct T t act i else act i) n lev ∧ Mods [b, ba] H1 H', ?_, ?_⟩
    · have wr : ∀ v : Bool, newAct T t act k = v → ZM t_ref39_Zone Q (wrs H2 ((⟨ba, 0, none⟩ : Addr).add ((k : Int).toNat * 1)) [.bool v]) b ba T (fun i => if i < k + 1 then newAct T t act i else act i) n lev ∧ Mods [b, ba] H1 (wrs H2 ((⟨ba, 0, none⟩ : Addr).add ((k : Int).toNat * 1)) [.bool v]) := by
        intro v hvv
        refine ⟨(z2.setAct hkn v).congr (fun i hi => ?_), m2.trans (mods_wr_add (by simp))⟩
        by_cases e : i = k
        · subst e; rw [upd_same, if_pos (by omega), hvv]
        · rw [upd_ne e]
          by_cases e2 : i < k
          · rw [if_pos e2, if_pos (by omega)]
          · rw [if_neg e2, if_neg (by omega)]
      refine ⟨d, g1.rd0 rfl, by omega, by omega, unSome_mk hp ⟨_, r1, iteB_dec (fun c2 => ?_) (fun c2 => ⟨d, g1.rd0 rfl, by omega, by omega, unSome_mk hp ⟨_, r1, d, g1.rd0 rfl, by omega, by omega, unSome_mk hp ⟨_, r2, ?_⟩⟩⟩)⟩⟩
      · refine ⟨⟨_, _, _⟩, g1.rd (i := 1) rfl, by omega, by simpa using hkn, g4.ok hkn, letH_mk ?_⟩
        rintro H5 rfl
        exact wr true (by unfold newAct; rw [if_pos c2])
      · rw [i64_in (n := tp T k - hy T k) (by omega)]
        refine iteB_dec (fun c3 => ?_) (fun c3 => ?_)
        · refine ⟨⟨_, _, _⟩, g1.rd (i := 1) rfl, by omega, by simpa using hkn, g4.ok hkn, letH_mk ?_⟩
          rintro H5 rfl
          exact wr false (by unfold newAct; rw [if_neg c2, if_pos c3])
        · refine ⟨z2.congr (fun i hi => ?_), m2⟩
          by_cases e : i = k
          · subst e; rw [if_neg (by omega), if_pos (by omega), newAct, if_neg c2, if_neg c3]
          · by_cases e2 : i < k
            · rw [if_pos e2, if_pos (by omega)]
            · rw [if_neg e2, if_neg (by omega)]
    rintro H7 ⟨z7, m7⟩
    unfold F_ref39_Zone_Update_k2
    obtain ⟨⟨d7, ca7, u1, u2, u3⟩, u4, u5⟩ := id z7
    have ra := u4.rd hkn
    rw [if_pos (by omega)] at ra
    have dn7 := u2.len
    obtain ⟨a7, hp7, s0, s1, s2⟩ := Trps.atN u2 hkn
    refine ⟨fun x H' => x = anyK T (newAct T t act) 2 (k + 1) ∧ H' = H7, ?_, ?_⟩
    · refine iteB_intro (fun c3 => ⟨by simp only [anyK]; rw [c3]; rfl, rfl⟩) (fun c3 => ?_)
      refine ⟨⟨_, _, _⟩, u1.rd (i := 1) rfl, by omega, by simpa using hkn, _, ra, iteB_intro (fun c2 => ⟨d7, u1.rd0 rfl, by omega, by omega, unSome_mk hp7 ⟨_, s0, ?_⟩⟩) (fun c2 => ?_)⟩
      · exact ⟨by simp only [anyK]; rw [c3, c2]; rfl, rfl⟩
      · exact ⟨by simp only [anyK]; rw [c3, c2]; rfl, rfl⟩
    rintro x H8 ⟨rfl, rfl⟩
    unfold F_ref39_Zone_Update_k1
    refine iteB_intro (fun c3 => next3 hkn (by omega) ⟨rfl, by simp only [anyK]; rw [c3]; rfl, z7, m7⟩) (fun c3 => ?_)
    refine ⟨⟨_, _, _⟩, u1.rd (i := 1) rfl, by omega, by simpa using hkn, _, ra, iteB_intro (fun c2 => ⟨d7, u1.rd0 rfl, by omega, by omega, unSome_mk hp7 ⟨_, s0, ?_⟩⟩) (fun c2 => ?_)⟩
    · exact next3 hkn (by omega) ⟨rfl, by simp only [anyK]; rw [c3, c2]; rfl, z7, m7⟩
    · exact next3 hkn (by omega) ⟨rfl, by simp only [anyK]; rw [c3, c2]; rfl, z7, m7⟩
  · obtain rfl : k = T.length := by omega
    have z2' := z2.congr (act' := newAct T t act) (fun i hi => by rw [if_pos hi])
    obtain ⟨⟨d', ca', q1, q2, q3⟩, q4, q5⟩ := id z2'
    refine ⟨fun H' => ZM t_ref39_Zone Q H' b ba T (newAct T t act) n (newLev T (newAct T t act) n lev) ∧ Mods [b, ba] H1 H', ?_, ?_⟩
    · refine iteB_intro (fun c2 => ⟨_, q1.rd (i := 3) rfl, _, q1.rd (i := 2) rfl, q1.ok (i := 3) (n := 1) (by simp), letH_mk ?_⟩) (fun c2 => ⟨_, q1.rd (i := 3) rfl, q1.ok (i := 3) (n := 1) (by simp), letH_mk ?_⟩)
      · rw [min_code, i64_in (n := lev + 1) (by omega)]
        rintro H9 rfl
        have : newLev T (newAct T t act) n lev = min (lev + 1) n := by unfold newLev; rw [if_pos c2]
        rw [this]
        exact ⟨z2'.setLev _, m2.trans (mods_wr_add (by simp))⟩
      · rw [max_code, i64_in (n := lev - 1) (by omega)]
        rintro H9 rfl
        have : newLev T (newAct T t act) n lev = max (lev - 1) 0 := by unfold newLev; rw [if_neg (by rw [c2]; simp)]
        rw [this]
        exact ⟨z2'.setLev _, m2.trans (mods_wr_add (by simp))⟩
    rintro H11 ⟨z11, m11⟩
    unfold F_ref39_Zone_Update_k3
    obtain ⟨⟨d11, ca11, u1, u2, u3⟩, u4, u5⟩ := id z11
    exact ⟨_, u1.rd (i := 3) rfl, .inl ⟨by omega, rfl, z11, m11⟩⟩

theorem Level_spec (b ba : Nat) (T : List Trp) (act : Nat → Bool) (n lev : Int) (H : Heap) (h : ZM t_thermal_Zone Q H b ba T act n lev) :
    CallsH Try.prog n_thermal_Zone_Level #[.pointer (some ⟨b, 0, none⟩)] H (fun v H' => v = .int .i64 lev ∧ H' = H) := by
  refine F_thermal_Zone_Level_ok _ ?_
  obtain ⟨⟨d, ca, g1, g2, g3⟩, g4, g5⟩ := h
  exact ⟨_, g1.rd (i := 3) rfl, rfl, rfl⟩

theorem rLevel_spec (b ba : Nat) (T : List Trp) (act : Nat → Bool) (n lev : Int) (H : Heap) (h : ZM t_ref39_Zone Q H b ba T act n lev) :
    CallsH Try.prog n_ref39_Zone_Level #[.pointer (some ⟨b, 0, none⟩)] H (fun v H' => v = .int .i64 lev ∧ H' = H) := by
  refine F_ref39_Zone_Level_ok _ ?_
  obtain ⟨⟨d, ca, g1, g2, g3⟩, g4, g5⟩ := h
  exact ⟨_, g1.rd (i := 3) rfl, rfl, rfl⟩

theorem Active_spec (b ba : Nat) (T : List Trp) (act : Nat → Bool) (n lev : Int) (H : Heap) (h : ZM t_thermal_Zone Q H b ba T act n lev) (hT : T.length ≤ 12) :
    CallsH Try.prog n_thermal_Zone_Active #[.pointer (some ⟨b, 0, none⟩)] H (CloneP 1 encB (tab T.length act) H) := by
  refine F_thermal_Zone_Active_ok _ ?_
  obtain ⟨⟨d, ca, g1, g2, g3⟩, g4, g5⟩ := h
  refine ⟨⟨some ⟨ba, 0, none⟩, T.length, ca⟩, g1.rd (i := 1) rfl, (CloneB_spec H _ _ (g4.isS ca) (by dsimp only; omega)).mono ?_⟩
  rintro v H1 ⟨s, rfl, hs⟩
  exact ⟨s, rfl, s, rfl, hs⟩

theorem rActive_spec (b ba : Nat) (T : List Trp) (act : Nat → Bool) (n lev : Int) (H : Heap) (h : ZM t_ref39_Zone Q H b ba T act n lev) (hT : T.length ≤ 12) :
    CallsH Try.prog n_ref39_Zone_Active #[.pointer (some ⟨b, 0, none⟩)] H (CloneP 1 encB (tab T.length act) H) := by
  refine F_ref39_Zone_Active_ok _ ?_
  unfold F_ref39_Zone_Active
  refine letH_mk ?_
  rintro H1 rfl
  have e1 := Ext.push H (.cells #[] t_bool (0, 0))
  obtain ⟨⟨d, ca, g1, g2, g3⟩, g4, g5⟩ := h.ext e1
  refine ⟨⟨some ⟨ba, 0, none⟩, T.length, ca⟩, g1.rd (i := 1) rfl, ?_⟩
  have hs := g4.isS ca
  obtain ⟨i, hi1, hi2, hi3, hi4⟩ := info_ex (P := Try.prog) (t := t_bool) (z := .bool false) (sz := 1) (bytes := 1) (by kernel_rfl)
  refine append_own (s := ⟨some ⟨H.size, 0, none⟩, 0, 0⟩) (src := ⟨some ⟨ba, 0, none⟩, T.length, ca⟩) (xs := []) (news := (tab T.length act).flatMap encB) (by kernel_rfl) hi1 hi2 hi3 hi4 rfl (by omega) ?_ rfl (by rw [flat_len encB_len, tab_length]) (hs.flat encB_len rfl)
      (fun u hu => ?_) (by simp [maxLen]; omega) (by dsimp only; omega) (lo := H.size) (by simp) ?_
  · exact ⟨by simp, .inr ⟨H.size, 0, #[], rfl, Nat.le_refl _, push_new _ _, Nat.le_refl _, by simp [maxLen], by simp, by simp⟩⟩
  · obtain ⟨x, _, hx⟩ := List.mem_flatMap.1 hu
    simp [encB] at hx; subst hx; rfl
  · intro s' H' ho hn' hg
    rw [List.nil_append] at ho
    refine ⟨s', rfl, s', rfl, ho.isS encB_len (by omega), ho.new, ho.lt, ⟨?_, fun k hk => ?_⟩⟩
    · have := hg.1; simp at this; omega
    · rw [hg.2 k (by simp; omega) (fun a' ha' => by cases ha'; simp; omega), push_lt hk]

def tripF (A : List Trp) (i : Nat) : Trp := (1 + modI (kd A i) 3, modI (tp A i) 101 - 50, modI (hy A i) 20)
def tripsF (A : List Trp) : List Trp := tab (min A.length 6) (tripF A)

def TripsP (A : List Trp) (H : Heap) (v : Value) (H' : Heap) : Prop :=
  ∃ s : Sl, v = .slice s.p s.n s.c ∧ Own H.size t_api_Trip 3 H' s ((tripsF A).flatMap encT) ∧ Ext H H'

theorem Trips_spec (H : Heap) (s : Sl) (A : List Trp) (h : Trps H s A) : CallsH Try.prog n_law39_Trips #[.slice s.p s.n s.c] H (TripsP A H) := by
  refine F_law39_Trips_ok _ ?_
  unfold F_law39_Trips
  refine loop2 (min A.length 6) (fun k (o : Sl) H' => Ext H H' ∧ o.n = k ∧ Own H.size t_api_Trip 3 H' o ((tab k (tripF A)).flatMap encT)) ⟨.refl _, rfl, Own.nil _ _ _ _⟩ ?_
  rintro k o H1 hk ⟨e1, hn, ho1⟩
  unfold F_law39_Trips_r1
  rw [h.len]
  refine iteB_dec (fun c => iteB_dec (fun c2 => ?_) (fun c2 => ?_)) (fun c => ?_)
  · have hkn : k < A.length := by omega
    obtain ⟨a, hp, r0, r1, r2⟩ := Trps.atN (h.ext e1) hkn
    have z1 := e1.size
    have b1 := modI_range (kd A k) (n := 3) (by omega)
    have b2 := modI_range (tp A k) (n := 101) (by omega)
    refine ⟨by omega, by omega, unSome_mk hp ⟨_, r0, Mod_pure _ _ (by omega) (by omega) ⟨_, rfl, by omega, by omega, unSome_mk hp ⟨_, r1, by omega, by omega, unSome_mk hp ⟨_, r2, ?_⟩⟩⟩⟩⟩
    rw [umod_code _ (by omega) (by omega), umod_code _ (by omega) (by omega), i64_in (n := 1 + modI (kd A k) 3) (by omega), i64_in (n := modI (tp A k) 101 - 50) (by omega)]
    refine append_row (enc := encT) (l := tab k (tripF A)) (z := .agg #[.int .i64 0, .int .i64 0, .int .i64 0]) (sz := 3) (bytes := 24) (lo := H.size) (tripF A k) (by kernel_rfl) (by kernel_rfl) rfl (by omega) encT_len (fun x u hu => by simp [encT] at hu; rcases hu with rfl | rfl | rfl <;> rfl) ho1 (by simp [maxLen]; omega) (by omega) z1 ?_
    intro o' H3 ho3 hn3 m3
    exact next2 (by omega) (by omega) ⟨Mods.ext e1 m3 (blkOf_new ho1.new), by omega, by rw [tab_succ]; exact ho3⟩
  · obtain rfl : k = min A.length 6 := by omega
    exact ⟨o, rfl, ho1, e1⟩
  · obtain rfl : k = min A.length 6 := by omega
    exact ⟨o, rfl, ho1, e1⟩

theorem tripsF_len (A : List Trp) : (tripsF A).length = min A.length 6 := tab_length _ _
theorem tripsF_VT (A : List Trp) : VT (tripsF A) := by
  refine ⟨by rw [tripsF_len]; omega, fun i hi => ?_⟩
  rw [tripsF_len] at hi
  have b1 := modI_range (kd A i) (n := 3) (by omega)
  have b2 := modI_range (tp A i) (n := 101) (by omega)
  have b3 := modI_range (hy A i) (n := 20) (by omega)
  unfold OkT kd tp hy tripsF
  rw [tab_getD _ hi]
  simp only [tripF]
  omega

def degF (t : Int) (i : Int) : Int := if i.tmod 8 = 7 then t else modI t 141 - 80

theorem degree_spec (t i : Int) (H : Heap) : CallsH Try.prog n_law39_degree #[.int .i64 t, .int .i64 i] H (fun v H' => v = .int .i64 (degF t i) ∧ H' = H) := by
  refine F_law39_degree_ok _ _ ?_
  unfold F_law39_degree degF
  refine iteB_beq (fun c => ⟨by rw [if_pos c], rfl⟩) (fun c => ?_)
  rw [if_neg c, umod_code _ (by omega) (by omega)]
  have := modI_range t (n := 141) (by omega)
  exact letV_mk _ (i64_in (by omega)) ⟨rfl, rfl⟩

end Go.Proofs.Ytiikkapdchodkaa
