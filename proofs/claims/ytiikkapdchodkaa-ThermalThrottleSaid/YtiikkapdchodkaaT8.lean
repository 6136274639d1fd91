/-
  Contracts of perf.Check, of Throttle, and of the laws' Table.
-/
import Derived.Test.YtiikkapdchodkaaT4
namespace Go.Proofs.Ytiikkapdchodkaa
open Go.Eng

/-- An operating point is laid out like an actor: frequency 'rq', voltage 'mn', power 'mx'. -/
def OkP (P : List Act) (i : Nat) : Prop := 1 ≤ rq P i ∧ rq P i ≤ 1099511627776 ∧ mn P i ≤ 1099511627776 ∧ mx P i ≤ 1099511627776 ∧ (0 < i → rq P (i - 1) < rq P i ∧ mn P (i - 1) ≤ mn P i ∧ mx P (i - 1) ≤ mx P i)
instance (A : List Act) (i : Nat) : Decidable (OkP A i) := by unfold OkP; infer_instance
def VP (A : List Act) : Prop := 1 ≤ A.length ∧ A.length ≤ 16 ∧ ∀ i, i < A.length → OkP A i
instance (A : List Act) : Decidable (VP A) := by unfold VP; infer_instance

theorem perfCheck_spec (H : Heap) (s : Sl) (A : List Act) (h : Acts H s A) :
    CallsH Try.prog n_perf_Check #[.slice s.p s.n s.c] H (IntP .i64 (errI (VP A)) H) := by
  refine F_perf_Check_ok _ ?_
  unfold F_perf_Check
  rw [h.len]
  refine iteB_dec (fun c => ⟨by rw [errI_f (fun hv => by have := hv.1; omega)], .refl _⟩) (fun c => iteB_dec (fun c1 => ⟨by rw [errI_f (fun hv => by have := hv.2.1; omega)], .refl _⟩) (fun c1 => ?_))
  refine loop1 A.length (fun k H' => Ext H H' ∧ ∀ i, i < k → OkP A i) ⟨.refl _, fun i hi => by omega⟩ ?_
  rintro k H1 hk ⟨e1, hall⟩
  unfold F_perf_Check_r1
  rw [h.len]
  refine iteB_dec (fun c => ?_) (fun c => ?_)
  · have hkn : k < A.length := by omega
    obtain ⟨a, hp, r0, r1, r2⟩ := Acts.atN (h.ext e1) hkn
    refine ⟨by omega, by omega, unSome_mk hp ⟨_, r0, _, r1, _, r2, local_mk rfl rfl fun H2 e2 _ b2 => ?_⟩⟩
    have x2 := e1.trans e2
    have bad : ∀ H3, Ext H H3 → ¬ OkP A k → IntP .i64 (errI (VP A)) H (.int .i64 1) H3 := fun H3 x3 hb => ⟨by rw [errI_f (fun hv => hb (hv.2.2 k hkn))], x3⟩
    have nx : ∀ H3, Ext H H3 → OkP A k → CI A.length (fun k H' => Ext H H' ∧ ∀ i, i < k → OkP A i) (IntKind.i64.wrap ((k : Int) + 1)) H3 ∧ CM A.length (IntKind.i64.wrap ((k : Int) + 1)) H3 < CM A.length (k : Int) H1 := fun H3 x3 ho => next1 hkn (by omega) ⟨x3, fun i hi => by
      by_cases e : i = k
      · subst e; exact ho
      · exact hall i (by omega)⟩
    refine ⟨_, b2.rd0 rfl, iteB_dec (fun d1 => ?_) (fun d1 => ⟨_, b2.rd0 rfl, iteB_dec (fun d2 => ?_) (fun d2 => ⟨_, b2.rd (i := 1) rfl, iteB_dec (fun d3 => ?_) (fun d3 => ⟨_, b2.rd (i := 2) rfl, iteB_dec (fun d4 => ?_) (fun d4 => iteB_beq (fun d5 => ?_) (fun d5 => ?_))⟩)⟩)⟩)⟩
    · exact bad _ x2 (fun ho => by unfold OkP at ho; omega)
    · exact bad _ x2 (fun ho => by unfold OkP at ho; omega)
    · exact bad _ x2 (fun ho => by unfold OkP at ho; omega)
    · exact bad _ x2 (fun ho => by unfold OkP at ho; omega)
    · exact nx _ x2 (by unfold OkP; omega)
    rw [i64_pred (by omega) (by omega)]
    have hk1 : k - 1 < A.length := by omega
    obtain ⟨a', hp', s0, s1, s2⟩ := Acts.atN (h.ext x2) hk1
    refine ⟨by omega, by omega, unSome_mk hp' ⟨_, s0, _, s1, _, s2, local_mk rfl rfl fun H3 e3 _ b3 => ?_⟩⟩
    have x3 := x2.trans e3
    have b2' := b2.ext e3
    refine ⟨_, b2'.rd0 rfl, _, b3.rd0 rfl, iteB_dec (fun f1 => ?_) (fun f1 => ⟨_, b2'.rd (i := 1) rfl, _, b3.rd (i := 1) rfl, iteB_dec (fun f2 => ?_) (fun f2 => ⟨_, b2'.rd (i := 2) rfl, _, b3.rd (i := 2) rfl, iteB_dec (fun f3 => ?_) (fun f3 => ?_)⟩)⟩)⟩
    · exact bad _ x3 (fun ho => by unfold OkP at ho; omega)
    · exact bad _ x3 (fun ho => by unfold OkP at ho; omega)
    · exact bad _ x3 (fun ho => by unfold OkP at ho; omega)
    · exact nx _ x3 (by unfold OkP; omega)
  · exact ⟨by rw [errI_t ⟨by omega, by omega, fun i hi => hall i (by omega)⟩], e1⟩

theorem rperfCheck_spec (H : Heap) (s : Sl) (A : List Act) (h : Acts H s A) :
    CallsH Try.prog n_ref36_Check #[.slice s.p s.n s.c] H (IntP .i64 (errI (VP A)) H) := by
  refine F_ref36_Check_ok _ ?_
  unfold F_ref36_Check
  rw [h.len]
  refine iteB_dec (fun c => ⟨by rw [errI_f (fun hv => by have := hv.1; omega)], .refl _⟩) (fun c => iteB_dec (fun c1 => ⟨by rw [errI_f (fun hv => by have := hv.2.1; omega)], .refl _⟩) (fun c1 => ?_))
  refine loop1 A.length (fun k H' => Ext H H' ∧ ∀ i, i < k → OkP A i) ⟨.refl _, fun i hi => by omega⟩ ?_
  rintro k H1 hk ⟨e1, hall⟩
  unfold F_ref36_Check_r1
  rw [h.len]
  refine iteB_dec (fun c => ?_) (fun c => ?_)
  · have hkn : k < A.length := by omega
    obtain ⟨a, hp, r0, r1, r2⟩ := Acts.atN (h.ext e1) hkn
    refine ⟨by omega, by omega, unSome_mk hp ⟨_, r0, _, r1, _, r2, local_mk rfl rfl fun H2 e2 _ b2 => ?_⟩⟩
    have x2 := e1.trans e2
    have bad : ¬ OkP A k → IntP .i64 (errI (VP A)) H (.int .i64 1) H2 := fun hb => ⟨by rw [errI_f (fun hv => hb (hv.2.2 k hkn))], x2⟩
    have nx : OkP A k → CI A.length (fun k H' => Ext H H' ∧ ∀ i, i < k → OkP A i) (IntKind.i64.wrap ((k : Int) + 1)) H2 ∧ CM A.length (IntKind.i64.wrap ((k : Int) + 1)) H2 < CM A.length (k : Int) H1 := fun ho => next1 hkn (by omega) ⟨x2, fun i hi => by
      by_cases e : i = k
      · subst e; exact ho
      · exact hall i (by omega)⟩
    refine ⟨_, b2.rd0 rfl, iteB_dec (fun d1 => ?_) (fun d1 => ⟨_, b2.rd0 rfl, iteB_dec (fun d2 => ?_) (fun d2 => ⟨_, b2.rd (i := 1) rfl, iteB_dec (fun d3 => ?_) (fun d3 => ⟨_, b2.rd (i := 2) rfl, iteB_dec (fun d4 => ?_) (fun d4 => iteB_dec (fun d5 => ?_) (fun d5 => ?_))⟩)⟩)⟩)⟩
    · exact bad (fun ho => by unfold OkP at ho; omega)
    · exact bad (fun ho => by unfold OkP at ho; omega)
    · exact bad (fun ho => by unfold OkP at ho; omega)
    · exact bad (fun ho => by unfold OkP at ho; omega)
    rotate_left
    · exact nx (by unfold OkP; omega)
    rw [i64_pred (by omega) (by omega)]
    have hk1 : k - 1 < A.length := by omega
    obtain ⟨a', hp', s0, s1, s2⟩ := Acts.atN (h.ext x2) hk1
    refine ⟨_, b2.rd0 rfl, by omega, by omega, unSome_mk hp' ⟨_, s0, iteB_dec (fun f1 => ?_) (fun f1 => ⟨_, b2.rd (i := 1) rfl, by omega, by omega, unSome_mk hp' ⟨_, s1, iteB_dec (fun f2 => ?_) (fun f2 => ⟨_, b2.rd (i := 2) rfl, by omega, by omega, unSome_mk hp' ⟨_, s2, iteB_dec (fun f3 => ?_) (fun f3 => ?_)⟩⟩)⟩⟩)⟩⟩
    · exact bad (fun ho => by unfold OkP at ho; omega)
    · exact bad (fun ho => by unfold OkP at ho; omega)
    · exact bad (fun ho => by unfold OkP at ho; omega)
    · exact nx (by unfold OkP; omega)
  · exact ⟨by rw [errI_t ⟨by omega, by omega, fun i hi => hall i (by omega)⟩], e1⟩

def ThrP (A : List Act) (g : Int) (v : Value) : Prop :=
  (¬ VP A ∧ v = .tuple #[.int .i64 0, .int .i64 1]) ∨ (VP A ∧ (∀ i, i < A.length → g < mx A i) ∧ v = .tuple #[.int .i64 0, .int .i64 6]) ∨
  (VP A ∧ ∃ c : Nat, c < A.length ∧ mx A c ≤ g ∧ (∀ i, c < i → i < A.length → g < mx A i) ∧ v = .tuple #[.int .i64 c, .int .i64 0])

theorem ThrP.uniq {A : List Act} {g : Int} {v w : Value} (h : ThrP A g v) (h' : ThrP A g w) : v = w := by
  rcases h with ⟨h1, rfl⟩ | ⟨h1, h2, rfl⟩ | ⟨h1, c, h2, h3, h4, rfl⟩
  · rcases h' with ⟨g1, rfl⟩ | ⟨g1, g2, rfl⟩ | ⟨g1, d, g2, g3, g4, rfl⟩
    · rfl
    · exact absurd g1 h1
    · exact absurd g1 h1
  · rcases h' with ⟨g1, rfl⟩ | ⟨g1, g2, rfl⟩ | ⟨g1, d, g2, g3, g4, rfl⟩
    · exact absurd h1 g1
    · rfl
    · have := h2 d g2; omega
  · rcases h' with ⟨g1, rfl⟩ | ⟨g1, g2, rfl⟩ | ⟨g1, d, g2, g3, g4, rfl⟩
    · exact absurd h1 g1
    · have := g2 c h2; omega
    · have : c = d := by
        rcases Nat.lt_trichotomy c d with e | e | e
        · have := h4 d e g2; omega
        · exact e
        · have := g4 c e h2; omega
      rw [this]

theorem Throttle_spec (H : Heap) (s : Sl) (A : List Act) (g : Int) (h : Acts H s A) :
    CallsH Try.prog n_thermal_Throttle #[.slice s.p s.n s.c, .int .u64 g] H (fun v H' => ThrP A g v ∧ Ext H H') := by
  refine F_thermal_Throttle_ok _ _ ?_
  unfold F_thermal_Throttle
  refine (perfCheck_spec H s A h).mono ?_
  rintro v H1 ⟨rfl, e1⟩
  by_cases hv : VP A
  rotate_left
  · rw [errI_f hv]
    exact ⟨_, rfl, iteB_pos rfl ⟨.inl ⟨hv, rfl⟩, e1⟩⟩
  rw [errI_t hv]
  refine ⟨_, rfl, iteB_neg rfl ?_⟩
  have hl := hv.2.1
  have hsn := h.len
  refine loop2 A.length (fun k (c : Int) H' => Ext H H' ∧ ((c = -1 ∧ ∀ i, i < k → g < mx A i) ∨ ∃ d : Nat, c = d ∧ d < k ∧ mx A d ≤ g ∧ ∀ i, d < i → i < k → g < mx A i)) ⟨e1, .inl ⟨rfl, fun i hi => by omega⟩⟩ ?_
  rintro k c H2 hk ⟨e2, hc⟩
  unfold F_thermal_Throttle_r1
  refine iteB_dec (fun c1 => ?_) (fun c1 => ?_)
  · have hkn : k < A.length := by omega
    obtain ⟨a, hp, r0, r1, r2⟩ := Acts.atN (h.ext e2) hkn
    refine ⟨by omega, by omega, unSome_mk hp ⟨_, r0, _, r1, _, r2, local_mk rfl rfl fun H3 e3 _ b3 => ?_⟩⟩
    have x3 := e2.trans e3
    refine ⟨_, b3.rd (i := 2) rfl, iteB_dec (fun c2 => next2 hkn (by omega) ⟨x3, .inr ⟨k, rfl, by omega, c2, fun i h1 h2 => by omega⟩⟩) (fun c2 => next2 hkn (by omega) ⟨x3, ?_⟩)⟩
    rcases hc with ⟨rfl, hc⟩ | ⟨d, rfl, h1, h2, h3⟩
    · refine .inl ⟨rfl, fun i hi => ?_⟩
      by_cases e : i = k
      · subst e; omega
      · exact hc i (by omega)
    · refine .inr ⟨d, rfl, by omega, h2, fun i h4 h5 => ?_⟩
      by_cases e : i = k
      · subst e; omega
      · exact h3 i h4 (by omega)
  · obtain rfl : k = A.length := by omega
    rcases hc with ⟨rfl, hc⟩ | ⟨d, rfl, h1, h2, h3⟩
    · exact iteB_pos rfl ⟨.inr (.inl ⟨hv, hc, rfl⟩), e2⟩
    · exact iteB_neg (by simp) ⟨.inr (.inr ⟨hv, d, h1, h2, h3, rfl⟩), e2⟩

theorem rThrottle_spec (H : Heap) (s : Sl) (A : List Act) (g : Int) (h : Acts H s A) :
    CallsH Try.prog n_ref39_Throttle #[.slice s.p s.n s.c, .int .u64 g] H (fun v H' => ThrP A g v ∧ Ext H H') := by
  refine F_ref39_Throttle_ok _ _ ?_
  unfold F_ref39_Throttle
  refine (rperfCheck_spec H s A h).mono ?_
  rintro v H1 ⟨rfl, e1⟩
  by_cases hv : VP A
  rotate_left
  · rw [errI_f hv]
    exact ⟨_, rfl, iteB_pos rfl ⟨.inl ⟨hv, rfl⟩, e1⟩⟩
  rw [errI_t hv]
  have hl := hv.2.1
  have hsn := h.len
  refine ⟨_, rfl, iteB_neg rfl (letV_mk ((A.length : Int) - 1) (by rw [hsn]; exact i64_in (by omega)) ?_)⟩
  refine ⟨fun i H' => H' = H1 ∧ ∃ k : Nat, i = (k : Int) - 1 ∧ k ≤ A.length ∧ ∀ j, k ≤ j → j < A.length → g < mx A j, fun i _ => (i + 1).toNat, ⟨rfl, A.length, rfl, Nat.le_refl _, fun j h1 h2 => by omega⟩, ?_⟩
  rintro i H2 ⟨rfl, k, rfl, hk, hall⟩
  unfold F_ref39_Throttle_r1
  refine iteB_dec (fun c => ?_) (fun c => ?_)
  · have hk1 : k - 1 < A.length := by omega
    rw [show (k : Int) - 1 = ((k - 1 : Nat) : Int) by omega]
    obtain ⟨a, hp, r0, r1, r2⟩ := Acts.atN (h.ext e1) hk1
    refine ⟨by omega, by omega, unSome_mk hp ⟨_, r2, iteB_dec (fun c2 => ?_) (fun c2 => ?_)⟩⟩
    · exact ⟨.inr (.inr ⟨hv, k - 1, hk1, c2, fun j h1 h2 => hall j (by omega) h2, rfl⟩), e1⟩
    · refine letV_mk (((k - 1 : Nat) : Int) - 1) (i64_in (by omega)) ⟨⟨rfl, k - 1, rfl, by omega, fun j h1 h2 => ?_⟩, by dsimp only; omega⟩
      by_cases e : j = k - 1
      · subst e; omega
      · exact hall j (by omega) h2
  · exact ⟨.inr (.inl ⟨hv, fun j h1 => hall j (by omega) h1, rfl⟩), e1⟩

/-! ### the laws' table -/

def tbl0 (A : List Act) : Act := if 0 < A.length then (1 + rq A 0 % 100, mn A 0 % 100, mx A 0 % 100) else (1, 5, 0)
def tblF (A : List Act) : Nat → Act
  | 0 => tbl0 A
  | k + 1 => ((tblF A k).1 + 1 + rq A (k + 1) % 100, (tblF A k).2.1 + mn A (k + 1) % 4, (tblF A k).2.2 + mx A (k + 1) % 30)
def tblN (A : List Act) : Nat := max 1 (min A.length 8)
def tableF (A : List Act) : List Act := tab (tblN A) (tblF A)

theorem tbl_bound {A : List Act} (ho : okA A) : ∀ k, (1 ≤ (tblF A k).1 ∧ (tblF A k).1 ≤ 100 * k + 100) ∧ (0 ≤ (tblF A k).2.1 ∧ (tblF A k).2.1 ≤ 100 * k + 100) ∧ (0 ≤ (tblF A k).2.2 ∧ (tblF A k).2.2 ≤ 100 * k + 100) := by
  intro k
  induction k with
  | zero =>
    have := ho 0
    simp only [tblF, tbl0]
    split
    · dsimp only; omega
    · dsimp only; omega
  | succ k ih => simp only [tblF]; omega

def TableP (A : List Act) (H : Heap) (v : Value) (H' : Heap) : Prop :=
  ∃ s : Sl, v = .slice s.p s.n s.c ∧ Own H.size t_api_OperatingPoint 3 H' s ((tableF A).flatMap encA) ∧ Ext H H'

theorem Table_spec (H : Heap) (s : Sl) (A : List Act) (h : Acts H s A) (ho : okA A) : CallsH Try.prog n_law36_Table #[.slice s.p s.n s.c] H (TableP A H) := by
  refine F_law36_Table_ok _ ?_
  unfold F_law36_Table
  have hsn := h.len
  refine push_mk (vs := encA (1, 5, 0)) fun H1 e1 z1 b1 => ?_
  refine ⟨fun H' => Ext H H' ∧ Blk H' H.size t_api_OperatingPoint (encA (tbl0 A)), ?_, ?_⟩
  · refine iteB_dec (fun c => ?_) (fun c => ?_)
    · obtain ⟨a, hp, r0, r1, r2⟩ := Acts.atN (h.ext e1) (k := 0) (by omega)
      obtain ⟨o1, o2, o3⟩ := ho 0
      refine ⟨by omega, by omega, unSome_mk hp ⟨_, r0, by omega, by omega, unSome_mk hp ⟨_, r1, by omega, by omega, unSome_mk hp ⟨_, r2, by omega, by omega, b1.ok (i := 0) (n := 3) (by simp [encA]), letH_mk ?_⟩⟩⟩⟩
      rintro H2 rfl
      rw [Int.tmod_eq_emod_of_nonneg o1, Int.tmod_eq_emod_of_nonneg o2, Int.tmod_eq_emod_of_nonneg o3, u64_in (n := 1 + rq A 0 % 100) (by omega)]
      refine ⟨Mods.ext e1 (mods_wr_add (S := [H.size]) (by simp)) (by simp), ?_⟩
      have : tbl0 A = (1 + rq A 0 % 100, mn A 0 % 100, mx A 0 % 100) := by unfold tbl0; rw [if_pos (by omega)]
      rw [this]
      exact b1.wr
    · refine ⟨e1, ?_⟩
      have : tbl0 A = (1, 5, 0) := by unfold tbl0; rw [if_neg (by omega)]
      rw [this]
      exact b1
  rintro H3 ⟨e3, b3⟩
  unfold F_law36_Table_k2
  have hN : tblN A = max 1 (min A.length 8) := rfl
  refine ⟨fun o i H' => ∃ k : Nat, i = k ∧ 1 ≤ k ∧ k ≤ tblN A ∧ Ext H H' ∧ o.n = k ∧ Own H.size t_api_OperatingPoint 3 H' o ((tab k (tblF A)).flatMap encA), fun _ i _ => tblN A - i.toNat,
    ⟨1, rfl, by omega, by omega, e3, rfl, Own.of_blk b3 rfl (Nat.le_refl _) (by simp [maxLen])⟩, ?_⟩
  rintro o i H4 ⟨k, rfl, hk1, hk, e4, hn, ho4⟩
  unfold F_law36_Table_r1
  refine iteB_dec (fun c => iteB_dec (fun c2 => ?_) (fun c2 => ?_)) (fun c => ?_)
  · have hkn : k < A.length := by omega
    have hA : Acts H4 o (tab k (tblF A)) := ho4.isS encA_len (by omega)
    obtain ⟨a, hp, r0, r1, r2⟩ := Acts.atN hA (k := k - 1) (by rw [tab_length]; omega)
    unfold rq at r0
    unfold mn at r1
    unfold mx at r2
    rw [tab_getD _ (by omega)] at r0 r1 r2
    rw [i64_pred hk1 (by omega)]
    obtain ⟨o1, o2, o3⟩ := ho k
    have tb := tbl_bound ho (k - 1)
    have hst : tblF A k = ((tblF A (k - 1)).1 + 1 + rq A k % 100, (tblF A (k - 1)).2.1 + mn A k % 4, (tblF A (k - 1)).2.2 + mx A k % 30) := by
      obtain ⟨j, rfl⟩ : ∃ j, k = j + 1 := ⟨k - 1, by omega⟩
      rfl
    refine ⟨by omega, by omega, unSome_mk hp ⟨_, r0, _, r1, _, r2, local_mk rfl rfl fun H6 e6 z6 b6 => ?_⟩⟩
    have x6 := e4.trans e6
    obtain ⟨a1, hp1, s0, _, _⟩ := Acts.atN (h.ext x6) hkn
    refine ⟨_, b6.rd0 rfl, by omega, by omega, unSome_mk hp1 ⟨_, s0, b6.ok0 (by simp), letH_mk ?_⟩⟩
    rw [Int.tmod_eq_emod_of_nonneg o1, u64_in (n := (tblF A (k - 1)).1 + 1) (by omega), u64_in (n := (tblF A (k - 1)).1 + 1 + rq A k % 100) (by omega)]
    intro H7 h7
    have b7 := b6.wr (o := 0) (ws := [.int .u64 ((tblF A (k - 1)).1 + 1 + rq A k % 100)])
    rw [← h7] at b7
    have x7 : Ext H4 H7 := Mods.ext e6 (h7 ▸ Mods.wrs (S := [H4.size]) (by simp)) (by simp)
    obtain ⟨a2, hp2, _, s1, _⟩ := Acts.atN (h.ext (e4.trans x7)) hkn
    clear h7
    refine ⟨_, b7.rd (i := 1) rfl, by omega, by omega, unSome_mk hp2 ⟨_, s1, b7.ok (i := 1) (n := 1) (by simp [spl]), letH_mk ?_⟩⟩
    rw [Int.tmod_eq_emod_of_nonneg o2, u64_in (n := (tblF A (k - 1)).2.1 + mn A k % 4) (by omega)]
    intro H8 h8
    have b8 := b7.wr1 (i := 1) (w := .int .u64 ((tblF A (k - 1)).2.1 + mn A k % 4))
    rw [← h8] at b8
    have x8 : Ext H4 H8 := Mods.ext x7 (h8 ▸ mods_wr_add (S := [H4.size]) (by simp)) (by simp)
    obtain ⟨a3, hp3, _, _, s2⟩ := Acts.atN (h.ext (e4.trans x8)) hkn
    clear h8
    refine ⟨_, b8.rd (i := 2) rfl, by omega, by omega, unSome_mk hp3 ⟨_, s2, b8.ok (i := 2) (n := 1) (by simp [spl]), letH_mk ?_⟩⟩
    rw [Int.tmod_eq_emod_of_nonneg o3, u64_in (n := (tblF A (k - 1)).2.2 + mx A k % 30) (by omega)]
    intro H9 h9
    have b9 := b8.wr1 (i := 2) (w := .int .u64 ((tblF A (k - 1)).2.2 + mx A k % 30))
    rw [← h9] at b9
    have x9 : Ext H4 H9 := Mods.ext x8 (h9 ▸ mods_wr_add (S := [H4.size]) (by simp)) (by simp)
    clear h9
    refine ⟨_, b9.rd0 rfl, _, b9.rd (i := 1) rfl, _, b9.rd (i := 2) rfl, ?_⟩
    have hz := e4.size
    have hz9 := x9.size
    refine append_row (enc := encA) (l := tab k (tblF A)) (z := .agg #[.int .u64 0, .int .u64 0, .int .u64 0]) (sz := 3) (bytes := 24) (lo := H.size) ((tblF A (k - 1)).1 + 1 + rq A k % 100, (tblF A (k - 1)).2.1 + mn A k % 4, (tblF A (k - 1)).2.2 + mx A k % 30) (by kernel_rfl) (by kernel_rfl) rfl (by omega) encA_len (fun x u hu => by simp [encA] at hu; rcases hu with rfl | rfl | rfl <;> rfl) (ho4.ext x9) (by simp [maxLen]; omega) (by omega) (by omega) ?_
    intro o' H11 ho11 hn11 m11
    rw [← hst] at ho11
    refine letV_mk ((k + 1 : Nat) : Int) (i64_succ (by omega)) ⟨⟨k + 1, rfl, by omega, by omega, Mods.ext (e4.trans x9) m11 (blkOf_new (ho4.ext x9).new), by omega, by rw [tab_succ]; exact ho11⟩, by simp only [Int.toNat_natCast]; omega⟩
  · obtain rfl : k = tblN A := by omega
    exact ⟨o, rfl, ho4, e4⟩
  · obtain rfl : k = tblN A := by omega
    exact ⟨o, rfl, ho4, e4⟩

theorem tableF_len (A : List Act) : (tableF A).length = tblN A := tab_length _ _

theorem tableF_VP {A : List Act} (ho : okA A) : VP (tableF A) := by
  have hN : tblN A = max 1 (min A.length 8) := rfl
  refine ⟨by rw [tableF_len]; omega, by rw [tableF_len]; omega, fun i hi => ?_⟩
  rw [tableF_len] at hi
  have tb := tbl_bound ho i
  have g1 : rq (tableF A) i = (tblF A i).1 := by unfold rq tableF; rw [tab_getD _ hi]
  have g2 : mn (tableF A) i = (tblF A i).2.1 := by unfold mn tableF; rw [tab_getD _ hi]
  have g3 : mx (tableF A) i = (tblF A i).2.2 := by unfold mx tableF; rw [tab_getD _ hi]
  unfold OkP
  rw [g1, g2, g3]
  refine ⟨by omega, by omega, by omega, by omega, fun hi0 => ?_⟩
  obtain ⟨j, rfl⟩ : ∃ j, i = j + 1 := ⟨i - 1, by omega⟩
  have hj : j < tblN A := by omega
  have k1 : rq (tableF A) j = (tblF A j).1 := by unfold rq tableF; rw [tab_getD _ hj]
  have k2 : mn (tableF A) j = (tblF A j).2.1 := by unfold mn tableF; rw [tab_getD _ hj]
  have k3 : mx (tableF A) j = (tblF A j).2.2 := by unfold mx tableF; rw [tab_getD _ hj]
  rw [show j + 1 - 1 = j by omega, k1, k2, k3]
  simp only [tblF]
  omega

theorem tableF_okA {A : List Act} (ho : okA A) : okA (tableF A) := by
  intro i
  by_cases hi : i < tblN A
  · have tb := tbl_bound ho i
    have g1 : rq (tableF A) i = (tblF A i).1 := by unfold rq tableF; rw [tab_getD _ hi]
    have g2 : mn (tableF A) i = (tblF A i).2.1 := by unfold mn tableF; rw [tab_getD _ hi]
    have g3 : mx (tableF A) i = (tblF A i).2.2 := by unfold mx tableF; rw [tab_getD _ hi]
    omega
  · unfold rq mn mx tableF
    rw [List.getD_eq_getElem?_getD, List.getElem?_eq_none (by rw [tab_length]; omega)]
    simp

end Go.Proofs.Ytiikkapdchodkaa
