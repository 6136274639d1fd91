/-
  Contracts of the actors' small functions, over the shallow readings.
-/
import Derived.Test.YtiikkapdchodkaaC1
import Derived.Test.YtiikkapdchodkaaEngM
namespace Go.Proofs.Ytiikkapdchodkaa
open Go.Eng

abbrev Act := Int × Int × Int
def encA (a : Act) : List Value := [.int .u64 a.1, .int .u64 a.2.1, .int .u64 a.2.2]
theorem encA_len (a : Act) : (encA a).length = 3 := rfl
abbrev Acts (H : Heap) (s : Sl) (l : List Act) : Prop := IsS 3 encA H s l

def rq (A : List Act) (i : Nat) : Int := (A.getD i (0, 0, 0)).1
def mn (A : List Act) (i : Nat) : Int := (A.getD i (0, 0, 0)).2.1
def mx (A : List Act) (i : Nat) : Int := (A.getD i (0, 0, 0)).2.2

theorem Acts.atN {H : Heap} {s : Sl} {A : List Act} (h : Acts H s A) {k : Nat} (hk : k < A.length) :
    ∃ a, s.p = some a ∧ rd H (a.add ((k : Int).toNat * 3)) = some (.int .u64 (rq A k)) ∧ rd H ((a.add ((k : Int).toNat * 3)).add 1) = some (.int .u64 (mn A k)) ∧
      rd H ((a.add ((k : Int).toNat * 3)).add 2) = some (.int .u64 (mx A k)) := by
  obtain ⟨a, hp, hr⟩ := IsS.atN h (0, 0, 0) hk
  exact ⟨a, hp, hr 0 _ rfl, hr 1 _ rfl, hr 2 _ rfl⟩

/-- The numbers are unsigned. -/
def okA (A : List Act) : Prop := ∀ i, 0 ≤ rq A i ∧ 0 ≤ mn A i ∧ 0 ≤ mx A i

def wantF (r m x : Int) : Int := min (max r m) x
def atF (r m x l : Int) : Int := min (max l m) (wantF r m x)
def wantI (A : List Act) (i : Nat) : Int := wantF (rq A i) (mn A i) (mx A i)
def atI (A : List Act) (l : Int) (i : Nat) : Int := atF (rq A i) (mn A i) (mx A i) l

theorem want_code (r m x : Int) : (if x < (if m > r then m else r) then x else (if m > r then m else r)) = wantF r m x := by
  unfold wantF; split <;> split <;> omega

theorem at_code (r m x l : Int) : (if wantF r m x < (if m > l then m else l) then wantF r m x else (if m > l then m else l)) = atF r m x l := by
  unfold atF; split <;> split <;> omega

def IntP (k : IntKind) (n : Int) (H : Heap) (v : Value) (H' : Heap) : Prop := v = .int k n ∧ Ext H H'

theorem want_spec (r m x : Int) (H : Heap) : CallsH Try.prog n_thermal_want #[.agg #[.int .u64 r, .int .u64 m, .int .u64 x]] H (IntP .u64 (wantF r m x) H) := by
  refine F_thermal_want_ok _ _ _ ?_
  unfold F_thermal_want
  refine push_mk (vs := [.int .u64 r, .int .u64 m, .int .u64 x]) fun H1 e1 _ b1 => ?_
  exact ⟨_, b1.rd0 rfl, _, b1.rd (i := 1) rfl, _, b1.rd (i := 2) rfl, letV_mk _ (want_code r m x) ⟨rfl, e1⟩⟩

theorem rwant_spec (r m x : Int) (H : Heap) : CallsH Try.prog n_ref39_want #[.agg #[.int .u64 r, .int .u64 m, .int .u64 x]] H (IntP .u64 (wantF r m x) H) := by
  refine F_ref39_want_ok _ _ _ ?_
  unfold F_ref39_want
  refine push_mk (vs := [.int .u64 r, .int .u64 m, .int .u64 x]) fun H1 e1 _ b1 => ?_
  exact ⟨_, b1.rd0 rfl, _, b1.rd (i := 1) rfl, _, b1.rd (i := 2) rfl, letV_mk _ (want_code r m x) ⟨rfl, e1⟩⟩

theorem lwant_spec (r m x : Int) (H : Heap) : CallsH Try.prog n_law39_want #[.agg #[.int .u64 r, .int .u64 m, .int .u64 x]] H (IntP .u64 (wantF r m x) H) := by
  refine F_law39_want_ok _ _ _ ?_
  unfold F_law39_want
  refine push_mk (vs := [.int .u64 r, .int .u64 m, .int .u64 x]) fun H1 e1 _ b1 => ?_
  exact ⟨_, b1.rd0 rfl, _, b1.rd (i := 1) rfl, _, b1.rd (i := 2) rfl, letV_mk _ (want_code r m x) ⟨rfl, e1⟩⟩

theorem at_spec (r m x l : Int) (H : Heap) : CallsH Try.prog n_thermal_at #[.agg #[.int .u64 r, .int .u64 m, .int .u64 x], .int .u64 l] H (IntP .u64 (atF r m x l) H) := by
  refine F_thermal_at_ok _ _ _ _ ?_
  unfold F_thermal_at
  refine push_mk (vs := [.int .u64 r, .int .u64 m, .int .u64 x]) fun H1 e1 _ b1 => ?_
  refine ⟨_, b1.rd (i := 1) rfl, _, b1.rd0 rfl, _, b1.rd (i := 1) rfl, _, b1.rd (i := 2) rfl, (want_spec r m x H1).mono ?_⟩
  rintro v H2 ⟨rfl, e2⟩
  exact ⟨_, rfl, e2, letV_mk _ (at_code r m x l) ⟨rfl, e1.trans e2⟩⟩

def VA (A : List Act) : Prop := A.length ≤ 32 ∧ ∀ i, i < A.length → mn A i ≤ mx A i ∧ mx A i ≤ 4294967296
instance (A : List Act) : Decidable (VA A) := by unfold VA; infer_instance

theorem valid_actors_spec (H : Heap) (s : Sl) (A : List Act) (h : Acts H s A) :
    CallsH Try.prog n_thermal_validActors #[.slice s.p s.n s.c] H (fun v H' => v = .bool (decide (VA A)) ∧ Ext H H') := by
  refine F_thermal_validActors_ok _ ?_
  unfold F_thermal_validActors
  rw [h.len]
  refine iteB_dec (fun c => ?_) (fun c => ?_)
  · exact ⟨by rw [decide_eq_false (fun hv => by have := hv.1; omega)], .refl _⟩
  refine loop1 A.length (fun k H' => Ext H H' ∧ ∀ i, i < k → mn A i ≤ mx A i ∧ mx A i ≤ 4294967296) ⟨.refl _, fun i hi => by omega⟩ ?_
  rintro k H1 hk ⟨e1, hall⟩
  unfold F_thermal_validActors_r1
  rw [h.len]
  refine iteB_dec (fun c => ?_) (fun c => ?_)
  · have hkn : k < A.length := by omega
    obtain ⟨a, hp, r0, r1, r2⟩ := Acts.atN (h.ext e1) hkn
    refine ⟨by omega, by omega, unSome_mk hp ⟨_, r0, _, r1, _, r2, local_mk rfl rfl fun H2 e2 _ b2 => ?_⟩⟩
    refine ⟨_, b2.rd (i := 1) rfl, _, b2.rd (i := 2) rfl, iteB_dec (fun c2 => ?_) (fun c2 => ⟨_, b2.rd (i := 2) rfl, iteB_dec (fun c3 => ?_) (fun c3 => ?_)⟩)⟩
    · exact ⟨by rw [decide_eq_false (fun hv => by have := hv.2 k hkn; omega)], e1.trans e2⟩
    · exact ⟨by rw [decide_eq_false (fun hv => by have := hv.2 k hkn; omega)], e1.trans e2⟩
    · refine next1 hkn (by omega) ⟨e1.trans e2, fun i hi => ?_⟩
      by_cases e : i = k
      · subst e; omega
      · exact hall i (by omega)
  · exact ⟨by rw [decide_eq_true ⟨by omega, fun i hi => hall i (by omega)⟩], e1⟩

theorem rvalid_actors_spec (H : Heap) (s : Sl) (A : List Act) (h : Acts H s A) :
    CallsH Try.prog n_ref39_valid #[.slice s.p s.n s.c] H (fun v H' => v = .bool (decide (VA A)) ∧ H' = H) := by
  refine F_ref39_valid_ok _ ?_
  unfold F_ref39_valid
  rw [h.len]
  refine iteB_dec (fun c => ?_) (fun c => ?_)
  · exact ⟨by rw [decide_eq_false (fun hv => by have := hv.1; omega)], rfl⟩
  refine loop1 A.length (fun k H' => H' = H ∧ ∀ i, i < k → mn A i ≤ mx A i ∧ mx A i ≤ 4294967296) ⟨rfl, fun i hi => by omega⟩ ?_
  rintro k H1 hk ⟨rfl, hall⟩
  unfold F_ref39_valid_r1
  rw [h.len]
  refine iteB_dec (fun c => ?_) (fun c => ?_)
  · have hkn : k < A.length := by omega
    obtain ⟨a, hp, r0, r1, r2⟩ := Acts.atN h hkn
    refine ⟨by omega, by omega, unSome_mk hp ⟨_, r1, by omega, by omega, unSome_mk hp ⟨_, r2, iteB_dec (fun c2 => ?_) (fun c2 => ⟨by omega, by omega, unSome_mk hp ⟨_, r2, iteB_dec (fun c3 => ?_) (fun c3 => ?_)⟩⟩)⟩⟩⟩
    · exact ⟨by rw [decide_eq_false (fun hv => by have := hv.2 k hkn; omega)], rfl⟩
    · exact ⟨by rw [decide_eq_false (fun hv => by have := hv.2 k hkn; omega)], rfl⟩
    · refine next1 hkn (by omega) ⟨rfl, fun i hi => ?_⟩
      by_cases e : i = k
      · subst e; omega
      · exact hall i (by omega)
  · exact ⟨by rw [decide_eq_true ⟨by omega, fun i hi => hall i (by omega)⟩], rfl⟩

/-- What the first 'k' actors receive at a common level. -/
def totA (A : List Act) (l : Int) : Nat → Int
  | 0 => 0
  | k + 1 => totA A l k + atI A l k

theorem at_bound {A : List Act} (hv : VA A) (ho : okA A) (l : Int) {i : Nat} (hi : i < A.length) : mn A i ≤ atI A l i ∧ atI A l i ≤ wantI A i ∧ wantI A i ≤ mx A i ∧ 0 ≤ atI A l i ∧ atI A l i ≤ 4294967296 := by
  have h1 := hv.2 i hi
  have h2 := ho i
  unfold atI wantI atF wantF
  omega

theorem tot_bound {A : List Act} (hv : VA A) (ho : okA A) (l : Int) : ∀ k, k ≤ A.length → 0 ≤ totA A l k ∧ totA A l k ≤ 4294967296 * k := by
  intro k
  induction k with
  | zero => intro _; simp [totA]
  | succ k ih =>
    intro hk
    have h1 := ih (by omega)
    have h2 := at_bound hv ho l (i := k) (by omega)
    simp only [totA]
    omega

theorem total_spec (H : Heap) (s : Sl) (A : List Act) (l : Int) (h : Acts H s A) (hv : VA A) (ho : okA A) :
    CallsH Try.prog n_thermal_total #[.slice s.p s.n s.c, .int .u64 l] H (IntP .u64 (totA A l A.length) H) := by
  refine F_thermal_total_ok _ _ ?_
  unfold F_thermal_total
  refine loop2 A.length (fun k (t : Int) H' => Ext H H' ∧ t = totA A l k) ⟨.refl _, rfl⟩ ?_
  rintro k t H1 hk ⟨e1, rfl⟩
  unfold F_thermal_total_r1
  rw [h.len]
  have hl := hv.1
  refine iteB_dec (fun c => ?_) (fun c => ?_)
  · have hkn : k < A.length := by omega
    obtain ⟨a, hp, r0, r1, r2⟩ := Acts.atN (h.ext e1) hkn
    refine ⟨by omega, by omega, unSome_mk hp ⟨_, r0, _, r1, _, r2, local_mk rfl rfl fun H2 e2 _ b2 => ?_⟩⟩
    refine ⟨_, b2.rd0 rfl, _, b2.rd (i := 1) rfl, _, b2.rd (i := 2) rfl, (at_spec _ _ _ l H2).mono ?_⟩
    rintro v H3 ⟨rfl, e3⟩
    have hb := tot_bound hv ho l k hk
    have ha := at_bound hv ho l hkn
    unfold atI at ha
    refine ⟨_, rfl, letV_mk (totA A l (k + 1)) (u64_in (by omega)) (next2 hkn (by omega) ⟨(e1.trans e2).trans e3, rfl⟩)⟩
  · obtain rfl : k = A.length := by omega
    exact ⟨rfl, e1⟩

theorem flat_u64 (l : List Int) : l.flatMap (encI .u64) = l.map (Value.int .u64) := flatMap_encI _ _

/-- What the actors receive at a common level, and the sum. -/
def AtP (A : List Act) (l : Int) (H : Heap) (v : Value) (H' : Heap) : Prop :=
  ∃ s : Sl, v = .tuple #[.slice s.p s.n s.c, .int .u64 (totA A l A.length)] ∧ Own H.size t_uint64 1 H' s ((tab A.length (atI A l)).flatMap (encI .u64)) ∧ s.n = A.length ∧ Ext H H'

theorem tab_succ {α : Type} (n : Nat) (f : Nat → α) : tab (n + 1) f = tab n f ++ [f n] := by
  unfold tab; rw [List.range_succ]; simp

theorem blkOf_new {n : Nat} {p : Option Addr} (h : NewP n p) : ∀ x ∈ blkOf p, n ≤ x := by
  intro x hx
  cases p with
  | none => cases hx
  | some a => simp [blkOf] at hx; subst hx; exact h a rfl

theorem rat_spec (H : Heap) (s : Sl) (A : List Act) (l : Int) (h : Acts H s A) (hv : VA A) (ho : okA A) :
    CallsH Try.prog n_ref39_at #[.slice s.p s.n s.c, .int .u64 l] H (AtP A l H) := by
  refine F_ref39_at_ok _ _ ?_
  unfold F_ref39_at
  refine loop3 A.length (fun k (o : Sl) (t : Int) H' => Ext H H' ∧ t = totA A l k ∧ o.n = k ∧ Own H.size t_uint64 1 H' o ((tab k (atI A l)).flatMap (encI .u64))) ⟨.refl _, rfl, rfl, Own.nil _ _ _ _⟩ ?_
  rintro k o t H1 hk ⟨e1, rfl, hn, ho1⟩
  unfold F_ref39_at_r1
  rw [h.len]
  have hl := hv.1
  refine iteB_dec (fun c => ?_) (fun c => ?_)
  · have hkn : k < A.length := by omega
    obtain ⟨a, hp, r0, r1, r2⟩ := Acts.atN (h.ext e1) hkn
    refine ⟨by omega, by omega, unSome_mk hp ⟨_, r1, by omega, by omega, unSome_mk hp ⟨_, r0, _, r1, _, r2, (rwant_spec _ _ _ H1).mono ?_⟩⟩⟩
    rintro v H2 ⟨rfl, e2⟩
    refine ⟨_, rfl, e2, letV_mk (atI A l k) (at_code _ _ _ _) ?_⟩
    have z2 := (e1.trans e2).size
    refine append_row (enc := encI .u64) (l := tab k (atI A l)) (z := .int .u64 0) (sz := 1) (bytes := 8) (lo := H.size) (atI A l k) (by kernel_rfl) (by kernel_rfl) rfl (by omega) (fun _ => rfl) (fun x u hu => by simp [encI] at hu; subst hu; rfl) (ho1.ext e2) (by simp [maxLen]; omega) (by omega) (by omega) ?_
    intro o' H3 ho3 hn3 m3
    have hb := tot_bound hv ho l k hk
    have ha := at_bound hv ho l hkn
    refine letV_mk (totA A l (k + 1)) (u64_in (by omega)) (next3 hkn (by omega) ⟨?_, rfl, by omega, by rw [tab_succ]; exact ho3⟩)
    exact Mods.ext (e1.trans e2) m3 (blkOf_new (ho1.ext e2).new)
  · obtain rfl : k = A.length := by omega
    exact ⟨o, rfl, ho1, hn, e1⟩

def actorF (A : List Act) (i : Nat) : Act := (rq A i % 40, mn A i % 10, mn A i % 10 + mx A i % 30)
def actorsF (A : List Act) : List Act := tab (min A.length 8) (actorF A)

def ActorsP (A : List Act) (H : Heap) (v : Value) (H' : Heap) : Prop :=
  ∃ s : Sl, v = .slice s.p s.n s.c ∧ Own H.size t_api_Actor 3 H' s ((actorsF A).flatMap encA) ∧ Ext H H'

theorem Actors_spec (H : Heap) (s : Sl) (A : List Act) (h : Acts H s A) (ho : okA A) :
    CallsH Try.prog n_law39_Actors #[.slice s.p s.n s.c] H (ActorsP A H) := by
  refine F_law39_Actors_ok _ ?_
  unfold F_law39_Actors
  refine loop2 (min A.length 8) (fun k (o : Sl) H' => Ext H H' ∧ o.n = k ∧ Own H.size t_api_Actor 3 H' o ((tab k (actorF A)).flatMap encA)) ⟨.refl _, rfl, Own.nil _ _ _ _⟩ ?_
  rintro k o H1 hk ⟨e1, hn, ho1⟩
  unfold F_law39_Actors_r1
  rw [h.len]
  refine iteB_dec (fun c => iteB_dec (fun c2 => ?_) (fun c2 => ?_)) (fun c => ?_)
  · have hkn : k < A.length := by omega
    obtain ⟨a, hp, r0, r1, r2⟩ := Acts.atN (h.ext e1) hkn
    obtain ⟨o1, o2, o3⟩ := ho k
    have z1 := e1.size
    refine ⟨by omega, by omega, unSome_mk hp ⟨_, r1, letV_mk (mn A k % 10) (Int.tmod_eq_emod_of_nonneg o2) ⟨by omega, by omega, unSome_mk hp ⟨_, r0, by omega, by omega, unSome_mk hp ⟨_, r2, ?_⟩⟩⟩⟩⟩
    rw [Int.tmod_eq_emod_of_nonneg o1, Int.tmod_eq_emod_of_nonneg o3, u64_in (n := mn A k % 10 + mx A k % 30) (by omega)]
    refine append_row (enc := encA) (l := tab k (actorF A)) (z := .agg #[.int .u64 0, .int .u64 0, .int .u64 0]) (sz := 3) (bytes := 24) (lo := H.size) (actorF A k) (by kernel_rfl) (by kernel_rfl) rfl (by omega) encA_len (fun x u hu => by simp [encA] at hu; rcases hu with rfl | rfl | rfl <;> rfl) ho1 (by simp [maxLen]; omega) (by omega) z1 ?_
    intro o' H3 ho3 hn3 m3
    exact next2 (by omega) (by omega) ⟨Mods.ext e1 m3 (blkOf_new ho1.new), by omega, by rw [tab_succ]; exact ho3⟩
  · obtain rfl : k = min A.length 8 := by omega
    exact ⟨o, rfl, ho1, e1⟩
  · obtain rfl : k = min A.length 8 := by omega
    exact ⟨o, rfl, ho1, e1⟩

end Go.Proofs.Ytiikkapdchodkaa
