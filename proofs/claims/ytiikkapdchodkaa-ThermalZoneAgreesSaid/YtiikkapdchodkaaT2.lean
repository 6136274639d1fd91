/-
  Contracts of Allocate, the program's and the reference's.
-/
import Derived.Test.YtiikkapdchodkaaT1
namespace Go.Proofs.Ytiikkapdchodkaa
open Go.Eng

theorem decide_and' {p q : Prop} [Decidable p] [Decidable q] : decide (p ∧ q) = (decide p && decide q) := by simp

/-- The actor's next unit is at this level. -/
def Cnd (A : List Act) (lev : Int) (i : Nat) : Prop := mn A i ≤ lev ∧ lev < wantI A i
instance (A : List Act) (lev : Int) (i : Nat) : Decidable (Cnd A lev i) := by unfold Cnd; infer_instance

/-- What is left of the rest behind the first actors. -/
def rsA (A : List Act) (lev r0 : Int) : Nat → Int
  | 0 => r0
  | k + 1 => if 0 < rsA A lev r0 k ∧ Cnd A lev k then rsA A lev r0 k - 1 else rsA A lev r0 k
def grA (A : List Act) (lev r0 : Int) (i : Nat) : Int := if 0 < rsA A lev r0 i ∧ Cnd A lev i then atI A lev i + 1 else atI A lev i

theorem rsA_bound (A : List Act) (lev r0 : Int) (h : 0 ≤ r0) : ∀ k, 0 ≤ rsA A lev r0 k ∧ rsA A lev r0 k ≤ r0 := by
  intro k
  induction k with
  | zero => simp only [rsA]; omega
  | succ k ih => simp only [rsA]; split <;> omega

def IsLev (b : Int) (A : List Act) (lev : Int) : Prop :=
  (lev = 4294967296 ∧ totA A 4294967296 A.length ≤ b) ∨ (b < totA A 4294967296 A.length ∧ 0 ≤ lev ∧ lev < 4294967296 ∧ totA A lev A.length ≤ b ∧ b < totA A (lev + 1) A.length)

/-- A row of numbers of one's own. -/
def RowI (k : IntKind) (H : Heap) (e : TypeId) (lo : Nat) (s : Sl) (n : Nat) (f : Nat → Int) : Prop :=
  s.n = n ∧ (n = 0 ∨ ∃ g, s.p = some ⟨g, 0, none⟩ ∧ lo ≤ g ∧ IBlk k H g e n f)

theorem RowI.ints {k : IntKind} {H : Heap} {e : TypeId} {lo : Nat} {s : Sl} {n : Nat} {f : Nat → Int} (h : RowI k H e lo s n f) : Ints k H s (tab n f) := by
  obtain ⟨h1, h2⟩ := h
  obtain ⟨p, m, c⟩ := s
  dsimp only at h1
  subst h1
  rcases h2 with h2 | ⟨g, h2, _, h3⟩
  · subst h2; exact ⟨rfl, .inl rfl⟩
  · dsimp only at h2
    subst h2
    exact h3.ints c

theorem RowI.ext {k : IntKind} {H H' : Heap} {e : TypeId} {lo : Nat} {s : Sl} {n : Nat} {f : Nat → Int} (h : RowI k H e lo s n f) (he : Ext H H') : RowI k H' e lo s n f := by
  obtain ⟨h1, h2⟩ := h
  refine ⟨h1, ?_⟩
  rcases h2 with h2 | ⟨g, h2, h4, h3⟩
  · exact .inl h2
  · exact .inr ⟨g, h2, h4, h3.ext he⟩

theorem RowI.congr {k : IntKind} {H : Heap} {e : TypeId} {lo : Nat} {s : Sl} {n : Nat} {f g : Nat → Int} (h : RowI k H e lo s n f) (hg : ∀ i, i < n → f i = g i) : RowI k H e lo s n g := by
  obtain ⟨h1, h2⟩ := h
  refine ⟨h1, ?_⟩
  rcases h2 with h2 | ⟨b, h2, h4, h3⟩
  · exact .inl h2
  · exact .inr ⟨b, h2, h4, h3.congr hg⟩

theorem RowI.of_own {k : IntKind} {H : Heap} {e : TypeId} {lo : Nat} {s : Sl} {n : Nat} {f : Nat → Int} (h : Own lo e 1 H s ((tab n f).flatMap (encI k))) : RowI k H e lo s n f := by
  obtain ⟨h1, h2⟩ := h.cases
  have hn : s.n = n := by rw [flat_len (sz := 1) (fun _ => rfl), tab_length] at h1; omega
  refine ⟨hn, ?_⟩
  rcases h2 with ⟨rfl, _⟩ | ⟨g, cur, hp, hg, hb, hc, hsz, ht⟩
  · exact .inl hn.symm
  · refine .inr ⟨g, hp, hg, cur.toList.drop (s.n * 1), ?_⟩
    unfold Blk
    rw [hb, ← flatMap_encI, ← ht, List.take_append_drop]

def AllocP (b : Int) (A : List Act) (H : Heap) (v : Value) (H' : Heap) : Prop :=
  Ext H H' ∧ ((¬ VA A ∧ v = .tuple #[.slice none 0 0, .int .i64 1]) ∨ (VA A ∧ b < totA A 0 A.length ∧ v = .tuple #[.slice none 0 0, .int .i64 19]) ∨
    (VA A ∧ totA A 0 A.length ≤ b ∧ ∃ lev, IsLev b A lev ∧ ∃ s : Sl, v = .tuple #[.slice s.p s.n s.c, .int .i64 0] ∧ RowI .u64 H' t_uint64 H.size s A.length (grA A lev (b - totA A lev A.length))))

theorem want_top {A : List Act} (hv : VA A) {i : Nat} (hi : i < A.length) : wantI A i ≤ 4294967296 := by
  have := hv.2 i hi
  unfold wantI wantF
  omega

theorem grA_top {A : List Act} (hv : VA A) {i : Nat} (hi : i < A.length) (r0 : Int) : grA A 4294967296 r0 i = atI A 4294967296 i := by
  unfold grA
  rw [if_neg]
  rintro ⟨_, _, h⟩
  have := want_top hv hi
  omega

theorem IsLev.le {b : Int} {A : List Act} {lev : Int} (h : IsLev b A lev) : totA A lev A.length ≤ b := by
  rcases h with ⟨rfl, h⟩ | h
  · exact h
  · exact h.2.2.2.1

theorem IsLev.range {b : Int} {A : List Act} {lev : Int} (h : IsLev b A lev) : 0 ≤ lev ∧ lev ≤ 4294967296 := by
  rcases h with ⟨rfl, h⟩ | h
  · omega
  · omega

theorem Allocate_spec (H : Heap) (s : Sl) (A : List Act) (b : Int) (h : Acts H s A) (ho : okA A) (hb : 0 ≤ b ∧ b ≤ 18446744073709551615) :
    CallsH Try.prog n_thermal_Allocate #[.int .u64 b, .slice s.p s.n s.c] H (AllocP b A H) := by
  refine F_thermal_Allocate_ok _ _ ?_
  unfold F_thermal_Allocate
  refine (valid_actors_spec H s A h).mono ?_
  rintro v H1 ⟨rfl, e1⟩
  refine ⟨_, rfl, iteB_not (fun c => ?_) (fun c => ?_)⟩
  · exact ⟨e1, .inl ⟨by simpa using c, rfl⟩⟩
  have hv : VA A := by simpa using c
  refine (total_spec H1 s A 0 (h.ext e1) hv ho).mono ?_
  rintro v H2 ⟨rfl, e2⟩
  refine ⟨_, rfl, iteB_dec (fun c => ?_) (fun c => ?_)⟩
  · exact ⟨e1.trans e2, .inr (.inl ⟨hv, by omega, rfl⟩)⟩
  have h0 : totA A 0 A.length ≤ b := by omega
  refine ⟨fun lev H' => IsLev b A lev ∧ Ext H H', ?_, ?_⟩
  · refine (total_spec H2 s A 4294967296 (h.ext (e1.trans e2)) hv ho).mono ?_
    rintro v H3 ⟨rfl, e3⟩
    have x3 := (e1.trans e2).trans e3
    refine ⟨_, rfl, iteB_dec (fun c2 => ?_) (fun c2 => ⟨.inl ⟨rfl, by omega⟩, x3⟩)⟩
    refine ⟨fun lo hi H' => Ext H H' ∧ 0 ≤ lo ∧ lo < hi ∧ hi ≤ 4294967296 ∧ totA A lo A.length ≤ b ∧ b < totA A hi A.length, fun lo hi _ => (hi - lo).toNat, ⟨x3, by omega, by omega, by omega, h0, by omega⟩, ?_⟩
    rintro lo hi H4 ⟨e4, l1, l2, l3, l4, l5⟩
    unfold F_thermal_Allocate_r1
    rw [u64_in (n := hi - lo) (by omega)]
    refine iteB_dec (fun c3 => ?_) (fun c3 => ?_)
    · rw [Int.tdiv_eq_ediv_of_nonneg (by omega), u64_in (n := (hi - lo) / 2) (by omega)]
      refine letV_mk (lo + (hi - lo) / 2) (u64_in (by omega)) ?_
      refine (total_spec H4 s A _ (h.ext e4) hv ho).mono ?_
      rintro v H5 ⟨rfl, e5⟩
      refine ⟨_, rfl, iteB_dec (fun c4 => ?_) (fun c4 => ?_)⟩
      · exact ⟨⟨e4.trans e5, by omega, by omega, by omega, c4, l5⟩, by dsimp only; omega⟩
      · exact ⟨⟨e4.trans e5, by omega, by omega, by omega, l4, by omega⟩, by dsimp only; omega⟩
    · obtain rfl : hi = lo + 1 := by omega
      exact ⟨.inr ⟨by omega, by omega, by omega, l4, l5⟩, e4⟩
  rintro lev H6 ⟨hlev, e6⟩
  unfold F_thermal_Allocate_k4
  refine (total_spec H6 s A lev (h.ext e6) hv ho).mono ?_
  rintro v H7 ⟨rfl, e7⟩
  have hle := hlev.le
  have hrg := hlev.range
  have hl := hv.1
  have htb := tot_bound hv ho lev _ (Nat.le_refl _)
  refine ⟨_, rfl, letV_mk (b - totA A lev A.length) (u64_in (by omega)) ?_⟩
  refine ⟨by omega, by omega, by rw [h.len]; omega, letH_mk ?_⟩
  rintro H8 rfl
  have hto : ((s.n : Int).toNat) = A.length := by rw [h.len]; simp
  rw [hto]
  have e67 := e6.trans e7
  have z67 := e67.size
  generalize hr0 : b - totA A lev A.length = r0 at *
  have hz := IBlk.zero (k := .u64) H7 t_uint64 A.length
  refine loop2 A.length (fun k (r : Int) H' => Ext H H' ∧ r = rsA A lev r0 k ∧ IBlk .u64 H' H7.size t_uint64 A.length (fun i => if i < k then grA A lev r0 i else 0)) ⟨e67.trans (Ext.push _ _), rfl, hz.congr (fun i _ => by simp)⟩ ?_
  rintro k r H9 hk ⟨e9, rfl, b9⟩
  unfold F_thermal_Allocate_r3
  rw [hto, h.len]
  refine iteB_dec (fun c => ?_) (fun c => ?_)
  · have hkn : k < A.length := by omega
    obtain ⟨a, hp, r0', r1, r2⟩ := Acts.atN (h.ext e9) hkn
    refine ⟨by omega, by omega, unSome_mk hp ⟨_, r0', _, r1, _, r2, local_mk rfl rfl fun H10 e10 _ bl => ?_⟩⟩
    refine ⟨_, bl.rd0 rfl, _, bl.rd (i := 1) rfl, _, bl.rd (i := 2) rfl, (at_spec _ _ _ lev H10).mono ?_⟩
    rintro v H11 ⟨rfl, e11⟩
    have b11 := (b9.ext e10).ext e11
    have hb9 := b9.lt
    have bl11 := bl.ext e11
    refine ⟨_, rfl, by omega, by omega, b11.ok hkn, letH_mk ?_⟩
    intro H13 h13
    have m13 : Mods [H7.size] H11 H13 := by rw [h13]; exact mods_wr_add (by simp)
    have b13 := b11.wr hkn (atI A lev k)
    change IBlk .u64 (wrs H11 ((⟨H7.size, 0, none⟩ : Addr).add ((k : Int).toNat * 1)) [.int .u64 (atF (rq A k) (mn A k) (mx A k) lev)]) H7.size t_uint64 A.length _ at b13
    rw [← h13] at b13
    have bl13 := bl11.mods m13 (by simp; omega)
    clear h13
    have x13 : Ext H H13 := Mods.ext ((e9.trans e10).trans e11) m13 (by simpa using z67)
    have hrs := rsA_bound A lev r0 (by omega) k
    have hat := at_bound hv ho lev hkn
    refine ⟨fun x H' => x = decide (0 < rsA A lev r0 k ∧ Cnd A lev k) ∧ Ext H13 H', ?_, ?_⟩
    · refine iteB_dec (fun c1 => ⟨_, bl13.rd (i := 1) rfl, iteB_dec (fun c2 => ?_) (fun c2 => ?_)⟩) (fun c1 => ?_)
      · refine ⟨_, bl13.rd0 rfl, _, bl13.rd (i := 1) rfl, _, bl13.rd (i := 2) rfl, (want_spec _ _ _ H13).mono ?_⟩
        rintro v H14 ⟨rfl, e14⟩
        refine ⟨_, rfl, ?_, e14⟩
        unfold Cnd wantI
        exact decide_eq_decide.2 ⟨fun h => ⟨c1, c2, h⟩, fun h => h.2.2⟩
      · exact ⟨by rw [decide_eq_false]; rintro ⟨_, h, _⟩; exact c2 h, .refl _⟩
      · exact ⟨by rw [decide_eq_false]; rintro ⟨h, _, _⟩; exact c1 h, .refl _⟩
    rintro x H15 ⟨rfl, e15⟩
    unfold F_thermal_Allocate_k2
    rw [hto]
    have b15 := b13.ext e15
    refine iteB_dec (fun c3 => ?_) (fun c3 => ?_)
    · have rr := b15.rd hkn
      rw [upd_same] at rr
      refine ⟨by omega, by omega, _, rr, by omega, by omega, b15.ok hkn, letH_mk ?_⟩
      intro H16 h16
      have m16 : Mods [H7.size] H15 H16 := by rw [h16]; exact mods_wr_add (by simp)
      have b16 := b15.wr hkn (atI A lev k + 1)
      rw [u64_in (n := atI A lev k + 1) (by omega)] at h16
      change IBlk .u64 (wrs H15 ((⟨H7.size, 0, none⟩ : Addr).add ((k : Int).toNat * 1)) _) H7.size t_uint64 A.length _ at b16
      rw [← h16] at b16
      clear h16
      refine letV_mk (rsA A lev r0 (k + 1)) ?_ (next2 hkn (by omega) ⟨Mods.ext (x13.trans e15) m16 (by simpa using z67), rfl, b16.congr (fun i hi => ?_)⟩)
      · simp only [rsA]
        rw [if_pos c3]
        exact u64_in (by omega)
      · by_cases e : i = k
        · subst e; rw [upd_same, if_pos (by omega), grA, if_pos c3]
        · rw [upd_ne e, upd_ne e]
          by_cases e2 : i < k
          · rw [if_pos e2, if_pos (by omega)]
          · rw [if_neg e2, if_neg (by omega)]
    · refine next2 hkn (by omega) ⟨x13.trans e15, ?_, b15.congr (fun i hi => ?_)⟩
      · simp only [rsA]
        rw [if_neg c3]
      · by_cases e : i = k
        · subst e; rw [upd_same, if_pos (by omega), grA, if_neg c3]
        · rw [upd_ne e]
          by_cases e2 : i < k
          · rw [if_pos e2, if_pos (by omega)]
          · rw [if_neg e2, if_neg (by omega)]
  · obtain rfl : k = A.length := by omega
    refine ⟨e9, .inr (.inr ⟨hv, h0, lev, hlev, ⟨some ⟨H7.size, 0, none⟩, A.length, A.length⟩, rfl, rfl, .inr ⟨_, rfl, z67, ?_⟩⟩)⟩
    rw [hr0]
    exact b9.congr (fun i hi => by rw [if_pos hi])

end Go.Proofs.Ytiikkapdchodkaa
