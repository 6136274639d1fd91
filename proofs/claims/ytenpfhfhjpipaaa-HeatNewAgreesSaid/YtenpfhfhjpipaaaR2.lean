/-
  Contracts of the reference heat model's valid, New and Bound, over the shallow readings.
-/
import Derived.Test.YtenpfhfhjpipaaaR1
import Derived.Test.YtenpfhfhjpipaaaC9
namespace Go.Proofs.Ytenpfhfhjpipaaa
open Go.Eng Go.Heat

theorem need_mono {L : List Lnk} {n : Nat} (i : Nat) : ∀ j', (∀ k, k < j' → LnkOk n L k) → ∀ j, j ≤ j' → need L j i ≤ need L j' i := by
  intro j'
  induction j' with
  | zero => intro _ j hj; have : j = 0 := by omega
            subst this; exact Int.le_refl _
  | succ j' ih =>
    intro h j hj
    by_cases e : j = j' + 1
    · subst e; exact Int.le_refl _
    · have h1 := ih (fun k hk => h k (by omega)) j (by omega)
      have h2 := (h j' (by omega)).c0
      simp only [need]
      split <;> split <;> omega

theorem need_at {L : List Lnk} {n j : Nat} (h : LnkOk n L j) : need L (j + 1) (lA L j).toNat = need L j (lA L j).toNat + lC L j ∧ need L (j + 1) (lB L j).toNat = need L j (lB L j).toNat + lC L j := by
  obtain ⟨a0, a1, b0, b1, ne, c0, c1, _⟩ := h
  simp only [need]
  constructor
  · rw [if_pos trivial, if_neg (by omega)]; omega
  · rw [if_neg (by omega), if_pos trivial]; omega

/-- What a valid system says of one link's need. -/
theorem VS.room {D : List Dom} {L : List Lnk} {amb : Int} (h : VS D L amb) {j : Nat} (hj : j < L.length) :
    lC L j ≤ capOf D (lA L j).toNat - ambOf D (lA L j).toNat - need L j (lA L j).toNat ∧ lC L j ≤ capOf D (lB L j).toNat - ambOf D (lB L j).toNat - need L j (lB L j).toNat := by
  have hk := h.lnk j hj
  have hn := need_at hk
  obtain ⟨a0, a1, b0, b1, ne, c0, c1, _⟩ := hk
  have m1 := need_mono (n := D.length) (lA L j).toNat L.length h.lnk (j + 1) (by omega)
  have m2 := need_mono (n := D.length) (lB L j).toNat L.length h.lnk (j + 1) (by omega)
  have c1 := h.cap (lA L j).toNat (by omega)
  have c2 := h.cap (lB L j).toNat (by omega)
  omega

set_option maxRecDepth 4000 in
theorem rvalid_spec (H : Heap) (ds ls : Sl) (D : List Dom) (L : List Lnk) (amb : Int) (hd : Doms H ds D) (hl : Lnks H ls L) (hll : L.length ≤ 1000) :
    CallsH Try.prog n_ref38_valid #[.slice ds.p ds.n ds.c, .slice ls.p ls.n ls.c, .int .i64 amb] H (ValidPost D L amb H) := by
  refine F_ref38_valid_ok _ _ _ ?_
  unfold F_ref38_valid
  rw [hd.len]
  refine iteB_intro (fun c => .no (fun h => ?_) (.refl _)) (fun c1 => iteB_intro (fun c => .no (fun h => ?_) (.refl _)) (fun c2 => iteB_intro (fun c => .no (fun h => ?_) (.refl _)) (fun c3 => iteB_intro (fun c => .no (fun h => ?_) (.refl _)) (fun c4 => ?_))))
  · have := h.n1; simp at c; omega
  · have := h.n16; simp at c; omega
  · have := h.amb0; simp at c; omega
  · have := h.amb1; simp at c; omega
  have hn1 : 1 ≤ D.length := by simp at c1; omega
  have hn16 : D.length ≤ 16 := by simp at c2; omega
  have ha0 : -16777216 ≤ amb := by simpa using c3
  have ha1 : amb ≤ 16777216 := by simpa using c4
  refine ⟨by omega, by omega, by omega, letH_mk ?_⟩
  rintro H1 rfl
  have hto : ((D.length : Int).toNat) = D.length := by simp
  rw [hto]
  have z1 := IBlk.zero (k := .i64) H t_int64 D.length
  refine ⟨fun x H' => Ext H H' ∧ ∃ k : Nat, x = k ∧ k ≤ D.length ∧ (∀ i, i < k → 1 ≤ ambOf D i ∧ ambOf D i ≤ capOf D i ∧ capOf D i ≤ 16777216) ∧ IBlk .i64 H' H.size t_int64 D.length (fun i => if i < k then capOf D i - ambOf D i else 0), fun x _ => D.length - x.toNat,
    ⟨Ext.push _ _, 0, rfl, Nat.zero_le _, fun i hi => by omega, z1.congr (fun i _ => by simp)⟩, ?_⟩
  rintro x H2 ⟨e2, k, rfl, hk, hdk, hb⟩
  unfold F_ref38_valid_r3
  rw [hd.len, hto]
  refine iteB_intro (fun c => ?_) (fun c => ?_)
  · have hkn : k < D.length := by simpa using c
    obtain ⟨a, hpa, hr0, hr1⟩ := Doms.at (hd.ext e2) (x := k) (by omega) (by omega)
    refine ⟨by omega, by omega, unSome_mk hpa ⟨_, hr0, _, hr1, ?_⟩⟩
    refine local_mk (by simp) (by simp) ?_
    intro H4 e4 z4 hb4
    simp only [Int.toNat_natCast] at hb4 ⊢
    refine ⟨_, hb4.rd (i := 1) rfl, iteB_intro (fun c => .no (fun h => ?_) (e2.trans e4)) (fun c5 => ⟨_, hb4.rd0 rfl, iteB_intro (fun c => .no (fun h => ?_) (e2.trans e4)) (fun c6 => ⟨_, hb4.rd0 rfl, _, hb4.rd (i := 1) rfl, iteB_intro (fun c => .no (fun h => ?_) (e2.trans e4)) (fun c7 => ?_)⟩)⟩)⟩
    · have := h.dom k hkn; simp at c; omega
    · have := h.cap k hkn; simp at c; omega
    · have := h.cap k hkn
      have := need_bound (L := L) (n := D.length) k L.length h.lnk
      simp at c; omega
    have c5' : 1 ≤ ambOf D k := by simp at c5; omega
    have c6' : capOf D k ≤ 16777216 := by simp at c6; omega
    have c7' : ambOf D k ≤ capOf D k := by simpa using c7
    refine ⟨_, hb4.rd0 rfl, _, hb4.rd (i := 1) rfl, by omega, by simpa using hkn, (hb.ext e4).ok hkn, letH_mk ?_⟩
    rintro H5 rfl
    rw [i64_in (n := capOf D k - ambOf D k) (by omega)]
    refine letV_mk ((k + 1 : Nat) : Int) (by rw [i64_in (by omega)]; simp) ⟨⟨Mods.ext (e2.trans e4) (mods_wr_add (S := [H.size]) (by simp)) (by simp), k + 1, rfl, by omega, fun i hi => ?_, ((hb.ext e4).wr hkn _).congr (fun i hi => ?_)⟩, by simp only [Int.toNat_natCast]; omega⟩
    · by_cases e : i = k
      · subst e; omega
      · exact hdk i (by omega)
    · by_cases e : i = k
      · subst e; rw [upd_same, if_pos (by omega)]
      · rw [upd_ne e]
        by_cases e2 : i < k
        · rw [if_pos e2, if_pos (by omega)]
        · rw [if_neg e2, if_neg (by omega)]
  have hkn : k = D.length := by simp at c; omega
  subst hkn
  have hdom := hdk
  have hb0 : IBlk .i64 H2 H.size t_int64 D.length (fun i => capOf D i - ambOf D i - need L 0 i) := hb.congr (fun i hi => by rw [if_pos hi]; simp [need])
  refine ⟨fun x H' => Ext H H' ∧ H.size < H'.size ∧ ∃ j : Nat, x = j ∧ j ≤ L.length ∧ (∀ m, m < j → LnkOk D.length L m) ∧ (∀ i, i < D.length → ambOf D i + need L j i ≤ capOf D i) ∧ IBlk .i64 H' H.size t_int64 D.length (fun i => capOf D i - ambOf D i - need L j i), fun x _ => L.length - x.toNat,
    ⟨e2, hb0.lt, 0, rfl, Nat.zero_le _, fun m hm => by omega, fun i hi => by have := hdom i hi; simp [need]; omega, hb0⟩, ?_⟩
  clear hdk hb hb0 e2 H2 c z1
  rintro x H6 ⟨e6, z6, j, rfl, hj, hlk, hcp, hb⟩
  unfold F_ref38_valid_r2
  rw [hd.len, hto, hl.len]
  refine iteB_intro (fun c => ?_) (fun c => ?_)
  rotate_left
  · have hjn : j = L.length := by simp at c; omega
    subst hjn
    exact .yes ⟨hn1, hn16, ha0, ha1, fun i hi => by have := hdom i hi; omega, hlk, fun i hi => by have := hdom i hi; have := hcp i hi; omega⟩ e6
  have hjn : j < L.length := by simpa using c
  obtain ⟨a, hpa, hr0, hr1, hr2⟩ := Lnks.at (hl.ext e6) (x := j) (by omega) (by omega)
  refine ⟨by omega, by omega, unSome_mk hpa ⟨_, hr0, _, hr1, _, hr2, ?_⟩⟩
  refine local_mk (by simp) (by simp) ?_
  intro H8 e8 z8 b8
  simp only [Int.toNat_natCast] at b8 ⊢
  have eE := e6.trans e8
  have hb8 := hb.ext e8
  refine ⟨_, b8.rd0 rfl, iteB_intro (fun c => .no (fun h => ?_) eE) (fun d1 => ⟨_, b8.rd0 rfl, iteB_intro (fun c => .no (fun h => ?_) eE) (fun d2 => ⟨_, b8.rd (i := 1) rfl, iteB_intro (fun c => .no (fun h => ?_) eE) (fun d3 => ⟨_, b8.rd (i := 1) rfl, iteB_intro (fun c => .no (fun h => ?_) eE) (fun d4 => ⟨_, b8.rd0 rfl, _, b8.rd (i := 1) rfl, iteB_intro (fun c => .no (fun h => ?_) eE) (fun d5 =>
    ⟨_, b8.rd (i := 2) rfl, iteB_intro (fun c => .no (fun h => ?_) eE) (fun d6 => ?_)⟩)⟩)⟩)⟩)⟩)⟩
  · have := (h.lnk j hjn).a0; simp at c; omega
  · have := (h.lnk j hjn).a1; simp at c; omega
  · have := (h.lnk j hjn).b0; simp at c; omega
  · have := (h.lnk j hjn).b1; simp at c; omega
  · have := (h.lnk j hjn).ne; simp at c; omega
  · have := (h.lnk j hjn).c0; simp at c; omega
  have d1' : 0 ≤ lA L j := by simpa using d1
  have d2' : lA L j < D.length := by simp at d2; omega
  have d3' : 0 ≤ lB L j := by simpa using d3
  have d4' : lB L j < D.length := by simp at d4; omega
  have d5' : lA L j ≠ lB L j := by simpa using d5
  have d6' : 1 ≤ lC L j := by simp at d6; omega
  have hA : (lA L j).toNat < D.length := by omega
  have hB : (lB L j).toNat < D.length := by omega
  have hAB : (lA L j).toNat ≠ (lB L j).toNat := by omega
  have hdA := hdom _ hA
  have hdB := hdom _ hB
  have hnA := (need_bound (L := L) (n := D.length) (lA L j).toNat j hlk).1
  have hnB := (need_bound (L := L) (n := D.length) (lB L j).toNat j hlk).1
  have hcA := hcp _ hA
  have hcB := hcp _ hB
  refine ⟨_, b8.rd (i := 2) rfl, _, b8.rd0 rfl, d1', d2', _, hb8.rd hA, iteB_intro (fun c => .no (fun h => ?_) eE) (fun d7 => ⟨_, b8.rd (i := 2) rfl, _, b8.rd (i := 1) rfl, d3', d4', _, hb8.rd hB, iteB_intro (fun c => .no (fun h => ?_) eE) (fun d8 => ?_)⟩)⟩
  · have := (h.room hjn).1; simp at c; omega
  · have := (h.room hjn).2; simp at c; omega
  have d7' : lC L j ≤ capOf D (lA L j).toNat - ambOf D (lA L j).toNat - need L j (lA L j).toNat := by simpa using d7
  have d8' : lC L j ≤ capOf D (lB L j).toNat - ambOf D (lB L j).toNat - need L j (lB L j).toNat := by simpa using d8
  refine ⟨_, b8.rd0 rfl, _, b8.rd0 rfl, d1', d2', _, hb8.rd hA, _, b8.rd (i := 2) rfl, d1', d2', hb8.ok hA, letH_mk ?_⟩
  intro H9 h9
  rw [i64_in (n := capOf D (lA L j).toNat - ambOf D (lA L j).toNat - need L j (lA L j).toNat - lC L j) (by omega)] at h9
  have m9 : Mods [H.size] H8 H9 := by rw [h9]; exact mods_wr_add (by simp)
  have hb9 := hb8.wr hA (capOf D (lA L j).toNat - ambOf D (lA L j).toNat - need L j (lA L j).toNat - lC L j)
  rw [← h9] at hb9
  clear h9
  have b9 := b8.mods m9 (by simp; omega)
  have hrB := hb9.rd hB
  rw [upd_ne (fun e => hAB e.symm)] at hrB
  refine ⟨_, b9.rd (i := 1) rfl, _, b9.rd (i := 1) rfl, d3', d4', _, hrB, _, b9.rd (i := 2) rfl, d3', d4', hb9.ok hB, letH_mk ?_⟩
  intro H10 h10
  rw [i64_in (n := capOf D (lB L j).toNat - ambOf D (lB L j).toNat - need L j (lB L j).toNat - lC L j) (by omega)] at h10
  have m10 : Mods [H.size] H9 H10 := by rw [h10]; exact mods_wr_add (by simp)
  have hb10 := hb9.wr hB (capOf D (lB L j).toNat - ambOf D (lB L j).toNat - need L j (lB L j).toNat - lC L j)
  rw [← h10] at hb10
  clear h10
  have b10 := b9.mods m10 (by simp; omega)
  have e10 : Ext H H10 := Mods.ext (Mods.ext eE m9 (by simp)) m10 (by simp)
  have z9 := m9.size
  have z10 := m10.size
  have hb10' : IBlk .i64 H10 H.size t_int64 D.length (fun i => capOf D i - ambOf D i - need L (j + 1) i) := hb10.congr (fun i hi => by
    simp only [need]
    by_cases eB : i = (lB L j).toNat
    · subst eB
      rw [upd_same, if_neg hAB, if_pos rfl]
      omega
    · rw [upd_ne eB]
      by_cases eA : i = (lA L j).toNat
      · subst eA
        rw [upd_same, if_pos rfl, if_neg (fun e => hAB e.symm)]
        omega
      · rw [upd_ne eA, if_neg (fun e => eA e.symm), if_neg (fun e => eB e.symm)]
        omega)
  refine ⟨fun x H' => H' = H10 ∧ ∃ m : Nat, x = m ∧ m ≤ j ∧ ∀ q, q < m → ¬ same2 L q j, fun x _ => j - x.toNat, ⟨rfl, 0, rfl, Nat.zero_le _, fun q hq => by omega⟩, ?_⟩
  rintro x H11 ⟨rfl, m, rfl, hm, hno⟩
  unfold F_ref38_valid_r1
  rw [hl.len]
  refine iteB_intro (fun c => ?_) (fun c => ?_)
  · have hmj : m < j := by simpa using c
    obtain ⟨al, hpl, t0, t1, t2⟩ := Lnks.at (hl.ext e10) (x := m) (by omega) (by omega)
    simp only [Int.toNat_natCast] at t0 t1 t2
    have bad : same2 L m j → ¬ VS D L amb := fun hs h => (h.lnk j hjn).once m hmj hs
    have good : ¬ same2 L m j → (H11 = H11 ∧ ∃ m' : Nat, ((m + 1 : Nat) : Int) = m' ∧ m' ≤ j ∧ ∀ q, q < m' → ¬ same2 L q j) ∧ j - (((m + 1 : Nat) : Int)).toNat < j - ((m : Int)).toNat := fun hs => ⟨⟨rfl, m + 1, rfl, by omega, fun q hq => by
      by_cases e : q = m
      · subst e; exact hs
      · exact hno q (by omega)⟩, by simp only [Int.toNat_natCast]; omega⟩
    have hstep : IntKind.i64.wrap ((m : Int) + 1) = ((m + 1 : Nat) : Int) := by rw [i64_in (by omega)]; simp
    refine ⟨by omega, by omega, unSome_mk hpl ⟨_, t0, _, b10.rd0 rfl, iteB_intro (fun c1 => ⟨by omega, by omega, unSome_mk hpl ⟨_, t1, _, b10.rd (i := 1) rfl, iteB_intro (fun c2 => .no (bad ?_) e10) (fun c2 => ⟨by omega, by omega, unSome_mk hpl ⟨_, t0, _, b10.rd (i := 1) rfl, iteB_intro (fun c3 => ⟨by omega, by omega, unSome_mk hpl ⟨_, t1, _, b10.rd0 rfl, iteB_intro (fun c4 => .no (bad ?_) e10) (fun c4 => letV_mk _ hstep (good ?_))⟩⟩) (fun c3 => letV_mk _ hstep (good ?_))⟩⟩)⟩⟩)
      (fun c1 => ⟨by omega, by omega, unSome_mk hpl ⟨_, t0, _, b10.rd (i := 1) rfl, iteB_intro (fun c3 => ⟨by omega, by omega, unSome_mk hpl ⟨_, t1, _, b10.rd0 rfl, iteB_intro (fun c4 => .no (bad ?_) e10) (fun c4 => letV_mk _ hstep (good ?_))⟩⟩) (fun c3 => letV_mk _ hstep (good ?_))⟩⟩)⟩⟩
    all_goals unfold same2
    all_goals simp at *
    all_goals omega
  · have hmj : m = j := by simp at c; omega
    subst hmj
    have hlast : LnkOk D.length L m := ⟨d1', d2', d3', d4', d5', d6', by omega, hno⟩
    refine letV_mk ((m + 1 : Nat) : Int) (by rw [i64_in (by omega)]; simp) ⟨⟨e10, by omega, m + 1, rfl, by omega, fun q hq => ?_, fun i hi => ?_, hb10'⟩, by simp only [Int.toNat_natCast]; omega⟩
    · by_cases e : q = m
      · subst e; exact hlast
      · exact hlk q (by omega)
    · have hci := hcp i hi
      simp only [need]
      by_cases eA : (lA L m).toNat = i
      · subst eA
        rw [if_pos rfl, if_neg (fun e => hAB e.symm)]
        omega
      · rw [if_neg eA]
        by_cases eB : (lB L m).toNat = i
        · subst eB
          rw [if_pos rfl]
          omega
        · rw [if_neg eB]
          omega

end Go.Proofs.Ytenpfhfhjpipaaa
