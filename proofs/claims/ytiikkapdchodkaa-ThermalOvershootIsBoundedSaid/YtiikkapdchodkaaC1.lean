/-
  Contracts of the heat model's small functions, over the shallow readings.
-/
import Derived.Test.YtiikkapdchodkaaW
import Derived.Test.YtiikkapdchodkaaEngL
import Derived.Test.YtiikkapdchodkaaPlain
namespace Go.Proofs.Ytiikkapdchodkaa
open Go.Eng Go.Heat

variable {Q : Nat → Prop}

/-! ### helpers -/

def modI (v n : Int) : Int := IntKind.u64.wrap v % n

theorem modI_range (v : Int) {n : Int} (hn : 0 < n) : 0 ≤ modI v n ∧ modI v n < n :=
  ⟨Int.emod_nonneg _ (by omega), Int.emod_lt_of_pos _ hn⟩

theorem Mod_spec (v n : Int) (H : Heap) (hn : 0 < n) (hn2 : n ≤ 9223372036854775807) :
    CallsH Try.prog n_help_Mod #[.int .i64 v, .int .i64 n] H (fun r H' => r = .int .i64 (modI v n) ∧ H' = H) := by
  refine F_help_Mod_ok v n ?_
  unfold F_help_Mod
  have hw : IntKind.u64.wrap n = n := u64_in (by omega)
  rw [hw]
  rw [Int.tmod_eq_emod_of_nonneg (u64_nonneg v)]
  have h1 := modI_range v hn
  refine ⟨by omega, letV_mk _ rfl ?_⟩
  have h2 : IntKind.i64.wrap (IntKind.u64.wrap v % n) = modI v n := i64_in (by unfold modI at h1; omega)
  rw [h2]
  exact ⟨rfl, rfl⟩

theorem Mod_pure (v n : Int) (hn : 0 < n) (hn2 : n ≤ 9223372036854775807) {K : Value → Prop} (h : K (.int .i64 (modI v n))) :
    CallsP Try.prog n_help_Mod #[.int .i64 v, .int .i64 n] K := ⟨_, fun H => Mod_spec v n H hn hn2, h⟩

/-- 'int64(uint64(x) % m)' -/
theorem umod_code (x : Int) {m : Int} (hm : 0 < m) (hm2 : m ≤ 9223372036854775807) : IntKind.i64.wrap ((IntKind.u64.wrap x).tmod m) = modI x m := by
  rw [Int.tmod_eq_emod_of_nonneg (u64_nonneg x)]
  have h1 := modI_range x hm
  exact i64_in (by unfold modI at h1; omega)

/-! ### the data -/

abbrev Dom := Int × Int
abbrev Lnk := Int × Int × Int
def encD (d : Dom) : List Value := [.int .i64 d.1, .int .i64 d.2]
def encL (l : Lnk) : List Value := [.int .i64 l.1, .int .i64 l.2.1, .int .i64 l.2.2]
theorem encD_len (d : Dom) : (encD d).length = 2 := rfl
theorem encL_len (d : Lnk) : (encL d).length = 3 := rfl

abbrev Doms (H : Heap) (s : Sl) (l : List Dom) : Prop := IsS 2 encD H s l
abbrev Lnks (H : Heap) (s : Sl) (l : List Lnk) : Prop := IsS 3 encL H s l

def capOf (D : List Dom) (i : Nat) : Int := (D.getD i (1, 1)).1
def ambOf (D : List Dom) (i : Nat) : Int := (D.getD i (1, 1)).2

theorem Doms.at {H : Heap} {s : Sl} {D : List Dom} (h : Doms H s D) {x : Int} (h0 : 0 ≤ x) (h1 : x < D.length) :
    ∃ a, s.p = some a ∧ rd H (a.add (x.toNat * 2)) = some (.int .i64 (capOf D x.toNat)) ∧ rd H ((a.add (x.toNat * 2)).add 1) = some (.int .i64 (ambOf D x.toNat)) := by
  have hx : x.toNat < D.length := by omega
  obtain ⟨a, hp, hr⟩ := h.get (i := x.toNat) (x := D.getD x.toNat (1, 1)) (by simp [hx])
  exact ⟨a, hp, hr 0 _ rfl, hr 1 _ rfl⟩

def lA (L : List Lnk) (i : Nat) : Int := (L.getD i (0, 0, 0)).1
def lB (L : List Lnk) (i : Nat) : Int := (L.getD i (0, 0, 0)).2.1
def lC (L : List Lnk) (i : Nat) : Int := (L.getD i (0, 0, 0)).2.2

theorem Lnks.at {H : Heap} {s : Sl} {D : List Lnk} (h : Lnks H s D) {x : Int} (h0 : 0 ≤ x) (h1 : x < D.length) :
    ∃ a, s.p = some a ∧ rd H (a.add (x.toNat * 3)) = some (.int .i64 (lA D x.toNat)) ∧ rd H ((a.add (x.toNat * 3)).add 1) = some (.int .i64 (lB D x.toNat)) ∧
      rd H ((a.add (x.toNat * 3)).add 2) = some (.int .i64 (lC D x.toNat)) := by
  have hx : x.toNat < D.length := by omega
  obtain ⟨a, hp, hr⟩ := h.get (i := x.toNat) (x := D.getD x.toNat (0, 0, 0)) (by simp [hx])
  exact ⟨a, hp, hr 0 _ rfl, hr 1 _ rfl, hr 2 _ rfl⟩

/-- A model in memory: its block 'b' (of type 'tm'), its energies in block 'be'. -/
structure HM (tm : TypeId) (Q : Nat → Prop) (H : Heap) (b be : Nat) (D : List Dom) (L : List Lnk) (amb : Int) (E : Nat → Int) (rel : Int) : Prop where
  ex : ∃ (d l : Sl) (ce : Nat), Blk H b tm [.slice d.p d.n d.c, .slice l.p l.n l.c, .int .i64 amb, .slice (some ⟨be, 0, none⟩) D.length ce, .int .i64 rel] ∧ Doms H d D ∧ Lnks H l L ∧
    (∀ a, d.p = some a → a.block ≠ b ∧ a.block ≠ be ∧ a.block < H.size ∧ Q a.block) ∧ (∀ a, l.p = some a → a.block ≠ b ∧ a.block ≠ be ∧ a.block < H.size ∧ Q a.block)
  en : IBlk .i64 H be t_int64 D.length E
  ne : b ≠ be

theorem HM.ext {tm : TypeId} {H H' : Heap} {b be : Nat} {D : List Dom} {L : List Lnk} {amb : Int} {E : Nat → Int} {rel : Int} (h : HM tm Q H b be D L amb E rel) (he : Ext H H') : HM tm Q H' b be D L amb E rel := by
  obtain ⟨⟨d, l, ce, g1, g2, g3, g4, g5⟩, g6, g7⟩ := h
  exact ⟨⟨d, l, ce, g1.ext he, g2.ext he, g3.ext he, fun a ha => by have := g4 a ha; have := he.size; exact ⟨(g4 a ha).1, (g4 a ha).2.1, by omega, (g4 a ha).2.2.2⟩, fun a ha => by have := g5 a ha; have := he.size; exact ⟨(g5 a ha).1, (g5 a ha).2.1, by omega, (g5 a ha).2.2.2⟩⟩, g6.ext he, g7⟩

theorem HM.congr {tm : TypeId} {H : Heap} {b be : Nat} {D : List Dom} {L : List Lnk} {amb : Int} {E E' : Nat → Int} {rel : Int} (h : HM tm Q H b be D L amb E rel) (he : ∀ i, i < D.length → E i = E' i) : HM tm Q H b be D L amb E' rel := by
  obtain ⟨g1, g6, g7⟩ := h
  exact ⟨g1, g6.congr he, g7⟩

theorem HM.blt {tm : TypeId} {H : Heap} {b be : Nat} {D : List Dom} {L : List Lnk} {amb : Int} {E : Nat → Int} {rel : Int} (h : HM tm Q H b be D L amb E rel) : b < H.size ∧ be < H.size := by
  obtain ⟨⟨d, l, ce, g1, _⟩, g6, g7⟩ := h
  exact ⟨g1.lt, g6.lt⟩

/-- The data are such that nothing overflows. -/
structure Sane (D : List Dom) (L : List Lnk) (amb : Int) (E : Nat → Int) : Prop where
  n16 : D.length ≤ 16
  cap : ∀ i, i < D.length → 1 ≤ capOf D i ∧ capOf D i ≤ 16777216
  am : ∀ i, i < D.length → 0 ≤ ambOf D i ∧ ambOf D i ≤ 16777216
  lnk : ∀ i, i < L.length → 0 ≤ lA L i ∧ lA L i < D.length ∧ 0 ≤ lB L i ∧ lB L i < D.length ∧ lA L i ≠ lB L i ∧ 0 ≤ lC L i ∧ lC L i ≤ 16777216
  nl : L.length ≤ 1000
  amb : -33554432 ≤ amb ∧ amb ≤ 33554432
  en : ∀ i, i < D.length → -1125899906842624 ≤ E i ∧ E i ≤ 1125899906842624
  tmp : ∀ i, i < D.length → -67108864 ≤ E i / capOf D i ∧ E i / capOf D i ≤ 67108864

def tempOf (D : List Dom) (E : Nat → Int) (i : Nat) : Int := E i / capOf D i
def tempZ (D : List Dom) (E : Nat → Int) (x : Int) : Int := if x < 0 ∨ x ≥ D.length then 0 else tempOf D E x.toNat

theorem Temperature_spec (b be : Nat) (D : List Dom) (L : List Lnk) (amb : Int) (E : Nat → Int) (rel x : Int) (H : Heap) (h : HM t_heat_Model Q H b be D L amb E rel) (hs : Sane D L amb E) :
    CallsH Try.prog n_heat_Model_Temperature #[.pointer (some ⟨b, 0, none⟩), .int .i64 x] H (fun v H' => v = .int .i64 (tempZ D E x) ∧ H' = H) := by
  obtain ⟨⟨d, l, ce, g1, g2, g3, g4, g5⟩, g6, g7⟩ := h
  refine F_heat_Model_Temperature_ok _ _ ?_
  unfold F_heat_Model_Temperature
  refine iteB_intro (fun c => ?_) (fun c => ?_)
  · have : x < 0 := by simpa using c
    exact ⟨by simp [tempZ, this], rfl⟩
  · have hx0 : 0 ≤ x := by simpa using c
    refine ⟨d, g1.rd0 rfl, iteB_intro (fun c2 => ?_) (fun c2 => ?_)⟩
    · rw [g2.len] at c2
      have : x ≥ D.length := by simpa using c2
      exact ⟨by simp [tempZ, this], rfl⟩
    · rw [g2.len] at c2
      have hx1 : x < D.length := by simpa using c2
      have hn : x.toNat < D.length := by omega
      obtain ⟨a, hp, hr, _⟩ := g2.at hx0 hx1
      refine ⟨⟨some ⟨be, 0, none⟩, D.length, ce⟩, g1.rd (i := 3) rfl, hx0, hx1, ?_⟩
      refine ⟨E x.toNat, g6.rd hn, d, g1.rd0 rfl, hx0, by rw [g2.len]; exact hx1, unSome_mk hp ⟨capOf D x.toNat, hr, ?_⟩⟩
      have hc := hs.cap _ hn
      have he := hs.en _ hn
      have hb := tdiv_bound (C := capOf D x.toNat) he.1 he.2
      have hfl := floor_code (E := E x.toNat) (C := capOf D x.toNat) (by omega)
      have ht : tempZ D E x = E x.toNat / capOf D x.toNat := by
        unfold tempZ
        rw [if_neg (by omega)]
        rfl
      rw [ht, ← hfl]
      refine ⟨by omega, letV_mk _ (i64_in (by omega)) ⟨by omega, iteB_intro (fun c3 => ?_) (fun c3 => ?_)⟩⟩
      · have c3' : (E x.toNat).tmod (capOf D x.toNat) < 0 := by simpa using c3
        refine letV_mk _ (i64_in (by omega)) ?_
        rw [if_pos c3']
        exact ⟨rfl, rfl⟩
      · have c3' : ¬ (E x.toNat).tmod (capOf D x.toNat) < 0 := by simpa using c3
        rw [if_neg c3']
        exact ⟨rfl, rfl⟩

theorem temperatures_spec (b be : Nat) (D : List Dom) (L : List Lnk) (amb : Int) (E : Nat → Int) (rel : Int) (H : Heap) (h : HM t_heat_Model Q H b be D L amb E rel) (hs : Sane D L amb E) :
    CallsH Try.prog n_heat_Model_temperatures #[.pointer (some ⟨b, 0, none⟩)] H (fun v H' => ∃ s : Sl, v = .slice s.p s.n s.c ∧ Ints .i64 H' s (tab D.length (tempOf D E)) ∧ NewP H.size s.p ∧ Ext H H') := by
  have hh := h
  obtain ⟨⟨d, l, ce, g1, g2, g3, g4, g5⟩, g6, g7⟩ := h
  refine F_heat_Model_temperatures_ok _ ?_
  unfold F_heat_Model_temperatures
  have hn16 := hs.n16
  refine ⟨d, g1.rd0 rfl, by omega, by omega, by rw [g2.len]; omega, letH_mk ?_⟩
  rintro H1 rfl
  have z1 := IBlk.zero (k := .i64) H t_int64 (d.n : Int).toNat
  rw [show ((d.n : Int).toNat) = D.length by rw [g2.len]; simp] at *
  refine ⟨fun x H' => Ext H H' ∧ ∃ k : Nat, x = k ∧ k ≤ D.length ∧ IBlk .i64 H' H.size t_int64 D.length (fun i => if i < k then tempOf D E i else 0), fun x _ => D.length - x.toNat,
    ⟨Ext.push _ _, 0, rfl, Nat.zero_le _, z1.congr (fun i _ => by simp)⟩, ?_⟩
  rintro x H2 ⟨ex, k, rfl, hk, hb⟩
  unfold F_heat_Model_temperatures_r1
  rw [show ((d.n : Int).toNat) = D.length by rw [g2.len]; simp]
  refine iteB_intro (fun c => ?_) (fun c => ?_)
  · have hkn : k < D.length := by simpa using c
    refine (Temperature_spec b be D L amb E rel k H2 (hh.ext ex) hs).mono ?_
    rintro v H3 ⟨rfl, rfl⟩
    have ht : tempZ D E k = tempOf D E k := by
      unfold tempZ
      rw [if_neg (by omega)]
      simp
    refine ⟨_, rfl, by omega, by omega, hb.ok hkn, letH_mk ?_⟩
    rintro H4 rfl
    rw [show IntKind.i64.wrap ((k : Int) + 1) = ((k + 1 : Nat) : Int) by rw [i64_in (by omega)]; simp]
    refine ⟨⟨Mods.ext ex (mods_wr_add (S := [H.size]) (by simp)) (by simp), k + 1, rfl, by omega, ?_⟩, by simp only [Int.toNat_natCast]; omega⟩
    refine (hb.wr hkn _).congr (fun i hi => ?_)
    rw [ht]
    by_cases e : i = k
    · subst e; rw [upd_same, if_pos (by omega)]
    · rw [upd_ne e]
      by_cases e2 : i < k
      · rw [if_pos e2, if_pos (by omega)]
      · rw [if_neg e2, if_neg (by omega)]
  · have hkn : k = D.length := by simp at c; omega
    subst hkn
    refine ⟨⟨some ⟨H.size, 0, none⟩, D.length, D.length⟩, rfl, ?_, NewP.some (Nat.le_refl _), ex⟩
    rw [tab_congr (g := fun i => if i < D.length then tempOf D E i else 0) (fun i hi => by rw [if_pos hi])]
    exact hb.ints _

def powOk (p : List Int) (n : Int) : Bool := decide ((p.length : Int) = n ∧ ∀ x ∈ p, 0 ≤ x ∧ x ≤ 16777216)

theorem validPower_spec (H : Heap) (s : Sl) (p : List Int) (n : Int) (h : Ints .i64 H s p) (hl : p.length ≤ 9223372036854775807) :
    CallsH Try.prog n_heat_validPower #[.slice s.p s.n s.c, .int .i64 n] H (fun v H' => v = .bool (powOk p n) ∧ H' = H) := by
  refine F_heat_validPower_ok _ _ ?_
  unfold F_heat_validPower
  refine iteB_intro (fun c => ?_) (fun c => ?_)
  · rw [h.len] at c
    have : (p.length : Int) ≠ n := by simpa using c
    refine ⟨?_, rfl⟩
    have : powOk p n = false := by unfold powOk; simp [this]
    rw [this]
  · rw [h.len] at c
    have hn : (p.length : Int) = n := by simpa using c
    refine ⟨fun x H' => H' = H ∧ ∃ k : Nat, x = k ∧ k ≤ p.length ∧ ∀ i, i < k → 0 ≤ p.getD i 0 ∧ p.getD i 0 ≤ 16777216, fun x _ => p.length - x.toNat, ⟨rfl, 0, rfl, Nat.zero_le _, fun i hi => by omega⟩, ?_⟩
    rintro x H1 ⟨rfl, k, rfl, hk, hall⟩
    unfold F_heat_validPower_r1
    rw [h.len]
    refine iteB_intro (fun c => ?_) (fun c => ?_)
    · have hkn : k < p.length := by simp at c; omega
      obtain ⟨a, hp, hr⟩ := h.at (x := k) (by omega) (by omega)
      have bad : ¬ (0 ≤ p.getD k 0 ∧ p.getD k 0 ≤ 16777216) → powOk p n = false := by
        intro hbad
        unfold powOk
        rw [decide_eq_false_iff_not]
        rintro ⟨_, hall⟩
        refine hbad ?_
        have := hall (p.getD k 0) (by simp [hkn])
        exact this
      simp only [Int.toNat_natCast] at hr
      refine ⟨by omega, by omega, unSome_mk hp ⟨_, by simpa using hr, iteB_intro (fun c2 => ?_) (fun c2 => iteB_intro (fun c3 => ?_) (fun c3 => ?_))⟩⟩
      · have c2' : p.getD k 0 < 0 := by simpa using c2
        rw [bad (by omega)]
        exact ⟨rfl, rfl⟩
      · have c3' : p.getD k 0 > 16777216 := by simpa using c3
        rw [bad (by omega)]
        exact ⟨rfl, rfl⟩
      · have c2' : ¬ p.getD k 0 < 0 := by simpa using c2
        have c3' : ¬ p.getD k 0 > 16777216 := by simpa using c3
        rw [show IntKind.i64.wrap ((k : Int) + 1) = ((k + 1 : Nat) : Int) by rw [i64_in (by omega)]; simp]
        refine ⟨⟨rfl, k + 1, rfl, by omega, fun i hi => ?_⟩, by simp only [Int.toNat_natCast]; omega⟩
        by_cases e : i = k
        · subst e; omega
        · exact hall i (by omega)
    · have hkn : k = p.length := by simp at c; omega
      subst hkn
      have : powOk p n = true := by
        unfold powOk
        rw [decide_eq_true_eq]
        refine ⟨hn, fun x hx => ?_⟩
        obtain ⟨i, hi, rfl⟩ := List.getElem_of_mem hx
        have := hall i hi
        simpa [hi] using this
      rw [this]
      exact ⟨rfl, rfl⟩

end Go.Proofs.Ytiikkapdchodkaa
