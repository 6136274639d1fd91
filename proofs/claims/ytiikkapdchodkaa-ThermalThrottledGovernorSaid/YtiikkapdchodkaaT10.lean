/-
  Contracts of the load governor.
-/
import Derived.Test.YtiikkapdchodkaaT8
namespace Go.Proofs.Ytiikkapdchodkaa
open Go.Eng

variable {Q : Nat → Prop}

theorem CloneO_spec (H : Heap) (s : Sl) (l : List Act) (h : Acts H s l) (hn : s.n ≤ 1000000) :
    CallsH Try.prog n_slices_Clone_sl_api_OperatingPoint_api_OperatingPoint #[.slice s.p s.n s.c] H (CloneP 3 encA l H) := by
  refine F_slices_Clone_sl_api_OperatingPoint_api_OperatingPoint_ok _ ?_
  exact clone_vc (P := Try.prog) (st := t_sl_api_OperatingPoint) (e := t_api_OperatingPoint) (R := CloneP 3 encA l H) (z := .agg #[.int .u64 0, .int .u64 0, .int .u64 0]) (sz := 3) (bytes := 24) (enc := encA) (by kernel_rfl) (by kernel_rfl) rfl (by omega) encA_len (fun x u hu => by simp [encA] at hu; rcases hu with rfl | rfl | rfl <;> rfl) h (by simp [maxLen]; omega) (by omega)
    (fun s' H' ho hi he => ⟨s', rfl, hi, ho.new, ho.lt, he⟩)

/-- A governor in memory. -/
structure GM (Q : Nat → Prop) (H : Heap) (g : Nat) (P : List Act) (lo hi cur : Int) : Prop where
  ex : ∃ (d : Sl) (cnt : Int), Blk H g t_perf_Governor [.slice d.p d.n d.c, .int .i64 80, .int .i64 30, .int .i64 2, .int .i64 lo, .int .i64 hi, .int .i64 cur, .int .i64 cnt] ∧ Acts H d P ∧ (∀ a, d.p = some a → a.block ≠ g ∧ a.block < H.size ∧ Q a.block)

theorem GM.mods {H H' : Heap} {g : Nat} {P : List Act} {lo hi cur : Int} {S : List Nat} (h : GM Q H g P lo hi cur) (hm : Mods S H H') (hg : g ∉ S) (hq : ∀ k, Q k → k ∉ S) : GM Q H' g P lo hi cur := by
  obtain ⟨d, cnt, g1, g2, g3⟩ := h
  have := hm.size
  exact ⟨d, cnt, g1.mods hm hg, g2.mods hm (fun a ha => hq _ (g3 a ha).2.2), fun a ha => ⟨(g3 a ha).1, by have := (g3 a ha).2.1; omega, (g3 a ha).2.2⟩⟩
theorem GM.ext {H H' : Heap} {g : Nat} {P : List Act} {lo hi cur : Int} (h : GM Q H g P lo hi cur) (he : Ext H H') : GM Q H' g P lo hi cur := h.mods (S := []) he.mods (by simp) (by simp)
theorem GM.lt {H : Heap} {g : Nat} {P : List Act} {lo hi cur : Int} (h : GM Q H g P lo hi cur) : g < H.size := by obtain ⟨d, cnt, g1, _⟩ := h; exact g1.lt

theorem perfNew_spec (H : Heap) (s : Sl) (P : List Act) (h : Acts H s P) (hv : VP P) :
    CallsH Try.prog n_perf_New #[.slice s.p s.n s.c, .agg #[.int .i64 80, .int .i64 30, .int .i64 2]] H
      (fun v H' => ∃ g, v = .tuple #[.pointer (some ⟨g, 0, none⟩), .int .i64 0] ∧ H.size ≤ g ∧ GM (fun k => H.size ≤ k ∧ k < g) H' g P 0 (P.length - 1) 0 ∧ Ext H H') := by
  refine F_perf_New_ok _ _ _ _ ?_
  unfold F_perf_New
  have hsn := h.len
  have hl := hv.2.1
  refine push_mk (vs := [.int .i64 80, .int .i64 30, .int .i64 2]) fun H1 e1 _ b1 => ?_
  refine (perfCheck_spec H1 s P (h.ext e1)).mono ?_
  rintro v H2 ⟨rfl, e2⟩
  rw [errI_t hv]
  have b2 := b1.ext e2
  have r0 := b2.rd0 rfl
  have r1 := b2.rd (i := 1) rfl
  have r2 := b2.rd (i := 2) rfl
  refine ⟨_, rfl, iteB_neg rfl ⟨_, r0, iteB_neg rfl ⟨_, r0, iteB_neg rfl ⟨_, r1, iteB_neg rfl ⟨_, r1, _, r0, iteB_neg rfl ⟨_, r2, iteB_neg rfl ⟨_, r2, iteB_neg rfl ⟨_, r0, _, r1, _, r2, ?_⟩⟩⟩⟩⟩⟩⟩⟩
  have x2 := e1.trans e2
  refine (CloneO_spec H2 s P (h.ext x2) (by omega)).mono ?_
  rintro v H3 ⟨d, rfl, i3, n3, l3, e3⟩
  rw [hsn, i64_in (n := (P.length : Int) - 1) (by omega)]
  refine ⟨d, rfl, e3, push_mk (vs := [.slice d.p d.n d.c, .int .i64 80, .int .i64 30, .int .i64 2, .int .i64 0, .int .i64 ((P.length : Int) - 1), .int .i64 0, .int .i64 0]) fun H4 e4 z4 b4 => ?_⟩
  have z := x2.size
  have z3 := e3.size
  exact ⟨H3.size, rfl, by omega, ⟨d, 0, b4, i3.ext e4, fun a ha => by have := n3 a ha; have := l3 a ha; omega⟩, (x2.trans e3).trans e4⟩

theorem Limit_spec (H : Heap) (g : Nat) (P : List Act) (hi k : Int) (h : GM Q H g P 0 hi 0) (hk : 0 ≤ k ∧ k < P.length) :
    CallsH Try.prog n_perf_Governor_Limit #[.pointer (some ⟨g, 0, none⟩), .int .i64 0, .int .i64 k] H (fun v H' => v = .int .i64 0 ∧ GM Q H' g P 0 k 0 ∧ Mods [g] H H') := by
  refine F_perf_Governor_Limit_ok _ _ _ ?_
  unfold F_perf_Governor_Limit
  obtain ⟨d, cnt, g1, g2, g3⟩ := h
  have hn := g2.len
  refine iteB_dec (fun c => by omega) (fun c => iteB_dec (fun c => by omega) (fun c => ⟨d, g1.rd0 rfl, iteB_dec (fun c => by omega) (fun c => ⟨g1.ok (i := 4) (n := 1) (by simp), letH_mk ?_⟩)⟩))
  rintro H1 rfl
  have w1 := g1.wr1 (i := 4) (w := .int .i64 0)
  refine ⟨w1.ok (i := 5) (n := 1) (by simp), letH_mk ?_⟩
  rintro H2 rfl
  have w2 := w1.wr1 (i := 5) (w := .int .i64 k)
  refine ⟨_, w2.rd (i := 6) rfl, w2.ok (i := 6) (n := 1) (by simp), letH_mk ?_⟩
  rintro H3 rfl
  rw [show (if k < (if (0 : Int) > 0 then (0 : Int) else 0) then k else (if (0 : Int) > 0 then (0 : Int) else 0)) = 0 by simp; omega]
  have w3 := w2.wr1 (i := 6) (w := .int .i64 0)
  refine ⟨w3.ok (i := 7) (n := 1) (by simp), letH_mk ?_⟩
  rintro H4 rfl
  have w4 := w3.wr1 (i := 7) (w := .int .i64 0)
  have mm : Mods [g] H _ := (((mods_wr_add (H := H) (b := g) (i := 4) (vs := [.int .i64 0]) (by simp)).trans (mods_wr_add (b := g) (i := 5) (vs := [.int .i64 k]) (by simp))).trans (mods_wr_add (b := g) (i := 6) (vs := [.int .i64 0]) (by simp))).trans (mods_wr_add (b := g) (i := 7) (vs := [.int .i64 0]) (by simp))
  have hz := mm.size
  exact ⟨rfl, ⟨d, 0, w4, g2.mods mm (fun a ha => by simpa using (g3 a ha).1), fun a ha => ⟨(g3 a ha).1, by have := (g3 a ha).2.1; omega, (g3 a ha).2.2⟩⟩, mm⟩

theorem sufficient_spec (H : Heap) (g : Nat) (P : List Act) (lo hi cur load : Int) (h : GM Q H g P lo hi cur) (hb : 0 ≤ lo ∧ lo ≤ cur ∧ cur ≤ hi ∧ hi < P.length) (hP : P.length ≤ 16) :
    CallsH Try.prog n_perf_Governor_sufficient #[.pointer (some ⟨g, 0, none⟩), .int .i64 load] H (fun v H' => ∃ x : Int, v = .int .i64 x ∧ (lo ≤ x ∧ x ≤ hi) ∧ H' = H) := by
  refine F_perf_Governor_sufficient_ok _ _ ?_
  unfold F_perf_Governor_sufficient
  obtain ⟨d, cnt, g1, g2, g3⟩ := h
  have hn := g2.len
  obtain ⟨c, rfl⟩ : ∃ c : Nat, cur = c := ⟨cur.toNat, by omega⟩
  obtain ⟨a, hp, r0, _, _⟩ := Acts.atN g2 (k := c) (by omega)
  refine ⟨d, g1.rd0 rfl, _, g1.rd (i := 6) rfl, by omega, by omega, unSome_mk hp ⟨_, r0, letV_mk _ rfl ⟨_, g1.rd (i := 4) rfl, ?_⟩⟩⟩
  refine ⟨fun p H' => (lo ≤ p ∧ p ≤ hi) ∧ H' = H, fun p _ => (hi - p).toNat, ⟨by omega, rfl⟩, ?_⟩
  rintro p H1 ⟨hp1, rfl⟩
  unfold F_perf_Governor_sufficient_r1
  refine ⟨_, g1.rd (i := 5) rfl, iteB_dec (fun c1 => ?_) (fun c1 => ⟨_, g1.rd (i := 5) rfl, hi, rfl, by omega, rfl⟩)⟩
  obtain ⟨q, rfl⟩ : ∃ q : Nat, p = q := ⟨p.toNat, by omega⟩
  obtain ⟨a, hp, r0, _, _⟩ := Acts.atN g2 (k := q) (by omega)
  refine ⟨_, g1.rd (i := 1) rfl, d, g1.rd0 rfl, by omega, by omega, unSome_mk hp ⟨_, r0, iteB_dec (fun c2 => ⟨q, rfl, by omega, rfl⟩) (fun c2 => letV_mk ((q : Int) + 1) (i64_in (by omega)) ⟨⟨by omega, rfl⟩, by dsimp only; omega⟩)⟩⟩

theorem Sample_spec (H : Heap) (g : Nat) (P : List Act) (lo hi cur load : Int) (h : GM Q H g P lo hi cur) (hb : 0 ≤ lo ∧ lo ≤ cur ∧ cur ≤ hi ∧ hi < P.length) (hP : P.length ≤ 16) (hld : 0 ≤ load ∧ load ≤ 100) :
    CallsH Try.prog n_perf_Governor_Sample #[.pointer (some ⟨g, 0, none⟩), .int .i64 load] H (fun v H' => ∃ x : Int, v = .tuple #[.int .i64 x, .int .i64 0] ∧ (lo ≤ x ∧ x ≤ hi) ∧ GM Q H' g P lo hi x ∧ Mods [g] H H') := by
  refine F_perf_Governor_Sample_ok _ _ ?_
  unfold F_perf_Governor_Sample
  obtain ⟨d, cnt, g1, g2, g3⟩ := id h
  refine iteB_dec (fun c => by omega) (fun c => iteB_dec (fun c => by omega) (fun c => ?_))
  have mk : ∀ (H' : Heap) (x cnt' : Int), Mods [g] H H' → Blk H' g t_perf_Governor [.slice d.p d.n d.c, .int .i64 80, .int .i64 30, .int .i64 2, .int .i64 lo, .int .i64 hi, .int .i64 x, .int .i64 cnt'] → GM Q H' g P lo hi x := by
    intro H' x cnt' mm bb
    have hz := mm.size
    exact ⟨d, cnt', bb, g2.mods mm (fun a ha => by simpa using (g3 a ha).1), fun a ha => ⟨(g3 a ha).1, by have := (g3 a ha).2.1; omega, (g3 a ha).2.2⟩⟩
  refine ⟨fun H' => ∃ x, (lo ≤ x ∧ x ≤ hi) ∧ GM Q H' g P lo hi x ∧ Mods [g] H H', ?_, ?_⟩
  · refine ⟨_, g1.rd (i := 1) rfl, iteB_dec (fun c1 => ⟨_, g1.rd (i := 5) rfl, g1.ok (i := 6) (n := 1) (by simp), letH_mk ?_⟩) (fun c1 => ⟨_, g1.rd (i := 2) rfl, iteB_dec (fun c2 => ⟨_, g1.rd (i := 7) rfl, g1.ok (i := 7) (n := 1) (by simp), letH_mk ?_⟩) (fun c2 => ⟨g1.ok (i := 7) (n := 1) (by simp), letH_mk ?_⟩)⟩)⟩
    · rintro H1 rfl
      have w1 := g1.wr1 (i := 6) (w := .int .i64 hi)
      refine ⟨w1.ok (i := 7) (n := 1) (by simp), letH_mk ?_⟩
      rintro H2 rfl
      have mm : Mods [g] H _ := (mods_wr_add (H := H) (b := g) (i := 6) (vs := [.int .i64 hi]) (by simp)).trans (mods_wr_add (b := g) (i := 7) (vs := [.int .i64 0]) (by simp))
      exact ⟨hi, by omega, mk _ _ _ mm (w1.wr1 (i := 7) (w := .int .i64 0)), mm⟩
    · rintro H3 rfl
      generalize IntKind.i64.wrap (cnt + 1) = cnt'
      have w3 := g1.wr1 (i := 7) (w := .int .i64 cnt')
      have m3 : Mods [g] H _ := mods_wr_add (H := H) (b := g) (i := 7) (vs := [.int .i64 cnt']) (by simp)
      refine ⟨_, w3.rd (i := 7) rfl, _, w3.rd (i := 3) rfl, iteB_dec (fun c3 => ⟨w3.ok (i := 7) (n := 1) (by simp), letH_mk ?_⟩) (fun c3 => ⟨cur, by omega, mk _ _ _ m3 w3, m3⟩)⟩
      rintro H4 rfl
      have w4 := w3.wr1 (i := 7) (w := .int .i64 0)
      have m4 := m3.trans (mods_wr_add (b := g) (i := 7) (vs := [.int .i64 0]) (by simp))
      refine (sufficient_spec _ g P lo hi cur load (mk _ _ _ m4 w4) hb hP).mono ?_
      rintro v H5 ⟨x, rfl, hx, rfl⟩
      refine ⟨_, rfl, w4.ok (i := 6) (n := 1) (by simp), letH_mk ?_⟩
      rintro H6 rfl
      have m6 := m4.trans (mods_wr_add (b := g) (i := 6) (vs := [.int .i64 x]) (by simp))
      exact ⟨x, hx, mk _ _ _ m6 (w4.wr1 (i := 6) (w := .int .i64 x)), m6⟩
    · rintro H7 rfl
      have m7 : Mods [g] H _ := mods_wr_add (H := H) (b := g) (i := 7) (vs := [.int .i64 0]) (by simp)
      exact ⟨cur, by omega, mk _ _ _ m7 (g1.wr1 (i := 7) (w := .int .i64 0)), m7⟩
  rintro H8 ⟨x, hx, g8, m8⟩
  unfold F_perf_Governor_Sample_k1
  obtain ⟨d8, cnt8, q1, _, _⟩ := id g8
  exact ⟨_, q1.rd (i := 6) rfl, x, rfl, hx, g8, m8⟩

theorem VP.mono {P : List Act} (h : VP P) : ∀ j i, i ≤ j → j < P.length → mx P i ≤ mx P j := by
  intro j
  induction j with
  | zero => intro i hi _; obtain rfl : i = 0 := by omega
            exact Int.le_refl _
  | succ j ih =>
    intro i hi hj
    by_cases e : i = j + 1
    · subst e; exact Int.le_refl _
    · have h1 := ih i (by omega) (by omega)
      have h2 := (h.2.2 (j + 1) hj).2.2.2.2 (by omega)
      simp only [Nat.add_sub_cancel] at h2
      omega

end Go.Proofs.Ytiikkapdchodkaa
