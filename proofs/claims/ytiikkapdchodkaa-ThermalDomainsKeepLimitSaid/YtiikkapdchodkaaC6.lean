/-
  The walk of the laws' Some, over the shallow reading.
-/
import Derived.Test.YtiikkapdchodkaaC5
namespace Go.Proofs.Ytiikkapdchodkaa
open Go.Eng Go.Heat

theorem oneD (x : Dom) : ∀ u ∈ encD x, oneC u = true := fun u hu => by simp [encD] at hu; rcases hu with rfl | rfl <;> rfl
theorem oneL (x : Lnk) : ∀ u ∈ encL x, oneC u = true := fun u hu => by simp [encL] at hu; rcases hu with rfl | rfl | rfl <;> rfl

theorem modI_small (v : Int) {n : Int} (hn : 0 < n) (hn2 : n ≤ 1000) (c : Int) (hc : -1000 ≤ c ∧ c ≤ 1000) : IntKind.i64.wrap (c + IntKind.i64.wrap ((IntKind.u64.wrap v).tmod n)) = c + modI v n := by
  rw [umod_code v hn (by omega)]
  have := modI_range v hn
  exact i64_in (by omega)

def dupB (L : List Lnk) (A B : Int) : Nat → Bool
  | 0 => false
  | k + 1 => dupB L A B k || ((lA L k == A && lB L k == B) || (lA L k == B && lB L k == A))

theorem dupB_false {L : List Lnk} {A B : Int} : ∀ k, dupB L A B k = false → ∀ m, m < k → ¬ ((lA L m = A ∧ lB L m = B) ∨ (lA L m = B ∧ lB L m = A)) := by
  intro k
  induction k with
  | zero => intro _ m hm; omega
  | succ k ih =>
    intro h m hm
    simp only [dupB, Bool.or_eq_false_iff] at h
    by_cases e : m = k
    · subst e
      obtain ⟨_, h2, h3⟩ := h
      simp at h2 h3
      rintro (⟨x, y⟩ | ⟨x, y⟩)
      · exact h2 x y
      · exact h3 x y
    · exact ih h.1 m (by omega)

set_option maxRecDepth 4000 in
theorem Some_spec1 (H : Heap) (ds ls : Sl) (D0 : List Dom) (L0 : List Lnk) (amb0 : Int) (hd : Doms H ds D0) (hl : Lnks H ls L0) :
    CallsH Try.prog n_law38_Some #[.slice ds.p ds.n ds.c, .slice ls.p ls.n ls.c, .int .i64 amb0] H (SomeP1 D0.length H) := by
  refine F_law38_Some_ok _ _ _ ?_
  unfold F_law38_Some
  refine letH_mk ?_
  intro H1 h1
  have hb1 : Blk H1 H.size t_law38_System [.slice none 0 0, .slice none 0 0, .int .i64 0] := by rw [h1]; exact Blk.new _ _ _
  have z1 : H1.size = H.size + 1 := by rw [h1]; simp
  have e1 : Ext H H1 := by rw [h1]; exact Ext.push _ _
  clear h1
  obtain ⟨n, hn1, hn5, hnle, hnv⟩ : ∃ n : Nat, 1 ≤ n ∧ n ≤ 5 ∧ (n ≤ D0.length ∨ n = 1) ∧ (if (if (5 : Int) < (ds.n : Int) then (5 : Int) else (ds.n : Int)) > (1 : Int) then (if (5 : Int) < (ds.n : Int) then (5 : Int) else (ds.n : Int)) else (1 : Int)) = (n : Int) := by
    rw [hd.len]
    by_cases c1 : (5 : Int) < (D0.length : Int)
    · exact ⟨5, by omega, by omega, by omega, by simp [c1]⟩
    · by_cases c2 : (D0.length : Int) > 1
      · exact ⟨D0.length, by omega, by omega, by omega, by simp [c1]; omega⟩
      · exact ⟨1, by omega, by omega, by omega, by simp [c1]; omega⟩
  refine letV_mk (n : Int) hnv ⟨by omega, by omega, by omega, letH_mk ?_⟩
  have hto : ((n : Int).toNat) = n := by simp
  rw [hto]
  intro H2 h2
  have hb2 : RB H2 H1.size t_api_HeatDomain 2 encD (List.replicate n (0, 0)) := by rw [h2]; exact RB.zero _ _ encD_len _ _ _ rfl
  have z2 : H2.size = H1.size + 1 := by rw [h2]; simp
  have e2 : Ext H1 H2 := by rw [h2]; exact Ext.push _ _
  clear h2
  refine local_mk (by simp) (by simp) ?_
  intro H4 e4 z4 hb4
  have hamb : IntKind.i64.wrap (IntKind.i64.wrap ((IntKind.u64.wrap amb0).tmod 201) - 100) = modI amb0 201 - 100 := by
    rw [umod_code amb0 (by omega) (by omega)]
    have := modI_range amb0 (n := 201) (by omega)
    exact i64_in (by omega)
  rw [hamb] at hb4
  have hr := modI_range amb0 (n := 201) (by omega)
  generalize hav : modI amb0 201 - 100 = av at hb4
  have hav2 : -100 ≤ av ∧ av ≤ 100 := by omega
  have ee : Ext H H4 := (e1.trans e2).trans e4
  have hbs : H2.size = H.size + 2 := by omega
  have hbd : H1.size = H.size + 1 := by omega
  rw [hbs] at hb4
  rw [hbd] at hb2 hb4
  refine ⟨fun x H' => Ext H H' ∧ H.size + 3 ≤ H'.size ∧ ∃ k : Nat, x = k ∧ k ≤ n ∧ Blk H' H.size t_law38_System [.slice none 0 0, .slice none 0 0, .int .i64 0] ∧
      Blk H' (H.size + 2) t_law38_System [.slice (some ⟨H.size + 1, 0, none⟩) n n, .slice none 0 0, .int .i64 av] ∧ ∃ D : List Dom, D.length = n ∧ RB H' (H.size + 1) t_api_HeatDomain 2 encD D ∧
      ∀ i, i < k → 1 ≤ ambOf D i ∧ ambOf D i ≤ 6 ∧ ambOf D i ≤ capOf D i ∧ capOf D i ≤ 13, fun x _ => n - x.toNat,
    ⟨ee, by omega, 0, rfl, Nat.zero_le _, (hb1.ext e2).ext e4, hb4, List.replicate n (0, 0), by simp, hb2.ext e4, fun i hi => by omega⟩, ?_⟩
  rintro x H5 ⟨e5, z5, k, rfl, hk, s5, q5, D, hDn, r5, hD⟩
  unfold F_law38_Some_r3
  rw [hbs]
  refine iteB_intro (fun c => ?_) (fun c => ?_)
  · have hkn : k < n := by simpa using c
    have hkD : k < D.length := by omega
    refine ⟨⟨some ⟨H.size + 1, 0, none⟩, n, n⟩, q5.rd0 rfl, by omega, by simpa using hkn, ?_⟩
    refine ⟨r5.ok0 (by simpa using hkD) (by omega), letH_mk ?_⟩
    intro H6 h6
    simp only [Int.toNat_natCast] at h6 ⊢
    have m6 : Mods [H.size + 1] H5 H6 := by rw [h6]; exact mods_wr_add (by simp)
    have r6 : RB H6 (H.size + 1) t_api_HeatDomain 2 encD (D.set k (1, 1)) := by rw [h6]; exact r5.wrRow (1, 1) hkD
    clear h6
    have e6 : Ext H H6 := Mods.ext e5 m6 (by simp)
    have s6 := s5.mods m6 (by simp)
    have q6 := q5.mods m6 (by simp)
    have z6 := m6.size
    have hstep : IntKind.i64.wrap ((k : Int) + 1) = ((k + 1 : Nat) : Int) := by rw [i64_in (by omega)]; simp
    refine iteB_intro (fun c2 => ?_) (fun c2 => ?_)
    · rw [hd.len] at c2
      have hk0 : k < D0.length := by simpa using c2
      refine ⟨⟨some ⟨H.size + 1, 0, none⟩, n, n⟩, q6.rd0 rfl, by omega, by rw [hd.len]; omega, ?_⟩
      obtain ⟨a, hpa, hr0, hr1⟩ := Doms.at (hd.ext e6) (x := k) (by omega) (by omega)
      simp only [Int.toNat_natCast] at hr0 hr1
      refine unSome_mk hpa ⟨_, hr1, by omega, by simpa using hkn, ?_⟩
      have hkD6 : k < (D.set k (1, 1)).length := by simpa using hkD
      refine ⟨r6.ok hkD6 (by omega), letH_mk ?_⟩
      intro H7 h7
      have ha := modI_range (ambOf D0 k) (n := 6) (by omega)
      rw [modI_small _ (by omega) (by omega) 1 (by omega)] at h7
      generalize hA : 1 + modI (ambOf D0 k) 6 = A at h7
      have m7 : Mods [H.size + 1] H6 H7 := by rw [h7, add_add]; exact mods_wr_add (by simp)
      have r7 : RB H7 (H.size + 1) t_api_HeatDomain 2 encD ((D.set k (1, 1)).set k (1, A)) := by
        rw [h7]
        exact r6.wr (x := (1, 1)) (by simp [hkD]) (by omega) rfl
      clear h7
      rw [List.set_set] at r7
      have e7 : Ext H H7 := Mods.ext e6 m7 (by simp)
      have s7 := s6.mods m7 (by simp)
      have q7 := q6.mods m7 (by simp)
      have z7 := m7.size
      have hkD7 : k < (D.set k (1, A)).length := by simpa using hkD
      refine ⟨⟨some ⟨H.size + 1, 0, none⟩, n, n⟩, q7.rd0 rfl, ⟨some ⟨H.size + 1, 0, none⟩, n, n⟩, q7.rd0 rfl, by omega, by simpa using hkn, ?_⟩
      refine ⟨A, r7.rd (x := (1, A)) (by simp [hkD]) rfl, by omega, by rw [hd.len]; omega, ?_⟩
      obtain ⟨a', hpa', hr0', hr1'⟩ := Doms.at (hd.ext e7) (x := k) (by omega) (by omega)
      simp only [Int.toNat_natCast] at hr0' hr1'
      refine unSome_mk hpa' ⟨_, hr0', by omega, by simpa using hkn, ?_⟩
      refine ⟨r7.ok0 hkD7 (by omega), letH_mk ?_⟩
      intro H8 h8
      have hc := modI_range (capOf D0 k) (n := 8) (by omega)
      rw [modI_small _ (by omega) (by omega) A (by omega)] at h8
      generalize hC : A + modI (capOf D0 k) 8 = C at h8
      have m8 : Mods [H.size + 1] H7 H8 := by rw [h8]; exact mods_wr_add (by simp)
      have r8 : RB H8 (H.size + 1) t_api_HeatDomain 2 encD ((D.set k (1, A)).set k (C, A)) := by
        rw [h8]
        exact r7.wr0 (x := (1, A)) (by simp [hkD]) (by omega) rfl
      clear h8
      rw [List.set_set] at r8
      have e8 : Ext H H8 := Mods.ext e7 m8 (by simp)
      have z8 := m8.size
      refine letV_mk _ hstep ⟨⟨e8, by omega, k + 1, rfl, by omega, s7.mods m8 (by simp), q7.mods m8 (by simp), D.set k (C, A), by simpa using hDn, r8, fun i hi => ?_⟩, by simp only [Int.toNat_natCast]; omega⟩
      by_cases e : k = i
      · subst e
        rw [capOf_same hkD, ambOf_same hkD]
        dsimp only
        omega
      · rw [capOf_ne e, ambOf_ne e]
        exact hD i (by omega)
    · refine letV_mk _ hstep ⟨⟨e6, by omega, k + 1, rfl, by omega, s6, q6, D.set k (1, 1), by simpa using hDn, r6, fun i hi => ?_⟩, by simp only [Int.toNat_natCast]; omega⟩
      by_cases e : k = i
      · subst e
        rw [capOf_same hkD, ambOf_same hkD]
        dsimp only
        omega
      · rw [capOf_ne e, ambOf_ne e]
        exact hD i (by omega)
  have hkn : k = n := by simp at c; omega
  subst hkn
  have hSP0 : SP k D [] 0 := ⟨hDn, by simp, fun j hj => by simp at hj, fun i hi => by have := hD i hi; simp [need]; omega⟩
  refine ⟨fun x H' => Ext H H' ∧ H.size + 3 ≤ H'.size ∧ ∃ j : Nat, x = j ∧ j ≤ 12 ∧ j ≤ L0.length ∧ Blk H' H.size t_law38_System [.slice none 0 0, .slice none 0 0, .int .i64 0] ∧ ∃ (D : List Dom) (L : List Lnk) (sl : Sl),
      Blk H' (H.size + 2) t_law38_System [.slice (some ⟨H.size + 1, 0, none⟩) k k, .slice sl.p sl.n sl.c, .int .i64 av] ∧ RB H' (H.size + 1) t_api_HeatDomain 2 encD D ∧
      Own (H.size + 3) t_api_HeatLink 3 H' sl (L.flatMap encL) ∧ SP k D L j, fun x _ => 12 - x.toNat,
    ⟨e5, z5, 0, rfl, by omega, Nat.zero_le _, s5, D, [], ⟨none, 0, 0⟩, q5, r5, Own.nil _ _ _ _, hSP0⟩, ?_⟩
  clear hSP0 r5 q5 s5 z5 e5 hD hDn D
  rintro x H9 ⟨e9, z9, j, rfl, hj12, hjL, s9, D, L, sl, q9, r9, o9, hSP⟩
  unfold F_law38_Some_r2
  rw [hbs]
  have hlen := hSP.len
  have hLj := hSP.ll
  have done : ∀ {P : Prop}, P → P := fun h => h
  have fin : okRow H9 (⟨H.size, 0, none⟩ : Addr) 3 ∧ letH (wrs H9 (⟨H.size, 0, none⟩ : Addr) [.slice (some ⟨H.size + 1, 0, none⟩) k k, .slice sl.p sl.n sl.c, .int .i64 av]) (fun H20 : Heap =>
      ∃ r : Sl, rd H20 (⟨H.size, 0, none⟩ : Addr) = some (.slice r.p r.n r.c) ∧ ∃ r1 : Sl, rd H20 ((⟨H.size, 0, none⟩ : Addr).add 1) = some (.slice r1.p r1.n r1.c) ∧ ∃ r2 : Int, rd H20 ((⟨H.size, 0, none⟩ : Addr).add 2) = some (.int .i64 r2) ∧ (
      SomeP1 D0.length H (.agg #[.slice r.p r.n r.c, .slice r1.p r1.n r1.c, .int .i64 r2]) H20)) := by
    refine ⟨s9.ok0 (by simp), letH_mk ?_⟩
    intro H20 h20
    have m20 : Mods [H.size] H9 H20 := by rw [h20]; exact Mods.wrs (by simp)
    have s20 : Blk H20 H.size t_law38_System [.slice (some ⟨H.size + 1, 0, none⟩) k k, .slice sl.p sl.n sl.c, .int .i64 av] := by rw [h20]; exact s9.wr
    refine ⟨⟨some ⟨H.size + 1, 0, none⟩, k, k⟩, s20.rd0 rfl, sl, s20.rd (i := 1) rfl, av, s20.rd (i := 2) rfl, ?_⟩
    refine ⟨H.size + 1, sl, D, L, av, ⟨by rw [hlen], hSP.sys ⟨hn1, hn5⟩ hj12 hav2, by omega, r9.mods m20 (by simp), o9.mods m20 (fun a ha => ?_), Mods.ext e9 m20 (by simp)⟩, by rw [hlen]; omega⟩
    have := o9.new a ha
    simp
    omega
  refine iteB_intro (fun c1 => iteB_intro (fun c2 => ?_) (fun c2 => ?_)) (fun c1 => ?_)
  · rw [hl.len] at c1
    have hjl : j < L0.length := by simpa using c1
    have hj2 : j < 12 := by simp at c2; omega
    obtain ⟨a, hpa, hr0, hr1, hr2⟩ := Lnks.at (hl.ext e9) (x := j) (by omega) (by omega)
    refine ⟨by omega, by rw [hl.len]; omega, unSome_mk hpa ⟨_, hr0, Mod_pure _ _ (by omega) (by omega) ⟨_, rfl, by omega, by rw [hl.len]; omega, unSome_mk hpa ⟨_, hr1, Mod_pure _ _ (by omega) (by omega) ⟨_, rfl, by omega, by rw [hl.len]; omega, unSome_mk hpa ⟨_, hr2, ?_⟩⟩⟩⟩⟩⟩
    simp only [Int.toNat_natCast]
    have hA := modI_range (lA L0 j) (n := k) (by omega)
    have hB := modI_range (lB L0 j) (n := k) (by omega)
    have hC := modI_range (lC L0 j) (n := 5) (by omega)
    rw [modI_small _ (by omega) (by omega) 1 (by omega)]
    generalize modI (lA L0 j) k = A at hA
    generalize modI (lB L0 j) k = B at hB
    generalize hCC : 1 + modI (lC L0 j) 5 = C
    have hC2 : 1 ≤ C ∧ C ≤ 5 := by omega
    refine letH_mk ?_
    intro H10 h10
    have e10 : Ext H9 H10 := by rw [h10]; exact Ext.push _ _
    have b10 : Blk H10 H9.size t_api_HeatLink [.int .i64 0, .int .i64 0, .int .i64 0] := by rw [h10]; exact Blk.new _ _ _
    clear h10
    refine ⟨e10, b10.ok0 (by simp), letH_mk ?_⟩
    intro H11 h11
    have b11 : Blk H11 H9.size t_api_HeatLink [.int .i64 A, .int .i64 B, .int .i64 C] := by rw [h11]; exact b10.wr
    have e11 : Ext H9 H11 := by rw [h11]; exact Mods.ext e10 (Mods.wrs (S := [H9.size]) (by simp)) (by simp)
    clear h11 b10 e10 H10
    refine ⟨A, b11.rd0 rfl, B, b11.rd (i := 1) rfl, ?_⟩
    refine ⟨fun ok x H' => Ext H11 H' ∧ ∃ m : Nat, x = m ∧ m ≤ L.length ∧ ok = ((A != B) && !(dupB L A B m)), fun _ x _ => L.length - x.toNat, ⟨Ext.refl _, 0, rfl, Nat.zero_le _, by simp [dupB]⟩, ?_⟩
    rintro ok x H12 ⟨e12, m, rfl, hm, hok⟩
    unfold F_law38_Some_r1
    rw [hbs]
    have b12 := b11.ext e12
    have e912 : Ext H9 H12 := e11.trans e12
    have q12 := q9.ext e912
    have o12 := o9.ext e912
    have l12 : Lnks H12 sl L := o12.isS encL_len (by omega)
    have hsn : sl.n = L.length := l12.len
    have hstep : IntKind.i64.wrap ((m : Int) + 1) = ((m + 1 : Nat) : Int) := by rw [i64_in (by omega)]; simp
    have hstepj : IntKind.i64.wrap ((j : Int) + 1) = ((j + 1 : Nat) : Int) := by rw [i64_in (by omega)]; simp
    refine ⟨sl, q12.rd (i := 1) rfl, iteB_intro (fun c => ?_) (fun c => ?_)⟩
    · have hml : m < L.length := by simp at c; omega
      refine ⟨sl, q12.rd (i := 1) rfl, by omega, by omega, ?_⟩
      obtain ⟨al, hpl, t0, t1, t2⟩ := Lnks.at l12 (x := m) (by omega) (by omega)
      refine unSome_mk hpl ⟨_, t0, _, t1, _, t2, local_mk (by simp) (by simp) ?_⟩
      intro H14 e14 z14 b14
      simp only [Int.toNat_natCast] at b14
      have c14 := b12.ext e14
      have nxt : ∀ ok', ok' = (ok && !((lA L m == A && lB L m == B) || (lA L m == B && lB L m == A))) → (Ext H11 H14 ∧ ∃ m' : Nat, ((m + 1 : Nat) : Int) = m' ∧ m' ≤ L.length ∧ ok' = ((A != B) && !(dupB L A B m'))) ∧ L.length - (((m + 1 : Nat) : Int)).toNat < L.length - ((m : Int)).toNat := by
        intro ok' he
        refine ⟨⟨e12.trans e14, m + 1, rfl, by omega, ?_⟩, by simp only [Int.toNat_natCast]; omega⟩
        rw [he, hok]
        simp only [dupB, Bool.not_or, Bool.and_assoc]
      refine iteB_intro (fun c1 => ?_) (fun c1 => ?_)
      · refine ⟨_, b14.rd0 rfl, _, c14.rd0 rfl, iteB_intro (fun c2 => ?_) (fun c2 => ?_)⟩
        · refine ⟨_, b14.rd (i := 1) rfl, _, c14.rd (i := 1) rfl, iteB_intro (fun c3 => ?_) (fun c3 => ?_)⟩
          · exact letV_mk _ hstep (nxt _ (by simp [c2, c3]))
          · refine ⟨_, b14.rd0 rfl, _, c14.rd (i := 1) rfl, iteB_intro (fun c4 => ?_) (fun c4 => ?_)⟩
            · exact ⟨_, b14.rd (i := 1) rfl, _, c14.rd0 rfl, letV_mk _ hstep (nxt _ (by simp [c1, c3, c4]))⟩
            · exact letV_mk _ hstep (nxt _ (by simp [c1, c3, c4]))
        · refine ⟨_, b14.rd0 rfl, _, c14.rd (i := 1) rfl, iteB_intro (fun c4 => ?_) (fun c4 => ?_)⟩
          · exact ⟨_, b14.rd (i := 1) rfl, _, c14.rd0 rfl, letV_mk _ hstep (nxt _ (by simp [c1, c2, c4]))⟩
          · exact letV_mk _ hstep (nxt _ (by simp [c1, c2, c4]))
      · exact letV_mk _ hstep (nxt _ (by simp [c1]))
    · have hml : m = L.length := by simp at c; omega
      subst hml
      refine iteB_intro (fun c2 => ?_) (fun c2 => ?_)
      · rw [c2] at hok
        have hok' : A ≠ B ∧ dupB L A B L.length = false := by simpa using hok.symm
        refine ⟨sl, q12.rd (i := 1) rfl, _, b12.rd0 rfl, _, b12.rd (i := 1) rfl, _, b12.rd (i := 2) rfl, ?_⟩
        have z12 := e912.size
        refine append_row (P := Try.prog) (st := t_sl_api_HeatLink) (e := t_api_HeatLink) (x := ((A, B, C) : Lnk)) (z := .agg #[.int .i64 0, .int .i64 0, .int .i64 0]) (sz := 3) (bytes := 24) (enc := encL) (by kernel_rfl) (by kernel_rfl) rfl (by omega) encL_len oneL o12 (by simp [maxLen]; omega) (by omega) (by omega) ?_
        intro s' H16 o16 hn16 m16
        have hblk : ∀ y, y ≤ H.size + 2 → y ∉ blkOf sl.p := by
          intro y hy hc
          cases hp : sl.p with
          | none => rw [hp] at hc; simp [blkOf] at hc
          | some a =>
            rw [hp] at hc
            simp [blkOf] at hc
            have := o9.new a hp
            omega
        have hblk9 : H9.size ∉ blkOf sl.p := by
          intro hc
          cases hp : sl.p with
          | none => rw [hp] at hc; simp [blkOf] at hc
          | some a =>
            rw [hp] at hc
            simp [blkOf] at hc
            have := o9.lt a hp
            omega
        have q16 := q12.mods m16 (hblk _ (by omega))
        have r16 := (r9.ext e912).mods m16 (hblk _ (by omega))
        have s16 := (s9.ext e912).mods m16 (hblk _ (by omega))
        have b16 := b12.mods m16 hblk9
        have z16 := m16.size
        have e16 : Ext H H16 := Mods.ext (e9.trans e912) m16 (fun y hy => by
          have : ¬ y ≤ H.size + 2 := fun h => hblk y h hy
          omega)
        refine ⟨q16.ok (i := 1) (n := 1) (by simp), letH_mk ?_⟩
        intro H17 h17
        have m17 : Mods [H.size + 2] H16 H17 := by rw [h17]; exact mods_wr_add (by simp)
        have q17 : Blk H17 (H.size + 2) t_law38_System [.slice (some ⟨H.size + 1, 0, none⟩) k k, .slice s'.p s'.n s'.c, .int .i64 av] := by rw [h17]; exact q16.wr1
        clear h17
        have z17 := m17.size
        have r17 := r16.mods m17 (by simp)
        have s17 := s16.mods m17 (by simp)
        have b17 := b16.mods m17 (by simp; omega)
        have o17 := o16.mods m17 (fun a ha => by have := o16.new a ha; simp; omega)
        have e17 := Mods.ext e16 m17 (by simp)
        have hAk : A.toNat < D.length := by omega
        have hBk : B.toNat < D.length := by omega
        refine ⟨⟨some ⟨H.size + 1, 0, none⟩, k, k⟩, q17.rd0 rfl, A, b17.rd0 rfl, ⟨some ⟨H.size + 1, 0, none⟩, k, k⟩, q17.rd0 rfl, A, b17.rd0 rfl, by omega, hA.2, ?_⟩
        refine ⟨capOf D A.toNat, r17.rd0 (dom_get hAk) rfl, C, b17.rd (i := 2) rfl, by omega, hA.2, r17.ok0 hAk (by omega), letH_mk ?_⟩
        intro H18 h18
        have hdA := hSP.dom A.toNat (by omega)
        have hdB := hSP.dom B.toNat (by omega)
        have hnA := (need_bound (L := L) (n := k) A.toNat L.length hSP.lnk).1
        have hnB := (need_bound (L := L) (n := k) B.toNat L.length hSP.lnk).1
        rw [i64_in (n := capOf D A.toNat + C) (by omega)] at h18
        have m18 : Mods [H.size + 1] H17 H18 := by rw [h18]; exact mods_wr_add (by simp)
        have r18 : RB H18 (H.size + 1) t_api_HeatDomain 2 encD (D.set A.toNat (capOf D A.toNat + C, ambOf D A.toNat)) := by
          rw [h18]
          exact r17.wr0 (dom_get hAk) (by omega) rfl
        clear h18
        have hne : A.toNat ≠ B.toNat := by omega
        have z18 := m18.size
        have q18 := q17.mods m18 (by simp)
        have s18 := s17.mods m18 (by simp)
        have b18 := b17.mods m18 (by simp; omega)
        have o18 := o17.mods m18 (fun a ha => by have := o17.new a ha; simp; omega)
        have e18 := Mods.ext e17 m18 (by simp)
        refine ⟨⟨some ⟨H.size + 1, 0, none⟩, k, k⟩, q18.rd0 rfl, B, b18.rd (i := 1) rfl, ⟨some ⟨H.size + 1, 0, none⟩, k, k⟩, q18.rd0 rfl, B, b18.rd (i := 1) rfl, by omega, hB.2, ?_⟩
        have hg2 : (D.set A.toNat (capOf D A.toNat + C, ambOf D A.toNat))[B.toNat]? = some (capOf D B.toNat, ambOf D B.toNat) := by
          rw [List.getElem?_set_ne hne]
          exact dom_get hBk
        refine ⟨capOf D B.toNat, r18.rd0 hg2 rfl, C, b18.rd (i := 2) rfl, by omega, hB.2, r18.ok0 (by simpa using hBk) (by omega), letH_mk ?_⟩
        intro H19 h19
        rw [i64_in (n := capOf D B.toNat + C) (by omega)] at h19
        have m19 : Mods [H.size + 1] H18 H19 := by rw [h19]; exact mods_wr_add (by simp)
        have r19 : RB H19 (H.size + 1) t_api_HeatDomain 2 encD ((D.set A.toNat (capOf D A.toNat + C, ambOf D A.toNat)).set B.toNat (capOf D B.toNat + C, ambOf D B.toNat)) := by
          rw [h19]
          exact r18.wr0 hg2 (by omega) rfl
        clear h19
        have z19 := m19.size
        refine letV_mk _ hstepj ⟨⟨Mods.ext e18 m19 (by simp), by omega, j + 1, rfl, by omega, by omega, s18.mods m19 (by simp), _, L ++ [(A, B, C)], s', q18.mods m19 (by simp), r19, o18.mods m19 (fun a ha => by have := o18.new a ha; simp; omega), ?_⟩, by simp only [Int.toNat_natCast]; omega⟩
        refine hSP.add ⟨hA.1, hA.2⟩ ⟨hB.1, hB.2⟩ hC2 hok'.1 (dupB_false _ hok'.2) (by simpa using hlen) (fun i hi => ?_) (fun i hi => ?_)
        · by_cases eB : B.toNat = i
          · subst eB; rw [ambOf_same (by simpa using hBk)]
          · rw [ambOf_ne eB]
            by_cases eA : A.toNat = i
            · subst eA; rw [ambOf_same hAk]
            · rw [ambOf_ne eA]
        · by_cases eB : B.toNat = i
          · subst eB
            rw [capOf_same (by simpa using hBk), if_neg hne, if_pos rfl]
            dsimp only
            omega
          · rw [capOf_ne eB, if_neg eB]
            by_cases eA : A.toNat = i
            · subst eA
              rw [capOf_same hAk, if_pos rfl]
              dsimp only
              omega
            · rw [capOf_ne eA, if_neg eA]
              omega
      · refine letV_mk _ hstepj ⟨⟨e9.trans e912, by have := e912.size; omega, j + 1, rfl, by omega, by omega, s9.ext e912, D, L, sl, q12, r9.ext e912, o12, hSP.skip⟩, by simp only [Int.toNat_natCast]; omega⟩
  · exact ⟨⟨some ⟨H.size + 1, 0, none⟩, k, k⟩, q9.rd0 rfl, sl, q9.rd (i := 1) rfl, av, q9.rd (i := 2) rfl, fin⟩
  · exact ⟨⟨some ⟨H.size + 1, 0, none⟩, k, k⟩, q9.rd0 rfl, sl, q9.rd (i := 1) rfl, av, q9.rd (i := 2) rfl, fin⟩

theorem Some_spec (H : Heap) (ds ls : Sl) (D0 : List Dom) (L0 : List Lnk) (amb0 : Int) (hd : Doms H ds D0) (hl : Lnks H ls L0) :
    CallsH Try.prog n_law38_Some #[.slice ds.p ds.n ds.c, .slice ls.p ls.n ls.c, .int .i64 amb0] H (SomeP H) := by
  refine (Some_spec1 H ds ls D0 L0 amb0 hd hl).mono ?_
  rintro v H' ⟨b, ls, D, L, amb, h, _⟩
  exact ⟨b, ls, D, L, amb, h⟩

end Go.Proofs.Ytiikkapdchodkaa
