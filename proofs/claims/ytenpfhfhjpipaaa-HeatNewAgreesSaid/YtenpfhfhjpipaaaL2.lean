/-
  The law HeatEquilibrium, over the shallow readings.
-/
import Derived.Test.YtenpfhfhjpipaaaL1
namespace Go.Proofs.Ytenpfhfhjpipaaa
open Go.Eng Go.Heat

theorem TB.mono {D : List Dom} {E : Nat → Int} {lo hi hi' : Int} (h : TB D E lo hi) (hh : hi ≤ hi') : TB D E lo hi' := fun i hi => by have := h i hi; omega

theorem slP_zero (b c sz : Nat) : slP (some ⟨b, 0, none⟩) c 0 sz = some ⟨b, 0, none⟩ := by
  unfold slP
  split
  · rfl
  · simp [add_mk]

theorem still {D : List Dom} {L : List Lnk} {amb : Int} {p : Nat → Int} (hv : VS D L amb) {i : Nat} (hi : i < D.length) (hp : p i = 0) : stepE D L amb (fun i => capOf D i * amb) p i = capOf D i * amb := by
  have hl := lsum_le (n := D.length) (L := L) (T := tempOf D (fun i => capOf D i * amb)) (lo := amb) (hi := amb) (fun i hi => by rw [start_temp hv hi]; omega) (i := i) L.length hv.lnk
  unfold stepE outOf
  rw [start_temp hv hi] at hl ⊢
  rw [hp]
  simp only [Int.sub_self, Int.mul_zero] at hl ⊢
  omega

theorem still_osum {D : List Dom} {L : List Lnk} {amb : Int} (hv : VS D L amb) : osum D amb (fun i => capOf D i * amb) D.length = 0 := by
  rw [osum_sumZ]
  rw [sumZ_congr (g := fun _ => 0) D.length (fun i hi => by unfold outOf; rw [start_temp hv hi]; simp)]
  exact sumZ_zero _

set_option maxRecDepth 40000 in
theorem law_equilibrium (H : Heap) (ds ls : Sl) (D0 : List Dom) (L0 : List Lnk) (amb0 kk : Int) (hd : Doms H ds D0) (hl : Lnks H ls L0) (hk : 0 ≤ kk ∧ kk ≤ 255) :
    CallsH Try.prog n_law38_HeatEquilibrium #[.slice ds.p ds.n ds.c, .slice ls.p ls.n ls.c, .int .i64 amb0, .int .u8 kk] H (fun v H' => v = .bool true ∧ Ext H H') := by
  refine F_law38_HeatEquilibrium_ok _ _ _ _ ?_
  unfold F_law38_HeatEquilibrium
  refine (Some_spec H ds ls D0 L0 amb0 hd hl).mono ?_
  rintro v H1 ⟨bd, sl, D, L, amb, rfl, hs, hbd, rd1, ol1, e1⟩
  have hn1 := hs.vs.n1
  have hn5 := hs.n5
  have hv := hs.vs
  have ha := hs.a100
  refine ⟨⟨some ⟨bd, 0, none⟩, D.length, D.length⟩, sl, amb, rfl, local_mk (by simp) (by simp) ?_⟩
  intro H3 e3 z3 b3
  have rd3 := rd1.ext e3
  refine ⟨⟨some ⟨bd, 0, none⟩, D.length, D.length⟩, b3.rd0 rfl, sl, b3.rd (i := 1) rfl, amb, b3.rd (i := 2) rfl, ?_⟩
  refine (newSys H3 _ sl D L amb hs (rd3.isS D.length D.length rfl) ((ol1.ext e3).isS encL_len (by omega))).mono ?_
  rintro v H4 ⟨b, be, rfl, hm4, hb, hbe, e4⟩
  have b4 := b3.ext e4
  have rd4 := rd3.ext e4
  refine ⟨_, _, rfl, ⟨some ⟨bd, 0, none⟩, D.length, D.length⟩, b4.rd0 rfl, by omega, by dsimp only; omega, amb, b4.rd (i := 2) rfl, ?_⟩
  dsimp only
  rw [slP_zero]
  generalize hC : capOf D 0 = C
  generalize hA : ambOf D 0 = A
  have h0 : D[0]? = some (C, A) := by rw [← hC, ← hA]; exact dom_get (by omega)
  have hdom0 := hv.dom 0 (by omega)
  have hcap0 := hv.cap 0 (by omega)
  have hnd0 := need_bound (L := L) (n := D.length) 0 L.length hv.lnk
  have hsm0 := hs.small 0 (by omega)
  rw [hC, hA] at hcap0
  rw [hA] at hdom0
  rw [hC, hA] at hsm0
  have d1 : Doms H4 ⟨some ⟨bd, 0, none⟩, 1, D.length⟩ [(C, A)] := by
    refine ⟨rfl, .inr ⟨_, rfl, fun i x hi j v hv => ?_⟩⟩
    cases i with
    | zero =>
      simp at hi
      subst hi
      exact rd4.rd h0 hv
    | succ i => simp at hi
  have hv1 : VS [(C, A)] [] amb := by
    refine ⟨by simp, by simp, by omega, by omega, fun i hi => ?_, fun k hk => by simp at hk, fun i hi => ?_⟩
    · obtain rfl : i = 0 := by simpa using hi
      simp [ambOf]; omega
    · obtain rfl : i = 0 := by simpa using hi
      simp [ambOf, capOf, need]; omega
  refine (New_spec H4 ⟨some ⟨bd, 0, none⟩, 1, D.length⟩ ⟨none, 0, 0⟩ [(C, A)] [] amb d1 (IsS.nil _ _ _) (by simp)).mono ?_
  rintro v H5 (⟨_, b1, be1, rfl, hm15, hb1, hbe1, e5⟩ | ⟨hbad, _⟩)
  rotate_left
  · exact absurd hv1 hbad
  refine ⟨_, _, rfl, iteB_neg rfl (iteB_neg rfl (iteB_neg rfl (iteB_neg rfl ?_)))⟩
  have hm5 := hm4.tight.ext e5
  have z1 := e1.size
  have z4 := e4.size
  have z5 := e5.size
  have hbl := hm4.blt
  have hbl1 := hm15.blt
  have eH5 : Ext H H5 := ((e1.trans e3).trans e4).trans e5
  have hbdl := rd1.lt
  refine ⟨fun x H' => Ext H H' ∧ ∃ i : Nat, x = i ∧ i ≤ 5 ∧ HM t_heat_Model (fun k => H3.size ≤ k ∧ k < H4.size) H' b be D L amb (fun i => capOf D i * amb) 0 ∧
      HM t_heat_Model (fun k => H4.size ≤ k) H' b1 be1 [(C, A)] [] amb (fun i => capOf [(C, A)] i * amb) 0 ∧ Blk H' H1.size t_law38_System [.slice (some ⟨bd, 0, none⟩) D.length D.length, .slice sl.p sl.n sl.c, .int .i64 amb] ∧ RB H' bd t_api_HeatDomain 2 encD D,
    fun x _ => 5 - x.toNat, ⟨eH5, 0, rfl, by omega, hm5, hm15, b4.ext e5, rd4.ext e5⟩, ?_⟩
  rintro x H6 ⟨e6, i, rfl, hi, hm6, hm16, b6, rd6⟩
  unfold F_law38_HeatEquilibrium_r5
  refine iteB_intro (fun c => ?_) (fun c => ?_)
  · have hi5 : i < 5 := by simp at c; omega
    refine ⟨⟨some ⟨bd, 0, none⟩, D.length, D.length⟩, b6.rd0 rfl, by omega, by omega, by dsimp only; omega, letH_mk ?_⟩
    intro H7 h7
    have hto : ((D.length : Int).toNat) = D.length := by simp
    dsimp only at h7 ⊢
    rw [hto] at h7 ⊢
    have p7 : IBlk .i64 H7 H6.size t_int64 D.length (fun _ => 0) := by rw [h7]; exact IBlk.zero _ _ _
    have e7 : Ext H6 H7 := by rw [h7]; exact Ext.push _ _
    clear h7
    have hbl6 := hm6.blt
    have hbl16 := hm16.blt
    have hpok : powOk (tab D.length (fun _ => (0 : Int))) D.length = true := powOk_tab (fun i _ => by omega)
    refine (Step_run b be D L amb _ 0 _ ⟨some ⟨H6.size, 0, none⟩, D.length, D.length⟩ H7 (hm6.ext e7) hv (by have := hs.l12; omega) (start_TB hv (by omega)) (p7.ints _) (by rw [tab_length]; omega) (fun a ha _ => by cases ha; dsimp only; omega) (by omega)).mono ?_
    rintro v H8 (⟨_, t, rfl, it, nt, hm8, m8⟩ | ⟨hbad, _⟩)
    rotate_left
    · rw [hpok] at hbad; cases hbad
    have z7 := e7.size
    have z8 := m8.size
    have hst : ∀ i, i < D.length → stepE D L amb (fun i => capOf D i * amb) (fun i => (tab D.length (fun _ => (0 : Int))).getD i 0) i = capOf D i * amb := fun i hi => still hv hi (by rw [tab_getD _ hi])
    have hm8' := hm8.congr hst
    rw [still_osum hv, Int.add_zero] at hm8'
    have b8 := (b6.ext e7).mods m8 (by simp; omega)
    have rd8 := (rd6.ext e7).mods m8 (by simp; omega)
    have hm18 := (hm16.ext e7).mods m8 (by simp; omega) (by simp; omega) (fun k hk => by simp; omega)
    have e8 : Ext H H8 := Mods.ext (e6.trans e7) m8 (by simp; omega)
    refine ⟨t, 0, rfl, iteB_neg rfl ⟨⟨some ⟨bd, 0, none⟩, D.length, D.length⟩, b8.rd0 rfl, iteB_neg (by rw [it.len, tab_length]; simp) ?_⟩⟩
    refine ⟨fun x H' => H' = H8 ∧ ∃ j : Nat, x = j ∧ j ≤ D.length, fun x _ => D.length - x.toNat, ⟨rfl, 0, rfl, Nat.zero_le _⟩, ?_⟩
    rintro x H9 ⟨rfl, j, rfl, hj⟩
    unfold F_law38_HeatEquilibrium_r1
    rw [it.len, tab_length]
    refine iteB_intro (fun c => ?_) (fun c => ?_)
    · have hjn : j < D.length := by simpa using c
      obtain ⟨at', hpt, hrt⟩ := Ints.at it (x := j) (by omega) (by rw [tab_length]; omega)
      simp only [Int.toNat_natCast] at hrt
      rw [tab_getD _ hjn] at hrt
      have htj : tempOf D (stepE D L amb (fun i => capOf D i * amb) (fun i => (tab D.length (fun _ => (0 : Int))).getD i 0)) j = amb := by
        have := start_temp hv hjn
        unfold tempOf at this ⊢
        rw [hst j hjn]
        exact this
      rw [htj] at hrt
      refine ⟨by omega, by omega, unSome_mk hpt ⟨amb, hrt, amb, b8.rd (i := 2) rfl, iteB_neg (by simp) (letV_mk ((j + 1 : Nat) : Int) (by rw [i64_in (by omega)]; simp) ⟨⟨rfl, j + 1, rfl, by omega⟩, by simp only [Int.toNat_natCast]; omega⟩)⟩⟩
    · exact letV_mk ((i + 1 : Nat) : Int) (by rw [i64_in (by omega)]; simp) ⟨⟨e8, i + 1, rfl, by omega, hm8', hm18, b8, rd8⟩, by simp only [Int.toNat_natCast]; omega⟩
  -- the single domain
  clear c hi i
  have hnr : 0 ≤ kk.tmod 8 ∧ kk.tmod 8 ≤ 7 := by
    rw [Int.tmod_eq_emod_of_nonneg hk.1]
    omega
  refine letV_mk (kk.tmod 8) (i64_in (by omega)) ?_
  generalize kk.tmod 8 = n at hnr
  refine ⟨⟨some ⟨bd, 0, none⟩, D.length, D.length⟩, b6.rd0 rfl, by omega, by dsimp only; omega, ?_⟩
  refine ⟨A, rd6.rd (i := 0) h0 rfl, letH_mk ?_⟩
  have hnA := mul_bound (a := n) (b := A) (A := 7) (B := 6) (by omega) (by omega) (by omega) (by omega)
  have hnA0 : 0 ≤ n * A := Int.mul_nonneg hnr.1 (by omega)
  have hnC := mul_bound (a := n) (b := C) (A := 7) (B := 73) (by omega) (by omega) (by omega) (by omega)
  rw [i64_in (n := n * A) (by omega)]
  intro H10 h10
  have p10 : Blk H10 H6.size t_int64 [.int .i64 (n * A)] := by rw [h10]; exact Blk.new _ _ _
  have e10 : Ext H6 H10 := by rw [h10]; exact Ext.push _ _
  clear h10
  have hbl6 := hm6.blt
  have hbl16 := hm16.blt
  have hz6 := e6.size
  have hcap1 : capOf [(C, A)] 0 = C := rfl
  have hamb1 : ambOf [(C, A)] 0 = A := rfl
  have hpok : powOk [n * A] [(C, A)].length = true := powOk_iff.2 ⟨rfl, fun i hi => by
    obtain rfl : i = 0 := by simpa using hi
    simp; omega⟩
  have hTs : ∀ E, TB [(C, A)] E amb (amb + n) → TB [(C, A)] E amb (amb + 16777216) := fun E h => h.mono (by omega)
  have hout : ∀ E, TB [(C, A)] E amb (amb + n) → 0 ≤ osum [(C, A)] amb E [(C, A)].length ∧ osum [(C, A)] amb E [(C, A)].length ≤ 42 := by
    intro E h
    have h1 := h 0 (by simp)
    have h2 := mul_bound (a := A) (b := tempOf [(C, A)] E 0 - amb) (A := 6) (B := 7) (by omega) (by omega) (by omega) (by omega)
    have h3 : 0 ≤ A * (tempOf [(C, A)] E 0 - amb) := Int.mul_nonneg (by omega) (by omega)
    simp only [List.length_cons, List.length_nil, osum, outOf, hamb1]
    omega
  have hstep : ∀ E, stepE [(C, A)] [] amb E (fun i => [n * A].getD i 0) 0 = E 0 + A * (n - (tempOf [(C, A)] E 0 - amb)) := by
    intro E
    simp only [stepE, outOf, hamb1, List.length_nil, lsum]
    rw [Int.mul_sub A n, Int.mul_comm A n]
    simp
  have hstepTB : ∀ E, TB [(C, A)] E amb (amb + n) → TB [(C, A)] (stepE [(C, A)] [] amb E (fun i => [n * A].getD i 0)) amb (amb + n) := by
    intro E h
    refine step_TB hv1 h (fun i hi => ?_)
    obtain rfl : i = 0 := by simpa using hi
    rw [hamb1, show amb + n - amb = n by omega, Int.mul_comm A n]
    simp
    omega
  have hz0 : ∀ E, tempZ [(C, A)] E 0 = tempOf [(C, A)] E 0 := by
    intro E
    unfold tempZ
    rw [if_neg (by simp)]
    rfl
  refine ⟨fun H' => Ext H H' ∧ HM t_heat_Model (fun k => H3.size ≤ k ∧ k < H4.size) H' b be D L amb (fun i => capOf D i * amb) 0 ∧ Blk H' H1.size t_law38_System [.slice (some ⟨bd, 0, none⟩) D.length D.length, .slice sl.p sl.n sl.c, .int .i64 amb] ∧
      Blk H' H6.size t_int64 [.int .i64 (n * A)] ∧ ∃ (E : Nat → Int) (rel : Int), HM t_heat_Model (fun k => H4.size ≤ k ∧ k < H6.size) H' b1 be1 [(C, A)] [] amb E rel ∧ TB [(C, A)] E amb (amb + n) ∧ tempOf [(C, A)] E 0 = amb + n ∧ 0 ≤ rel ∧ rel ≤ 100000, ?_, ?_⟩
  · refine ⟨fun x H' => Ext H H' ∧ ∃ j : Nat, x = j ∧ j ≤ 2000 ∧ HM t_heat_Model (fun k => H3.size ≤ k ∧ k < H4.size) H' b be D L amb (fun i => capOf D i * amb) 0 ∧ Blk H' H1.size t_law38_System [.slice (some ⟨bd, 0, none⟩) D.length D.length, .slice sl.p sl.n sl.c, .int .i64 amb] ∧
        Blk H' H6.size t_int64 [.int .i64 (n * A)] ∧ ∃ (E : Nat → Int) (rel : Int), HM t_heat_Model (fun k => H4.size ≤ k ∧ k < H6.size) H' b1 be1 [(C, A)] [] amb E rel ∧ TB [(C, A)] E amb (amb + n) ∧ C * amb + j ≤ E 0 ∧ 0 ≤ rel ∧ rel ≤ 42 * j,
      fun x _ => 2000 - x.toNat, ⟨e6.trans e10, 0, rfl, by omega, hm6.ext e10, b6.ext e10, p10, _, _, hm16.tight.ext e10, start_TB hv1 (by omega), by simp [hcap1], by omega, by omega⟩, ?_⟩
    rintro x H11 ⟨e11, j, rfl, hj, hm11, b11, p11, E, rel, hm111, hT, hE, hr0, hr1⟩
    unfold F_law38_HeatEquilibrium_r2
    have hTE := hT 0 (by simp)
    refine iteB_intro (fun c => ?_) (fun c => ?_)
    · have hj2 : j < 2000 := by simp at c; omega
      refine ⟨amb, b11.rd (i := 2) rfl, ?_⟩
      refine (Temperature_spec b1 be1 _ _ _ _ _ 0 H11 hm111 ((hTs E hT).sane hv1 (by simp) (by omega))).mono ?_
      rintro v H12 ⟨rfl, rfl⟩
      rw [hz0, i64_in (n := amb + n) (by omega)]
      refine ⟨_, rfl, Ext.refl _, iteB_intro (fun c => ?_) (fun c => ?_)⟩
      · have hc : tempOf [(C, A)] E 0 = amb + n := by simpa using c
        exact ⟨e11, hm11, b11, p11, E, rel, hm111, hT, hc, hr0, by omega⟩
      · have hc : tempOf [(C, A)] E 0 ≠ amb + n := by simpa using c
        have hbl11 := hm11.blt
        have hbl111 := hm111.blt
        refine (Step_run b1 be1 [(C, A)] [] amb E rel [n * A] ⟨some ⟨H6.size, 0, none⟩, 1, 1⟩ H12 hm111 hv1 (by simp) (hTs E hT) (Ints.of_blk (l := [n * A]) p11 rfl) (by simp) (fun a ha _ => by cases ha; dsimp only; omega) (by omega)).mono ?_
        rintro v H13 (⟨_, t, rfl, it, nt, hm13, m13⟩ | ⟨hbad, _⟩)
        rotate_left
        · rw [hpok] at hbad; cases hbad
        have ho := hout E hT
        refine ⟨t, 0, rfl, iteB_neg rfl ?_⟩
        rw [show IntKind.i64.wrap ((j : Int) + 1) = ((j + 1 : Nat) : Int) by rw [i64_in (by omega)]; simp]
        refine ⟨⟨Mods.ext e11 m13 (by simp; omega), j + 1, rfl, by omega, hm11.mods m13 (by simp; omega) (by simp; omega) (fun k hk => by simp; omega), b11.mods m13 (by simp; omega), p11.mods m13 (by simp; omega), _, _, hm13, hstepTB E hT, ?_, by omega, by omega⟩, by simp only [Int.toNat_natCast]; omega⟩
        rw [hstep E]
        have := mul_one_le (a := A) (x := n - (tempOf [(C, A)] E 0 - amb)) (by omega) (by omega)
        omega
    · have hj2 : j = 2000 := by simp at c; omega
      refine ⟨e11, hm11, b11, p11, E, rel, hm111, hT, ?_, hr0, by omega⟩
      have hE2 : E 0 < C * tempOf [(C, A)] E 0 + C := Int.lt_mul_ediv_self_add (x := E 0) (k := C) (by omega)
      have : ¬ tempOf [(C, A)] E 0 < amb + n := by
        intro hlt
        have g1 : C * (tempOf [(C, A)] E 0 + 1) ≤ C * (amb + n) := Int.mul_le_mul_of_nonneg_left (by omega) (by omega)
        rw [Int.mul_add, Int.mul_add, Int.mul_comm C n] at g1
        omega
      omega
  · rintro H14 ⟨e14, hm14, b14, p14, E, rel, hm114, hT, hTn, hr0, hr1⟩
    unfold F_law38_HeatEquilibrium_k4
    refine ⟨fun x H' => Ext H H' ∧ ∃ j : Nat, x = j ∧ j ≤ 5 ∧ HM t_heat_Model (fun k => H3.size ≤ k ∧ k < H4.size) H' b be D L amb (fun i => capOf D i * amb) 0 ∧ Blk H' H1.size t_law38_System [.slice (some ⟨bd, 0, none⟩) D.length D.length, .slice sl.p sl.n sl.c, .int .i64 amb] ∧
        Blk H' H6.size t_int64 [.int .i64 (n * A)] ∧ ∃ (E : Nat → Int) (rel : Int), HM t_heat_Model (fun k => H4.size ≤ k ∧ k < H6.size) H' b1 be1 [(C, A)] [] amb E rel ∧ TB [(C, A)] E amb (amb + n) ∧ tempOf [(C, A)] E 0 = amb + n ∧ 0 ≤ rel ∧ rel ≤ 100000 + 42 * j,
      fun x _ => 5 - x.toNat, ⟨e14, 0, rfl, by omega, hm14, b14, p14, E, rel, hm114, hT, hTn, hr0, by omega⟩, ?_⟩
    clear hr1 hr0 hTn hT hm114 rel E p14 b14 hm14 e14 H14
    rintro x H15 ⟨e15, j, rfl, hj, hm15', b15, p15, E, rel, hm115, hT, hTn, hr0, hr1⟩
    unfold F_law38_HeatEquilibrium_r3
    refine iteB_intro (fun c => ?_) (fun c => ?_)
    · have hj2 : j < 5 := by simp at c; omega
      refine ⟨amb, b15.rd (i := 2) rfl, ?_⟩
      refine (Temperature_spec b1 be1 _ _ _ _ _ 0 H15 hm115 ((hTs E hT).sane hv1 (by simp) (by omega))).mono ?_
      rintro v H16 ⟨rfl, rfl⟩
      rw [hz0, i64_in (n := amb + n) (by omega)]
      refine ⟨_, rfl, Ext.refl _, iteB_neg (by simpa using hTn) ?_⟩
      have hbl11 := hm15'.blt
      have hbl111 := hm115.blt
      refine (Step_run b1 be1 [(C, A)] [] amb E rel [n * A] ⟨some ⟨H6.size, 0, none⟩, 1, 1⟩ H16 hm115 hv1 (by simp) (hTs E hT) (Ints.of_blk (l := [n * A]) p15 rfl) (by simp) (fun a ha _ => by cases ha; dsimp only; omega) (by omega)).mono ?_
      rintro v H17 (⟨_, t, rfl, it, nt, hm17, m17⟩ | ⟨hbad, _⟩)
      rotate_left
      · rw [hpok] at hbad; cases hbad
      have ho := hout E hT
      refine ⟨t, 0, rfl, iteB_neg rfl (letV_mk ((j + 1 : Nat) : Int) (by rw [i64_in (by omega)]; simp) ?_)⟩
      refine ⟨⟨Mods.ext e15 m17 (by simp; omega), j + 1, rfl, by omega, hm15'.mods m17 (by simp; omega) (by simp; omega) (fun k hk => by simp; omega), b15.mods m17 (by simp; omega), p15.mods m17 (by simp; omega), _, _, hm17, hstepTB E hT, ?_, by omega, by omega⟩, by simp only [Int.toNat_natCast]; omega⟩
      have hsame : stepE [(C, A)] [] amb E (fun i => [n * A].getD i 0) 0 = E 0 := by
        rw [hstep E, hTn, show n - (amb + n - amb) = 0 by omega]
        simp
      unfold tempOf at hTn ⊢
      rw [hsame]
      exact hTn
    · refine (Released_spec b be _ _ _ _ _ H15 hm15').mono ?_
      rintro v H18 ⟨rfl, rfl⟩
      refine ⟨0, rfl, iteB_pos rfl ?_⟩
      refine (awake_spec H18).mono ?_
      rintro v H' ⟨rfl, e⟩
      exact ⟨true, rfl, rfl, e15.trans e⟩

end Go.Proofs.Ytenpfhfhjpipaaa
