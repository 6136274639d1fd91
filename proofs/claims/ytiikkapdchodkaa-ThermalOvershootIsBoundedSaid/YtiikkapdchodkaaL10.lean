/-
  The contract of the law ThermalOvershootIsBounded.
-/
import Derived.Test.YtiikkapdchodkaaL3
import Derived.Test.YtiikkapdchodkaaT9
namespace Go.Proofs.Ytiikkapdchodkaa
open Go.Eng Go.Heat

variable {Q : Nat → Prop}

/-! ### plain numbers -/

/-- The power at a level. -/
def powL (top low n l : Int) : Int := if l = n then low else top - (top - low) * l / n

theorem powL_range {top low n l : Int} (hn : 1 ≤ n) (hl : 0 ≤ l ∧ l ≤ n) (h : 0 ≤ low ∧ low ≤ top) : low ≤ powL top low n l ∧ powL top low n l ≤ top ∧ (l = n → powL top low n l = low) ∧ (0 ≤ (top - low) * l ∧ (top - low) * l ≤ (top - low) * n) ∧ 0 ≤ (top - low) * l / n ∧ (top - low) * l / n ≤ top - low := by
  have h1 : 0 ≤ (top - low) * l := Int.mul_nonneg (by omega) hl.1
  have h2 : (top - low) * l ≤ (top - low) * n := Int.mul_le_mul_of_nonneg_left hl.2 (by omega)
  have h3 : 0 ≤ (top - low) * l / n := Int.ediv_nonneg h1 (by omega)
  have h4 : (top - low) * l / n ≤ top - low := Int.ediv_le_of_le_mul (by omega) h2
  refine ⟨?_, ?_, fun e => by unfold powL; rw [if_pos e], ⟨h1, h2⟩, h3, h4⟩
  · unfold powL; split <;> omega
  · unfold powL; split <;> omega

/-- While the domain is hot, the level bounds its energy. -/
def Hot (C trip top low l e : Int) : Prop := trip ≤ e / C → e ≤ C * trip ∨ (1 ≤ l ∧ e ≤ C * trip + top + (l - 1) * (top - low))

theorem hot_step {C A amb trip top low n l e p : Int} (hC : 1 ≤ C) (hA : 0 ≤ A) (hlow : low = A * (trip - amb)) (hlt : 0 ≤ low ∧ low ≤ top) (hn : 1 ≤ n) (hl : 0 ≤ l ∧ l ≤ n) (hT : amb ≤ e / C)
    (hp : p = powL top low n l) (h : Hot C trip top low l e) : Hot C trip top low (min (l + 1) n) (e + (p - A * (e / C - amb))) ∧ e + (p - A * (e / C - amb)) ≤ C * trip + n * top := by
  obtain ⟨p1, p2, p3, _⟩ := powL_range hn hl hlt
  rw [← hp] at p1 p2 p3
  have hntop : top ≤ n * top := by
    have := Int.mul_le_mul_of_nonneg_right hn (by omega : 0 ≤ top)
    omega
  by_cases hh : trip ≤ e / C
  · have ha : low ≤ A * (e / C - amb) := by rw [hlow]; exact Int.mul_le_mul_of_nonneg_left (by omega) hA
    rcases h hh with h0 | ⟨h1, h2⟩
    · have hm : 0 ≤ (min (l + 1) n - 1) * (top - low) := Int.mul_nonneg (by omega) (by omega)
      exact ⟨fun _ => .inr ⟨by omega, by omega⟩, by omega⟩
    by_cases hln : l = n
    · have := p3 hln
      rw [show min (l + 1) n = l by omega]
      have hm : (l - 1) * (top - low) ≤ (l - 1) * top := Int.mul_le_mul_of_nonneg_left (by omega) (by omega)
      have hm2 : (l - 1) * top = l * top - top := by rw [Int.sub_mul]; omega
      subst hln
      exact ⟨fun _ => .inr ⟨h1, by omega⟩, by omega⟩
    · rw [show min (l + 1) n = l + 1 by omega]
      have hm : (l + 1 - 1) * (top - low) = (l - 1) * (top - low) + (top - low) := by
        rw [show l + 1 - 1 = (l - 1) + 1 by omega, Int.add_mul]; omega
      have hm2 : l * (top - low) ≤ (n - 1) * (top - low) := Int.mul_le_mul_of_nonneg_right (by omega) (by omega)
      have hm3 : (n - 1) * (top - low) ≤ (n - 1) * top := Int.mul_le_mul_of_nonneg_left (by omega) (by omega)
      have hm4 : (n - 1) * top = n * top - top := by rw [Int.sub_mul]; omega
      rw [show l + 1 - 1 = l by omega] at hm
      refine ⟨fun _ => .inr ⟨by omega, ?_⟩, by omega⟩
      rw [show l + 1 - 1 = l by omega]
      omega
  · have he : e < C * trip := by
      have := Int.lt_mul_ediv_self_add (x := e) (k := C) (by omega)
      have h2 : C * (e / C + 1) ≤ C * trip := Int.mul_le_mul_of_nonneg_left (by omega) (by omega)
      rw [Int.mul_add] at h2
      omega
    have ha : 0 ≤ A * (e / C - amb) := Int.mul_nonneg hA (by omega)
    have hm : 0 ≤ (min (l + 1) n - 1) * (top - low) := Int.mul_nonneg (by omega) (by omega)
    exact ⟨fun _ => .inr ⟨by omega, by omega⟩, by omega⟩

theorem hot_bound {C A trip top n e : Int} (hC : 1 ≤ C) (hA : 0 ≤ A) (htop : 0 ≤ top) (he : e ≤ C * trip + n * top) : e / C ≤ trip + ((n + 1) * top + A) / C + 1 := by
  have h1 := Int.lt_mul_ediv_self_add (x := (n + 1) * top + A) (k := C) (by omega)
  have h2 : (n + 1) * top = n * top + top := by rw [Int.add_mul]; omega
  have : e / C < trip + ((n + 1) * top + A) / C + 1 + 1 := by
    refine Int.ediv_lt_of_lt_mul (by omega) ?_
    rw [Int.mul_comm, Int.mul_add, Int.mul_add, Int.mul_add]
    omega
  omega

theorem stepE_one {D : List Dom} {amb : Int} {E p : Nat → Int} {i : Nat} : stepE D [] amb E p i = E i + (p i - ambOf D i * (E i / capOf D i - amb)) := by
  unfold stepE outOf tempOf
  simp [lsum]

theorem law_overshoot (H : Heap) (d : Dom) (amb0 above high levels hyst steps : Int) (hab : 0 ≤ above) (hhi : 0 ≤ high) (hhy : 0 ≤ hyst) :
    CallsH Try.prog n_law39_ThermalOvershootIsBounded #[.agg (encD d).toArray, .int .i64 amb0, .int .u16 above, .int .u16 high, .int .i64 levels, .int .u8 hyst, .int .i64 steps] H (fun v H' => v = .bool true ∧ Ext H H') := by
  refine F_law39_ThermalOvershootIsBounded_ok _ _ _ _ _ _ _ _ ?_
  unfold F_law39_ThermalOvershootIsBounded
  refine push_mk (vs := encD d) fun H1 e1 z1 b1 => ?_
  refine ⟨_, b1.rd0 rfl, _, b1.rd (i := 1) rfl, push_mk (vs := ([d] : List Dom).flatMap encD) fun H2 e2 z2 b2 => ?_⟩
  refine (Some_spec1 H2 ⟨some ⟨H1.size, 0, none⟩, 1, 1⟩ ⟨none, 0, 0⟩ [d] [] amb0 (IsS.of_blk encD_len b2 rfl (fun _ _ h => h)) (IsS.nil _ _ _)).mono ?_
  rintro v H3 ⟨bd, ls, D, L, amb, ⟨rfl, hsys, hbd, hD, _, e3⟩, hDn⟩
  have hv := hsys.vs
  have hDl : D.length = 1 := by have := hv.n1; simp at hDn; omega
  have hsm := hsys.small 0 (by omega)
  have ha1 := hv.dom 0 (by omega)
  have h100 := hsys.a100
  have hv' := hv.noLinks
  have hcp := hv'.cap 0 (by omega)
  simp only [List.length_nil, need] at hcp
  have x3 := (e1.trans e2).trans e3
  refine ⟨⟨_, _, _⟩, _, _, rfl, local_mk rfl rfl fun H5 e5 z5 b5 => ?_⟩
  have hD5 := hD.ext e5
  have hd0 := dom_get (D := D) (i := 0) (by omega)
  refine ⟨⟨some ⟨bd, 0, none⟩, D.length, D.length⟩, b5.rd0 rfl, by omega, by dsimp only; omega, _, hD5.rd0 hd0 rfl, _, hD5.rd hd0 rfl, local_mk rfl rfl fun H7 e7 z7 b7 => ?_⟩
  rw [Int.tmod_eq_emod_of_nonneg hab, i64_in (n := above % 60) (by omega)]
  refine ⟨_, (b5.ext e7).rd (i := 2) rfl, letV_mk (amb + above % 60) (i64_in (by omega)) ?_⟩
  have hk : 0 ≤ above % 60 ∧ above % 60 < 60 := by omega
  generalize above % 60 = k at *
  refine (Mod_spec _ _ H7 (by omega) (by omega)).mono ?_
  rintro v H8 ⟨rfl, rfl⟩
  have hm := modI_range levels (n := 8) (by omega)
  refine ⟨_, rfl, letV_mk (1 + modI levels 8) (i64_in (by omega)) ?_⟩
  have hn : 1 ≤ 1 + modI levels 8 ∧ 1 + modI levels 8 ≤ 8 := by omega
  generalize 1 + modI levels 8 = n at *
  rw [Int.tmod_eq_emod_of_nonneg hhy, i64_in (n := hyst % 20) (by omega)]
  have hh : 0 ≤ hyst % 20 ∧ hyst % 20 < 20 := by omega
  generalize hyst % 20 = hy0 at *
  refine push_mk (vs := ([(2, amb + k, hy0)] : List Trp).flatMap encT) fun H9 e9 z9 b9 => ?_
  have hVT : VT [(2, amb + k, hy0)] := by
    refine ⟨by simp, fun i hi => ?_⟩
    obtain rfl : i = 0 := by simpa using hi
    simp [OkT, kd, tp, hy]
    omega
  refine (NewZone_spec H9 ⟨some ⟨H8.size, 0, none⟩, 1, 1⟩ [(2, amb + k, hy0)] n (IsS.of_blk encT_len b9 rfl (fun _ _ h => h))).mono ?_
  rintro v H10 (⟨_, bz, baz, rfl, hbz, hbaz, hz, e10⟩ | ⟨hbad, _⟩)
  rotate_left
  · exact absurd ⟨hVT, by omega, by omega⟩ hbad
  have zm10 := (hz (fun _ h => h.elim)).tight
  have zlt := zm10.lt
  have y10 : Ext H5 H10 := (e7.trans e9).trans e10
  have b10 := b5.ext y10
  have bx10 := (b7.ext e9).ext e10
  have hD10 := hD5.ext y10
  refine ⟨_, _, rfl, ⟨_, _, _⟩, b10.rd0 rfl, _, b10.rd (i := 2) rfl, (New_spec H10 ⟨some ⟨bd, 0, none⟩, D.length, D.length⟩ ⟨none, 0, 0⟩ D [] amb (hD10.isS _ _ rfl) (IsS.nil _ _ _) (by simp)).mono ?_⟩
  rintro v H11 (⟨_, b, be, rfl, hm11, hb, hbe, e11⟩ | ⟨hbad, _⟩)
  rotate_left
  · exact absurd hv' hbad
  have b11 := b10.ext e11
  have bx11 := bx10.ext e11
  generalize hA : ambOf D 0 = A at *
  generalize hC : capOf D 0 = C at *
  refine ⟨_, _, rfl, _, bx11.rd0 rfl, _, bx11.rd (i := 1) rfl, _, b11.rd (i := 2) rfl, ?_⟩
  refine (Sustainable_spec H11 C A amb (amb + k) (hC ▸ hA ▸ hv.one (by omega)) (by omega) (by omega)).mono ?_
  rintro v H12 ⟨rfl, e12⟩
  rw [show amb + k - amb = k by omega]
  have hmul := mul_bound (a := A) (b := k) (A := 6) (B := 60) (by omega) (by omega) (by omega) (by omega)
  have hmul0 : 0 ≤ A * k := Int.mul_nonneg (by omega) (by omega)
  rw [Int.tmod_eq_emod_of_nonneg hhi, i64_in (n := high % 500) (by omega)]
  have bx12 := bx11.ext e12
  refine ⟨_, _, rfl, iteB_neg rfl (iteB_neg rfl (iteB_neg rfl (iteB_neg rfl (iteB_neg rfl (iteB_dec (fun c1 => by omega) (fun c1 => letV_mk (A * k + high % 500) (i64_in (by omega)) ⟨_, bx12.rd (i := 1) rfl, _, bx12.rd0 rfl, by omega, ?_⟩))))))⟩
  obtain ⟨low, hlow⟩ : ∃ low, low = A * k := ⟨_, rfl⟩
  have hl0 : 0 ≤ low ∧ low ≤ 360 := by omega
  rw [← hlow]
  have htop : low ≤ low + high % 500 ∧ low + high % 500 ≤ low + 499 := by omega
  generalize low + high % 500 = top at *
  rw [i64_in (n := n + 1) (by omega)]
  have hnt := mul_bound (a := n + 1) (b := top) (A := 9) (B := 859) (by omega) (by omega) (by omega) (by omega)
  have hnt0 : 0 ≤ (n + 1) * top := Int.mul_nonneg (by omega) (by omega)
  rw [i64_in (n := (n + 1) * top) (by omega), i64_in (n := (n + 1) * top + A) (by omega), Int.tdiv_eq_ediv_of_nonneg (by omega)]
  have hq := ediv_bound (E := (n + 1) * top + A) (C := C) (B := 8000) (by omega) (by omega) (by omega)
  have hq0 : 0 ≤ ((n + 1) * top + A) / C := Int.ediv_nonneg (by omega) (by omega)
  rw [i64_in (n := ((n + 1) * top + A) / C) (by omega), i64_in (n := amb + k + ((n + 1) * top + A) / C) (by omega)]
  refine letV_mk (amb + k + ((n + 1) * top + A) / C + 1) (i64_in (by omega)) ?_
  refine (Mod_spec _ _ H12 (by omega) (by omega)).mono ?_
  rintro v H13 ⟨rfl, rfl⟩
  have hst := modI_range steps (n := 200) (by omega)
  obtain ⟨N, hN⟩ : ∃ N : Nat, modI steps 200 = N := ⟨(modI steps 200).toNat, by omega⟩
  rw [hN]
  refine ⟨_, rfl, ?_⟩
  have x13 : Ext H H13 := (((x3.trans e5).trans y10).trans e11).trans e12
  have zz3 := x3.size
  have zz5 := e5.size
  have zz10 := y10.size
  have zz11 := e11.size
  have z78 := e7.size
  have hT0 : TB D (fun i => capOf D i * amb) amb (amb + 16777216) := start_TB hv' (by omega)
  have hlt11 := hm11.blt
  refine loop2 N (fun j (lev : Int) H' => Ext H H' ∧ ∃ E rel act, HM t_heat_Model (fun k => H10.size ≤ k) H' b be D [] amb E rel ∧ TB D E amb (amb + 16777216) ∧ (0 ≤ rel ∧ rel ≤ 4503599627370496 * j) ∧ (0 ≤ lev ∧ lev ≤ n) ∧ Hot C (amb + k) top low lev (E 0) ∧ ZM t_thermal_Zone (fun k => H9.size ≤ k ∧ k < H10.size) H' bz baz [(2, amb + k, hy0)] act n lev)
    ⟨x13, _, _, _, hm11.ext e12, hT0, by omega, by omega, ?_, (zm10.ext e11).ext e12⟩ ?_
  · intro _
    left
    rw [hC]
    exact Int.mul_le_mul_of_nonneg_left (by omega) (by omega)
  rintro j lev H14 hj ⟨x14, E, rel, act, m14, t14, rl, hlev, hot, zm14⟩
  unfold F_law39_ThermalOvershootIsBounded_r2
  refine iteB_dec (fun c2 => ?_) (fun c2 => awake39_true _ _ x14)
  have hjn : j < N := by omega
  obtain ⟨p1, p2, p3, p4, p5, p6⟩ := powL_range (n := n) (l := lev) (top := top) (low := low) (by omega) hlev (by omega)
  have hnl := mul_bound (a := top - low) (b := n) (A := 499) (B := 8) (by omega) (by omega) (by omega) (by omega)
  rw [i64_in (n := top - low) (by omega), i64_in (n := (top - low) * lev) (by omega), Int.tdiv_eq_ediv_of_nonneg (by omega), i64_in (n := (top - low) * lev / n) (by omega)]
  refine ⟨by omega, letV_mk (top - (top - low) * lev / n) (i64_in (by omega)) ⟨fun x H' => x = powL top low n lev ∧ H' = H14, ?_, ?_⟩⟩
  · refine iteB_beq (fun c3 => ⟨by unfold powL; rw [if_pos c3], rfl⟩) (fun c3 => ⟨by unfold powL; rw [if_neg c3], rfl⟩)
  rintro p H15 ⟨hp, rfl⟩
  unfold F_law39_ThermalOvershootIsBounded_k1
  refine push_mk (vs := ([p] : List Int).map (Value.int .i64)) fun H16 e16 z16 b16 => ?_
  have hlt := m14.blt
  refine (Step_run b be D [] amb E rel [p] ⟨some ⟨H15.size, 0, none⟩, 1, 1⟩ H16 (m14.ext e16) hv' (by simp) t14 (Ints.of_blk b16 rfl) (by simp) (fun a ha _ => by cases ha; simp; omega) (by omega)).mono ?_
  have hok : powOk [p] D.length = true := powOk_iff.2 ⟨by simp [hDl], fun i hi => by
    obtain rfl : i = 0 := by omega
    simp
    omega⟩
  have hst' := step_wide hv' t14 hok
  have hos := osum16 t14 hv' (by omega)
  have htm := t14 0 (by omega)
  unfold tempOf at htm
  rw [hC] at htm
  obtain ⟨hot', hbd'⟩ := hot_step (C := C) (A := A) (amb := amb) (trip := amb + k) (top := top) (low := low) (n := n) (l := lev) (e := E 0) (p := p) (by omega) (by omega) (by rw [hlow]; congr 1; omega) (by omega) (by omega) hlev htm.1 hp hot
  have hbn := hot_bound (C := C) (A := A) (trip := amb + k) (top := top) (n := n) (by omega) (by omega) (by omega) hbd'
  have hE' : stepE D [] amb E (fun i => [p].getD i 0) 0 = E 0 + (p - A * (E 0 / C - amb)) := by rw [stepE_one, hA, hC]; rfl
  rintro v H17 (⟨_, tt, rfl, it, nt, m17, mm⟩ | ⟨hbad, _⟩)
  rotate_left
  · rw [hok] at hbad; cases hbad
  have hn1 := it.len
  rw [tab_length, hDl] at hn1
  obtain ⟨a3, hp3, hr3⟩ := Ints.atN it (i := 0) (by rw [tab_length]; omega)
  rw [tab_getD _ (by omega)] at hr3
  have htp : tempOf D (stepE D [] amb E (fun i => [p].getD i 0)) 0 = (E 0 + (p - A * (E 0 / C - amb))) / C := by unfold tempOf; rw [hE', hC]
  have hst0 := hst' 0 (by omega)
  rw [htp] at hr3 hst0
  have x17 : Ext H H17 := Mods.ext (x14.trans e16) mm (by simp; omega)
  have zm17 := (zm14.ext e16).mods mm (by simp; omega) (by simp; omega) (fun q _ hq => by simp; omega)
  refine ⟨tt, _, rfl, iteB_neg rfl (iteB_neg (by rw [hn1]; rfl) ⟨by omega, by rw [hn1]; decide, unSome_mk hp3 ⟨_, hr3, iteB_dec (fun c4 => by omega) (fun c4 => ⟨by omega, by rw [hn1]; decide, unSome_mk hp3 ⟨_, hr3, ?_⟩⟩)⟩⟩)⟩
  generalize hTn : (E 0 + (p - A * (E 0 / C - amb))) / C = T' at *
  refine (Update_spec bz baz _ act n lev T' H17 zm17 hVT (by omega) hlev).mono ?_
  rintro v H18 (⟨_, rfl, zm18, m18⟩ | ⟨r1, _⟩)
  rotate_left
  · omega
  have hr' := newLev_range (T := [(2, amb + k, hy0)]) (a := newAct [(2, amb + k, hy0)] T' act) (by omega : 0 ≤ n) hlev
  refine ⟨_, _, _, rfl, iteB_neg rfl (iteB_dec (fun c5 => by omega) (fun c5 => iteB_dec (fun c6 => by omega) (fun c6 => ?_)))⟩
  refine next2 hjn (by omega) ⟨Mods.ext x17 m18 (by simp; omega), _, _, _, m17.mods m18 (by simp; omega) (by simp; omega) (fun q hq => by simp; omega), hst', by simp only [Int.natCast_add, Int.natCast_one]; omega, hr', ?_, zm18⟩
  rw [hE']
  intro hh
  rw [hTn] at hh
  have hnl' : newLev [(2, amb + k, hy0)] (newAct [(2, amb + k, hy0)] T' act) n lev = min (lev + 1) n := by
    unfold newLev
    rw [if_pos]
    simp only [List.length_cons, List.length_nil, Nat.zero_add, anyK, newAct]
    have : T' ≥ tp [(2, amb + k, hy0)] 0 := by simpa [tp] using hh
    rw [if_pos this]
    rfl
  rw [hnl']
  exact hot' (by rw [hTn]; exact hh)

end Go.Proofs.Ytiikkapdchodkaa
