/-
  The contract of the law ThermalThrottledGovernor.
-/
import Derived.Test.YtiikkapdchodkaaL3
import Derived.Test.YtiikkapdchodkaaT9
import Derived.Test.YtiikkapdchodkaaT10
namespace Go.Proofs.Ytiikkapdchodkaa
open Go.Eng Go.Heat

variable {Q : Nat → Prop}

theorem law_throttledGovernor (H : Heap) (d : Dom) (amb0 lim : Int) (s sl : Sl) (A0 : List Act) (lds : List Int) (h : Acts H s A0) (ho0 : okA A0) (hl : Ints .i64 H sl lds) :
    CallsH Try.prog n_law39_ThermalThrottledGovernor #[.agg (encD d).toArray, .int .i64 amb0, .int .i64 lim, .slice s.p s.n s.c, .slice sl.p sl.n sl.c] H (fun v H' => v = .bool true ∧ Ext H H') := by
  refine F_law39_ThermalThrottledGovernor_ok _ _ _ _ _ _ ?_
  unfold F_law39_ThermalThrottledGovernor
  refine push_mk (vs := encD d) fun H1 e1 z1 b1 => ?_
  refine ⟨fun x H' => x = decide (s.n > 20 ∨ sl.n > 40) ∧ H' = H1, ?_, ?_⟩
  · refine iteB_dec (fun c => ?_) (fun c => ?_)
    · exact ⟨by rw [decide_eq_true]; omega, rfl⟩
    · exact ⟨decide_eq_decide.2 (by omega), rfl⟩
  rintro x H2 ⟨rfl, rfl⟩
  unfold F_law39_ThermalThrottledGovernor_k2
  refine iteB_dec (fun c => awake39_true _ _ e1) (fun c => ?_)
  refine ⟨_, b1.rd0 rfl, _, b1.rd (i := 1) rfl, push_mk (vs := ([d] : List Dom).flatMap encD) fun H3 e3 z3 b3 => ?_⟩
  refine (Some_spec1 H3 ⟨some ⟨H2.size, 0, none⟩, 1, 1⟩ ⟨none, 0, 0⟩ [d] [] amb0 (IsS.of_blk encD_len b3 rfl (fun _ _ h => h)) (IsS.nil _ _ _)).mono ?_
  rintro v H4 ⟨bd, ls, D, L, amb, ⟨rfl, hsys, hbd, hD, _, e4⟩, hDn⟩
  have hv := hsys.vs
  have hDl : D.length = 1 := by have := hv.n1; simp at hDn; omega
  have hsm := hsys.small 0 (by omega)
  have ha1 := hv.dom 0 (by omega)
  have h100 := hsys.a100
  have x4 := (e1.trans e3).trans e4
  refine ⟨⟨_, _, _⟩, _, _, rfl, local_mk rfl rfl fun H6 e6 z6 b6 => ?_⟩
  have hm := modI_range lim (n := 60) (by omega)
  rw [umod_code _ (by omega) (by omega)]
  have hD6 := hD.ext e6
  have hd0 := dom_get (D := D) (i := 0) (by omega)
  refine ⟨_, b6.rd (i := 2) rfl, letV_mk (amb + modI lim 60) (i64_in (by omega)) ⟨⟨some ⟨bd, 0, none⟩, D.length, D.length⟩, b6.rd0 rfl, by omega, by dsimp only; omega, _, hD6.rd0 hd0 rfl, _, hD6.rd hd0 rfl, _, b6.rd (i := 2) rfl, ?_⟩⟩
  generalize hk : modI lim 60 = k at *
  generalize hA : ambOf D 0 = A at *
  refine (Sustainable_spec H6 (capOf D 0) A amb (amb + k) (hA ▸ hv.one (by omega)) (by omega) (by omega)).mono ?_
  rintro v H7 ⟨rfl, e7⟩
  have b7 := b6.ext e7
  have hD7 := hD6.ext e7
  rw [show amb + k - amb = k by omega]
  have hmul := mul_bound (a := A) (b := k) (A := 6) (B := 60) (by omega) (by omega) (by omega) (by omega)
  have hmul0 : 0 ≤ A * k := Int.mul_nonneg (by omega) (by omega)
  have hv' := hv.noLinks
  refine ⟨_, _, rfl, ⟨_, _, _⟩, b7.rd0 rfl, _, b7.rd (i := 2) rfl, (New_spec H7 ⟨some ⟨bd, 0, none⟩, D.length, D.length⟩ ⟨none, 0, 0⟩ D [] amb (hD7.isS _ _ rfl) (IsS.nil _ _ _) (by simp)).mono ?_⟩
  rintro v H8 (⟨_, b, be, rfl, hm8, hb, hbe, e8⟩ | ⟨hbad, _⟩)
  rotate_left
  · exact absurd hv' hbad
  have x8 := ((x4.trans e6).trans e7).trans e8
  have z7 := (((x4.trans e6).trans e7)).size
  have hlt8 := hm8.blt
  refine ⟨_, _, rfl, (Table_spec H8 s A0 (h.ext x8) ho0).mono ?_⟩
  rintro v H9 ⟨t, rfl, hown, e9⟩
  have ht : Acts H9 t (tableF A0) := hown.isS encA_len (by omega)
  have hV := tableF_VP ho0
  have hPn := tableF_okA ho0
  have htn := ht.len
  have htb := hown.lt
  have htw := hown.new
  generalize tableF A0 = P at *
  have hP16 := hV.2.1
  have z8 := e8.size
  have z9 := e9.size
  refine ⟨t, rfl, (perfNew_spec H9 t P ht hV).mono ?_⟩
  rintro v H10 ⟨g, rfl, hg, gm10, e10⟩
  have x10 := (x8.trans e9).trans e10
  refine ⟨_, _, rfl, iteB_neg rfl (iteB_neg rfl (iteB_neg rfl (iteB_neg rfl (iteB_neg rfl (iteB_dec (fun c1 => by omega) (fun c1 => ?_))))))⟩
  rw [u64_in (n := A * k) (by omega)]
  refine (Throttle_spec H10 t P (A * k) (ht.ext e10)).mono ?_
  rintro v H11 ⟨⟨hbad, _⟩ | ⟨_, _, rfl⟩ | ⟨_, cc, h1, h2, h3, rfl⟩, e11⟩
  · exact absurd hV hbad
  · exact ⟨_, _, rfl, iteB_pos rfl (iteB_pos rfl (awake39_true _ _ (x10.trans e11)))⟩
  refine ⟨_, _, rfl, iteB_neg rfl ((Limit_spec H11 g P _ cc (gm10.ext e11) (by omega)).mono ?_)⟩
  rintro v H12 ⟨rfl, gm12, m12⟩
  refine ⟨_, rfl, iteB_neg rfl ?_⟩
  have hT0 : TB D (fun i => capOf D i * amb) amb (amb + k) := start_TB hv' (by omega)
  have hln := hl.len
  have hm11 := (((hm8.tight).ext e9).ext e10).ext e11
  refine loop1 lds.length (fun j H' => Ext H H' ∧ ∃ E rel cur, HM t_heat_Model (fun k => H7.size ≤ k ∧ k < H8.size) H' b be D [] amb E rel ∧ TB D E amb (amb + k) ∧ (0 ≤ rel ∧ rel ≤ 4503599627370496 * j) ∧ (0 ≤ cur ∧ cur ≤ (cc : Int)) ∧ GM (fun k => H9.size ≤ k ∧ k < g) H' g P 0 cc cur ∧ Acts H' t P)
    ⟨Mods.ext (x10.trans e11) m12 (by simp; omega), _, _, 0, hm11.mods m12 (by simp; omega) (by simp; omega) (fun k hk => by simp; omega), hT0, by omega, by omega, gm12, ((ht.ext e10).ext e11).mods m12 (fun a ha => by have := htb a ha; simp; omega)⟩ ?_
  rintro j H15 hj ⟨e15, E, rel, cur, m15, t15, rl, hcur, g15, ta15⟩
  unfold F_law39_ThermalThrottledGovernor_r1
  refine iteB_dec (fun c2 => ?_) (fun c2 => awake39_true _ _ e15)
  have hjn : j < lds.length := by omega
  obtain ⟨a1, hp1, hr1⟩ := Ints.atN (hl.ext e15) hjn
  refine ⟨by omega, by omega, unSome_mk hp1 ⟨_, hr1, (Mod_spec _ _ H15 (by omega) (by omega)).mono ?_⟩⟩
  rintro v H16 ⟨rfl, rfl⟩
  have hld := modI_range (lds.getD j 0) (n := 101) (by omega)
  refine ⟨_, rfl, (Sample_spec H16 g P 0 cc cur _ g15 (by omega) hP16 (by omega)).mono ?_⟩
  rintro v H17 ⟨x, rfl, hx, g17, m17⟩
  have x17 : Ext H H17 := Mods.ext e15 m17 (by simp; omega)
  have ta17 := ta15.mods m17 (fun a ha => by have := htb a ha; simp; omega)
  have hm17 := m15.mods m17 (by simp; omega) (by simp; omega) (fun k hk => by simp; omega)
  obtain ⟨q, rfl⟩ : ∃ q : Nat, x = q := ⟨x.toNat, by omega⟩
  obtain ⟨a2, hp2, _, _, r2⟩ := Acts.atN ta17 (k := q) (by omega)
  have hmq := hV.mono cc q (by omega) h1
  have hq0 := (hPn q).2.2
  refine ⟨_, _, rfl, iteB_neg rfl (iteB_dec (fun c3 => by omega) (fun c3 => iteB_dec (fun c4 => by omega) (fun c4 => ⟨by omega, by omega, unSome_mk hp2 ⟨_, r2, ?_⟩⟩)))⟩
  rw [i64_in (n := mx P q) (by omega)]
  refine push_mk (vs := ([mx P q] : List Int).map (Value.int .i64)) fun H18 e18 z18 b18 => ?_
  have hlt := hm17.blt
  refine (Step_keep b be D [] amb (amb + k) E rel [mx P q] ⟨some ⟨H17.size, 0, none⟩, 1, 1⟩ H18 (hm17.ext e18) hv' (by simp) (by omega) t15 (Ints.of_blk b18 rfl) (by simp [hDl]) (fun i hi => ?_) (fun a ha => by cases ha; simp; omega) (by omega)).mono ?_
  · obtain rfl : i = 0 := by omega
    rw [hA, show amb + k - amb = k by omega]
    simp
    omega
  rintro v H19 ⟨tt, rel', rfl, it, nt, m19, t19, l1, l2, mm⟩
  have hn := it.len
  rw [tab_length, hDl] at hn
  obtain ⟨a3, hp3, hr3⟩ := Ints.atN it (i := 0) (by rw [tab_length]; omega)
  rw [tab_getD _ (by omega)] at hr3
  have ht0 := t19 0 (by omega)
  refine ⟨tt, _, rfl, iteB_neg rfl (iteB_neg (by rw [hn]; rfl) ⟨by omega, by rw [hn]; decide, unSome_mk hp3 ⟨_, hr3, iteB_dec (fun c4 => by omega) (fun c4 => ?_)⟩⟩)⟩
  refine next1 hjn (by omega) ⟨Mods.ext (x17.trans e18) mm (by simp; omega), _, rel', q, m19, t19, by simp only [Int.natCast_add, Int.natCast_one]; omega, by omega, (g17.ext e18).mods mm (by simp; omega) (fun k hk => by simp; omega), (ta17.ext e18).mods mm (fun a ha => by have := htw a ha; simp; omega)⟩

end Go.Proofs.Ytiikkapdchodkaa
