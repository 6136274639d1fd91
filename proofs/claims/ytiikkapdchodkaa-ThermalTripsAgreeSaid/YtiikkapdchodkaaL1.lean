/-
  The contract of the law ThermalTripsAgree.
-/
import Derived.Test.YtiikkapdchodkaaT6
namespace Go.Proofs.Ytiikkapdchodkaa
open Go.Eng

variable {Q : Nat → Prop}

theorem NewZP.simple {tm : TypeId} {C : Nat → Prop} {T : List Trp} {n : Int} {H : Heap} {v : Value} {H' : Heap} (h : NewZP tm C Q T n H v H') :
    ∃ p : Option Addr, v = .tuple #[.pointer p, .int .i64 (errI (ZoneOk T n))] ∧ (p.isNone == (errI (ZoneOk T n) != 0)) = true ∧ Ext H H' := by
  rcases h with ⟨hz, b, ba, rfl, _, _, _, e⟩ | ⟨hz, rfl, e⟩
  · exact ⟨_, by rw [errI_t hz], by rw [errI_t hz]; rfl, e⟩
  · exact ⟨_, by rw [errI_f hz], by rw [errI_f hz]; rfl, e⟩

theorem law_tripsAgree (H : Heap) (s : Sl) (A : List Trp) (levels k : Int) (x : Trp) (h : Trps H s A) :
    CallsH Try.prog n_law39_ThermalTripsAgree #[.slice s.p s.n s.c, .int .i64 levels, .int .i64 k, .agg (encT x).toArray] H (fun v H' => v = .bool true ∧ Ext H H') := by
  refine F_law39_ThermalTripsAgree_ok _ _ _ _ _ _ ?_
  unfold F_law39_ThermalTripsAgree
  refine push_mk (vs := encT x) fun H1 e1 z1 b1 => ?_
  refine iteB_dec (fun c => ?_) (fun c => ?_)
  · refine (awake39_spec H1).mono ?_
    rintro v H2 ⟨rfl, e2⟩
    exact ⟨_, rfl, rfl, e1.trans e2⟩
  refine (Trips_spec H1 s A (h.ext e1)).mono ?_
  rintro v H3 ⟨l, rfl, ho, e3⟩
  refine ⟨l, rfl, fun H' => Ext H H' ∧ ∃ L, Trps H' l L, ?_, ?_⟩
  · obtain ⟨hn, hc⟩ := ho.rb encT_len (by omega)
    have x3 := e1.trans e3
    refine iteB_dec (fun c1 => ?_) (fun c1 => ⟨x3, _, ho.isS encT_len (by omega)⟩)
    rcases hc with ⟨hnil, _⟩ | ⟨g, hg, hg2, hrb⟩
    · rw [hnil] at hn; simp at hn; omega
    have b3 := b1.ext e3
    refine ⟨_, b3.rd0 rfl, (Mod_spec _ _ H3 (by omega) (by omega)).mono ?_⟩
    rintro v H4 ⟨rfl, rfl⟩
    refine ⟨_, rfl, b3.ok0 (by simp [encT]), letH_mk ?_⟩
    rintro H5 rfl
    have m5 : Mods [H.size] H4 (wrs H4 (⟨H.size, 0, none⟩ : Addr) [.int .i64 (modI x.1 5)]) := Mods.wrs (by simp)
    have b5 : Blk (wrs H4 (⟨H.size, 0, none⟩ : Addr) [.int .i64 (modI x.1 5)]) H.size t_api_Trip [.int .i64 (modI x.1 5), .int .i64 x.2.1, .int .i64 x.2.2] := b3.wr
    have r5 := hrb.mods m5 (by simp; omega)
    have lt : (l.n : Int) ≤ 9223372036854775807 := by rw [hn, tripsF_len]; omega
    have hm := modI_range k (n := l.n) (by omega)
    refine Mod_pure _ _ (by omega) lt ⟨_, rfl, _, b5.rd0 rfl, _, b5.rd (i := 1) rfl, _, b5.rd (i := 2) rfl, hm.1, hm.2, unSome_mk hg ⟨r5.ok0 (by omega) (by omega), letH_mk ?_⟩⟩
    rintro H6 rfl
    have r6 := r5.wrRow (i := (modI k l.n).toNat) (modI x.1 5, x.2.1, x.2.2) (by omega)
    refine ⟨Mods.ext (Mods.ext x3 m5 (by simp)) (mods_wr_add (S := [g]) (by simp)) (by simp; omega), (tripsF A).set (modI k l.n).toNat (modI x.1 5, x.2.1, x.2.2), ?_⟩
    obtain ⟨p, n, cc⟩ := l
    dsimp only at hg
    subst hg
    exact r6.isS _ _ (by simpa using hn)
  rintro H7 ⟨e7, L, h7⟩
  unfold F_law39_ThermalTripsAgree_k1
  refine (NewZone_spec H7 s A levels (h.ext e7)).mono ?_
  intro v H8 hz
  obtain ⟨p1, rfl, q1, e8⟩ := hz.simple
  refine ⟨_, _, rfl, (rNewZone_spec (Q := fun _ => True) H8 s A levels (h.ext (e7.trans e8))).mono ?_⟩
  intro v H9 hz
  obtain ⟨p2, rfl, _, e9⟩ := hz.simple
  refine ⟨_, _, rfl, (Mod_spec _ _ H9 (by omega) (by omega)).mono ?_⟩
  rintro v H10 ⟨rfl, rfl⟩
  have hm := modI_range levels (n := 70) (by omega)
  refine ⟨_, rfl, ?_⟩
  rw [i64_in (n := modI levels 70 - 2) (by omega)]
  refine (NewZone_spec H10 l L _ ((h7.ext e8).ext e9)).mono ?_
  intro v H11 hz
  obtain ⟨p3, rfl, q3, e11⟩ := hz.simple
  refine ⟨_, _, rfl, (Mod_spec _ _ H11 (by omega) (by omega)).mono ?_⟩
  rintro v H12 ⟨rfl, rfl⟩
  refine ⟨_, rfl, ?_⟩
  rw [i64_in (n := modI levels 70 - 2) (by omega)]
  have x10 := e8.trans e9
  have x11 := x10.trans e11
  refine (rNewZone_spec (Q := fun _ => True) H12 l L _ (h7.ext x11)).mono ?_
  intro v H13 hz
  obtain ⟨p4, rfl, _, e13⟩ := hz.simple
  have x13 := x11.trans e13
  refine ⟨_, _, rfl, (CheckTrips_spec H13 s A (h.ext (e7.trans x13))).mono ?_⟩
  rintro v H14 ⟨rfl, e14⟩
  have x14 := x13.trans e14
  refine ⟨_, rfl, (rCheckTrips_spec H14 s A (h.ext (e7.trans x14))).mono ?_⟩
  rintro v H15 ⟨rfl, e15⟩
  have x15 := x14.trans e15
  refine ⟨_, rfl, iteB_pos (by simp) ((CheckTrips_spec H15 l L (h7.ext x15)).mono ?_)⟩
  rintro v H16 ⟨rfl, e16⟩
  have x16 := x15.trans e16
  refine ⟨_, rfl, (rCheckTrips_spec H16 l L (h7.ext x16)).mono ?_⟩
  rintro v H17 ⟨rfl, e17⟩
  have x17 := x16.trans e17
  refine ⟨_, rfl, iteB_pos (by simp) (iteB_pos (by simp) (iteB_pos (by simp) (iteB_pos q1 (iteB_pos q3 ((awake39_spec H17).mono ?_)))))⟩
  rintro v H18 ⟨rfl, e18⟩
  exact ⟨_, rfl, rfl, (e7.trans x17).trans e18⟩

end Go.Proofs.Ytiikkapdchodkaa
