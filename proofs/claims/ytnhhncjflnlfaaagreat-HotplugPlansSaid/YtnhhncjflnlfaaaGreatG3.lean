/-
 The generator's registers.
-/
import Derived.Test.YtnhhncjflnlfaaaGreatG2
import Derived.Test.YtnhhncjflnlfaaaGreatEngC
namespace Go.Proofs.YtnhhncjflnlfaaaGreat
open Go.Eng

structure GBars (most : Nat) (H : Heap) (v : Value) (H' : Heap) : Prop where
 ex : ∃ (out : Sl) (B : List Bar), v = .slice out.p out.n out.c /\ Own H.size t_101 2 H' out (B.flatMap encBar) /\ out.n = B.length /\ BarsOk B /\ B.length <= most /\ Ext H H'

theorem barsOk_one {k n : Int} (h : (k = 0 /\ n = 0) \/ (k = 1 /\ 2 <= n /\ n <= 8) \/ (k = 2 /\ 4 <= n /\ n <= 31)) : BarsOk [(k, n)] := by
 intro i hi
 obtain rfl : i = 0 := by simpa using hi
 unfold BarOk bk bz
 simp
 omega
theorem barsOk_two {k n : Int} (h : (k = 3 \/ k = 4) /\ 4 <= n /\ n <= 40) : BarsOk [(k, n), (0, 0)] := by
 intro i hi
 rcases (by simp at hi; omega : i = 0 \/ i = 1) with rfl | rfl
 ·unfold BarOk bk bz
  simp
  omega
 ·unfold BarOk bk bz
  simp

theorem gBars_spec (H : Heap) (s : Sl) (B : List Bar) (most : Nat) (hB : Bars H s B) (hm : most <= 6) (hs : B.length <= 9223372036854775807) :
  CallsH Tryz.prog n_59 #[.slice s.p s.n s.c, .int .i64 most] H (GBars most H) := by
 refine F_59_ok _ _ ?_
 unfold F_59
 have hn := hB.len
 refine loop2 B.length (fun k out H' => ∃ O, Own H.size t_101 2 H' out (O.flatMap encBar) /\ out.n = O.length /\ BarsOk O /\ O.length <= most /\ Ext H H') ⟨[], Own.nil _ _ _ _, rfl, fun i hi => by simp at hi, by simp, .refl _⟩ ?_
 rintro k out H1 hk ⟨O, o1, n1, ok1, l1, e1⟩
 unfold F_59_r3
 refine iteB_dec (fun c1 => iteB_dec (fun c2 => ?_) (fun _ => ⟨out, O, rfl, o1, n1, ok1, l1, e1⟩)) (fun _ => ⟨out, O, rfl, o1, n1, ok1, l1, e1⟩)
 have hkn : k < B.length := by omega
 obtain ⟨a, hp, r0, r1⟩ := Bars.atN (hB.ext e1) hkn
 have m5 := modI_range (bk B k) (n := 5) (by omega)
 have m30 := modI_range (bz B k) (n := 30) (by omega)
 refine ⟨by omega, by omega, unSome_mk hp ⟨_, r0, Mod_pure _ _ (by omega) (by omega) ⟨_, rfl, by omega, by omega, unSome_mk hp ⟨_, r1, Mod_pure _ _ (by omega) (by omega) ⟨_, rfl, ?_⟩⟩⟩⟩⟩
 generalize modI (bk B k) 5 = kk at *
 generalize modI (bz B k) 30 = nn at *
 have t7 : nn.tmod 7 = nn % 7 := Int.tmod_eq_emod_of_nonneg m30.1
 have t16 : nn.tmod 16 = nn % 16 := Int.tmod_eq_emod_of_nonneg m30.1
 have t4 : nn.tmod 4 = nn % 4 := Int.tmod_eq_emod_of_nonneg m30.1
 refine ⟨fun n' H' => H' = H1 /\ ((kk = 0 /\ n' = 0) \/ (kk = 1 /\ 2 <= n' /\ n' <= 8) \/ (kk = 2 /\ 4 <= n' /\ n' <= 31) \/ ((kk = 3 \/ kk = 4) /\ 4 <= n' /\ n' <= 40)), ?_, ?_⟩
 ·refine iteB_beq (fun d0 => ⟨rfl, .inl ⟨d0, rfl⟩⟩) (fun d0 => iteB_beq (fun d1 => letV_mk (2 + nn % 7) (by rw [t7, i64_in (by omega)]) ⟨rfl, by omega⟩) (fun d1 => ?_))
  refine ⟨fun x H' => H' = H1 /\ (kk = 2 -> x = true), iteB_beq (fun d2 => ⟨rfl, fun _ => rfl⟩) (fun d2 => ⟨rfl, fun h => absurd h d2⟩), ?_⟩
  rintro x H2 ⟨rfl, hx⟩
  unfold F_59_k1
  refine iteB_intro (fun c => letV_mk (8 + nn % 16) (by rw [t16, i64_in (by omega)]) ⟨rfl, by omega⟩) (fun c => letV_mk (30 + nn % 4) (by rw [t4, i64_in (by omega)]) ⟨rfl, ?_⟩)
  have : kk ≠ 2 := fun h => by have := hx h; rw [c] at this; cases this
  omega
 ·rintro n' H3 ⟨rfl, hn'⟩
  unfold F_59_k2
  have nb := blkOf_new o1.new
  refine iteB_dec (fun c3 => ?_) (fun c3 => ?_)
  ·refine append_row (enc := encBar) (l := O) (z := .agg #[.int .i64 0, .int .i64 0]) (sz := 2) (bytes := 16) (lo := H.size) (kk, n') (by kernel_rfl) (by kernel_rfl) rfl (by omega) encBar_len encBar_one o1 (by simp [maxLen]; omega) (by omega) e1.size ?_
   intro s' H5 ho hn5 m5'
   exact letV_mk _ rfl (next2 hkn (by omega) ⟨O ++ [(kk, n')], ho, by simp; omega, ok1.append (barsOk_one (by omega)), by simp; omega, Mods.ext e1 m5' nb⟩)
  ·rw [i64_in (n := (out.n : Int) + 2) (by omega)]
   refine iteB_dec (fun c4 => ?_) (fun c4 => letV_mk _ rfl (next2 hkn (by omega) ⟨O, o1, n1, ok1, l1, e1⟩))
   refine append_rows (enc := encBar) (l := O) (n := 2) (z := .agg #[.int .i64 0, .int .i64 0]) (sz := 2) (bytes := 16) (lo := H.size) [(kk, n'), (0, 0)] (by kernel_rfl) (by kernel_rfl) rfl (by omega) encBar_len encBar_one rfl o1 (by simp [maxLen]; omega) (by omega) e1.size ?_
   intro s' H5 ho hn5 m5'
   exact letV_mk _ rfl (next2 hkn (by omega) ⟨O ++ [(kk, n'), (0, 0)], ho, by simp; omega, ok1.append (barsOk_two (by omega)), by simp; omega, Mods.ext e1 m5' nb⟩)

end Go.Proofs.YtnhhncjflnlfaaaGreat
