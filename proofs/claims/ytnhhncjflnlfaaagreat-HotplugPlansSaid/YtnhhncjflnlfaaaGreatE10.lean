/-
 Plans: assignments and moves that are the same; the law HotplugPlans.
-/
import Derived.Test.YtnhhncjflnlfaaaGreatJE
namespace Go.Proofs.YtnhhncjflnlfaaaGreat
open Go.Eng
set_option linter.unusedVariables false

theorem Equal_api_Assignment_spec (H : Heap) (a b : Sl) (A B : List Asg) (ha : IsS 5 encA H a A) (hb : IsS 5 encA H b B) (hl : A.length <= 9223372036854775807) :
  CallsH Tryz.prog n_13 #[.slice a.p a.n a.c, .slice b.p b.n b.c] H (fun v H' => v = .bool (decide (A = B)) /\ H' = H) := by
 refine F_13_ok _ _ ?_
 unfold F_13
 have na := ha.len
 have nb := hb.len
 refine iteB_bne (fun c => ⟨by rw [decide_eq_false (fun e => c (by rw [na, nb, e]))], rfl⟩) (fun c => ?_)
 have hlen : A.length = B.length := by omega
 refine loop1 A.length (fun k H' => H' = H /\ ∀ i, i < k -> A[i]? = B[i]?) ⟨rfl, fun i hi => by omega⟩ ?_
 rintro k H1 hk ⟨rfl, heq⟩
 unfold F_13_r1
 refine iteB_dec (fun c1 => ?_) (fun c1 => ⟨?_, rfl⟩)
 ·have hkA : k < A.length := by omega
  have hkB : k < B.length := by omega
  obtain ⟨p, hp, hr⟩ := IsS.atN ha ((0, 0, 0, 0), 0) hkA
  obtain ⟨q, hq, hs⟩ := IsS.atN hb ((0, 0, 0, 0), 0) hkB
  have eA : A[k]? = some (A.getD k ((0, 0, 0, 0), 0)) := by simp [List.getD, hkA]
  have eB : B[k]? = some (B.getD k ((0, 0, 0, 0), 0)) := by simp [List.getD, hkB]
  generalize A.getD k ((0, 0, 0, 0), 0) = x at *
  generalize B.getD k ((0, 0, 0, 0), 0) = y at *
  obtain ⟨⟨x0, x1, x2, x3⟩, x4⟩ := x
  obtain ⟨⟨y0, y1, y2, y3⟩, y4⟩ := y
  refine ⟨by omega, by omega, unSome_mk hp ⟨_, hr 0 _ rfl, _, hr 1 _ rfl, _, hr 2 _ rfl, _, hr 3 _ rfl, _, hr 4 _ rfl, by omega, by omega, unSome_mk hq ⟨_, hs 0 _ rfl, _, hs 1 _ rfl, _, hs 2 _ rfl, _, hs 3 _ rfl, _, hs 4 _ rfl, iteB_not (fun c2 => ⟨?_, rfl⟩) (fun c2 => letV_mk _ rfl (next1 hkA (by omega) ⟨rfl, fun i hi => ?_⟩))⟩⟩⟩
  ·rw [decide_eq_false]
   intro e
   rw [e, eB] at eA
   simp at eA
   simp at c2
   simp_all
  ·by_cases e : i = k
   ·subst e
    simp at c2
    rw [eA, eB]
    simp_all
   ·exact heq i (by omega)
 ·rw [decide_eq_true]
  apply List.ext_getElem?
  intro i
  by_cases hi : i < A.length
  ·exact heq i (by omega)
  ·rw [List.getElem?_eq_none (by omega), List.getElem?_eq_none (by omega)]

theorem Equal_api_Move_spec (H : Heap) (a b : Sl) (A B : List Mv) (ha : IsS 4 encMv H a A) (hb : IsS 4 encMv H b B) (hl : A.length <= 9223372036854775807) :
  CallsH Tryz.prog n_14 #[.slice a.p a.n a.c, .slice b.p b.n b.c] H (fun v H' => v = .bool (decide (A = B)) /\ H' = H) := by
 refine F_14_ok _ _ ?_
 unfold F_14
 have na := ha.len
 have nb := hb.len
 refine iteB_bne (fun c => ⟨by rw [decide_eq_false (fun e => c (by rw [na, nb, e]))], rfl⟩) (fun c => ?_)
 have hlen : A.length = B.length := by omega
 refine loop1 A.length (fun k H' => H' = H /\ ∀ i, i < k -> A[i]? = B[i]?) ⟨rfl, fun i hi => by omega⟩ ?_
 rintro k H1 hk ⟨rfl, heq⟩
 unfold F_14_r1
 refine iteB_dec (fun c1 => ?_) (fun c1 => ⟨?_, rfl⟩)
 ·have hkA : k < A.length := by omega
  have hkB : k < B.length := by omega
  obtain ⟨p, hp, hr⟩ := IsS.atN ha ((0, 0, 0, 0) : Mv) hkA
  obtain ⟨q, hq, hs⟩ := IsS.atN hb ((0, 0, 0, 0) : Mv) hkB
  have eA : A[k]? = some (A.getD k ((0, 0, 0, 0) : Mv)) := by simp [List.getD, hkA]
  have eB : B[k]? = some (B.getD k ((0, 0, 0, 0) : Mv)) := by simp [List.getD, hkB]
  generalize A.getD k ((0, 0, 0, 0) : Mv) = x at *
  generalize B.getD k ((0, 0, 0, 0) : Mv) = y at *
  obtain ⟨x0, x1, x2, x3⟩ := x
  obtain ⟨y0, y1, y2, y3⟩ := y
  refine ⟨by omega, by omega, unSome_mk hp ⟨_, hr 0 _ rfl, _, hr 1 _ rfl, _, hr 2 _ rfl, _, hr 3 _ rfl, by omega, by omega, unSome_mk hq ⟨_, hs 0 _ rfl, _, hs 1 _ rfl, _, hs 2 _ rfl, _, hs 3 _ rfl, iteB_not (fun c2 => ⟨?_, rfl⟩) (fun c2 => letV_mk _ rfl (next1 hkA (by omega) ⟨rfl, fun i hi => ?_⟩))⟩⟩⟩
  ·rw [decide_eq_false]
   intro e
   rw [e, eB] at eA
   simp at eA
   simp at c2
   simp_all
  ·by_cases e : i = k
   ·subst e
    simp at c2
    rw [eA, eB]
    simp_all
   ·exact heq i (by omega)
 ·rw [decide_eq_true]
  apply List.ext_getElem?
  intro i
  by_cases hi : i < A.length
  ·exact heq i (by omega)
  ·rw [List.getElem?_eq_none (by omega), List.getElem?_eq_none (by omega)]

theorem plan_nil {h : Host} {A : List Asg} {n e : Int} {Bs : List Asg} {M : List Mv} {c : Cert} (p : PlanIs [] h A n e Bs M c) : Bs = [] := by
 rcases p with ⟨_, _, hz, _⟩ | ⟨ha, e0, N, hN, ⟨_, _, hz, _⟩ | ⟨rfl, _, B, _, _, hz, _⟩ | ⟨rfl, _, e1, B1, c1, hA, ⟨_, _, hz, _⟩ | ⟨_, _, hz, _⟩⟩⟩
 ·exact hz
 ·exact hz
 ·obtain ⟨hv, ho, rfl⟩ := hN.all
  have : needsAll [] (hiF h) = [] := by
   rcases hq : needsAll [] (hiF h) with _ | ⟨x, l⟩
   ·rfl
   ·have := (needs_ok hv ho x (by rw [hq]; simp)).fn
    simp at this
    omega
  rw [hz, this]
  rfl
 ·exact hz
 ·rw [hz]
  rcases hq : B1 with _ | ⟨x, l⟩
  ·rfl
  ·have := hA.fns x (by rw [hq]; simp)
   simp at this
   omega

theorem plans_k1 {H0 : Heap} {gb : Nat} {out sa : Sl} {T' : List FS} {g : Host} {gs : HostS} {A : List Asg} {H7 : Heap} (H3 : Heap) (change ok : Bool) (k : Int) (hgb : gb = H3.size) (p : PlS H0 gb out sa T' g gs A H7) (hno : ok = false -> T' = []) : F_3_k1 (BoolP true H0) change H3 out sa ok k H7 := by
 unfold F_3_k1
 subst hgb
 have hAl := p.len
 obtain ⟨q0, q1, q2, q3, q4, q5, q6, q7⟩ := Blk.host p.blk
 refine ⟨_, q0, _, q1, _, q2, _, q3, _, q4, _, q5, _, q6, _, q7, (Plan_spec T' out g gs A sa k H7 p.topo p.cap p.m p.isA p.acap (by omega) p.u64).mono ?_⟩
 rintro v H8 ⟨o1, m1, ea, B1, M1, c1, rfl, pl1, ⟨is1, cp1⟩, mv1, e8⟩
 refine ⟨o1, m1, _, _, _, _, _, rfl, local_mk (vs := encC c1) rfl rfl fun H10 e10 z10 b10 => ?_⟩
 have p10 := p.go (e8.trans e10)
 obtain ⟨q0, q1, q2, q3, q4, q5, q6, q7⟩ := Blk.host p10.blk
 refine ⟨_, q0, _, q1, _, q2, _, q3, _, q4, _, q5, _, q6, _, q7, (rPlan_spec T' out g gs A sa k H10 p10.topo p10.cap p10.m p10.isA p10.acap (by omega) p10.u64).mono ?_⟩
 rintro v H11 ⟨o2, m2, eb, B2, M2, c2, rfl, pl2, ⟨is2, cp2⟩, mv2, e11⟩
 obtain ⟨rfl, rfl, rfl, rfl⟩ := pl1.uni pl2
 refine ⟨o2, m2, _, _, _, _, _, rfl, local_mk (vs := encC c1) rfl rfl fun H13 e13 z13 b13 => (awake_spec H13).mono ?_⟩
 rintro v H14 ⟨rfl, e14⟩
 have x14 := (e11.trans e13).trans e14
 have y14 := e13.trans e14
 have hbd := pl1.bounds
 refine ⟨_, rfl, iteB_pos rfl ((Equal_api_Assignment_spec H14 o1 o2 B1 B1 (is1.ext (e10.trans x14)) (is2.ext y14) (by omega)).mono ?_)⟩
 rintro v H15 ⟨rfl, rfl⟩
 refine ⟨_, rfl, iteB_pos (by simp) ((Equal_api_Move_spec H15 m1 m2 M1 M1 (mv1.ext (e10.trans x14)) (mv2.ext y14) (by omega)).mono ?_)⟩
 rintro v H16 ⟨rfl, rfl⟩
 have c10 := b10.ext x14
 have c13 := b13.ext e14
 have x16 := (p10.go x14).ext
 refine ⟨_, rfl, iteB_pos (by simp) ⟨_, c10.rd0 rfl, _, c10.rd (i := 1) rfl, _, c10.rd (i := 2) rfl, _, c10.rd (i := 3) rfl, _, c13.rd0 rfl, _, c13.rd (i := 1) rfl, _, c13.rd (i := 2) rfl, _, c13.rd (i := 3) rfl, iteB_pos (by simp) (iteB_pos (by simp) (iteB_intro (fun _ => ⟨rfl, x16⟩) (fun hk => iteB_intro (fun _ => ⟨rfl, x16⟩) (fun _ => ⟨?_, x16⟩))))⟩⟩
 have hB : B1 = [] := by
  have := hno hk
  subst this
  exact plan_nil pl1
 have := is1.len
 rw [hB] at this
 rw [this]
 rfl

theorem law_plans (H : Heap) (l c : Sl) (L C0 : List FS) (h : Host) (hs : HostS) (atv n : Int) (x : Asg) (change : Bool) (hL : Topo H l L) (hl : L.length <= 9223372036854775807) (hb : ∀ x ∈ L, x.1.bars.length <= 9223372036854775807) (hC : Topo H c C0) (hcl : C0.length <= 9223372036854775807) (hcb : ∀ x ∈ C0, x.1.bars.length <= 9223372036854775807) (hm : HostM H h hs) (hx : U64 x.2) :
  CallsH Tryz.prog n_3 #[.slice l.p l.n l.c, .slice c.p c.n c.c, hostV h hs, .int .i64 atv, .int .i64 n, .agg #[.int .i64 x.1.1, .int .i64 x.1.2.1, .int .i64 x.1.2.2.1, .int .i64 x.1.2.2.2, .int .u64 x.2], .bool change] H (BoolP true H) := by
 refine F_3_ok _ _ _ _ _ _ _ _ _ _ _ _ _ _ _ _ _ _ ?_
 unfold F_3
 refine push_mk (vs := hostL h hs) fun H1 e1 z1 b1 => push_mk (vs := encA x) fun H2 e2 z2 b2 => ?_
 have x2 := e1.trans e2
 obtain ⟨q0, q1, q2, q3, q4, q5, q6, q7⟩ := Blk.host (b1.ext e2)
 refine ⟨_, q0, _, q1, _, q2, _, q3, _, q4, _, q5, _, q6, _, q7, (plugged_spec l c L C0 h hs atv H2 (hL.ext x2) hl hb (hC.ext x2) hcl hcb (hm.ext x2)).mono ?_⟩
 rintro v H3 ⟨out, sa, g, gs, A, k, ok, T', rfl, p3⟩
 refine ⟨out, _, _, _, _, _, _, _, _, sa, _, _, rfl, local_mk (vs := hostL g gs) rfl rfl fun H5 e5 z5 b5 => ?_⟩
 have p5 : PlS H H3.size out sa T' g gs A H5 := ⟨p3.topo.ext e5, p3.cap, p3.m.ext e5, (Own.is rkAsg p3.own).ext e5, p3.own.cap, p3.len, p3.u64, b5, (x2.trans p3.ext).trans e5⟩
 have hno := p3.no
 refine ⟨fun k H7 => ∃ A', PlS H H3.size out sa T' g gs A' H7, ?_, fun k H7 ⟨A', p⟩ => plans_k1 H3 change ok k rfl p hno⟩
 refine iteB_intro (fun _ => iteB_dec (fun d => ?_) (fun d => ⟨A, p5⟩)) (fun _ => ⟨A, p5⟩)
 have hn := p5.isA.len
 have hA1 := p5.len
 obtain ⟨_, ⟨_, hs'⟩ | ⟨bb, hp, hlo, rb3⟩⟩ := Own.rb encA_len (by omega) p3.own
 ·rw [hs'] at d; simp at d
 have rb5 := rb3.ext e5
 have hmi := modI_range atv (n := (sa.n : Int)) (by omega)
 refine Mod_pure _ _ (by omega) (by omega) ⟨_, rfl, _, ((b2.ext p3.ext).ext e5).rd (i := 4) rfl, by omega, by omega, unSome_mk hp ?_⟩
 obtain ⟨i, hi⟩ := Int.eq_ofNat_of_zero_le hmi.1
 rw [hi]
 have hiA : i < A.length := by omega
 have hg : A[i]? = some (A.getD i zA) := by simp [List.getD, hiA]
 refine ⟨rb5.ok hiA (by omega), letH_mk ?_⟩
 intro H6 h6
 have rb6 : RB H6 bb t_32 5 encA (A.set i ((A.getD i zA).1, x.2)) := by rw [h6]; exact rb5.wrSub hg (by simp) rfl
 have m6 : Mods [bb] H5 H6 := by rw [h6]; exact mods_wr2
 clear h6
 obtain ⟨_, ex, bk⟩ := rb5
 have m1 := (p3.hty.ext e5)
 refine ⟨A.set i ((A.getD i zA).1, x.2), ⟨topo_mods bk m6 p5.topo (p3.ty.ext e5) (p3.gt.ext e5) (by decide) (by decide), p5.cap, p5.m.modsE m1 bk m6 (by decide) (by decide) (by decide), ?_, p5.acap, by simpa using p5.len, ?_, ?_, Mods.ext p5.ext m6 (fun y hy => by simp at hy; subst hy; exact Nat.le_trans x2.size hlo)⟩⟩
 ·obtain ⟨sp, sn, sc⟩ := sa
  dsimp only at hp
  subst hp
  exact RB.isS rb6 _ _ (by simp; exact hn)
 ·intro j hj
  by_cases e : j = i
  ·subst e
   simp [List.getD, hiA]
   exact hx
  ·have := p5.u64 j (by simpa using hj)
   simp only [List.getD] at this ⊢
   rw [List.getElem?_set_ne (fun h => e h.symm)]
   exact this
 ·exact b5.mods m6 (by have := rb3.lt; simp; omega)

end Go.Proofs.YtnhhncjflnlfaaaGreat
