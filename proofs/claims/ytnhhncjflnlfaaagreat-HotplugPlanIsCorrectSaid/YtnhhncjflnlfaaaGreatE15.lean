/-
 HotplugPlanIsCorrect.
-/
import Derived.Test.YtnhhncjflnlfaaaGreatE14
namespace Go.Proofs.YtnhhncjflnlfaaaGreat
open Go.Eng
set_option linter.unusedVariables false

theorem fitsF_all {T : List FS} {N : List Need} {n : Nat} {B0 : List Int} (hu : AllU B0) : ∀ {m : Nat} {B : List Int}, fitsF T N n B0 m = some B → AllU B
 | 0, B, h => by cases h; exact hu
 | m + 1, B, h => by
  simp only [fitsF] at h
  cases h1 : fitsF T N n B0 m with
  | none => rw [h1] at h; cases h
  | some B1 =>
   rw [h1] at h
   exact fillF_all h (fitsF_all hu h1)
theorem PlanIs.u64 {T : List FS} {h : Host} {A Bs : List Asg} {M : List Mv} {n e : Int} {c : Cert} (p : PlanIs T h A n e Bs M c) (hA : A.length ≤ 1000) (hu : ∀ i, i < A.length → U64 (A.getD i zA).2) : ∀ i, i < Bs.length → U64 (Bs.getD i zA).2 := by
 rcases p with ⟨_, _, rfl, _⟩ | ⟨ha, e0, N, hN, ⟨_, _, rfl, _⟩ | ⟨h0, hc, B, hB, _, rfl, _⟩ | ⟨_, _, e1, B1, c1, hA, ⟨_, _, rfl, _⟩ | ⟨_, _, rfl, _⟩⟩⟩
 ·intro i hi; simp at hi
 ·intro i hi; simp at hi
 ·subst h0
  have hN' := hN
  obtain ⟨hv, ho, rfl⟩ := hN.all
  unfold extF at hB
  split at hB
  ·rename_i hs
   have od := old_of ha hN' hc
   have hAu := hu
   have hu0 : AllU (B0F (needsAll T (hiF h)) A n.toNat) := fun x hx => by
    obtain ⟨i, hi, rfl⟩ := List.getElem_of_mem hx
    have hi' : i < (needsAll T (hiF h)).length := by rw [B0F_len] at hi; exact hi
    have e : (B0F (needsAll T (hiF h)) A n.toNat)[i] = (B0F (needsAll T (hiF h)) A n.toNat).getD i 0 := by simp [List.getD, hi]
    rw [e, B0F_at hi']
    split
    ·rename_i hf
     obtain ⟨j, hj, he⟩ := od.all hs (getD_mem' zN hi') hf
     rw [bas_at od.nodup hj he]
     exact hAu j hj
    ·unfold U64; omega
   have hall := fitsF_all hu0 hB
   have hl : B.length = (needsAll T (hiF h)).length := by rw [(fitsF_old hB).1, B0F_len]
   intro i hi
   rw [zip_len hl] at hi
   have e : ((needsAll T (hiF h)).zip B).getD i zA = ((needsAll T (hiF h)).getD i (0, 0, 0, 0), B.getD i 0) := by
    unfold List.getD
    rw [zip_getD hl hi]
    rfl
   rw [e]
   exact hall.at (by omega)
  ·cases hB
 ·intro i hi; simp at hi
 ·exact hA.u64.2

theorem plan_err {T : List FS} {h : Host} {A Bs : List Asg} {M : List Mv} {n e : Int} {c : Cert} (ha : AccOk T h n) (he : e ≠ 0) (p : PlanIs T h A n e Bs M c) : e = 19 ∨ e = 11 := by
 have hne : ∀ {e0 N}, NeedsIs T (hiF h) e0 N → e0 ≠ 0 → e0 = 11 := fun hN h0 => by
  rcases hN with ⟨h1, _⟩ | ⟨_, _, h1, _⟩ | ⟨_, _, h1, _⟩
  ·exact absurd ha.1.1 h1
  ·exact h1
  ·exact absurd h1 h0
 rcases p with ⟨h0, _⟩ | ⟨_, e0, N, hN, ⟨h1, h2, _⟩ | ⟨h0, _, _, _, h1, _⟩ | ⟨h0, _, e1, B1, c1, hA, ⟨h1, h2, _⟩ | ⟨_, h1, _⟩⟩⟩
 ·exact absurd ha h0
 ·right; rw [h2]; exact hne hN h1
 ·exact absurd h1 he
 ·rw [h2]
  rcases hA with ⟨h3, _⟩ | ⟨⟨hv, hvh⟩, e2, N2, hN2, ⟨h3, h4, _⟩ | ⟨h5, h3, h4, _⟩ | ⟨_, _, h4, _⟩⟩
  ·exact absurd ha.1 h3
  ·right; rw [h4]; exact hne hN2 h3
  ·left
   rw [h4]
   subst h5
   obtain ⟨_, ho, rfl⟩ := hN2.all
   exact (root_ref hv ho hvh 3 h3).1
  ·exact absurd h4 h1
 ·exact absurd h1 he

theorem ic_moves {H0 : Heap} {out sa bs ms : Sl} {A Bs : List Asg} {M : List Mv} {H12 : Heap} {I_ : Int → Heap → Prop} {M_ : Int → Heap → Nat} {i : Nat} (hi : i < Bs.length) (hAl : Bs.length ≤ 1000) (hMl : M.length ≤ 10000) (e0 : Ext H0 H12) (isB : IsS 5 encA H12 bs Bs) (mv : IsS 4 encMv H12 ms M) (o : Option Int)
  (hy : lastM M (Bs.getD i zA).1.1 (Bs.getD i zA).1.2.1 o M.length = some (Bs.getD i zA).2)
  (hI : I_ (IntKind.i64.wrap ((i : Int) + 1)) H12 ∧ M_ (IntKind.i64.wrap ((i : Int) + 1)) H12 < M_ i H12) :
  ∃ I_2 : Int → Bool → Int → Heap → Prop, ∃ M_2 : Int → Bool → Int → Heap → Nat, I_2 (o.getD 0) o.isSome (0 : Int) H12 ∧ (∀ base2 : Int, ∀ found1 : Bool, ∀ k3 : Int, ∀ H15 : Heap, I_2 base2 found1 k3 H15 → F_law23_HotplugPlanIsCorrect_r3 (BoolP true H0) bs ms I_ M_ i H12 I_2 M_2 base2 found1 k3 H15) := by
 have hbn := isB.len
 have hmn := mv.len
 refine ⟨fun b f k H' => ∃ k' : Nat, k = k' ∧ k' ≤ M.length ∧ H' = H12 ∧ b = (lastM M (Bs.getD i zA).1.1 (Bs.getD i zA).1.2.1 o k').getD 0 ∧ f = (lastM M (Bs.getD i zA).1.1 (Bs.getD i zA).1.2.1 o k').isSome, fun _ _ k _ => (M.length - k).toNat, ⟨0, rfl, Nat.zero_le _, rfl, rfl, rfl⟩, ?_⟩
 rintro b f k3 H15 ⟨k, rfl, hk, rfl, rfl, rfl⟩
 unfold F_law23_HotplugPlanIsCorrect_r3
 obtain ⟨pb, hpb, rb0, hrb⟩ := asg_rd isB hi
 refine iteB_dec (fun c => ?_) (fun c => ?_)
 ·have hkM : k < M.length := by omega
  obtain ⟨a, hp, hr⟩ := IsS.atN mv zM hkM
  have r0 : rd H15 (a.add ((k : Int).toNat * 4)) = some (.int .i64 (M.getD k zM).1) := by have := hr 0 _ rfl; rwa [add_zero'] at this
  refine ⟨fun q H' => H' = H15 ∧ q = decide ((M.getD k zM).1 = 2 ∧ (M.getD k zM).2.1 = (Bs.getD i zA).1.1 ∧ (M.getD k zM).2.2.1 = (Bs.getD i zA).1.2.1), ?_, ?_⟩
  ·refine ⟨by omega, by omega, unSome_mk hp ⟨_, r0, iteB_beq (fun h1 => ⟨by omega, by omega, unSome_mk hp ⟨_, hr 1 _ rfl, by omega, by omega, unSome_mk hpb ⟨_, rb0, iteB_beq (fun h2 => ⟨by omega, by omega, unSome_mk hp ⟨_, hr 2 _ rfl, by omega, by omega, unSome_mk hpb ⟨_, hrb 1 _ rfl, rfl, ?_⟩⟩⟩) (fun h2 => ⟨rfl, ?_⟩)⟩⟩⟩) (fun h1 => ⟨rfl, ?_⟩)⟩⟩
   ·exact beq_dec1 ⟨fun h => h.2.2, fun h => ⟨h1, h2, h⟩⟩
   ·rw [decide_eq_false]
    exact fun hh => h2 hh.2.1
   ·rw [decide_eq_false]
    exact fun hh => h1 hh.1
  ·rintro q H16 ⟨rfl, rfl⟩
   unfold F_law23_HotplugPlanIsCorrect_k2
   have hm : ((k : Int) + 1).toNat = k + 1 := by omega
   refine iteB_intro (fun hq => ?_) (fun hq => ?_)
   ·rw [decide_eq_true_eq] at hq
    refine ⟨by omega, by omega, unSome_mk hp ⟨_, hr 3 _ rfl, letV_mk ((k + 1 : Nat) : Int) (by rw [i64_in (by omega)]; omega) ⟨⟨k + 1, rfl, by omega, rfl, ?_, ?_⟩, by dsimp only; omega⟩⟩⟩
    ·unfold lastM; rw [if_pos hq]; rfl
    ·unfold lastM; rw [if_pos hq]; rfl
   ·rw [decide_eq_false_iff_not] at hq
    refine letV_mk ((k + 1 : Nat) : Int) (by rw [i64_in (by omega)]; omega) ⟨⟨k + 1, rfl, by omega, rfl, ?_, ?_⟩, by dsimp only; omega⟩
    ·rw [lastM, if_neg hq]
    ·rw [lastM, if_neg hq]
 ·obtain rfl : k = M.length := by omega
  rw [hy]
  exact iteB_neg (by simp) ⟨by omega, by omega, unSome_mk hpb ⟨_, hrb 4 _ rfl, iteB_neg (by simp) (letV_mk _ rfl hI)⟩⟩

theorem ic_loop {H0 : Heap} {sa bs ms : Sl} {A Bs : List Asg} {M : List Mv} (hBl : Bs.length ≤ 1000) (hAl : A.length ≤ 1000) (hMl : M.length ≤ 10000) (H11 : Heap) (e0 : Ext H0 H11) (isA : IsS 5 encA H11 sa A) (isB : IsS 5 encA H11 bs Bs) (mv : IsS 4 encMv H11 ms M)
  (hy : ∀ x ∈ Bs, lastM M x.1.1 x.1.2.1 (lastA A x.1.1 x.1.2.1 A.length) M.length = some x.2) :
  ∃ I_ : Int → Heap → Prop, ∃ M_ : Int → Heap → Nat, I_ (0 : Int) H11 ∧ (∀ i : Int, ∀ H12 : Heap, I_ i H12 → F_law23_HotplugPlanIsCorrect_r5 (BoolP true H0) sa bs ms I_ M_ i H12) := by
 have hbn := isB.len
 have han := isA.len
 refine loop1 Bs.length (fun k H' => H' = H11) rfl ?_
 rintro i H12 hi rfl
 unfold F_law23_HotplugPlanIsCorrect_r5
 refine iteB_dec (fun c => ?_) (fun c => ⟨rfl, e0⟩)
 have hiB : i < Bs.length := by omega
 obtain ⟨pb, hpb, rb0, hrb⟩ := asg_rd isB hiB
 have hyi := hy _ (getD_mem' (l := Bs) (k := i) zA hiB)
 refine ⟨fun b f k H' => ∃ k' : Nat, k = k' ∧ k' ≤ A.length ∧ H' = H12 ∧ b = (lastA A (Bs.getD i zA).1.1 (Bs.getD i zA).1.2.1 k').getD 0 ∧ f = (lastA A (Bs.getD i zA).1.1 (Bs.getD i zA).1.2.1 k').isSome, fun _ _ k _ => (A.length - k).toNat, ⟨0, rfl, Nat.zero_le _, rfl, rfl, rfl⟩, ?_⟩
 rintro b f k H13 ⟨k, rfl, hk, rfl, rfl, rfl⟩
 unfold F_law23_HotplugPlanIsCorrect_r4
 refine iteB_dec (fun c => ?_) (fun c => ?_)
 ·have hkA : k < A.length := by omega
  obtain ⟨a, hp, r0, hr⟩ := asg_rd isA hkA
  refine ⟨fun q H' => H' = H13 ∧ q = decide ((A.getD k zA).1.1 = (Bs.getD i zA).1.1 ∧ (A.getD k zA).1.2.1 = (Bs.getD i zA).1.2.1), ?_, ?_⟩
  ·refine ⟨by omega, by omega, unSome_mk hp ⟨_, r0, by omega, by omega, unSome_mk hpb ⟨_, rb0, iteB_beq (fun h2 => ⟨by omega, by omega, unSome_mk hp ⟨_, hr 1 _ rfl, by omega, by omega, unSome_mk hpb ⟨_, hrb 1 _ rfl, rfl, ?_⟩⟩⟩) (fun h2 => ⟨rfl, ?_⟩)⟩⟩⟩
   ·exact beq_dec1 ⟨fun h => h.2, fun h => ⟨h2, h⟩⟩
   ·rw [decide_eq_false]
    exact fun hh => h2 hh.1
  ·rintro q H16 ⟨rfl, rfl⟩
   unfold F_law23_HotplugPlanIsCorrect_k1
   refine iteB_intro (fun hq => ?_) (fun hq => ?_)
   ·rw [decide_eq_true_eq] at hq
    refine ⟨by omega, by omega, unSome_mk hp ⟨_, hr 4 _ rfl, letV_mk ((k + 1 : Nat) : Int) (by rw [i64_in (by omega)]; omega) ⟨⟨k + 1, rfl, by omega, rfl, ?_, ?_⟩, by dsimp only; omega⟩⟩⟩
    ·rw [lastA, if_pos hq]; rfl
    ·rw [lastA, if_pos hq]; rfl
   ·rw [decide_eq_false_iff_not] at hq
    refine letV_mk ((k + 1 : Nat) : Int) (by rw [i64_in (by omega)]; omega) ⟨⟨k + 1, rfl, by omega, rfl, ?_, ?_⟩, by dsimp only; omega⟩
    ·rw [lastA, if_neg hq]
    ·rw [lastA, if_neg hq]
 ·obtain rfl : k = A.length := by omega
  exact ic_moves (out := sa) (sa := sa) (A := A) hiB hBl hMl e0 isB mv _ hyi (next1 hiB (by omega) rfl)

theorem correct_k6 {H0 : Heap} {out sa : Sl} {T' : List FS} {g : Host} {gs : HostS} {A : List Asg} {n : Nat} {ok : Bool} {H2 H6 : Heap} (p : PlQ H0 H2.size out sa T' g gs A n ok H6) : F_law23_HotplugPlanIsCorrect_k6 (BoolP true H0) H2 out sa n (!ok) H6 := by
 unfold F_law23_HotplugPlanIsCorrect_k6
 have p6 := p.s
 have hAl := p6.len
 refine iteB_not (fun _ => (awake_spec H6).mono ?_) (fun hk => ?_)
 ·rintro v H7 ⟨rfl, e7⟩
  exact ⟨_, rfl, rfl, p6.ext.trans e7⟩
 obtain ⟨pt, pl⟩ := p.yes hk
 obtain ⟨q0, q1, q2, q3, q4, q5, q6, q7⟩ := Blk.host p6.blk
 refine ⟨_, q0, _, q1, _, q2, _, q3, _, q4, _, q5, _, q6, _, q7, (Plan_spec T' out g gs A sa n H6 p6.topo p6.cap p6.m p6.isA p6.acap (by omega) p6.u64).mono ?_⟩
 rintro v H8 ⟨o1, m1, ea, B1, M1, c, rfl, pl1, ⟨is1, cp1⟩, mv1, e8⟩
 refine ⟨o1, m1, _, _, _, _, _, rfl, local_mk (vs := encC c) rfl rfl fun H10 e10 z10 b10 => ?_⟩
 have p10 := p6.go (e8.trans e10)
 refine iteB_bne (fun q => ?_) (fun q => ?_)
 ·refine iteB_beq (fun h => ⟨rfl, p10.ext⟩) (fun h => ⟨?_, p10.ext⟩)
  have := plan_err pl.acc q pl1
  have : ea = 11 := by omega
  rw [this]
  rfl
 subst q
 obtain ⟨hck, hM⟩ := plan_chk pl.acc pl1
 have hbd := pl1.bounds
 obtain ⟨cA, hAs⟩ := pl.as'
 obtain ⟨q0, q1, q2, q3, q4, q5, q6, q7⟩ := Blk.host p10.blk
 refine ⟨_, q0, _, q1, _, q2, _, q3, _, q4, _, q5, _, q6, _, q7, (Check_spec T' out g gs B1 o1 H10 p10.topo p10.m (is1.ext e10) cp1 (pl1.u64 (by omega) p10.u64)).mono ?_⟩
 rintro v H11 ⟨b, rfl, hb, e11⟩
 rw [hb.2 hck]
 refine ⟨_, rfl, iteB_neg (by simp) ?_⟩
 have x11 := e10.trans e11
 refine ic_loop hbd.1 hAl hbd.2 H11 (p10.ext.trans e11) (p10.isA.ext e11) (is1.ext x11) (mv1.ext x11) (fun x hx => ?_)
 rw [hM]
 exact moves_yield (chk_kap hAs.chk) (chk_kap hck) hx

theorem law_correct (H : Heap) (l c : Sl) (L C0 : List FS) (h : Host) (hs : HostS) (atv : Int) (hL : Topo H l L) (hl : L.length ≤ 9223372036854775807) (hb : ∀ x ∈ L, x.1.bars.length ≤ 9223372036854775807) (hC : Topo H c C0) (hcl : C0.length ≤ 9223372036854775807) (hcb : ∀ x ∈ C0, x.1.bars.length ≤ 9223372036854775807) (hm : HostM H h hs) :
  CallsH Tryz.prog n_law23_HotplugPlanIsCorrect #[.slice l.p l.n l.c, .slice c.p c.n c.c, hostV h hs, .int .i64 atv] H (BoolP true H) := by
 refine F_law23_HotplugPlanIsCorrect_ok _ _ _ _ _ _ _ _ _ _ _ ?_
 unfold F_law23_HotplugPlanIsCorrect
 exact plug_open H l c L C0 h hs atv hL hl hb hC hcl hcb hm (fun H2 x8 x17 x18 x21 H6 => F_law23_HotplugPlanIsCorrect_k6 (BoolP true H) H2 x8 x17 x18 x21 H6) (fun H2 out sa T' g gs A n ok H6 p => correct_k6 p)

end Go.Proofs.YtnhhncjflnlfaaaGreat
