import Derived.Test.YtigcheamheiopaaGreatJA
import Derived.Test.YtigcheamheiopaaGreatV
import Derived.Test.YtigcheamheiopaaGreatA1
import Derived.Test.YtigcheamheiopaaGreatQ1
import Derived.Test.YtigcheamheiopaaGreatJN

section
/-
 AllocateWrites: the rounds of the law.
-/
namespace Go.Proofs.YtigcheamheiopaaGreat
open Go.Eng
set_option linter.unusedVariables false

theorem Equal_api_ConfigOp_spec (H : Heap) (a b : Sl) (A B : List Op) (ha : IsS 5 encOp H a A) (hb : IsS 5 encOp H b B) (hl : A.length ≤ 9223372036854775807) :
  CallsH Tryz.prog n_help_Equal_api_ConfigOp #[.slice a.p a.n a.c, .slice b.p b.n b.c] H (fun v H' => v = .bool (decide (A = B)) ∧ H' = H) := by
 refine F_help_Equal_api_ConfigOp_ok _ _ ?_
 unfold F_help_Equal_api_ConfigOp
 have na := ha.len
 have nb := hb.len
 refine iteB_bne (fun c => ⟨by rw [decide_eq_false (fun e => c (by rw [na, nb, e]))], rfl⟩) (fun c => ?_)
 have hlen : A.length = B.length := by omega
 refine loop1 A.length (fun k H' => H' = H ∧ ∀ i, i < k → A[i]? = B[i]?) ⟨rfl, fun i hi => by omega⟩ ?_
 rintro k H1 hk ⟨rfl, heq⟩
 unfold F_help_Equal_api_ConfigOp_r1
 refine iteB_dec (fun c1 => ?_) (fun c1 => ⟨?_, rfl⟩)
 ·have hkA : k < A.length := by omega
  have hkB : k < B.length := by omega
  obtain ⟨p, hp, hr⟩ := IsS.atN ha ((0, 0, 0, 0) : Op) hkA
  obtain ⟨q, hq, hs⟩ := IsS.atN hb ((0, 0, 0, 0) : Op) hkB
  have eA : A[k]? = some (A.getD k ((0, 0, 0, 0) : Op)) := by simp [List.getD, hkA]
  have eB : B[k]? = some (B.getD k ((0, 0, 0, 0) : Op)) := by simp [List.getD, hkB]
  generalize A.getD k ((0, 0, 0, 0) : Op) = x at *
  generalize B.getD k ((0, 0, 0, 0) : Op) = y at *
  obtain ⟨x0, x1, x2, x3⟩ := x
  obtain ⟨y0, y1, y2, y3⟩ := y
  refine ⟨by omega, by omega, unSome_mk hp ⟨_, hr 0 _ rfl, _, hr 1 _ rfl, _, hr 2 _ rfl, _, hr 3 _ rfl, _, hr 4 _ rfl, by omega, by omega, unSome_mk hq ⟨_, hs 0 _ rfl, _, hs 1 _ rfl, _, hs 2 _ rfl, _, hs 3 _ rfl, _, hs 4 _ rfl, iteB_not (fun c2 => ⟨?_, rfl⟩) (fun c2 => letV_mk _ rfl (next1 hkA (by omega) ⟨rfl, fun i hi => ?_⟩))⟩⟩⟩
  ·rw [decide_eq_false]
   intro e
   rw [e, eB] at eA
   simp at eA
   simp at c2
   simp_all
  ·by_cases e : i = k
   ·subst e
    simp at c2
    rw [eA, eB]
    simp_all
   ·exact heq i (by omega)
 ·rw [decide_eq_true]
  apply List.ext_getElem?
  intro i
  by_cases hi : i < A.length
  ·exact heq i (by omega)
  ·rw [List.getElem?_eq_none (by omega), List.getElem?_eq_none (by omega)]

theorem Equal_api_Window_spec (H : Heap) (a b : Sl) (A B : List WR) (ha : IsS 5 encW H a A) (hb : IsS 5 encW H b B) (hl : A.length ≤ 9223372036854775807) :
  CallsH Tryz.prog n_help_Equal_api_Window #[.slice a.p a.n a.c, .slice b.p b.n b.c] H (fun v H' => v = .bool (decide (A = B)) ∧ H' = H) := by
 refine F_help_Equal_api_Window_ok _ _ ?_
 unfold F_help_Equal_api_Window
 have na := ha.len
 have nb := hb.len
 refine iteB_bne (fun c => ⟨by rw [decide_eq_false (fun e => c (by rw [na, nb, e]))], rfl⟩) (fun c => ?_)
 have hlen : A.length = B.length := by omega
 refine loop1 A.length (fun k H' => H' = H ∧ ∀ i, i < k → A[i]? = B[i]?) ⟨rfl, fun i hi => by omega⟩ ?_
 rintro k H1 hk ⟨rfl, heq⟩
 unfold F_help_Equal_api_Window_r1
 refine iteB_dec (fun c1 => ?_) (fun c1 => ⟨?_, rfl⟩)
 ·have hkA : k < A.length := by omega
  have hkB : k < B.length := by omega
  obtain ⟨p, hp, hr⟩ := IsS.atN ha ((0, 0, 0, 0, false) : WR) hkA
  obtain ⟨q, hq, hs⟩ := IsS.atN hb ((0, 0, 0, 0, false) : WR) hkB
  have eA : A[k]? = some (A.getD k ((0, 0, 0, 0, false) : WR)) := by simp [List.getD, hkA]
  have eB : B[k]? = some (B.getD k ((0, 0, 0, 0, false) : WR)) := by simp [List.getD, hkB]
  generalize A.getD k ((0, 0, 0, 0, false) : WR) = x at *
  generalize B.getD k ((0, 0, 0, 0, false) : WR) = y at *
  obtain ⟨x0, x1, x2, x3, x4⟩ := x
  obtain ⟨y0, y1, y2, y3, y4⟩ := y
  refine ⟨by omega, by omega, unSome_mk hp ⟨_, hr 0 _ rfl, _, hr 1 _ rfl, _, hr 2 _ rfl, _, hr 3 _ rfl, _, hr 4 _ rfl, by omega, by omega, unSome_mk hq ⟨_, hs 0 _ rfl, _, hs 1 _ rfl, _, hs 2 _ rfl, _, hs 3 _ rfl, _, hs 4 _ rfl, iteB_not (fun c2 => ⟨?_, rfl⟩) (fun c2 => letV_mk _ rfl (next1 hkA (by omega) ⟨rfl, fun i hi => ?_⟩))⟩⟩⟩
  ·rw [decide_eq_false]
   intro e
   rw [e, eB] at eA
   simp at eA
   simp at c2
   simp_all
  ·by_cases e : i = k
   ·subst e
    simp at c2
    rw [eA, eB]
    simp_all
   ·exact heq i (by omega)
 ·rw [decide_eq_true]
  apply List.ext_getElem?
  intro i
  by_cases hi : i < A.length
  ·exact heq i (by omega)
  ·rw [List.getElem?_eq_none (by omega), List.getElem?_eq_none (by omega)]

theorem rkW : RK Tryz.prog t_sl_api_Window t_api_Window (.agg #[.int .i64 0, .int .i64 0, .int .u64 0, .int .u64 0, .bool false]) 5 40 encW := ⟨by kernel_rfl, by kernel_rfl, rfl, by omega, by omega, encW_len, encW_one⟩
def appL (ms : Nat → Int) : (Nat → Int) → List Op → (Nat → Int)
 | ys, [] => ys
 | ys, x :: l => appL ms (writeF ys ms x.2.1 x.2.2.1 x.2.2.2) l
theorem appL_append (ms : Nat → Int) : ∀ (l r : List Op) (ys : Nat → Int), appL ms ys (l ++ r) = appL ms (appL ms ys l) r
 | [], r, ys => rfl
 | x :: l, r, ys => appL_append ms l r _
theorem appL_bytes (ms : Nat → Int) : ∀ (l : List Op) (ys : Nat → Int), Bytes ys → Bytes (appL ms ys l)
 | [], ys, h => h
 | x :: l, ys, h => appL_bytes ms l _ (writeF_bytes h _ _ _)
def opsI (W : List Op) (i : Int) : List Op := W.filter (fun x => decide (x.1 = i))
def gotF (L : List WR) : List WR := (L.filter (fun w => w.2.2.2.2)).map (fun w => (w.1, 0, w.2.2.1, w.2.2.2.1, false))
def wantF (A : List Asg) (i : Int) : List WR := (A.filter (fun x => decide (x.1.1 = i))).map (fun x => (x.1.2.1, 0, x.2, 2 ^ szA x, false))
def DevOk (T : List FS) (A : List Asg) (W : List Op) (i : Nat) : Prop :=
 gotF (winsF (appL (sinit (fnAt T i)).2 (sinit (fnAt T i)).1 (opsI W i)) (fnAt T i).bars (regs (fnAt T i).bridge) ++ brX (appL (sinit (fnAt T i)).2 (sinit (fnAt T i)).1 (opsI W i)) (fnAt T i)) = wantF A i

theorem shl_one {k : Int} (h : 0 ≤ k ∧ k ≤ 44) : 0 ≤ IntKind.u64.wrap k ∧ IntKind.u64.wrap (1 * 2 ^ (min (IntKind.u64.wrap k).toNat IntKind.u64.bits)) = 2 ^ k.toNat := by
 rw [u64_in (n := k) (by omega)]
 exact ⟨h.1, sz_pow h⟩

structure AwI (H0 : Heap) (T : List FS) (t : Sl) (A : List Asg) (sa : Sl) (W : List Op) (w : Sl) (H : Heap) : Prop where
 topo : Topo H t T
 v : ValidT T
 isA : IsS 5 encA H sa A
 al : A.length ≤ 1000
 sz : ∀ j, j < A.length → 0 ≤ (A.getD j zA).1.2.2.2 ∧ (A.getD j zA).1.2.2.2 ≤ 44
 isW : IsS 5 encOp H w W
 wl : W.length ≤ 1000000
 ext : Ext H0 H
theorem AwI.go {H0 : Heap} {T : List FS} {t : Sl} {A : List Asg} {sa : Sl} {W : List Op} {w : Sl} {H H' : Heap} (a : AwI H0 T t A sa W w H) (e : Ext H H') : AwI H0 T t A sa W w H' := ⟨a.topo.ext e, a.v, a.isA.ext e, a.al, a.sz, a.isW.ext e, a.wl, a.ext.trans e⟩

theorem aw_wantA {H0 : Heap} {T : List FS} {t sa w : Sl} {A : List Asg} {W : List Op} {I_ : Int → Heap → Prop} {M_ : Int → Heap → Nat} {i : Nat} {H13 H18 : Heap} {got : Sl} {G : List WR} (en : AwI H0 T t A sa W w H18) (isG : IsS 5 encW H18 got G) (hG : G = wantF A i)
  (hI : ∀ H', Ext H18 H' → I_ (IntKind.i64.wrap ((i : Int) + 1)) H' ∧ M_ (IntKind.i64.wrap ((i : Int) + 1)) H' < M_ i H13) :
  ∃ I_3 : Sl → Int → Heap → Prop, ∃ M_3 : Sl → Int → Heap → Nat, I_3 (Sl.mk none 0 0) (0 : Int) H18 ∧ (∀ want : Sl, ∀ k6 : Int, ∀ H21 : Heap, I_3 want k6 H21 → F_law21_AllocateWrites_r1 (BoolP true H0) sa I_ M_ i H13 got I_3 M_3 want k6 H21) := by
 have hsn := en.isA.len
 have hal := en.al
 refine loop2 A.length (fun k o H' => Own H18.size t_api_Window 5 H' o ((wantF (A.take k) i).flatMap encW) ∧ Ext H18 H') ⟨Own.nil _ _ _ _, .refl _⟩ ?_
 rintro k o H21 hk ⟨ow, e21⟩
 unfold F_law21_AllocateWrites_r1
 have hon := Own.len rkW ow
 have hwl : (wantF (A.take k) i).length ≤ k := by unfold wantF; rw [List.length_map]; exact filter_take_len _ _ _
 refine iteB_dec (fun c => ?_) (fun c => ?_)
 ·have hkA : k < A.length := by omega
  obtain ⟨pa, hpa, ra0, hra⟩ := asg_rd (en.isA.ext e21) hkA
  have hsz := en.sz k hkA
  have hst : wantF (A.take (k + 1)) i = wantF (A.take k) i ++ (if decide ((A.getD k zA).1.1 = i) then [((A.getD k zA).1.2.1, 0, (A.getD k zA).2, 2 ^ szA (A.getD k zA), false)] else []) := by
   unfold wantF
   rw [filter_succ zA _ hkA, List.map_append]
   congr 1
   split <;> rfl
  generalize A.getD k zA = x at *
  refine ⟨by omega, by omega, unSome_mk hpa ⟨_, ra0, iteB_beq (fun d => ?_) (fun d => ?_)⟩⟩
  ·rw [if_pos (by simpa using d)] at hst
   obtain ⟨s1, s2⟩ := shl_one hsz
   refine ⟨by omega, by omega, unSome_mk hpa ⟨_, hra 1 _ rfl, by omega, by omega, unSome_mk hpa ⟨_, hra 4 _ rfl, by omega, by omega, unSome_mk hpa ⟨_, hra 3 _ rfl, s1, ?_⟩⟩⟩⟩
   rw [s2]
   refine apR rkW (x.1.2.1, 0, x.2, 2 ^ szA x, false) ow (by omega) e21.size ?_
   intro o' H' ow' n' m'
   exact letV_mk _ rfl (next2 hkA (by omega) ⟨by rw [hst]; exact ow', Mods.ext e21 m' (blkOf_new ow.new)⟩)
  ·rw [if_neg (by simpa using d), List.append_nil] at hst
   exact letV_mk _ rfl (next2 hkA (by omega) ⟨by rw [hst]; exact ow, e21⟩)
 ·obtain rfl : k = A.length := by omega
  rw [List.take_length] at ow
  have hgl : G.length ≤ 1000 := by rw [hG]; rw [List.take_length] at hwl; omega
  refine (Equal_api_Window_spec H21 got o G (wantF A i) (isG.ext e21) (Own.is rkW ow) (by omega)).mono ?_
  rintro v H24 ⟨rfl, rfl⟩
  exact ⟨_, rfl, iteB_neg (by simp [hG]) (letV_mk _ rfl (hI _ e21))⟩

theorem aw_gotA {H0 : Heap} {T : List FS} {t sa w : Sl} {A : List Asg} {W : List Op} {I_ : Int → Heap → Prop} {M_ : Int → Heap → Nat} {i : Nat} {H13 H17 : Heap} {ws : Sl} {L : List WR} (en : AwI H0 T t A sa W w H17) (isL : IsS 5 encW H17 ws L) (hL : L.length ≤ 1000) (hG : gotF L = wantF A i)
  (hI : ∀ H', Ext H17 H' → I_ (IntKind.i64.wrap ((i : Int) + 1)) H' ∧ M_ (IntKind.i64.wrap ((i : Int) + 1)) H' < M_ i H13) :
  ∃ I_2 : Sl → Int → Heap → Prop, ∃ M_2 : Sl → Int → Heap → Nat, I_2 (Sl.mk none 0 0) (0 : Int) H17 ∧ (∀ got : Sl, ∀ k3 : Int, ∀ H18 : Heap, I_2 got k3 H18 → F_law21_AllocateWrites_r2 (BoolP true H0) sa I_ M_ i H13 ws I_2 M_2 got k3 H18) := by
 have hwn := isL.len
 refine loop2 L.length (fun k o H' => Own H17.size t_api_Window 5 H' o ((gotF (L.take k)).flatMap encW) ∧ Ext H17 H') ⟨Own.nil _ _ _ _, .refl _⟩ ?_
 rintro k o H18 hk ⟨ow, e18⟩
 unfold F_law21_AllocateWrites_r2
 have hon := Own.len rkW ow
 have hwl : (gotF (L.take k)).length ≤ k := by unfold gotF; rw [List.length_map]; exact filter_take_len _ _ _
 refine iteB_dec (fun c => ?_) (fun c => ?_)
 ·have hkL : k < L.length := by omega
  obtain ⟨pa, hpa, hra⟩ := IsS.atN (isL.ext e18) ((0, 0, 0, 0, false) : WR) hkL
  have ra0 : rd H18 (pa.add ((k : Int).toNat * 5)) = some (.int .i64 (L.getD k (0, 0, 0, 0, false)).1) := by have := hra 0 _ rfl; rwa [add_zero'] at this
  have hst : gotF (L.take (k + 1)) = gotF (L.take k) ++ (if (L.getD k (0, 0, 0, 0, false)).2.2.2.2 then [((L.getD k (0, 0, 0, 0, false)).1, 0, (L.getD k (0, 0, 0, 0, false)).2.2.1, (L.getD k (0, 0, 0, 0, false)).2.2.2.1, false)] else []) := by
   unfold gotF
   rw [filter_succ ((0, 0, 0, 0, false) : WR) _ hkL, List.map_append]
   congr 1
   split <;> rfl
  generalize L.getD k (0, 0, 0, 0, false) = x at *
  have r3 : rd H18 (((pa.add ((k : Int).toNat * 5)).add 2).add 1) = some (.int .u64 x.2.2.2.1) := by rw [add_add']; exact hra 3 _ rfl
  refine ⟨by omega, by omega, unSome_mk hpa ⟨_, hra 4 _ rfl, iteB_intro (fun d => ?_) (fun d => ?_)⟩⟩
  ·rw [if_pos d] at hst
   refine ⟨by omega, by omega, unSome_mk hpa ⟨_, ra0, by omega, by omega, unSome_mk hpa ⟨_, hra 2 _ rfl, _, r3, ?_⟩⟩⟩
   refine apR rkW (x.1, 0, x.2.2.1, x.2.2.2.1, false) ow (by omega) e18.size ?_
   intro o' H' ow' n' m'
   exact letV_mk _ rfl (next2 hkL (by omega) ⟨by rw [hst]; exact ow', Mods.ext e18 m' (blkOf_new ow.new)⟩)
  ·rw [if_neg (by simp [d]), List.append_nil] at hst
   exact letV_mk _ rfl (next2 hkL (by omega) ⟨by rw [hst]; exact ow, e18⟩)
 ·obtain rfl : k = L.length := by omega
  rw [List.take_length] at ow
  exact aw_wantA (en.go e18) (Own.is rkW ow) hG (fun H' e => hI H' (e18.trans e))

theorem aw_roundA {H0 : Heap} {T : List FS} {t sa w : Sl} {A : List Asg} {W : List Op} {H12 : Heap} (en : AwI H0 T t A sa W w H12) (hD : ∀ i, i < T.length → DevOk T A W i) :
  ∃ I_ : Int → Heap → Prop, ∃ M_ : Int → Heap → Nat, I_ (0 : Int) H12 ∧ (∀ i : Int, ∀ H13 : Heap, I_ i H13 → F_law21_AllocateWrites_r4 (BoolP true H0) t sa w I_ M_ i H13) := by
 have hTn := en.topo.len
 have hT64 := en.v.1
 refine loop1 T.length (fun k H' => Ext H12 H') (.refl _) ?_
 rintro i H13 hi e13
 have en13 := en.go e13
 unfold F_law21_AllocateWrites_r4
 refine iteB_dec (fun c => ?_) (fun c => ⟨rfl, en13.ext⟩)
 have hiT : i < T.length := by omega
 obtain ⟨a, hp, hr⟩ := en13.topo.at hiT
 obtain ⟨q0, q1, q2, q3, q4, q5, q6, q7, q8, q9, q10⟩ := rdFn hr
 have hvF := (en.v.2 i hiT).va
 have hdv := hD i hiT
 unfold DevOk at hdv
 have hbars := en13.topo.barsAt hiT
 generalize fnAt T i = f at *
 generalize slAt T i = fs at *
 refine ⟨by omega, by omega, unSome_mk hp ⟨_, q0, _, q1, _, q2, _, q3, _, q4, _, q5, _, q6, _, q7, _, q8, _, q9, fs, q10, (New_spec f fs H13 hbars).mono ?_⟩⟩
 intro v H14 h14
 cases h14 with
 | no hv _ => exact absurd hvF hv
 | yes b g hv hb hg hgb d hx e14 =>
  refine ⟨_, _, rfl, iteB_neg (by simp) (iteB_neg (by simp) ?_)⟩
  have hwn := en13.isW.len
  have hwl := en.wl
  refine loop1 W.length (fun k H' => Ext H13 H' ∧ PD H' b (appL (sinit f).2 (sinit f).1 (opsI (W.take k) i)) (sinit f).2 (prest g f) ∧ RB H' g t_api_Bar 2 encBar (xbars f)) ⟨e14, by simpa [opsI, appL] using d, hx⟩ ?_
  rintro k H15 hk ⟨e15, d15, x15⟩
  have en15 := en13.go e15
  have hby := appL_bytes (sinit f).2 (opsI (W.take k) i) (sinit f).1 (sinit_bytes f)
  unfold F_law21_AllocateWrites_r3
  refine iteB_dec (fun c2 => ?_) (fun c2 => ?_)
  ·have hkW : k < W.length := by omega
   obtain ⟨pw, hpw, hrw⟩ := IsS.atN en15.isW ((0, 0, 0, 0) : Op) hkW
   have r0 : rd H15 (pw.add ((k : Int).toNat * 5)) = some (.int .i64 (W.getD k (0, 0, 0, 0)).1) := by have := hrw 0 _ rfl; rwa [add_zero'] at this
   have hst : opsI (W.take (k + 1)) i = opsI (W.take k) i ++ (if decide ((W.getD k (0, 0, 0, 0)).1 = i) then [W.getD k (0, 0, 0, 0)] else []) := by
    unfold opsI
    exact filter_succ ((0, 0, 0, 0) : Op) _ hkW
   generalize W.getD k (0, 0, 0, 0) = y at *
   refine ⟨by omega, by omega, unSome_mk hpw ⟨_, r0, iteB_beq (fun q => ?_) (fun q => ?_)⟩⟩
   ·rw [if_pos (by simpa using q)] at hst
    refine ⟨by omega, by omega, unSome_mk hpw ⟨_, hrw 1 _ rfl, by omega, by omega, unSome_mk hpw ⟨_, hrw 2 _ rfl, by omega, by omega, unSome_mk hpw ⟨_, hrw 4 _ rfl, (Write_spec b _ _ _ y.2.1 y.2.2.1 y.2.2.2 H15 d15).mono ?_⟩⟩⟩⟩
    rintro v H16 ⟨rfl, d16, m16⟩
    refine ⟨rfl, letV_mk _ rfl (next1 hkW (by omega) ⟨Mods.ext e15 m16 (by simpa using hb), ?_, x15.mods m16 (by simpa using hgb)⟩)⟩
    rw [hst, appL_append]
    exact d16
   ·rw [if_neg (by simpa using q), List.append_nil] at hst
    exact letV_mk _ rfl (next1 hkW (by omega) ⟨e15, by rw [hst]; exact d15, x15⟩)
  ·obtain rfl : k = W.length := by omega
   rw [List.take_length] at d15 hby
   refine (WindowsX_spec b g f _ _ H15 hvF d15 hby x15).mono ?_
   rintro v H17 ⟨ws, rfl, isL, e17⟩
   have hrl := regs_le f.bridge
   have w1 := winsF_len (appL (sinit f).2 (sinit f).1 (opsI W i)) f.bars (regs f.bridge)
   have w2 := brX_len (appL (sinit f).2 (sinit f).1 (opsI W i)) f
   exact ⟨ws, rfl, aw_gotA (en15.go e17) isL (by rw [List.length_append]; omega) hdv (fun H' e => next1 hiT (by omega) (e13.trans ((e15.trans e17).trans e)))⟩

theorem aw_wantB {H0 : Heap} {T : List FS} {t sa w : Sl} {A : List Asg} {W : List Op} {I_ : Int → Heap → Prop} {M_ : Int → Heap → Nat} {i : Nat} {H13 H18 : Heap} {got : Sl} {G : List WR} (en : AwI H0 T t A sa W w H18) (isG : IsS 5 encW H18 got G) (hG : G = wantF A i)
  (hI : ∀ H', Ext H18 H' → I_ (IntKind.i64.wrap ((i : Int) + 1)) H' ∧ M_ (IntKind.i64.wrap ((i : Int) + 1)) H' < M_ i H13) :
  ∃ I_3 : Sl → Int → Heap → Prop, ∃ M_3 : Sl → Int → Heap → Nat, I_3 (Sl.mk none 0 0) (0 : Int) H18 ∧ (∀ want : Sl, ∀ k6 : Int, ∀ H21 : Heap, I_3 want k6 H21 → F_law21_AllocateWrites_r5 (BoolP true H0) sa I_ M_ i H13 got I_3 M_3 want k6 H21) := by
 have hsn := en.isA.len
 have hal := en.al
 refine loop2 A.length (fun k o H' => Own H18.size t_api_Window 5 H' o ((wantF (A.take k) i).flatMap encW) ∧ Ext H18 H') ⟨Own.nil _ _ _ _, .refl _⟩ ?_
 rintro k o H21 hk ⟨ow, e21⟩
 unfold F_law21_AllocateWrites_r5
 have hon := Own.len rkW ow
 have hwl : (wantF (A.take k) i).length ≤ k := by unfold wantF; rw [List.length_map]; exact filter_take_len _ _ _
 refine iteB_dec (fun c => ?_) (fun c => ?_)
 ·have hkA : k < A.length := by omega
  obtain ⟨pa, hpa, ra0, hra⟩ := asg_rd (en.isA.ext e21) hkA
  have hsz := en.sz k hkA
  have hst : wantF (A.take (k + 1)) i = wantF (A.take k) i ++ (if decide ((A.getD k zA).1.1 = i) then [((A.getD k zA).1.2.1, 0, (A.getD k zA).2, 2 ^ szA (A.getD k zA), false)] else []) := by
   unfold wantF
   rw [filter_succ zA _ hkA, List.map_append]
   congr 1
   split <;> rfl
  generalize A.getD k zA = x at *
  refine ⟨by omega, by omega, unSome_mk hpa ⟨_, ra0, iteB_beq (fun d => ?_) (fun d => ?_)⟩⟩
  ·rw [if_pos (by simpa using d)] at hst
   obtain ⟨s1, s2⟩ := shl_one hsz
   refine ⟨by omega, by omega, unSome_mk hpa ⟨_, hra 1 _ rfl, by omega, by omega, unSome_mk hpa ⟨_, hra 4 _ rfl, by omega, by omega, unSome_mk hpa ⟨_, hra 3 _ rfl, s1, ?_⟩⟩⟩⟩
   rw [s2]
   refine apR rkW (x.1.2.1, 0, x.2, 2 ^ szA x, false) ow (by omega) e21.size ?_
   intro o' H' ow' n' m'
   exact letV_mk _ rfl (next2 hkA (by omega) ⟨by rw [hst]; exact ow', Mods.ext e21 m' (blkOf_new ow.new)⟩)
  ·rw [if_neg (by simpa using d), List.append_nil] at hst
   exact letV_mk _ rfl (next2 hkA (by omega) ⟨by rw [hst]; exact ow, e21⟩)
 ·obtain rfl : k = A.length := by omega
  rw [List.take_length] at ow
  have hgl : G.length ≤ 1000 := by rw [hG]; rw [List.take_length] at hwl; omega
  refine (Equal_api_Window_spec H21 got o G (wantF A i) (isG.ext e21) (Own.is rkW ow) (by omega)).mono ?_
  rintro v H24 ⟨rfl, rfl⟩
  exact ⟨_, rfl, iteB_neg (by simp [hG]) (letV_mk _ rfl (hI _ e21))⟩

theorem aw_gotB {H0 : Heap} {T : List FS} {t sa w : Sl} {A : List Asg} {W : List Op} {I_ : Int → Heap → Prop} {M_ : Int → Heap → Nat} {i : Nat} {H13 H17 : Heap} {ws : Sl} {L : List WR} (en : AwI H0 T t A sa W w H17) (isL : IsS 5 encW H17 ws L) (hL : L.length ≤ 1000) (hG : gotF L = wantF A i)
  (hI : ∀ H', Ext H17 H' → I_ (IntKind.i64.wrap ((i : Int) + 1)) H' ∧ M_ (IntKind.i64.wrap ((i : Int) + 1)) H' < M_ i H13) :
  ∃ I_2 : Sl → Int → Heap → Prop, ∃ M_2 : Sl → Int → Heap → Nat, I_2 (Sl.mk none 0 0) (0 : Int) H17 ∧ (∀ got : Sl, ∀ k3 : Int, ∀ H18 : Heap, I_2 got k3 H18 → F_law21_AllocateWrites_r6 (BoolP true H0) sa I_ M_ i H13 ws I_2 M_2 got k3 H18) := by
 have hwn := isL.len
 refine loop2 L.length (fun k o H' => Own H17.size t_api_Window 5 H' o ((gotF (L.take k)).flatMap encW) ∧ Ext H17 H') ⟨Own.nil _ _ _ _, .refl _⟩ ?_
 rintro k o H18 hk ⟨ow, e18⟩
 unfold F_law21_AllocateWrites_r6
 have hon := Own.len rkW ow
 have hwl : (gotF (L.take k)).length ≤ k := by unfold gotF; rw [List.length_map]; exact filter_take_len _ _ _
 refine iteB_dec (fun c => ?_) (fun c => ?_)
 ·have hkL : k < L.length := by omega
  obtain ⟨pa, hpa, hra⟩ := IsS.atN (isL.ext e18) ((0, 0, 0, 0, false) : WR) hkL
  have ra0 : rd H18 (pa.add ((k : Int).toNat * 5)) = some (.int .i64 (L.getD k (0, 0, 0, 0, false)).1) := by have := hra 0 _ rfl; rwa [add_zero'] at this
  have hst : gotF (L.take (k + 1)) = gotF (L.take k) ++ (if (L.getD k (0, 0, 0, 0, false)).2.2.2.2 then [((L.getD k (0, 0, 0, 0, false)).1, 0, (L.getD k (0, 0, 0, 0, false)).2.2.1, (L.getD k (0, 0, 0, 0, false)).2.2.2.1, false)] else []) := by
   unfold gotF
   rw [filter_succ ((0, 0, 0, 0, false) : WR) _ hkL, List.map_append]
   congr 1
   split <;> rfl
  generalize L.getD k (0, 0, 0, 0, false) = x at *
  have r3 : rd H18 (((pa.add ((k : Int).toNat * 5)).add 2).add 1) = some (.int .u64 x.2.2.2.1) := by rw [add_add']; exact hra 3 _ rfl
  refine ⟨by omega, by omega, unSome_mk hpa ⟨_, hra 4 _ rfl, iteB_intro (fun d => ?_) (fun d => ?_)⟩⟩
  ·rw [if_pos d] at hst
   refine ⟨by omega, by omega, unSome_mk hpa ⟨_, ra0, by omega, by omega, unSome_mk hpa ⟨_, hra 2 _ rfl, _, r3, ?_⟩⟩⟩
   refine apR rkW (x.1, 0, x.2.2.1, x.2.2.2.1, false) ow (by omega) e18.size ?_
   intro o' H' ow' n' m'
   exact letV_mk _ rfl (next2 hkL (by omega) ⟨by rw [hst]; exact ow', Mods.ext e18 m' (blkOf_new ow.new)⟩)
  ·rw [if_neg (by simp [d]), List.append_nil] at hst
   exact letV_mk _ rfl (next2 hkL (by omega) ⟨by rw [hst]; exact ow, e18⟩)
 ·obtain rfl : k = L.length := by omega
  rw [List.take_length] at ow
  exact aw_wantB (en.go e18) (Own.is rkW ow) hG (fun H' e => hI H' (e18.trans e))

theorem aw_roundB {H0 : Heap} {T : List FS} {t sa w : Sl} {A : List Asg} {W : List Op} {H12 : Heap} (en : AwI H0 T t A sa W w H12) (hD : ∀ i, i < T.length → DevOk T A W i) :
  ∃ I_ : Int → Heap → Prop, ∃ M_ : Int → Heap → Nat, I_ (0 : Int) H12 ∧ (∀ i : Int, ∀ H13 : Heap, I_ i H13 → F_law21_AllocateWrites_r8 (BoolP true H0) t sa w I_ M_ i H13) := by
 have hTn := en.topo.len
 have hT64 := en.v.1
 refine loop1 T.length (fun k H' => Ext H12 H') (.refl _) ?_
 rintro i H13 hi e13
 have en13 := en.go e13
 unfold F_law21_AllocateWrites_r8
 refine iteB_dec (fun c => ?_) (fun c => ⟨rfl, en13.ext⟩)
 have hiT : i < T.length := by omega
 obtain ⟨a, hp, hr⟩ := en13.topo.at hiT
 obtain ⟨q0, q1, q2, q3, q4, q5, q6, q7, q8, q9, q10⟩ := rdFn hr
 have hvF := (en.v.2 i hiT).va
 have hdv := hD i hiT
 unfold DevOk at hdv
 have hbars := en13.topo.barsAt hiT
 generalize fnAt T i = f at *
 generalize slAt T i = fs at *
 refine ⟨by omega, by omega, unSome_mk hp ⟨_, q0, _, q1, _, q2, _, q3, _, q4, _, q5, _, q6, _, q7, _, q8, _, q9, fs, q10, (New_spec f fs H13 hbars).mono ?_⟩⟩
 intro v H14 h14
 cases h14 with
 | no hv _ => exact absurd hvF hv
 | yes b g hv hb hg hgb d hx e14 =>
  refine ⟨_, _, rfl, iteB_neg (by simp) (iteB_neg (by simp) ?_)⟩
  have hwn := en13.isW.len
  have hwl := en.wl
  refine loop1 W.length (fun k H' => Ext H13 H' ∧ PD H' b (appL (sinit f).2 (sinit f).1 (opsI (W.take k) i)) (sinit f).2 (prest g f) ∧ RB H' g t_api_Bar 2 encBar (xbars f)) ⟨e14, by simpa [opsI, appL] using d, hx⟩ ?_
  rintro k H15 hk ⟨e15, d15, x15⟩
  have en15 := en13.go e15
  have hby := appL_bytes (sinit f).2 (opsI (W.take k) i) (sinit f).1 (sinit_bytes f)
  unfold F_law21_AllocateWrites_r7
  refine iteB_dec (fun c2 => ?_) (fun c2 => ?_)
  ·have hkW : k < W.length := by omega
   obtain ⟨pw, hpw, hrw⟩ := IsS.atN en15.isW ((0, 0, 0, 0) : Op) hkW
   have r0 : rd H15 (pw.add ((k : Int).toNat * 5)) = some (.int .i64 (W.getD k (0, 0, 0, 0)).1) := by have := hrw 0 _ rfl; rwa [add_zero'] at this
   have hst : opsI (W.take (k + 1)) i = opsI (W.take k) i ++ (if decide ((W.getD k (0, 0, 0, 0)).1 = i) then [W.getD k (0, 0, 0, 0)] else []) := by
    unfold opsI
    exact filter_succ ((0, 0, 0, 0) : Op) _ hkW
   generalize W.getD k (0, 0, 0, 0) = y at *
   refine ⟨by omega, by omega, unSome_mk hpw ⟨_, r0, iteB_beq (fun q => ?_) (fun q => ?_)⟩⟩
   ·rw [if_pos (by simpa using q)] at hst
    refine ⟨by omega, by omega, unSome_mk hpw ⟨_, hrw 1 _ rfl, by omega, by omega, unSome_mk hpw ⟨_, hrw 2 _ rfl, by omega, by omega, unSome_mk hpw ⟨_, hrw 4 _ rfl, (Write_spec b _ _ _ y.2.1 y.2.2.1 y.2.2.2 H15 d15).mono ?_⟩⟩⟩⟩
    rintro v H16 ⟨rfl, d16, m16⟩
    refine ⟨rfl, letV_mk _ rfl (next1 hkW (by omega) ⟨Mods.ext e15 m16 (by simpa using hb), ?_, x15.mods m16 (by simpa using hgb)⟩)⟩
    rw [hst, appL_append]
    exact d16
   ·rw [if_neg (by simpa using q), List.append_nil] at hst
    exact letV_mk _ rfl (next1 hkW (by omega) ⟨e15, by rw [hst]; exact d15, x15⟩)
  ·obtain rfl : k = W.length := by omega
   rw [List.take_length] at d15 hby
   refine (WindowsX_spec b g f _ _ H15 hvF d15 hby x15).mono ?_
   rintro v H17 ⟨ws, rfl, isL, e17⟩
   have hrl := regs_le f.bridge
   have w1 := winsF_len (appL (sinit f).2 (sinit f).1 (opsI W i)) f.bars (regs f.bridge)
   have w2 := brX_len (appL (sinit f).2 (sinit f).1 (opsI W i)) f
   exact ⟨ws, rfl, aw_gotB (en15.go e17) isL (by rw [List.length_append]; omega) hdv (fun H' e => next1 hiT (by omega) (e13.trans ((e15.trans e17).trans e)))⟩

theorem aw_wantC {H0 : Heap} {T : List FS} {t sa w : Sl} {A : List Asg} {W : List Op} {I_ : Int → Heap → Prop} {M_ : Int → Heap → Nat} {i : Nat} {H13 H18 : Heap} {got : Sl} {G : List WR} (en : AwI H0 T t A sa W w H18) (isG : IsS 5 encW H18 got G) (hG : G = wantF A i)
  (hI : ∀ H', Ext H18 H' → I_ (IntKind.i64.wrap ((i : Int) + 1)) H' ∧ M_ (IntKind.i64.wrap ((i : Int) + 1)) H' < M_ i H13) :
  ∃ I_3 : Sl → Int → Heap → Prop, ∃ M_3 : Sl → Int → Heap → Nat, I_3 (Sl.mk none 0 0) (0 : Int) H18 ∧ (∀ want : Sl, ∀ k6 : Int, ∀ H21 : Heap, I_3 want k6 H21 → F_law21_AllocateWrites_r9 (BoolP true H0) sa I_ M_ i H13 got I_3 M_3 want k6 H21) := by
 have hsn := en.isA.len
 have hal := en.al
 refine loop2 A.length (fun k o H' => Own H18.size t_api_Window 5 H' o ((wantF (A.take k) i).flatMap encW) ∧ Ext H18 H') ⟨Own.nil _ _ _ _, .refl _⟩ ?_
 rintro k o H21 hk ⟨ow, e21⟩
 unfold F_law21_AllocateWrites_r9
 have hon := Own.len rkW ow
 have hwl : (wantF (A.take k) i).length ≤ k := by unfold wantF; rw [List.length_map]; exact filter_take_len _ _ _
 refine iteB_dec (fun c => ?_) (fun c => ?_)
 ·have hkA : k < A.length := by omega
  obtain ⟨pa, hpa, ra0, hra⟩ := asg_rd (en.isA.ext e21) hkA
  have hsz := en.sz k hkA
  have hst : wantF (A.take (k + 1)) i = wantF (A.take k) i ++ (if decide ((A.getD k zA).1.1 = i) then [((A.getD k zA).1.2.1, 0, (A.getD k zA).2, 2 ^ szA (A.getD k zA), false)] else []) := by
   unfold wantF
   rw [filter_succ zA _ hkA, List.map_append]
   congr 1
   split <;> rfl
  generalize A.getD k zA = x at *
  refine ⟨by omega, by omega, unSome_mk hpa ⟨_, ra0, iteB_beq (fun d => ?_) (fun d => ?_)⟩⟩
  ·rw [if_pos (by simpa using d)] at hst
   obtain ⟨s1, s2⟩ := shl_one hsz
   refine ⟨by omega, by omega, unSome_mk hpa ⟨_, hra 1 _ rfl, by omega, by omega, unSome_mk hpa ⟨_, hra 4 _ rfl, by omega, by omega, unSome_mk hpa ⟨_, hra 3 _ rfl, s1, ?_⟩⟩⟩⟩
   rw [s2]
   refine apR rkW (x.1.2.1, 0, x.2, 2 ^ szA x, false) ow (by omega) e21.size ?_
   intro o' H' ow' n' m'
   exact letV_mk _ rfl (next2 hkA (by omega) ⟨by rw [hst]; exact ow', Mods.ext e21 m' (blkOf_new ow.new)⟩)
  ·rw [if_neg (by simpa using d), List.append_nil] at hst
   exact letV_mk _ rfl (next2 hkA (by omega) ⟨by rw [hst]; exact ow, e21⟩)
 ·obtain rfl : k = A.length := by omega
  rw [List.take_length] at ow
  have hgl : G.length ≤ 1000 := by rw [hG]; rw [List.take_length] at hwl; omega
  refine (Equal_api_Window_spec H21 got o G (wantF A i) (isG.ext e21) (Own.is rkW ow) (by omega)).mono ?_
  rintro v H24 ⟨rfl, rfl⟩
  exact ⟨_, rfl, iteB_neg (by simp [hG]) (letV_mk _ rfl (hI _ e21))⟩

theorem aw_gotC {H0 : Heap} {T : List FS} {t sa w : Sl} {A : List Asg} {W : List Op} {I_ : Int → Heap → Prop} {M_ : Int → Heap → Nat} {i : Nat} {H13 H17 : Heap} {ws : Sl} {L : List WR} (en : AwI H0 T t A sa W w H17) (isL : IsS 5 encW H17 ws L) (hL : L.length ≤ 1000) (hG : gotF L = wantF A i)
  (hI : ∀ H', Ext H17 H' → I_ (IntKind.i64.wrap ((i : Int) + 1)) H' ∧ M_ (IntKind.i64.wrap ((i : Int) + 1)) H' < M_ i H13) :
  ∃ I_2 : Sl → Int → Heap → Prop, ∃ M_2 : Sl → Int → Heap → Nat, I_2 (Sl.mk none 0 0) (0 : Int) H17 ∧ (∀ got : Sl, ∀ k3 : Int, ∀ H18 : Heap, I_2 got k3 H18 → F_law21_AllocateWrites_r10 (BoolP true H0) sa I_ M_ i H13 ws I_2 M_2 got k3 H18) := by
 have hwn := isL.len
 refine loop2 L.length (fun k o H' => Own H17.size t_api_Window 5 H' o ((gotF (L.take k)).flatMap encW) ∧ Ext H17 H') ⟨Own.nil _ _ _ _, .refl _⟩ ?_
 rintro k o H18 hk ⟨ow, e18⟩
 unfold F_law21_AllocateWrites_r10
 have hon := Own.len rkW ow
 have hwl : (gotF (L.take k)).length ≤ k := by unfold gotF; rw [List.length_map]; exact filter_take_len _ _ _
 refine iteB_dec (fun c => ?_) (fun c => ?_)
 ·have hkL : k < L.length := by omega
  obtain ⟨pa, hpa, hra⟩ := IsS.atN (isL.ext e18) ((0, 0, 0, 0, false) : WR) hkL
  have ra0 : rd H18 (pa.add ((k : Int).toNat * 5)) = some (.int .i64 (L.getD k (0, 0, 0, 0, false)).1) := by have := hra 0 _ rfl; rwa [add_zero'] at this
  have hst : gotF (L.take (k + 1)) = gotF (L.take k) ++ (if (L.getD k (0, 0, 0, 0, false)).2.2.2.2 then [((L.getD k (0, 0, 0, 0, false)).1, 0, (L.getD k (0, 0, 0, 0, false)).2.2.1, (L.getD k (0, 0, 0, 0, false)).2.2.2.1, false)] else []) := by
   unfold gotF
   rw [filter_succ ((0, 0, 0, 0, false) : WR) _ hkL, List.map_append]
   congr 1
   split <;> rfl
  generalize L.getD k (0, 0, 0, 0, false) = x at *
  have r3 : rd H18 (((pa.add ((k : Int).toNat * 5)).add 2).add 1) = some (.int .u64 x.2.2.2.1) := by rw [add_add']; exact hra 3 _ rfl
  refine ⟨by omega, by omega, unSome_mk hpa ⟨_, hra 4 _ rfl, iteB_intro (fun d => ?_) (fun d => ?_)⟩⟩
  ·rw [if_pos d] at hst
   refine ⟨by omega, by omega, unSome_mk hpa ⟨_, ra0, by omega, by omega, unSome_mk hpa ⟨_, hra 2 _ rfl, _, r3, ?_⟩⟩⟩
   refine apR rkW (x.1, 0, x.2.2.1, x.2.2.2.1, false) ow (by omega) e18.size ?_
   intro o' H' ow' n' m'
   exact letV_mk _ rfl (next2 hkL (by omega) ⟨by rw [hst]; exact ow', Mods.ext e18 m' (blkOf_new ow.new)⟩)
  ·rw [if_neg (by simp [d]), List.append_nil] at hst
   exact letV_mk _ rfl (next2 hkL (by omega) ⟨by rw [hst]; exact ow, e18⟩)
 ·obtain rfl : k = L.length := by omega
  rw [List.take_length] at ow
  exact aw_wantC (en.go e18) (Own.is rkW ow) hG (fun H' e => hI H' (e18.trans e))

theorem aw_roundC {H0 : Heap} {T : List FS} {t sa w : Sl} {A : List Asg} {W : List Op} {H12 : Heap} (en : AwI H0 T t A sa W w H12) (hD : ∀ i, i < T.length → DevOk T A W i) :
  ∃ I_ : Int → Heap → Prop, ∃ M_ : Int → Heap → Nat, I_ (0 : Int) H12 ∧ (∀ i : Int, ∀ H13 : Heap, I_ i H13 → F_law21_AllocateWrites_r12 (BoolP true H0) t sa w I_ M_ i H13) := by
 have hTn := en.topo.len
 have hT64 := en.v.1
 refine loop1 T.length (fun k H' => Ext H12 H') (.refl _) ?_
 rintro i H13 hi e13
 have en13 := en.go e13
 unfold F_law21_AllocateWrites_r12
 refine iteB_dec (fun c => ?_) (fun c => ⟨rfl, en13.ext⟩)
 have hiT : i < T.length := by omega
 obtain ⟨a, hp, hr⟩ := en13.topo.at hiT
 obtain ⟨q0, q1, q2, q3, q4, q5, q6, q7, q8, q9, q10⟩ := rdFn hr
 have hvF := (en.v.2 i hiT).va
 have hdv := hD i hiT
 unfold DevOk at hdv
 have hbars := en13.topo.barsAt hiT
 generalize fnAt T i = f at *
 generalize slAt T i = fs at *
 refine ⟨by omega, by omega, unSome_mk hp ⟨_, q0, _, q1, _, q2, _, q3, _, q4, _, q5, _, q6, _, q7, _, q8, _, q9, fs, q10, (New_spec f fs H13 hbars).mono ?_⟩⟩
 intro v H14 h14
 cases h14 with
 | no hv _ => exact absurd hvF hv
 | yes b g hv hb hg hgb d hx e14 =>
  refine ⟨_, _, rfl, iteB_neg (by simp) (iteB_neg (by simp) ?_)⟩
  have hwn := en13.isW.len
  have hwl := en.wl
  refine loop1 W.length (fun k H' => Ext H13 H' ∧ PD H' b (appL (sinit f).2 (sinit f).1 (opsI (W.take k) i)) (sinit f).2 (prest g f) ∧ RB H' g t_api_Bar 2 encBar (xbars f)) ⟨e14, by simpa [opsI, appL] using d, hx⟩ ?_
  rintro k H15 hk ⟨e15, d15, x15⟩
  have en15 := en13.go e15
  have hby := appL_bytes (sinit f).2 (opsI (W.take k) i) (sinit f).1 (sinit_bytes f)
  unfold F_law21_AllocateWrites_r11
  refine iteB_dec (fun c2 => ?_) (fun c2 => ?_)
  ·have hkW : k < W.length := by omega
   obtain ⟨pw, hpw, hrw⟩ := IsS.atN en15.isW ((0, 0, 0, 0) : Op) hkW
   have r0 : rd H15 (pw.add ((k : Int).toNat * 5)) = some (.int .i64 (W.getD k (0, 0, 0, 0)).1) := by have := hrw 0 _ rfl; rwa [add_zero'] at this
   have hst : opsI (W.take (k + 1)) i = opsI (W.take k) i ++ (if decide ((W.getD k (0, 0, 0, 0)).1 = i) then [W.getD k (0, 0, 0, 0)] else []) := by
    unfold opsI
    exact filter_succ ((0, 0, 0, 0) : Op) _ hkW
   generalize W.getD k (0, 0, 0, 0) = y at *
   refine ⟨by omega, by omega, unSome_mk hpw ⟨_, r0, iteB_beq (fun q => ?_) (fun q => ?_)⟩⟩
   ·rw [if_pos (by simpa using q)] at hst
    refine ⟨by omega, by omega, unSome_mk hpw ⟨_, hrw 1 _ rfl, by omega, by omega, unSome_mk hpw ⟨_, hrw 2 _ rfl, by omega, by omega, unSome_mk hpw ⟨_, hrw 4 _ rfl, (Write_spec b _ _ _ y.2.1 y.2.2.1 y.2.2.2 H15 d15).mono ?_⟩⟩⟩⟩
    rintro v H16 ⟨rfl, d16, m16⟩
    refine ⟨rfl, letV_mk _ rfl (next1 hkW (by omega) ⟨Mods.ext e15 m16 (by simpa using hb), ?_, x15.mods m16 (by simpa using hgb)⟩)⟩
    rw [hst, appL_append]
    exact d16
   ·rw [if_neg (by simpa using q), List.append_nil] at hst
    exact letV_mk _ rfl (next1 hkW (by omega) ⟨e15, by rw [hst]; exact d15, x15⟩)
  ·obtain rfl : k = W.length := by omega
   rw [List.take_length] at d15 hby
   refine (WindowsX_spec b g f _ _ H15 hvF d15 hby x15).mono ?_
   rintro v H17 ⟨ws, rfl, isL, e17⟩
   have hrl := regs_le f.bridge
   have w1 := winsF_len (appL (sinit f).2 (sinit f).1 (opsI W i)) f.bars (regs f.bridge)
   have w2 := brX_len (appL (sinit f).2 (sinit f).1 (opsI W i)) f
   exact ⟨ws, rfl, aw_gotC (en15.go e17) isL (by rw [List.length_append]; omega) hdv (fun H' e => next1 hiT (by omega) (e13.trans ((e15.trans e17).trans e)))⟩

end Go.Proofs.YtigcheamheiopaaGreat
end

section
/-
 AllocateWrites: the law, from what it asks of the devices.
-/
namespace Go.Proofs.YtigcheamheiopaaGreat
open Go.Eng
set_option linter.unusedVariables false

def DevsOk : Prop := ∀ (T : List FS) (g : Host) (A : List Asg) (c : Cert), AssignIs T g 0 A c → ∀ i, i < T.length → DevOk T A (wrF T A T.length) i

theorem asg_cov {T : List FS} {g : Host} {A : List Asg} {c : Cert} (ha : AssignIs T g 0 A c) : Cov2 T A ∧ ∀ j, j < A.length → 0 ≤ (A.getD j zA).1.2.2.2 ∧ (A.getD j zA).1.2.2.2 ≤ 44 := by
 rcases ha with ⟨_, h0, _⟩ | ⟨⟨hv, vh⟩, e0, N, hN, ⟨h1, h2, _⟩ | ⟨_, h1, h2, _⟩ | ⟨rfl, hr, _, rfl, _⟩⟩
 ·cases h0
 ·exact absurd h2.symm h1
 ·exact absurd h2.symm h1
 ·have h0 := rootR_ok T N g 3
  have h2 := brR_ok T N (rootR T N g 3).2.2 h0.1 (3 * T.length)
  have hl : (brR T N (rootR T N g 3).2.2 (3 * T.length)).length = N.length := by rw [h2.2, h0.2]
  have hf : (N.zip (brR T N (rootR T N g 3).2.2 (3 * T.length))).map Prod.fst = N := zip_fst hl
  have hc : Cov2 T (N.zip (brR T N (rootR T N g 3).2.2 (3 * T.length))) := by
   unfold Cov2
   rw [hf]
   cases hh : hiF g
   ·right; rw [← hh]; exact hN
   ·left; rw [← hh]; exact hN
  exact ⟨hc, fun j hj => (cov_ok hc _ (getD_mem' zA hj)).nd.sz⟩

theorem aw_join (H0 : Heap) (hDs : DevsOk) (T : List FS) (t : Sl) (g : Host) (gs : HostS) (H5 : Heap) (hT : Topo H5 t T) (hv : ValidT T) (mg : HostM H5 g gs) (x5 : Ext H0 H5) (K : Sl → Sl → Heap → Prop)
  (hK : ∀ (sa w : Sl) (A : List Asg) (W : List Op) (H12 : Heap), AwI H0 T t A sa W w H12 → (∀ i, i < T.length → DevOk T A W i) → K sa w H12) :
  CallsH Tryz.prog n_ref21_Assign #[.slice t.p t.n t.c, hostV g gs] H5 (fun v2 H6 => ∃ x24 : Sl, ∃ x25 : Int, ∃ x26 : Int, ∃ x27 : Int, ∃ x28 : Int, ∃ x29 : Int, v2 = .tuple #[.slice x24.p x24.n x24.c, .agg #[.int .i64 x25, .int .i64 x26, .int .u64 x27, .int .u64 x28], .int .i64 x29] ∧ (
   letH (H6.push (.cells #[.int .i64 (0 : Int), .int .i64 (0 : Int), .int .u64 (0 : Int), .int .u64 (0 : Int)] t_api_Certificate (0, 0))) (fun H7 : Heap => okRow H7 (⟨H6.size, 0, none⟩ : Addr) 4 ∧ (
   letH (wrs H7 (⟨H6.size, 0, none⟩ : Addr) [.int .i64 x25, .int .i64 x26, .int .u64 x27, .int .u64 x28]) (fun H8 : Heap =>
   CallsH Tryz.prog n_allocate_Writes #[.slice t.p t.n t.c, .slice x24.p x24.n x24.c] H8 (fun v3 H9 => ∃ w : Sl, v3 = .slice w.p w.n w.c ∧ (
   CallsH Tryz.prog n_law21_awake #[] H9 (fun v4 H10 => ∃ x30 : Bool, v4 = .bool x30 ∧ (
   iteB (!x30) (BoolP true H0 (.bool false) H10) (
   CallsH Tryz.prog n_ref21_Writes #[.slice t.p t.n t.c, .slice x24.p x24.n x24.c] H10 (fun v5 H11 => ∃ x31 : Sl, v5 = .slice x31.p x31.n x31.c ∧ (
   CallsH Tryz.prog n_help_Equal_api_ConfigOp #[.slice w.p w.n w.c, .slice x31.p x31.n x31.c] H11 (fun v6 H12 => ∃ x32 : Bool, v6 = .bool x32 ∧ (
   iteB (!x32) (BoolP true H0 (.bool false) H12) (
   iteB (x29 != (0 : Int)) (BoolP true H0 (.bool true) H12) (K x24 w H12)))))))))))))))) := by
 refine (rAssign_spec T t g gs H5 hT mg).mono ?_
 rintro v H6 ⟨sa, e, A, c, rfl, ha, isA, _, e6⟩
 refine ⟨sa, _, _, _, _, _, rfl, local_mk (vs := encC c) rfl rfl fun H8 e8 z8 b8 => ?_⟩
 have x8 := e6.trans e8
 have hal := ha.len
 refine (Writes_spec T t A sa H8 (hT.ext x8) (isA.ext e8) hal).mono ?_
 rintro v H9 ⟨w, W, rfl, hW, isW, e9⟩
 refine ⟨w, rfl, (awake_spec H9).mono ?_⟩
 rintro v H10 ⟨rfl, e10⟩
 have x10 := (x8.trans e9).trans e10
 refine ⟨_, rfl, iteB_neg (by simp) ((rWrites_spec T t A sa H10 (hT.ext x10) (isA.ext ((e8.trans e9).trans e10)) hal).mono ?_)⟩
 rintro v H11 ⟨w2, W2, rfl, hW2, isW2, e11⟩
 have := hW.uni hW2
 subst this
 have hwl : W.length ≤ 1000000 := by
  rcases hW with ⟨h1, _, rfl⟩ | ⟨_, rfl⟩
  ·have h2 := wrF_len T A hal T.length
   have h3 := h1.1
   have h4 : T.length * 2013 ≤ 64 * 2013 := Nat.mul_le_mul_right _ h3
   omega
  ·simp
 refine ⟨w2, rfl, (Equal_api_ConfigOp_spec H11 w w2 W W (isW.ext (e10.trans e11)) isW2 (by omega)).mono ?_⟩
 rintro v H12 ⟨rfl, rfl⟩
 have x12 := x10.trans e11
 refine ⟨_, rfl, iteB_neg (by simp) (iteB_bne (fun _ => ⟨rfl, x5.trans x12⟩) (fun d => ?_))⟩
 subst d
 obtain ⟨hc, hsz⟩ := asg_cov ha
 have hWe : W = wrF T A T.length := by
  rcases hW with ⟨_, _, h⟩ | ⟨h, _⟩
  ·exact h
  ·exact absurd ⟨hv, hc⟩ h
 exact hK sa w A W H12 ⟨hT.ext x12, hv, isA.ext (((e8.trans e9).trans e10).trans e11), hal, hsz, isW.ext (e10.trans e11), hwl, x5.trans x12⟩ (fun i hi => by rw [hWe]; exact hDs T g A c ha i hi)

theorem hosL {Hx : Heap} {b : Nat} {g g' : Host} {gs gs' : HostS} (hb : Blk Hx b t_api_Host (hostL g gs)) : Blk (wrs Hx ⟨b, 0, none⟩ (hostL g' gs')) b t_api_Host (hostL g' gs') := by
 have := hb.wr (o := 0) (ws := hostL g' gs')
 exact this

set_option maxHeartbeats 1000000 in
theorem law_writes (hDs : DevsOk) (H : Heap) (s : Sl) (L : List FS) (h : Host) (hs : HostS) (hL : Topo H s L) (hl : L.length ≤ 9223372036854775807) (hb : ∀ x ∈ L, x.1.bars.length ≤ 9223372036854775807) (hm : HostM H h hs) :
  CallsH Tryz.prog n_law21_AllocateWrites #[.slice s.p s.n s.c, hostV h hs] H (BoolP true H) := by
 refine F_law21_AllocateWrites_ok _ _ _ _ _ _ _ _ _ ?_
 unfold F_law21_AllocateWrites
 refine push_mk (vs := hostL h hs) fun H1 e1 z1 b1 => ?_
 obtain ⟨p0, p1, p2, p3, p4, p5, p6, p7⟩ := Blk.host b1
 refine ⟨_, p0, _, p1, _, p2, _, p3, _, p4, _, p5, _, p6, _, p7, ?_, ?_⟩
 ·refine (gTopoT_spec H1 s L 24 (by omega) (hL.ext e1) hl hb).mono ?_
  rintro v H2 ⟨t, T, rfl, hT, hv, hT24, e2, ty2, gt2⟩
  have x2 := e1.trans e2
  refine ⟨t, rfl, e2.keeps, ?_, ?_⟩
  ·refine (gHostV_spec h hs H2 (hm.ext x2)).mono ?_
   rintro v H3 ⟨g, gs, rfl, mg, hty, l5, r72, gv, e3⟩
   refine ⟨_, _, _, _, _, _, _, _, rfl, push_mk (vs := hostL ⟨0, [], [], [], [], [], [], []⟩ ⟨⟨none, 0, 0⟩, ⟨none, 0, 0⟩, ⟨none, 0, 0⟩, ⟨none, 0, 0⟩, ⟨none, 0, 0⟩, ⟨none, 0, 0⟩, ⟨none, 0, 0⟩⟩) fun H4 e4 z4 b4 => ⟨e4.keeps, b4.ok0 (Nat.le_refl 8), letH_mk ?_⟩⟩
   intro H5 h5
   have b5 : Blk H5 H3.size t_api_Host (hostL g gs) := by rw [h5]; exact hosL b4
   have m5 : Mods [H3.size] H4 H5 := by rw [h5]; exact Mods.wrs (by simp)
   have e5 : Ext H3 H5 := Mods.ext e4 m5 (by simp)
   clear h5
   obtain ⟨p0, p1, p2, p3, p4, p5, p6, p7⟩ := Blk.host b5
   refine ⟨_, p0, _, p1, _, p2, _, p3, _, p4, _, p5, _, p6, _, p7, ?_⟩
   exact aw_join H hDs T t g gs H5 (hT.ext (e3.trans e5)) hv (mg.ext e5) (x2.trans (e3.trans e5)) (fun x24 w H12 => ∃ I_ : Int → Heap → Prop, ∃ M_ : Int → Heap → Nat, I_ (0 : Int) H12 ∧ (∀ i : Int, ∀ H13 : Heap, I_ i H13 → F_law21_AllocateWrites_r4 (BoolP true H) t x24 w I_ M_ i H13)) (fun sa w A W H12 en hD => aw_roundA en hD)
  ·refine push_mk (vs := hostL ⟨0, [], [], [], [], [], [], []⟩ ⟨⟨none, 0, 0⟩, ⟨none, 0, 0⟩, ⟨none, 0, 0⟩, ⟨none, 0, 0⟩, ⟨none, 0, 0⟩, ⟨none, 0, 0⟩, ⟨none, 0, 0⟩⟩) fun H4 e4 z4 b4 => ⟨e4.keeps, (gHostV_spec h hs H4 (hm.ext (x2.trans e4))).mono ?_⟩
   rintro v H3 ⟨g, gs, rfl, mg, hty, l5, r72, gv, e3⟩
   have b3 := b4.ext e3
   refine ⟨_, _, _, _, _, _, _, _, rfl, b3.ok0 (Nat.le_refl 8), letH_mk ?_⟩
   intro H5 h5
   have b5 : Blk H5 H2.size t_api_Host (hostL g gs) := by rw [h5]; exact hosL b3
   have m5 : Mods [H2.size] H3 H5 := by rw [h5]; exact Mods.wrs (by simp)
   have e5 : Ext H2 H5 := Mods.ext (e4.trans e3) m5 (by simp)
   clear h5
   obtain ⟨p0, p1, p2, p3, p4, p5, p6, p7⟩ := Blk.host b5
   refine ⟨_, p0, _, p1, _, p2, _, p3, _, p4, _, p5, _, p6, _, p7, ?_⟩
   exact aw_join H hDs T t g gs H5 (hT.ext e5) hv (mg.modsT hty b3 m5) (x2.trans e5) (fun x24 w H12 => ∃ I_ : Int → Heap → Prop, ∃ M_ : Int → Heap → Nat, I_ (0 : Int) H12 ∧ (∀ i : Int, ∀ H13 : Heap, I_ i H13 → F_law21_AllocateWrites_r8 (BoolP true H) t x24 w I_ M_ i H13)) (fun sa w A W H12 en hD => aw_roundB en hD)
 ·refine push_mk (vs := hostL ⟨0, [], [], [], [], [], [], []⟩ ⟨⟨none, 0, 0⟩, ⟨none, 0, 0⟩, ⟨none, 0, 0⟩, ⟨none, 0, 0⟩, ⟨none, 0, 0⟩, ⟨none, 0, 0⟩, ⟨none, 0, 0⟩⟩) fun H4 e4 z4 b4 => ⟨e4.keeps, (gTopoT_spec H4 s L 24 (by omega) (hL.ext (e1.trans e4)) hl hb).mono ?_⟩
  rintro v H2 ⟨t, T, rfl, hT, hv, hT24, e2, ty2, gt2⟩
  have x2 := (e1.trans e4).trans e2
  refine ⟨t, rfl, e2.keeps, (gHostV_spec h hs H2 (hm.ext x2)).mono ?_⟩
  rintro v H3 ⟨g, gs, rfl, mg, hty, l5, r72, gv, e3⟩
  have b3 := (b4.ext e2).ext e3
  refine ⟨_, _, _, _, _, _, _, _, rfl, b3.ok0 (Nat.le_refl 8), letH_mk ?_⟩
  intro H5 h5
  have b5 : Blk H5 H1.size t_api_Host (hostL g gs) := by rw [h5]; exact hosL b3
  have m5 : Mods [H1.size] H3 H5 := by rw [h5]; exact Mods.wrs (by simp)
  have e5 : Ext H1 H5 := Mods.ext ((e4.trans e2).trans e3) m5 (by simp)
  clear h5
  obtain ⟨p0, p1, p2, p3, p4, p5, p6, p7⟩ := Blk.host b5
  refine ⟨_, p0, _, p1, _, p2, _, p3, _, p4, _, p5, _, p6, _, p7, ?_⟩
  have hlt : ∀ {q : Option Addr} {e : TypeId}, e ≠ t_api_Host → TyB H3 q e → ∀ a, q = some a → a.block ∉ [H1.size] := fun {q e} he hq a ha => by
   have t1 : TyB H3 (some ⟨H1.size, 0, none⟩) t_api_Host := fun a ha => by cases ha; exact ⟨_, _, b3⟩
   have := ty_ne hq t1 he a ha
   simpa [blkOf] using this
  have ty3 := ty2.mods (S := []) e3.mods (fun _ _ => by simp)
  have gt3 := gt2.ext e3
  exact aw_join H hDs T t g gs H5 ⟨(hT.ext e3).1.mods m5 (hlt (by decide) ty3), fun x hx => (gt3.mods m5 (fun p hp => hlt (by decide) hp) x hx).1⟩ hv (mg.modsT hty b3 m5) (e1.trans e5) (fun x24 w H12 => ∃ I_ : Int → Heap → Prop, ∃ M_ : Int → Heap → Nat, I_ (0 : Int) H12 ∧ (∀ i : Int, ∀ H13 : Heap, I_ i H13 → F_law21_AllocateWrites_r12 (BoolP true H) t x24 w I_ M_ i H13)) (fun sa w A W H12 en hD => aw_roundC en hD)

end Go.Proofs.YtigcheamheiopaaGreat
end
