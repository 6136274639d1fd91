/-
 HotplugSpareSuffices.
-/
import Derived.Test.YtnhhncjflnlfaaaGreatJE
namespace Go.Proofs.YtnhhncjflnlfaaaGreat
open Go.Eng
set_option linter.unusedVariables false

theorem spare_fits {T : List FS} {h : Host} {n : Nat} {A : List Asg} {p0 : Int} (od : Old T (hiF h) n A) (hc : ChkIs (T.take n) h A) (hs : SubN A (needsAll T (hiF h))) (hu : ∀ i, i < A.length → U64 (A.getD i zA).2) (pl : Plug T h A n p0) (hnb : ∀ i, n ≤ i → i < T.length → (fnAt T i).bridge = false) :
  ∀ m, m ≤ 3 * T.length → ∃ B, fitsF T (needsAll T (hiF h)) n (B0F (needsAll T (hiF h)) A n) m = some B
 | 0, _ => ⟨_, rfl⟩
 | m + 1, hm => by
  obtain ⟨B, hB⟩ := spare_fits od hc hs hu pl hnb m (by omega)
  have hv := od.v
  have ho := od.o
  have hok := needs_ok hv ho
  have hol := fitsF_old hB
  obtain ⟨p, c, rfl, hc3⟩ : ∃ p c : Nat, m = 3 * p + c ∧ c < 3 := ⟨m / 3, m % 3, by omega, by omega⟩
  have hpT : p < T.length := by omega
  have hst : fitsF T (needsAll T (hiF h)) n (B0F (needsAll T (hiF h)) A n) (3 * p + c + 1) = fillF T (needsAll T (hiF h)) n p c B := by
   have := fitsF_succ T (needsAll T (hiF h)) n (B0F (needsAll T (hiF h)) A n) (p := p) hc3
   rw [hB] at this
   exact this
  rw [hst]
  unfold fillF
  by_cases hfr : freshI T (needsAll T (hiF h)) n p c (needsAll T (hiF h)).length = []
  ·rw [if_pos hfr]; exact ⟨B, rfl⟩
  rw [if_neg hfr]
  obtain ⟨i, hi⟩ : ∃ i, i ∈ freshI T (needsAll T (hiF h)) n p c (needsAll T (hiF h)).length := by
   cases hq : freshI T (needsAll T (hiF h)) n p c (needsAll T (hiF h)).length with
   | nil => exact absurd hq hfr
   | cons x l => exact ⟨x, by simp⟩
  obtain ⟨hiN, hbq, hin⟩ := freshI_mem.1 hi
  have hx := hok _ (getD_mem' (l := needsAll T (hiF h)) (k := i) zN hiN)
  have hbq' := hbq
  unfold belQ at hbq'
  rw [decide_eq_true_eq] at hbq'
  obtain ⟨hcl, hfn, hpp⟩ := hbq'
  obtain ⟨f, hfe⟩ : ∃ f : Nat, ((needsAll T (hiF h)).getD i zN).1 = f := ⟨((needsAll T (hiF h)).getD i zN).1.toNat, by omega⟩
  rw [hfe, Int.toNat_natCast] at hpp
  rw [hfe] at hfn hin
  have hbr := (hv.2 f (by omega)).br (by omega)
  have hpa := (hv.2 f (by omega)).pa
  rw [hpp, Int.toNat_natCast] at hbr
  have hpn : p < n := by
   apply Classical.byContradiction
   intro hn
   rw [hnb p (by omega) hpT] at hbr
   cases hbr
  have hp0 : (p : Int) = p0 := by
   rcases pl.new f (by omega) (by omega) with h1 | h1
   ·rw [← h1, hpp]
   ·omega
  have hkept : keptI T (needsAll T (hiF h)) n p c (needsAll T (hiF h)).length = [] := by
   cases hq : keptI T (needsAll T (hiF h)) n p c (needsAll T (hiF h)).length with
   | nil => rfl
   | cons x l =>
    exfalso
    obtain ⟨_, h2, h3⟩ := keptI_mem.1 (show x ∈ keptI T (needsAll T (hiF h)) n p c (needsAll T (hiF h)).length by rw [hq]; simp)
    unfold belQ at h2
    rw [decide_eq_true_eq] at h2
    exact pl.free ((needsAll T (hiF h)).getD x zN).1.toNat (by omega) (by rw [← hp0]; exact h2.2.2)
  have hall : freshI T (needsAll T (hiF h)) n p c (needsAll T (hiF h)).length = idxF T (needsAll T (hiF h)) p c (needsAll T (hiF h)).length := by
   unfold freshI
   rw [List.filter_eq_self]
   intro x hx
   apply Classical.byContradiction
   intro hq
   have : x ∈ keptI T (needsAll T (hiF h)) n p c (needsAll T (hiF h)).length := by
    unfold keptI
    exact List.mem_filter.2 ⟨hx, by simpa using hq⟩
   rw [hkept] at this
   cases this
  have hbel := belF_idx' hv hok hpT (c : Int)
  have hne : belF T (needsAll T (hiF h)) p c ≠ [] := by
   rw [hbel, ← hall]
   intro e
   exact hfr (List.map_eq_nil_iff.1 e)
  obtain ⟨w, hw, hwl, hw1, hsum⟩ := win_exists hv ho hpT hc3 hne
  rw [hw]
  dsimp only
  have hwx := hok _ (getD_mem' (l := needsAll T (hiF h)) (k := w) zN hwl)
  have hlB : B.length = (needsAll T (hiF h)).length := by rw [hol.1, B0F_len]
  obtain ⟨k, hka, hkA, hk1, hk2⟩ := od.kept hs hol.2 w hwl (by have : ((needsAll T (hiF h)).getD w zN).1 = p := hw1; omega)
  have hck := hc.at' k hkA
  have hbd := chk_bound hc.nd hc.vh k hkA (fun j hj => (hc.at' j (by omega)).sp)
  have hku := hu k hkA
  have hszk : szA (A.getD k zA) = ((needsAll T (hiF h)).getD w zN).2.2.2.toNat := by unfold szA; rw [hk1]
  have hsz44 := hwx.sz
  have hwb : (B.getD w 0, (2 : Int) ^ ((needsAll T (hiF h)).getD w zN).2.2.2.toNat) = winF (needsAll T (hiF h)) B w := rfl
  have hI : ItemsOk (sizesOf (belF T (needsAll T (hiF h)) p c)) := by
   refine ⟨?_, fun x hx => ?_⟩
   ·unfold sizesOf
    rw [List.length_map]
    have h1 := belF_len T (needsAll T (hiF h)) p c
    have h2 : (needsAll T (hiF h)).length ≤ 1000 := NeedsIs.len (.inr (.inr ⟨hv, ho, rfl, rfl⟩))
    omega
   ·obtain ⟨y, hy, rfl⟩ := List.mem_map.1 hx
    exact (hok y (belF_sub y hy)).sz
  have hal : ∃ y, B.getD w 0 = y * 2 ^ ((needsAll T (hiF h)).getD w zN).2.2.2.toNat := by
   have := hck.al
   rw [hszk, hk2] at this
   exact ⟨B.getD w 0 / 2 ^ ((needsAll T (hiF h)).getD w zN).2.2.2.toNat, (Int.ediv_mul_cancel (Int.dvd_of_emod_eq_zero this)).symm⟩
  rw [hszk, hk2] at hbd
  rw [hk2] at hku
  unfold U64 at hku
  have hfit := window_fits (b := B.getD w 0) (w := ((needsAll T (hiF h)).getD w zN).2.2.2.toNat) hI (by omega) hal ⟨hku.1, hbd⟩ hsum
  have hp2 := pow_ge1 ((needsAll T (hiF h)).getD w zN).2.2.2.toNat
  have hvr : ValidR [winF (needsAll T (hiF h)) B w] := ⟨by simp, fun r hr => by
   simp only [List.mem_singleton] at hr
   subst hr
   rw [← hwb]
   unfold RgOk
   dsimp only
   omega⟩
  have hfree : frW T (needsAll T (hiF h)) n p c B w = [winF (needsAll T (hiF h)) B w] := by
   unfold frW freeV
   rw [hkept, List.map_nil, if_pos ⟨hvr, by simp, fun r hr => by cases hr⟩]
   show mergeF [winF (needsAll T (hiF h)) B w] = _
   exact mergeF_asc ⟨(hvr.2 _ (by simp)).1, fun q hq => (by cases hq), trivial⟩
  have hsizes : szI (needsAll T (hiF h)) (freshI T (needsAll T (hiF h)) n p c (needsAll T (hiF h)).length) = sizesOf (belF T (needsAll T (hiF h)) p c) := by
   rw [hall, hbel]
   unfold szI sizesOf
   rw [List.map_map]
   rfl
  have hpl : (plW T (needsAll T (hiF h)) n p c B w).1 = 0 := by
   unfold plW
   rw [hfree, hsizes, ← hwb]
   exact hfit
  rw [if_pos hpl]
  exact ⟨_, rfl⟩

theorem spare_plan {T : List FS} {h : Host} {n : Nat} {A Bs : List Asg} {M : List Mv} {p0 e : Int} {c : Cert} {N : List Need} (pl : Plug T h A n p0) (hu : ∀ i, i < A.length → U64 (A.getD i zA).2) (hN : NeedsIs T (hiF h) 0 N) (hs : SubN A N) (hnb : ∀ i, n ≤ i → i < T.length → (fnAt T i).bridge = false) (p : PlanIs T h A n e Bs M c) :
  e = 0 ∧ ∀ x ∈ M, x.1 ≠ 1 := by
 obtain ⟨cA, hAs⟩ := pl.as'
 have hck := hAs.chk
 have hck' : ChkIs (T.take (n : Int).toNat) h A := by rw [Int.toNat_natCast]; exact hck
 have od := old_of pl.acc hN hck'
 rw [Int.toNat_natCast] at od
 obtain ⟨hv, ho, hNe⟩ := hN.all
 have hex : ∃ B, extF T N n A = some B := by
  subst hNe
  obtain ⟨B, hB⟩ := spare_fits od hck hs hu pl hnb _ (Nat.le_refl _)
  exact ⟨B, by unfold extF; rw [if_pos hs]; exact hB⟩
 rcases p with ⟨h0, _⟩ | ⟨_, e0, N', hN', h1⟩
 ·exact absurd pl.acc h0
 ·obtain ⟨rfl, rfl⟩ := hN'.uni hN
  rcases h1 with ⟨h2, _⟩ | ⟨_, _, B, hB, h2, h3, h4, _⟩ | ⟨_, h2, _⟩
  ·exact absurd rfl h2
  ·refine ⟨h2, fun x hx h1 => ?_⟩
   rw [h4] at hx
   rw [Int.toNat_natCast] at hx hB
   subst hNe
   unfold extF at hB
   rw [if_pos hs] at hB
   have hol := fitsF_old hB
   have haff := ext_aff od hs (by rw [hol.1, B0F_len]) hol.2
   unfold movesF at hx
   rw [List.mem_append, List.mem_append] at hx
   rcases hx with (hx | hx) | hx
   ·unfold stopL at hx
    obtain ⟨j, hj, rfl⟩ := List.mem_map.1 hx
    have := (List.mem_filter.1 hj).2
    rw [haff _ (by omega)] at this
    cases this
   ·unfold writeL at hx
    obtain ⟨y, _, rfl⟩ := List.mem_map.1 hx
    cases h1
   ·unfold startL at hx
    obtain ⟨y, _, rfl⟩ := List.mem_map.1 hx
    cases h1
  ·rw [Int.toNat_natCast] at h2
   exact absurd ⟨hck, hex⟩ h2

theorem need_eqB (x y : Need) : ((x.1 == y.1) && ((x.2.1 == y.2.1) && ((x.2.2.1 == y.2.2.1) && ((x.2.2.2 == y.2.2.2) && true)))) = decide (x = y) := by
 rw [Bool.eq_iff_iff, decide_eq_true_eq]
 obtain ⟨x0, x1, x2, x3⟩ := x
 obtain ⟨y0, y1, y2, y3⟩ := y
 simp

theorem sp_plan {H0 : Heap} {out sa : Sl} {T' : List FS} {g : Host} {gs : HostS} {A : List Asg} {n : Nat} {H2 H10 : Heap} {N : List Need} {p0 : Int} (p10 : PlS H0 H2.size out sa T' g gs A H10) (pl : Plug T' g A n p0) (hN : NeedsIs T' (hiF g) 0 N) (hs : SubN A N) (hnb : ∀ i, n ≤ i → i < T'.length → (fnAt T' i).bridge = false) :
  CallsH Tryz.prog n_hotplug_Plan #[.slice out.p out.n out.c, hostV g gs, .slice sa.p sa.n sa.c, .int .i64 n] H10 (fun v4 H12 =>
   ∃ x43 : Sl, ∃ x44 : Sl, ∃ x45 : Int, ∃ x46 : Int, ∃ x47 : Int, ∃ x48 : Int, ∃ x49 : Int, v4 = .tuple #[.slice x43.p x43.n x43.c, .slice x44.p x44.n x44.c, .agg #[.int .i64 x45, .int .i64 x46, .int .u64 x47, .int .u64 x48], .int .i64 x49] ∧ (
   letH (H12.push (.cells #[.int .i64 (0 : Int), .int .i64 (0 : Int), .int .u64 (0 : Int), .int .u64 (0 : Int)] t_api_Certificate (0, 0))) (fun H13 : Heap =>
   okRow H13 (⟨H12.size, 0, none⟩ : Addr) 4 ∧ (
   letH (wrs H13 (⟨H12.size, 0, none⟩ : Addr) [.int .i64 x45, .int .i64 x46, .int .u64 x47, .int .u64 x48]) (fun H14 : Heap =>
   iteB (x49 != (0 : Int)) (BoolP true H0 (.bool false) H14) (
   ∃ I_3 : Int → Heap → Prop, ∃ M_3 : Int → Heap → Nat, I_3 (0 : Int) H14 ∧ (∀ i4 : Int, ∀ H15 : Heap, I_3 i4 H15 → F_law23_HotplugSpareSuffices_r2 (BoolP true H0) x44 I_3 M_3 i4 H15))))))) := by
 have hAl := p10.len
 refine (Plan_spec T' out g gs A sa n H10 p10.topo p10.cap p10.m p10.isA p10.acap (by omega) p10.u64).mono ?_
 rintro v H12 ⟨o1, m1, ea, B1, M1, c, rfl, pl1, ⟨is1, cp1⟩, mv1, e12⟩
 refine ⟨o1, m1, _, _, _, _, _, rfl, local_mk (vs := encC c) rfl rfl fun H14 e14 z14 b14 => ?_⟩
 have p14 := p10.go (e12.trans e14)
 obtain ⟨rfl, hno⟩ := spare_plan pl p10.u64 hN hs hnb pl1
 have hbd := pl1.bounds
 have mv14 := mv1.ext e14
 have hmn := mv14.len
 refine iteB_neg (by simp) ?_
 refine loop1 M1.length (fun k H' => H' = H14) rfl ?_
 rintro k H15 hk rfl
 unfold F_law23_HotplugSpareSuffices_r2
 refine iteB_dec (fun d => ?_) (fun d => ⟨rfl, p14.ext⟩)
 have hkM : k < M1.length := by omega
 obtain ⟨a, hp, hr⟩ := IsS.atN mv14 ((0, 0, 0, 0) : Mv) hkM
 have r0 : rd H15 (a.add ((k : Int).toNat * 4)) = some (.int .i64 (M1.getD k (0, 0, 0, 0)).1) := by have := hr 0 _ rfl; rwa [add_zero'] at this
 have := hno _ (getD_mem' (l := M1) (k := k) ((0, 0, 0, 0) : Mv) hkM)
 exact ⟨by omega, by omega, unSome_mk hp ⟨_, r0, iteB_neg (by simpa using this) (letV_mk _ rfl (next1 hkM (by omega) rfl))⟩⟩

theorem spare_k5 {H0 : Heap} {out sa : Sl} {T' : List FS} {g : Host} {gs : HostS} {A : List Asg} {n : Nat} {ok : Bool} {H2 H6 : Heap} (p : PlQ H0 H2.size out sa T' g gs A n ok H6) : F_law23_HotplugSpareSuffices_k5 (BoolP true H0) H2 out sa n (!ok) H6 := by
 unfold F_law23_HotplugSpareSuffices_k5
 have p6 := p.s
 have hAl := p6.len
 refine iteB_not (fun _ => (awake_spec H6).mono ?_) (fun hk => ?_)
 ·rintro v H7 ⟨rfl, e7⟩
  exact ⟨_, rfl, rfl, p6.ext.trans e7⟩
 obtain ⟨p0, pl⟩ := p.yes hk
 have g3 := (Blk.host p6.blk).2.2.2.1
 have hT64 := pl.acc.1.1.1
 have hnT := pl.le
 refine ⟨_, g3, ?_⟩
 rw [hi_of p6.m]
 refine (rNeeds_spec T' out (hiF g) H6 p6.topo).mono ?_
 intro v H8 h8
 obtain ⟨ns, e0, N, rfl, isN, hNI, e8⟩ := h8.outI
 have p8 := p6.go e8
 have hNl := hNI.len
 refine ⟨ns, e0, rfl, iteB_bne (fun d => ⟨rfl, p8.ext⟩) (fun d => ?_)⟩
 subst d
 have hon := p8.topo.len
 have hnn := isN.len
 have hsn := p8.isA.len
 refine ⟨fun x H' => ∃ k : Nat, x = k ∧ n ≤ k ∧ k ≤ T'.length ∧ H' = H8 ∧ ∀ i, n ≤ i → i < k → (fnAt T' i).bridge = false, fun x _ => (T'.length - x).toNat, ⟨n, rfl, Nat.le_refl _, hnT, rfl, fun i h1 h2 => by omega⟩, ?_⟩
 rintro x H9 ⟨k, rfl, hnk, hkT, rfl, hbr⟩
 unfold F_law23_HotplugSpareSuffices_r4
 refine iteB_dec (fun c => ?_) (fun c => ?_)
 ·have hkT' : k < T'.length := by omega
  obtain ⟨a, hp, hr⟩ := p8.topo.at hkT'
  have r4 := (rdFn hr).2.2.2.2.1
  refine ⟨by omega, by omega, unSome_mk hp ⟨_, r4, iteB_intro (fun q => ⟨rfl, p8.ext⟩) (fun q => letV_mk ((k + 1 : Nat) : Int) (by rw [i64_in (by omega)]; omega) ⟨⟨k + 1, rfl, by omega, by omega, rfl, fun i h1 h2 => ?_⟩, by dsimp only; omega⟩)⟩⟩
  by_cases e : i = k
  ·rw [e]; exact q
  ·exact hbr i h1 (by omega)
 ·obtain rfl : k = T'.length := by omega
  refine loop1 A.length (fun k H' => H' = H9 ∧ ∀ j, j < k → (A.getD j zA).1 ∈ N) ⟨rfl, fun j hj => by omega⟩ ?_
  rintro k H10 hk ⟨rfl, hin⟩
  unfold F_law23_HotplugSpareSuffices_r3
  refine iteB_dec (fun c => ?_) (fun c => ?_)
  ·have hkA : k < A.length := by omega
   obtain ⟨pa, hpa, ra0, hra⟩ := asg_rd p8.isA hkA
   refine ⟨fun b x H' => ∃ j : Nat, x = j ∧ j ≤ N.length ∧ H' = H10 ∧ (b = true → (A.getD k zA).1 ∈ N), fun _ x _ => (N.length - x).toNat, ⟨0, rfl, Nat.zero_le _, rfl, fun h => by cases h⟩, ?_⟩
   rintro b x H11 ⟨j, rfl, hj, rfl, hb⟩
   unfold F_law23_HotplugSpareSuffices_r1
   refine iteB_dec (fun c2 => ?_) (fun c2 => ?_)
   ·have hjN : j < N.length := by omega
    refine iteB_intro (fun q => letV_mk ((j + 1 : Nat) : Int) (by rw [i64_in (by omega)]; omega) ⟨⟨j + 1, rfl, by omega, rfl, fun _ => hb q⟩, by dsimp only; omega⟩) (fun q => ?_)
    obtain ⟨pn, hpn, hrn⟩ := IsS.atN isN zN hjN
    have r0 : rd H11 (pn.add ((j : Int).toNat * 4)) = some (.int .i64 (N.getD j zN).1) := by have := hrn 0 _ rfl; rwa [add_zero'] at this
    refine ⟨by omega, by omega, unSome_mk hpn ⟨_, r0, _, hrn 1 _ rfl, _, hrn 2 _ rfl, _, hrn 3 _ rfl, by omega, by omega, unSome_mk hpa ⟨_, ra0, _, hra 1 _ rfl, _, hra 2 _ rfl, _, hra 3 _ rfl, ?_⟩⟩⟩
    rw [need_eqB]
    refine letV_mk ((j + 1 : Nat) : Int) (by rw [i64_in (by omega)]; omega) ⟨⟨j + 1, rfl, by omega, rfl, fun h => ?_⟩, by dsimp only; omega⟩
    rw [decide_eq_true_eq] at h
    rw [← h]
    exact getD_mem' zN hjN
   ·refine iteB_not (fun q => ⟨rfl, p8.ext⟩) (fun q => letV_mk _ rfl (next1 hkA (by omega) ⟨rfl, fun i hi => ?_⟩))
    by_cases e : i = k
    ·rw [e]; exact hb q
    ·exact hin i (by omega)
  ·obtain rfl : k = A.length := by omega
   obtain ⟨q0, q1, q2, q3, q4, q5, q6, q7⟩ := Blk.host p8.blk
   refine ⟨_, q0, _, q1, _, q2, _, q3, _, q4, _, q5, _, q6, _, q7, sp_plan p8 pl hNI (fun x hx => ?_) hbr⟩
   obtain ⟨i, hi, rfl⟩ := List.getElem_of_mem hx
   have := hin i hi
   simpa [List.getD, hi] using this

theorem law_spare (H : Heap) (l c : Sl) (L C0 : List FS) (h : Host) (hs : HostS) (atv : Int) (hL : Topo H l L) (hl : L.length ≤ 9223372036854775807) (hb : ∀ x ∈ L, x.1.bars.length ≤ 9223372036854775807) (hC : Topo H c C0) (hcl : C0.length ≤ 9223372036854775807) (hcb : ∀ x ∈ C0, x.1.bars.length ≤ 9223372036854775807) (hm : HostM H h hs) :
  CallsH Tryz.prog n_law23_HotplugSpareSuffices #[.slice l.p l.n l.c, .slice c.p c.n c.c, hostV h hs, .int .i64 atv] H (BoolP true H) := by
 refine F_law23_HotplugSpareSuffices_ok _ _ _ _ _ _ _ _ _ _ _ ?_
 unfold F_law23_HotplugSpareSuffices
 exact plug_open H l c L C0 h hs atv hL hl hb hC hcl hcb hm (fun H2 x8 x17 x18 x21 H6 => F_law23_HotplugSpareSuffices_k5 (BoolP true H) H2 x8 x17 x18 x21 H6) (fun H2 out sa T' g gs A n ok H6 p => spare_k5 p)

end Go.Proofs.YtnhhncjflnlfaaaGreat
