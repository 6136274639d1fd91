/-
 Extending assignments (plain): what is extended passes the check; what the moves write.
-/
import Derived.Test.YtnhhncjflnlfaaaGreatJE
import Derived.Test.YtnhhncjflnlfaaaGreatJQ
namespace Go.Proofs.YtnhhncjflnlfaaaGreat
open Go.Eng
set_option linter.unusedVariables false

theorem part_split (n : Nat) : ∀ l : List Asg, l.Pairwise (fun a b => a.1.1 ≤ b.1.1) → l = l.filter (fun x => decide (x.1.1 < (n : Int))) ++ l.filter (fun x => !decide (x.1.1 < (n : Int)))
 | [], _ => rfl
 | x :: l, h => by
  obtain ⟨h1, h2⟩ := List.pairwise_cons.1 h
  have ih := part_split n l h2
  rw [List.filter_cons, List.filter_cons]
  by_cases hx : x.1.1 < (n : Int)
  ·rw [if_pos (by simpa using hx), if_neg (by simpa using hx), List.cons_append, ← ih]
  ·rw [if_neg (by simpa using hx), if_pos (by simpa using hx)]
   have e1 : l.filter (fun x => decide (x.1.1 < (n : Int))) = [] := by
    rw [List.filter_eq_nil_iff]
    intro y hy
    have := h1 y hy
    simp
    omega
   rw [e1, List.nil_append] at ih ⊢
   rw [← ih]

section
variable {T : List FS} {N : List Need} {n : Nat}
theorem fillF_out {p c : Int} {B B' : List Int} (h : fillF T N n p c B = some B') : ∀ i, i ∉ freshI T N n p c N.length → B'.getD i 0 = B.getD i 0 := fun i hi => by
 unfold fillF at h
 split at h
 ·injection h with h; rw [h]
 ·split at h
  ·cases h
  ·split at h
   ·injection h with h
    rw [← h]
    exact setI_out _ _ (fun x hx e => hi (by rw [← e]; exact (List.of_mem_zip (show (x.1, x.2) ∈ _ from hx)).1))
   ·cases h
theorem fits_later {B0 : List Int} {m : Nat} {Bm : List Int} (hm : fitsF T N n B0 m = some Bm) : ∀ (d : Nat) (Bk : List Int), fitsF T N n B0 (m + d) = some Bk → ∀ i, i < N.length → ((N.getD i zN).1 < n ∨ ∃ p c : Nat, belQ T p c (N.getD i zN) = true ∧ 3 * p + c < m) → Bk.getD i 0 = Bm.getD i 0
 | 0, Bk, hk, i, hi, h => by
  have : fitsF T N n B0 m = some Bk := hk
  rw [hm] at this
  injection this with this
  rw [this]
 | d + 1, Bk, hk, i, hi, h => by
  have hk' : (fitsF T N n B0 (m + d)).bind (fun B' => fillF T N n (((m + d) / 3 : Nat) : Int) (((m + d) % 3 : Nat) : Int) B') = some Bk := hk
  cases hq : fitsF T N n B0 (m + d) with
  | none => rw [hq] at hk'; cases hk'
  | some B1 =>
   rw [hq] at hk'
   rw [fillF_out hk' i (fun hf => ?_)]
   ·exact fits_later hm d B1 hq i hi h
   ·obtain ⟨_, h1, h2⟩ := freshI_mem.1 hf
    rcases h with h | ⟨p, c, hb, hlt⟩
    ·omega
    ·obtain ⟨e1, e2⟩ := belQ_inj hb h1
     omega
end

structure NewAt (T : List FS) (N : List Need) (B : List Int) (i : Nat) (p : Nat) (c : Nat) (w : Nat) : Prop where
 al : ∃ y, B.getD i 0 = y * 2 ^ szN N i
 at' : atN N p (-1 - (c : Int)) = some w
 sp : (winF N B w).1 ≤ B.getD i 0 ∧ B.getD i 0 + 2 ^ szN N i ≤ (winF N B w).1 + (winF N B w).2
 ne : ∀ k, k < N.length → k ≠ i → belQ T p c (N.getD k zN) = true → Apart N B k i

theorem new_at {T : List FS} {high : Bool} {n : Nat} {A : List Asg} (od : Old T high n A) {B : List Int} (hf : fitsF T (needsAll T high) n (B0F (needsAll T high) A n) (3 * T.length) = some B) {i : Nat} (hi : i < (needsAll T high).length) (hn : (n : Int) ≤ ((needsAll T high).getD i zN).1) :
  ∃ p c w : Nat, belQ T p c ((needsAll T high).getD i zN) = true ∧ NewAt T (needsAll T high) B i p c w := by
 have hok := needs_ok od.v od.o
 have hx := hok _ (getD_mem' (l := needsAll T high) (k := i) zN hi)
 have hfin := fitsF_old hf
 have hBl : B.length = (needsAll T high).length := by rw [hfin.1, B0F_len]
 have hv := od.v
 have hnw := od.nw
 have hB0 := B0F_len (needsAll T high) A n
 generalize hN : needsAll T high = N at *
 generalize B0F N A n = B0 at *
 have hfn := hx.fn
 have hcl := hx.cl
 obtain ⟨fn, hfe⟩ : ∃ fn : Nat, (N.getD i zN).1 = fn := ⟨(N.getD i zN).1.toNat, by omega⟩
 obtain ⟨c, hce⟩ : ∃ c : Nat, (N.getD i zN).2.2.1 = c := ⟨(N.getD i zN).2.2.1.toNat, by omega⟩
 have hpar := (hnw fn (by omega) (by omega)).1
 have hpa := (hv.2 fn (by omega)).pa
 obtain ⟨p, hpe⟩ : ∃ p : Nat, (fnAt T fn).parent = p := ⟨(fnAt T fn).parent.toNat, by omega⟩
 have hbq : belQ T p c (N.getD i zN) = true := by
  unfold belQ
  rw [decide_eq_true_eq]
  exact ⟨hce, hfn, by rw [hfe, Int.toNat_natCast]; exact hpe⟩
 have some_at : ∀ m, m ≤ 3 * T.length → ∃ Bm, fitsF T N n B0 m = some Bm := fun m hm => by
  cases hq : fitsF T N n B0 m with
  | none => rw [fitsF_none' hq hm] at hf; cases hf
  | some Bm => exact ⟨Bm, rfl⟩
 obtain ⟨Bm, hm⟩ := some_at (3 * p + c) (by omega)
 obtain ⟨B1, h1⟩ := some_at (3 * p + (c + 1)) (by omega)
 have hst := h1
 rw [fitsF_succ T N n B0 (by omega), hm] at hst
 have hst' : fillF T N n p c Bm = some B1 := hst
 have hie : i ∈ freshI T N n p c N.length := freshI_mem.2 ⟨hi, hbq, hn⟩
 have l1 : ∀ k, k < N.length → ((N.getD k zN).1 < n ∨ ∃ q d : Nat, belQ T q d (N.getD k zN) = true ∧ 3 * q + d < 3 * p + (c + 1)) → B.getD k 0 = B1.getD k 0 := fun k hk hh => fits_later h1 (3 * T.length - (3 * p + (c + 1))) B (by rw [show 3 * p + (c + 1) + (3 * T.length - (3 * p + (c + 1))) = 3 * T.length by omega]; exact hf) k hk hh
 have l0 : ∀ k, k < N.length → ((N.getD k zN).1 < n ∨ ∃ q d : Nat, belQ T q d (N.getD k zN) = true ∧ 3 * q + d < 3 * p + c) → B.getD k 0 = Bm.getD k 0 := fun k hk hh => fits_later hm (3 * T.length - (3 * p + c)) B (by rw [show 3 * p + c + (3 * T.length - (3 * p + c)) = 3 * T.length by omega]; exact hf) k hk hh
 have hBm : Bm.length = N.length := by rw [(fitsF_old hm).1, hB0]
 unfold fillF at hst'
 rw [if_neg (fun e => by rw [e] at hie; cases hie)] at hst'
 cases hw : atN N p (-1 - (c : Int)) with
 | none => rw [hw] at hst'; cases hst'
 | some w =>
  rw [hw] at hst'
  dsimp only at hst'
  split at hst'
  ·rename_i hpl
   injection hst' with hst'
   obtain ⟨hwl, hw1, hw2⟩ := atN_spec hw
   have hwx := hok _ (getD_mem' (l := N) (k := w) zN hwl)
   have hwB : B.getD w 0 = Bm.getD w 0 := by
    refine l0 w hwl ?_
    by_cases hpn : p < n
    ·left; have : (N.getD w zN).1 = p := hw1; omega
    ·right
     have hp2 := (hnw p (by omega) (by omega)).1
     have hp3 := (hv.2 p (by omega)).pa
     have hcw := hwx.cl
     refine ⟨(fnAt T p).parent.toNat, (N.getD w zN).2.2.1.toNat, ?_, by omega⟩
     unfold belQ
     rw [decide_eq_true_eq]
     have e1 : (N.getD w zN).1 = p := hw1
     refine ⟨by omega, hwx.fn, ?_⟩
     rw [e1, Int.toNat_natCast]
     omega
   have h0 : (placeV (frW T N n p c Bm w) (szI N (freshI T N n p c N.length))).1 = 0 := hpl
   have hst2 : setI Bm ((freshI T N n p c N.length).zip (placeV (frW T N n p c Bm w) (szI N (freshI T N n p c N.length))).2.1) = B1 := hst'
   obtain ⟨_, _, hbl, _, hat, hne⟩ := placeV_ok (free := frW T N n p c Bm w) (S := szI N (freshI T N n p c N.length)) (bs := (placeV (frW T N n p c Bm w) (szI N (freshI T N n p c N.length))).2.1) (c := (placeV (frW T N n p c Bm w) (szI N (freshI T N n p c N.length))).2.2) (by rw [← h0])
   generalize (placeV (frW T N n p c Bm w) (szI N (freshI T N n p c N.length))).2.1 = bs at *
   have hnd := freshI_nodup T N n p c N.length
   have hmem : ∀ k, k ∈ freshI T N n p c N.length ↔ k < N.length ∧ belQ T p c (N.getD k zN) = true ∧ (n : Int) ≤ (N.getD k zN).1 := fun k => freshI_mem
   generalize freshI T N n p c N.length = I at *
   have hsl : (szI N I).length = I.length := by unfold szI; simp
   rw [hsl] at hbl hat hne
   have hse : ∀ j (hj : j < I.length), szOf (szI N I) j = szN N I[j] := fun j hj => by
    unfold szOf szN szI
    simp [List.getD, hj, zN]
   have hset : ∀ j (hj : j < I.length), B.getD I[j] 0 = bs.getD j 0 := fun j hj => by
    have hm1 := (hmem I[j]).1 (List.getElem_mem hj)
    rw [l1 I[j] hm1.1 (.inr ⟨p, c, hm1.2.1, by omega⟩), ← hst2]
    exact setI_at I bs Bm j hnd (fun k hk => by rw [hBm]; exact ((hmem k).1 hk).1) (by omega) hj
   obtain ⟨j, hj, hje⟩ := List.getElem_of_mem hie
   subst hje
   obtain ⟨⟨y, hy⟩, hcov⟩ := hat j hj
   rw [hse j hj, ← hset j hj] at hy hcov
   have hp2 := pow_pos2 (szN N I[j])
   -- the free space is that of the window, less what was kept
   have hfree : ∀ x, B.getD I[j] 0 ≤ x → x < B.getD I[j] 0 + 2 ^ szN N I[j] → Cov [winF N Bm w] x ∧ ¬ Cov ((keptI T N n p c N.length).map (winF N Bm)) x := fun x h1 h2 => by
    have hc := hcov x h1 h2
    unfold frW freeV at hc
    split at hc
    ·rename_i hvr
     obtain ⟨hv1, hv2⟩ := hvr
     exact ((freeF_spec (fun r hr => (hv1.2 r hr).1) (fun r hr => (hv2.2 r hr).1)).2 x).1 hc
    ·exact absurd hc (Cov_nil x)
   have hwin : winF N B w = winF N Bm w := by unfold winF; rw [hwB]
   refine ⟨p, c, w, hbq, ⟨y, hy⟩, hw, ?_, fun k hk hki hkb => ?_⟩
   ·rw [hwin]
    obtain ⟨r1, hr1, a1, a2⟩ := (hfree (B.getD I[j] 0) (Int.le_refl _) (by omega)).1
    obtain ⟨r2, hr2, b1, b2⟩ := (hfree (B.getD I[j] 0 + 2 ^ szN N I[j] - 1) (by omega) (by omega)).1
    simp only [List.mem_singleton] at hr1 hr2
    subst hr1 hr2
    omega
   ·by_cases hkn : (n : Int) ≤ (N.getD k zN).1
    ·obtain ⟨j', hj', rfl⟩ := List.getElem_of_mem ((hmem k).2 ⟨hk, hkb, hkn⟩)
     have hjj : j' ≠ j := fun e => hki (by subst e; rfl)
     have := hne j' hj' j hj hjj
     unfold PlNe at this
     rw [hse j hj, hse j' hj', ← hset j hj, ← hset j' hj'] at this
     exact this
    ·have hkk : k ∈ keptI T N n p c N.length := keptI_mem.2 ⟨hk, hkb, by omega⟩
     have hkB : B.getD k 0 = Bm.getD k 0 := l0 k hk (.inl (by omega))
     have hcv : ∀ x, B.getD k 0 ≤ x → x < B.getD k 0 + 2 ^ szN N k → Cov ((keptI T N n p c N.length).map (winF N Bm)) x := fun x h1 h2 => ⟨winF N Bm k, List.mem_map.2 ⟨k, hkk, rfl⟩, by unfold winF; dsimp only; rw [← hkB]; exact h1, by unfold winF; dsimp only; rw [← hkB]; exact h2⟩
     have hp3 := pow_pos2 (szN N k)
     unfold Apart
     apply Classical.byContradiction
     intro hno
     by_cases hle : B.getD k 0 ≤ B.getD I[j] 0
     ·exact (hfree (B.getD I[j] 0) (Int.le_refl _) (by omega)).2 (hcv _ hle (by omega))
     ·exact (hfree (B.getD k 0) (by omega) (by omega)).2 (hcv _ (Int.le_refl _) (by omega))
  ·cases hst'

theorem apart_ov {N : List Need} {B : List Int} {i k : Nat} {x y : Asg} (hx : x = (N.getD i zN, B.getD i 0)) (hy : y = (N.getD k zN, B.getD k 0)) (h : Apart N B k i) : ¬ OvA x y := by
 subst hx hy
 unfold Apart szN at h
 unfold OvA
 dsimp only
 unfold zN
 have p1 := pow_pos2 (N.getD i (0, 0, 0, 0)).2.2.2.toNat
 have p2 := pow_pos2 (N.getD k (0, 0, 0, 0)).2.2.2.toNat
 split <;> omega

theorem ext_chk {T : List FS} {h : Host} {n : Nat} {A : List Asg} {B : List Int} (od : Old T (hiF h) n A) (hc : ChkIs (T.take n) h A) (hs : SubN A (needsAll T (hiF h))) (hf : fitsF T (needsAll T (hiF h)) n (B0F (needsAll T (hiF h)) A n) (3 * T.length) = some B) : ChkIs T h ((needsAll T (hiF h)).zip B) := by
 have hfin := fitsF_old hf
 have hBl : B.length = (needsAll T (hiF h)).length := by rw [hfin.1, B0F_len]
 have hfl := ext_old od hs hBl hfin.2
 have hsort : ((needsAll T (hiF h)).zip B).Pairwise (fun a b => a.1.1 ≤ b.1.1) := by
  have h1 := needs_asc T (hiF h)
  rw [← zip_fst hBl, List.pairwise_map] at h1
  exact h1
 have hsp := part_split n _ hsort
 rw [hfl] at hsp
 have hR : ∀ x ∈ ((needsAll T (hiF h)).zip B).filter (fun x => !decide (x.1.1 < (n : Int))), (n : Int) ≤ x.1.1 := fun x hx => by
  have := (List.mem_filter.1 hx).2
  simp at this
  exact this
 generalize ((needsAll T (hiF h)).zip B).filter (fun x => !decide (x.1.1 < (n : Int))) = R at *
 have hok := needs_ok od.v od.o
 have hfst : ((needsAll T (hiF h)).zip B).map Prod.fst = needsAll T (hiF h) := zip_fst hBl
 have hsnd : ((needsAll T (hiF h)).zip B).map Prod.snd = B := zip_snd hBl
 have hget : ∀ j, j < (needsAll T (hiF h)).length → ((needsAll T (hiF h)).zip B).getD j zA = ((needsAll T (hiF h)).getD j zN, B.getD j 0) := fun j hj => by
  unfold List.getD
  rw [zip_getD hBl hj]
  simp [List.getD, zN]
 have hlen := zip_len hBl
 refine ⟨od.v, hc.vh, by rw [hfst]; exact .inr (.inr ⟨od.v, od.o, rfl, rfl⟩), fun i hi => ?_⟩
 by_cases hiA : i < A.length
 ·have gl : ∀ k, k < A.length → ((needsAll T (hiF h)).zip B).getD k zA = A.getD k zA := fun k hk => by
   rw [hsp]
   simp [List.getD, List.getElem?_append_left hk]
  have hck := hc.at' i hiA
  have hpar : ∀ k, k < A.length → parA T (A.getD k zA) = parA (T.take n) (A.getD k zA) := fun k hk => by
   have := od.fn _ (getD_mem' (l := A) (k := k) zA hk)
   unfold parA
   rw [fnAt_take (by omega)]
  have hspace : spaceAt T h ((needsAll T (hiF h)).zip B) (A.getD i zA) = spaceAt (T.take n) h A (A.getD i zA) := by
   unfold spaceAt
   rw [hpar i hiA]
   split
   ·rename_i h0
    obtain ⟨w, hw, _, hwl⟩ := (chk_nd hc.nd i hiA).2 h0
    have hw' : atN (((needsAll T (hiF h)).zip B).map Prod.fst) (parA (T.take n) (A.getD i zA)) (-1 - clA (A.getD i zA)) = some w := by
     unfold atN at hw ⊢
     rw [hsp, List.map_append, List.findIdx?_append, hw]
     rfl
    rw [hw, hw']
    dsimp only
    unfold winF
    rw [hsp, List.map_append, List.map_append]
    simp only [List.getD]
    rw [List.getElem?_append_left (by simpa using hwl), List.getElem?_append_left (by simpa using hwl)]
   ·rfl
  refine ⟨by rw [gl i hiA]; exact hck.al, by rw [gl i hiA, hspace]; exact hck.sp, fun k hk h1 h2 => ?_⟩
  rw [gl i hiA, gl k (by omega)] at h1 h2 ⊢
  rw [hpar i hiA, hpar k (by omega)] at h1
  exact hck.ne k hk h1 h2
 ·rw [hlen] at hi
  have hmemR : (n : Int) ≤ ((needsAll T (hiF h)).getD i zN).1 := by
   have e := hget i hi
   rw [hsp] at e
   simp only [List.getD] at e
   rw [List.getElem?_append_right (by omega)] at e
   have hl2 : ((needsAll T (hiF h)).zip B).length = A.length + R.length := by rw [hsp]; simp
   have hir : i - A.length < R.length := by omega
   rw [List.getElem?_eq_getElem hir] at e
   have := hR R[i - A.length] (List.getElem_mem hir)
   have e' : R[i - A.length] = ((needsAll T (hiF h)).getD i zN, B.getD i 0) := e
   rw [e'] at this
   exact this
  obtain ⟨p, c, w, hbq, na⟩ := new_at od hf hi hmemR
  have hb := hbq
  unfold belQ at hb
  rw [decide_eq_true_eq] at hb
  obtain ⟨hcl, hfn, hpp⟩ := hb
  have hpa : parA T ((needsAll T (hiF h)).getD i zN, B.getD i 0) = p := hpp
  refine ⟨?_, ?_, fun k hk h1 h2 => ?_⟩
  ·rw [hget i hi]
   obtain ⟨y, hy⟩ := na.al
   show B.getD i 0 % 2 ^ szN (needsAll T (hiF h)) i = 0
   rw [hy]
   exact Int.mul_emod_left _ _
  ·rw [hget i hi]
   have : spaceAt T h ((needsAll T (hiF h)).zip B) ((needsAll T (hiF h)).getD i zN, B.getD i 0) = [winF (needsAll T (hiF h)) B w] := by
    unfold spaceAt
    rw [hpa, if_pos (by omega), hfst, hsnd]
    have : clA ((needsAll T (hiF h)).getD i zN, B.getD i 0) = c := hcl
    rw [this, na.at']
   rw [this]
   exact ⟨_, by simp, na.sp⟩
  ·have hkl : k < (needsAll T (hiF h)).length := by omega
   rw [hget i hi, hget k hkl] at h1 h2 ⊢
   rw [hpa] at h1
   have hxk := hok _ (getD_mem' (l := needsAll T (hiF h)) (k := k) zN hkl)
   refine apart_ov rfl rfl (na.ne k hkl (by omega) ?_)
   unfold belQ
   rw [decide_eq_true_eq]
   exact ⟨by rw [← hcl]; exact h2, hxk.fn, h1⟩

theorem plan_chk {T : List FS} {h : Host} {A Bs : List Asg} {M : List Mv} {n : Int} {c : Cert} (ha : AccOk T h n) (p : PlanIs T h A n 0 Bs M c) : ChkIs T h Bs ∧ M = movesF A Bs n.toNat T.length := by
 rcases p with ⟨h0, _⟩ | ⟨_, e0, N, hN, ⟨h1, h2, _⟩ | ⟨h0, hc, B, hB, _, h1, h2, _⟩ | ⟨h0, _, e1, B1, c1, hA, ⟨h1, h2, _⟩ | ⟨h0', _, h1, h2, _⟩⟩⟩
 ·exact absurd ha h0
 ·exact absurd h2.symm h1
 ·subst h0 h1
  obtain ⟨hv, ho, rfl⟩ := hN.all
  unfold extF at hB
  split at hB
  ·rename_i hs
   exact ⟨ext_chk (old_of ha hN hc) hc hs hB, h2⟩
  ·cases hB
 ·exact absurd h2.symm h1
 ·subst h1 h0'
  exact ⟨hA.chk, h2⟩

/-! ### what the moves write (plain) -/
def lastA (A : List Asg) (f ix : Int) : Nat → Option Int
 | 0 => none
 | k + 1 => if (A.getD k zA).1.1 = f ∧ (A.getD k zA).1.2.1 = ix then some (A.getD k zA).2 else lastA A f ix k
abbrev zM : Mv := (0, 0, 0, 0)
def lastM (M : List Mv) (f ix : Int) (b : Option Int) : Nat → Option Int
 | 0 => b
 | k + 1 => if (M.getD k zM).1 = 2 ∧ (M.getD k zM).2.1 = f ∧ (M.getD k zM).2.2.1 = ix then some (M.getD k zM).2.2.2 else lastM M f ix b k
theorem lastA_ok {A : List Asg} {f ix v : Int} : ∀ k, (∀ j, j < k → (A.getD j zA).1.1 = f → (A.getD j zA).1.2.1 = ix → (A.getD j zA).2 = v) → (∃ j, j < k ∧ (A.getD j zA).1.1 = f ∧ (A.getD j zA).1.2.1 = ix) → lastA A f ix k = some v
 | 0, _, ⟨j, hj, _⟩ => by omega
 | k + 1, h, ⟨j, hj, h1, h2⟩ => by
  unfold lastA
  split
  ·rename_i hh; rw [h k (by omega) hh.1 hh.2]
  ·rename_i hh
   refine lastA_ok k (fun j hj => h j (by omega)) ⟨j, ?_, h1, h2⟩
   by_cases e : j = k
   ·subst e; exact absurd ⟨h1, h2⟩ hh
   ·omega
theorem lastM_ok {M : List Mv} {f ix v : Int} {b : Option Int} : ∀ k, (∀ j, j < k → (M.getD j zM).1 = 2 → (M.getD j zM).2.1 = f → (M.getD j zM).2.2.1 = ix → (M.getD j zM).2.2.2 = v) → (b = some v ∨ ∃ j, j < k ∧ (M.getD j zM).1 = 2 ∧ (M.getD j zM).2.1 = f ∧ (M.getD j zM).2.2.1 = ix) → lastM M f ix b k = some v
 | 0, _, .inl h => h
 | 0, _, .inr ⟨j, hj, _⟩ => by omega
 | k + 1, h, hor => by
  unfold lastM
  split
  ·rename_i hh; rw [h k (by omega) hh.1 hh.2.1 hh.2.2]
  ·rename_i hh
   refine lastM_ok k (fun j hj => h j (by omega)) ?_
   rcases hor with h1 | ⟨j, hj, h1, h2, h3⟩
   ·exact .inl h1
   ·right
    refine ⟨j, ?_, h1, h2, h3⟩
    by_cases e : j = k
    ·subst e; exact absurd ⟨h1, h2, h3⟩ hh
    ·omega

theorem kap_uni {l : List Asg} (h : l.Pairwise (fun a b => kapA a < kapA b)) {x y : Asg} (hx : x ∈ l) (hy : y ∈ l) (h1 : x.1.1 = y.1.1) (h2 : x.1.2.1 = y.1.2.1) : x = y := by
 obtain ⟨i, hi, rfl⟩ := List.getElem_of_mem hx
 obtain ⟨j, hj, rfl⟩ := List.getElem_of_mem hy
 rw [List.pairwise_iff_getElem] at h
 have hk : kapA l[i] = kapA l[j] := by unfold kapA kapN; rw [h1, h2]
 rcases Nat.lt_trichotomy i j with h' | h' | h'
 ·have := h i j hi hj h'; omega
 ·subst h'; rfl
 ·have := h j i hj hi h'; omega
theorem chk_kap {T : List FS} {h : Host} {A : List Asg} (hc : ChkIs T h A) : A.Pairwise (fun a b => kapA a < kapA b) := by
 obtain ⟨hv, _, hN⟩ := hc.nd.all
 have h1 := needs_kap (high := hiF h) hv
 rw [← hN, List.pairwise_map] at h1
 exact h1

theorem moves_write {A B : List Asg} {n m : Nat} {x : Mv} (hx : x ∈ movesF A B n m) (h2 : x.1 = 2) : ∃ y ∈ B, writeQ A B n y = true ∧ x = (2, y.1.1, y.1.2.1, y.2) := by
 unfold movesF at hx
 rw [List.mem_append, List.mem_append] at hx
 rcases hx with (hx | hx) | hx
 ·unfold stopL at hx
  obtain ⟨j, _, rfl⟩ := List.mem_map.1 hx
  cases h2
 ·unfold writeL at hx
  obtain ⟨y, hy, rfl⟩ := List.mem_map.1 hx
  rw [List.take_length] at hy
  obtain ⟨h3, h4⟩ := List.mem_filter.1 hy
  exact ⟨y, h3, h4, rfl⟩
 ·unfold startL at hx
  obtain ⟨j, _, rfl⟩ := List.mem_map.1 hx
  cases h2
theorem write_moves {A B : List Asg} {n m : Nat} {y : Asg} (hy : y ∈ B) (hw : writeQ A B n y = true) : ((2, y.1.1, y.1.2.1, y.2) : Mv) ∈ movesF A B n m := by
 unfold movesF
 rw [List.mem_append, List.mem_append]
 refine .inl (.inr ?_)
 unfold writeL
 rw [List.take_length]
 exact List.mem_map.2 ⟨y, List.mem_filter.2 ⟨hy, hw⟩, rfl⟩

theorem moves_yield {A B : List Asg} {n m : Nat} (hA : A.Pairwise (fun a b => kapA a < kapA b)) (hB : B.Pairwise (fun a b => kapA a < kapA b)) {x : Asg} (hx : x ∈ B) :
  lastM (movesF A B n m) x.1.1 x.1.2.1 (lastA A x.1.1 x.1.2.1 A.length) (movesF A B n m).length = some x.2 := by
 refine lastM_ok _ (fun j hj h1 h2 h3 => ?_) ?_
 ·obtain ⟨y, hy, _, e⟩ := moves_write (getD_mem' (l := movesF A B n m) (k := j) zM hj) h1
  rw [e] at h2 h3 ⊢
  have := kap_uni hB hy hx h2 h3
  rw [this]
 ·by_cases hw : writeQ A B n x = true
  ·right
   obtain ⟨j, hj, e⟩ := List.getElem_of_mem (write_moves (m := m) hx hw)
   have e' : (movesF A B n m).getD j zM = (2, x.1.1, x.1.2.1, x.2) := by simp [List.getD, hj]; exact e
   exact ⟨j, hj, by rw [e'], by rw [e'], by rw [e']⟩
  ·left
   unfold writeQ at hw
   simp at hw
   have he : ofL A x.1.1 = ofL B x.1.1 := by
    have := hw.2
    unfold affB at this
    simpa using this
   have hxB : x ∈ ofL B x.1.1 := List.mem_filter.2 ⟨hx, by simp⟩
   rw [← he] at hxB
   have hxA := (List.mem_filter.1 hxB).1
   obtain ⟨j, hj, e⟩ := List.getElem_of_mem hxA
   have e' : A.getD j zA = x := by simp [List.getD, hj]; exact e
   exact lastA_ok _ (fun k hk h1 h2 => by rw [kap_uni hA (getD_mem' (l := A) (k := k) zA hk) hxA h1 h2]) ⟨j, hj, by rw [e'], by rw [e']⟩

end Go.Proofs.YtnhhncjflnlfaaaGreat
