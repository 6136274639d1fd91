/-
 Placing, in plain terms; the contract of the reference's Place.
-/
import Derived.Test.YtnhhncjflnlfaaaGreatM3
namespace Go.Proofs.YtnhhncjflnlfaaaGreat
open Go.Eng
set_option linter.unusedVariables false

def szOf (S : List Int) (i : Nat) : Nat := (S.getD i 0).toNat
def plI (S : List Int) : List Nat -> List Rg -> List Int -> Option (List Rg × List Int)
 | [], l, bs => some (l, bs)
 | i :: ord, l, bs => match takeF l (2 ^ szOf S i) with
  | none => none
  | some (b, l') => plI S ord l' (bs.set i b)
theorem plI_append (S : List Int) : ∀ (a b : List Nat) (l : List Rg) (bs : List Int), plI S (a ++ b) l bs = (plI S a l bs).bind (fun x => plI S b x.1 x.2)
 | [], b, l, bs => rfl
 | i :: a, b, l, bs => by
  simp only [List.cons_append, plI]
  cases takeF l (2 ^ szOf S i) with
  | none => rfl
  | some x => exact plI_append S a b x.2 (bs.set i x.1)

def ordK (S : List Int) (k : Nat) : List Nat := (List.range S.length).filter (fun j => decide (S.getD j 0 = k))
def ordN (S : List Int) (m : Nat) : List Nat := ((List.range m).map (fun j => 44 - j)).flatMap (ordK S)
def ordF (S : List Int) : List Nat := ordN S 45
theorem ordN_succ (S : List Int) (m : Nat) : ordN S (m + 1) = ordN S m ++ ordK S (44 - m) := by
 unfold ordN
 rw [List.range_succ, List.map_append, List.flatMap_append]
 simp

def placeV (free : List Rg) (S : List Int) : Int × List Int × Cert :=
 if ValidR free /\ ItemsOk S then
  match plI S (ordF S) (mergeF free) (List.replicate S.length 0) with
  | some (_, bs) => (0, bs, noCert)
  | none => (19, [], certF (mergeF free) S 44)
 else (1, [], noCert)

def PlaceP (x : Int × List Int × Cert) (H : Heap) (v : Value) (H' : Heap) : Prop :=
 ∃ out : Sl, v = .tuple #[.slice out.p out.n out.c, certV x.2.2, .int .i64 x.1] /\ IsS 1 (encI .u64) H' out x.2.1 /\ TyB H' out.p t_30 /\ Ext H H'

theorem plI_len (S : List Int) : ∀ (ord : List Nat) (l : List Rg) (bs : List Int) (x : List Rg × List Int), plI S ord l bs = some x -> x.2.length = bs.length
 | [], l, bs, x, h => by simp [plI] at h; rw [<- h]
 | i :: ord, l, bs, x, h => by
  simp only [plI] at h
  cases ht : takeF l (2 ^ szOf S i) with
  | none => rw [ht] at h; cases h
  | some y =>
   rw [ht] at h
   have := plI_len S ord y.2 (bs.set i y.1) x h
   simpa using this
theorem plI_asc (S : List Int) : ∀ (ord : List Nat) (l : List Rg) (bs : List Int) (x : List Rg × List Int), plI S ord l bs = some x -> Asc l -> Low l -> Asc x.1 /\ Low x.1 /\ x.1.length <= l.length + ord.length
 | [], l, bs, x, h, ha, hl => by simp [plI] at h; rw [<- h]; exact ⟨ha, hl, by simp⟩
 | i :: ord, l, bs, x, h, ha, hl => by
  simp only [plI] at h
  cases ht : takeF l (2 ^ szOf S i) with
  | none => rw [ht] at h; cases h
  | some y =>
   obtain ⟨b, l'⟩ := y
   rw [ht] at h
   obtain ⟨r, hr, h1, h2, h3, h4⟩ := takeF_some ht (pow_pos2 _)
   have hx : 1 <= ((b, (2 : Int) ^ szOf S i) : Rg).2 := pow_ge1 _
   obtain ⟨i1, i2, i3⟩ := plI_asc S ord l' (bs.set i b) x h (by rw [h4]; exact (rmF_spec ha hx).1) (by rw [h4]; exact hl.rm ha hx)
   refine ⟨i1, i2, ?_⟩
   have := rmF_len1 ha hx
   rw [<- h4] at this
   simp only [List.length_cons]
   omega

theorem ordN_len (S : List Int) (m : Nat) : ∀ i ∈ ordN S m, i < S.length := by
 intro i hi
 obtain ⟨k, _, hk⟩ := List.mem_flatMap.1 hi
 unfold ordK at hk
 have := (List.mem_filter.1 hk).1
 exact List.mem_range.1 this

abbrev BsB (H : Heap) (b : Nat) (bs : List Int) : Prop := RB H b t_30 1 (encI .u64) bs
theorem BsB.set {H : Heap} {b : Nat} {bs : List Int} {i : Nat} (h : BsB H b bs) (hi : i < bs.length) (y : Int) : BsB (wrs H ((⟨b, 0, none⟩ : Addr).add (i * 1)) [.int .u64 y]) b (bs.set i y) :=
 RB.wr0 h (x := bs.getD i 0) (getD_get 0 hi) (by omega) rfl

def PI (S : List Int) (M : List Rg) (H : Heap) (ob : Nat) (ord : List Nat) (left : Sl) (H' : Heap) : Prop :=
 ∃ l bs, plI S ord M (List.replicate S.length 0) = some (l, bs) /\ Own H.size t_95 2 H' left (l.flatMap encR) /\ BsB H' ob bs /\ Ext H H'

theorem range_filter_succ (q : Nat -> Bool) (i : Nat) : (List.range (i + 1)).filter q = (List.range i).filter q ++ (if q i then [i] else []) := by
 rw [List.range_succ, List.filter_append]
 congr 1
 simp only [List.filter_cons, List.filter_nil]

theorem rPlace_spec (H : Heap) (s t : Sl) (free : List Rg) (S : List Int) (h : Rgs H s free) (hu : U64L free) (hS : Ints .i64 H t S) :
  CallsH Tryz.prog n_96 #[.slice s.p s.n s.c, .slice t.p t.n t.c] H (PlaceP (placeV free S) H) := by
 refine F_96_ok _ _ ?_
 unfold F_96
 have hsn := hS.len
 refine push_mk (vs := encC noCert) fun H1 e1 z1 b1 => ⟨fun b H' => (b = false ↔ ValidR free /\ ItemsOk S) /\ H' = H1, ?_, ?_⟩
 ·refine (rValidRanges_spec H1 s free (h.ext e1) hu).mono ?_
  rintro v H2 ⟨rfl, rfl⟩
  refine ⟨_, rfl, iteB_not (fun c => ⟨?_, rfl⟩) (fun c => (ritems_spec H2 t S (hS.ext e1)).mono ?_)⟩
  ·simp at c; simp [c]
  ·rintro v H3 ⟨rfl, rfl⟩
   simp at c
   exact ⟨_, rfl, by simp [c], rfl⟩
 rintro b H4 ⟨hb, rfl⟩
 unfold F_96_k5
 refine iteB_intro (fun c => ?_) (fun c => ?_)
 ·have hn : ¬ (ValidR free /\ ItemsOk S) := fun hh => by have := hb.2 hh; rw [c] at this; cases this
  have hpv : placeV free S = (1, [], noCert) := by unfold placeV; rw [if_neg hn]
  refine cert_wr (c := noCert) (K := fun v H' => PlaceP (placeV free S) H (.tuple #[.slice none 0 0, v, .int .i64 1]) H') b1 (fun H' m' _ => ?_)
  rw [hpv]
  exact ⟨⟨none, 0, 0⟩, rfl, IsS.nil _ _ _, (fun a ha => by cases ha), Mods.ext e1 m' (by simp)⟩
 obtain ⟨hv, hI⟩ := hb.1 c
 obtain ⟨vm, am⟩ := hv.merge
 have hlS := hI.1
 have hpv : placeV free S = (match plI S (ordF S) (mergeF free) (List.replicate S.length 0) with | some (_, bs) => (0, bs, noCert) | none => (19, [], certF (mergeF free) S 44)) := by unfold placeV; rw [if_pos ⟨hv, hI⟩]
 refine ⟨by omega, by omega, by omega, letH_mk ?_⟩
 rw [Int.toNat_natCast]
 intro H6 h6
 have e6 : Ext H4 H6 := by rw [h6]; exact Ext.push _ _
 have z6 : H6.size = H4.size + 1 := by rw [h6]; simp
 have b6 : BsB H6 H4.size (List.replicate S.length 0) := by
  rw [h6, <- hsn]
  exact RB.zero H4 t_30 (ints_row _) t.n (.int .u64 0) (0 : Int) rfl
 clear h6
 have x6 := e1.trans e6
 refine (rmerge_spec H6 s free (h.ext x6) hv).mono ?_
 rintro v H7 ⟨left0, rfl, o7, e7⟩
 have fail : ∀ ord, (∃ rest, ordF S = ord ++ rest) -> plI S ord (mergeF free) (List.replicate S.length 0) = none -> placeV free S = (19, [], certF (mergeF free) S 44) := fun ord ⟨rest, hr⟩ hn => by
  rw [hpv, hr, plI_append, hn]; rfl
 have hpre0 : ∀ m d, ∃ rest, ordN S (m + d) = ordN S m ++ rest := fun m d => by
  induction d with
  | zero => exact ⟨[], by simp⟩
  | succ d ih =>
   obtain ⟨r, hr⟩ := ih
   exact ⟨r ++ ordK S (44 - (m + d)), by rw [<- Nat.add_assoc, ordN_succ, hr, List.append_assoc]⟩
 have hpre : ∀ m, m <= 45 -> ∃ rest, ordF S = ordN S m ++ rest := fun m hm => by
  have := hpre0 m (45 - m)
  rw [show m + (45 - m) = 45 by omega] at this
  exact this
 refine ⟨left0, rfl, fun left k H' => ∃ m : Nat, m <= 45 /\ k = 44 - (m : Int) /\ PI S (mergeF free) H4 H4.size (ordN S m) left H', fun _ k _ => (k + 1).toNat, ⟨0, by omega, by omega, mergeF free, _, rfl, own_lo o7 e6.size, RB.ext b6 e7, e6.trans e7⟩, ?_⟩
 rintro left1 _ H8 ⟨m, hm, rfl, hPI⟩
 unfold F_96_r4
 refine iteB_dec (fun c1 => ?_) (fun c1 => ?_)
 rotate_left
 ·obtain rfl : m = 45 := by omega
  obtain ⟨l, bs, hpl, o8, bb8, e8⟩ := hPI
  have hpv2 : placeV free S = (0, bs, noCert) := by rw [hpv]; unfold ordF; rw [hpl]
  have hbl := plI_len S _ _ _ _ hpl
  simp at hbl
  refine cert_wr (c := noCert) (K := fun v H' => PlaceP (placeV free S) H (.tuple #[.slice (some ⟨H4.size, 0, none⟩) t.n t.n, v, .int .i64 0]) H') (b1.ext e8) (fun H' m' _ => ?_)
  rw [hpv2]
  exact ⟨⟨some ⟨H4.size, 0, none⟩, t.n, t.n⟩, rfl, RB.isS (RB.mods bb8 m' (by simp; omega)) t.n t.n (by omega), (fun a ha => by cases ha; obtain ⟨_, ex, hbk⟩ := RB.mods bb8 m' (by simp; omega); exact ⟨_, _, hbk⟩), Mods.ext (e1.trans e8) m' (by simp)⟩
 have hm44 : m <= 44 := by omega
 have hkk : (44 : Int) - (m : Int) = ((44 - m : Nat) : Int) := by omega
 rw [hkk]
 have hordn := ordN_succ S m
 obtain ⟨rest1, hrest1⟩ := hpre (m + 1) (by omega)
 rw [hordn] at hrest1
 generalize hKe : 44 - m = K at *
 have hK44 : K <= 44 := by omega
 have hP := pow_pos2 K
 have hP44 := pw_52 (w := K) (by omega)
 have hPK : (2 : Int) ^ K <= 17592186044416 := by
  have := pow_mono (a := K) (b := 44) hK44
  have e : (2 : Int) ^ 44 = 17592186044416 := by decide
  omega
 have hinner : PI S (mergeF free) H4 H4.size (ordN S m ++ (List.range 0).filter (fun j => decide (S.getD j 0 = K))) left1 H8 := by simpa using hPI
 refine loop2 S.length (fun i left H' => PI S (mergeF free) H4 H4.size (ordN S m ++ (List.range i).filter (fun j => decide (S.getD j 0 = K))) left H') hinner ?_
 rintro i left2 H9 hi ⟨l, bs, hpl, o9, bb9, e9⟩
 unfold F_96_r3
 have hfs := range_filter_succ (fun j => decide (S.getD j 0 = K)) i
 obtain ⟨al, lowl, hll⟩ := plI_asc S _ _ _ _ hpl am vm.low
 have hbl := plI_len S _ _ _ _ hpl
 simp only [List.length_replicate] at hbl
 have hordl : (ordN S m ++ (List.range i).filter (fun j => decide (S.getD j 0 = K))).length <= 47000 := by
  rw [List.length_append]
  have h1 : (ordN S m).length <= m * 1024 := by
   clear hpl hll hrest1 hordn hinner hPI hKe hkk hm
   induction m with
   | zero => simp [ordN]
   | succ m ih =>
    rw [ordN_succ, List.length_append]
    have := List.length_filter_le (fun j => decide (S.getD j 0 = ((44 - m : Nat) : Int))) (List.range S.length)
    have h2 : (ordK S (44 - m)).length <= 1024 := by unfold ordK; simp at this ⊢; omega
    have := ih (by omega) (by omega)
    omega
  have h2 := List.length_filter_le (fun j => decide (S.getD j 0 = (K : Int))) (List.range i)
  rw [List.length_range] at h2
  omega
 have hml := vm.1
 dsimp only at al lowl hll hbl
 refine iteB_dec (fun d => ?_) (fun d => ?_)
 rotate_left
 ·obtain rfl : i = S.length := by omega
  refine letV_mk ((K : Int) - 1) (i64_in (by omega)) ⟨⟨m + 1, by omega, by omega, l, bs, ?_, o9, bb9, e9⟩, by dsimp only; omega⟩
  rw [hordn]
  exact hpl
 have hin : i < S.length := by omega
 obtain ⟨a, hpa, hra⟩ := Ints.atN (hS.ext (e1.trans e9)) hin
 refine ⟨by omega, by omega, unSome_mk hpa ⟨_, hra, iteB_bne (fun d1 => letV_mk _ rfl (next2 hin (by omega) ⟨l, bs, ?_, o9, bb9, e9⟩)) (fun d1 => ?_)⟩⟩
 ·rw [hfs, if_neg (by simpa using d1), List.append_nil]
  exact hpl
 have hszi : szOf S i = K := by unfold szOf; rw [d1]; simp
 have hfs2 : (List.range (i + 1)).filter (fun j => decide (S.getD j 0 = K)) = (List.range i).filter (fun j => decide (S.getD j 0 = K)) ++ [i] := by rw [hfs, if_pos (by simpa using d1)]
 have n9 := Own.len rkRange o9
 have is9 := Own.is rkRange o9
 have hobn : ∀ {q : Option Addr}, TyB H9 q t_95 -> ∀ a, q = some a -> a.block ∉ [H4.size] := fun {q} hq a ha => by
  obtain ⟨_, ex, hbk⟩ := bb9
  have t1 : TyB H9 (some ⟨H4.size, 0, none⟩) t_30 := fun a ha => by cases ha; exact ⟨_, _, hbk⟩
  have := ty_ne hq t1 (by decide) a ha
  simpa [blkOf] using this
 refine ⟨fun found H' => (found = false /\ H' = H9 /\ takeF l (2 ^ K) = none) \/ (found = true /\ ∃ b, takeF l (2 ^ K) = some (b, rmF l (b, 2 ^ K)) /\ BsB H' H4.size (bs.set i b) /\ Mods [H4.size] H9 H'), ?_, ?_⟩
 ·refine ⟨fun found j H' => ∃ jj : Nat, j = jj /\ jj <= l.length /\ ((found = false /\ H' = H9 /\ ∀ j', j' < jj -> fitQ (2 ^ K) (l.getD j' (0, 0)) = false) \/ (found = true /\ ∃ b, takeF l (2 ^ K) = some (b, rmF l (b, 2 ^ K)) /\ BsB H' H4.size (bs.set i b) /\ Mods [H4.size] H9 H')), fun _ j _ => (l.length - j).toNat, ⟨0, rfl, by omega, .inl ⟨rfl, rfl, fun j' hj' => by omega⟩⟩, ?_⟩
  rintro found _ H10 ⟨j, rfl, hj, hst⟩
  unfold F_96_r1
  have done : found = false -> ¬ (j < l.length) -> (found = false /\ H10 = H9 /\ takeF l (2 ^ K) = none) := fun hf hn => by
   rcases hst with ⟨_, h2, h3⟩ | ⟨h1, _⟩
   ·refine ⟨hf, h2, ?_⟩
    unfold takeF
    rw [List.find?_eq_none.2 (fun r hr => by
     have := all_of_getD (Q := fun r => fitQ (2 ^ K) r = false) (0, 0) (fun j' hj' => h3 j' (by omega)) r hr
     rw [this]; simp)]
   ·rw [hf] at h1; cases h1
  refine iteB_dec (fun d2 => iteB_not (fun d3 => ?_) (fun d3 => ?_)) (fun d2 => ?_)
  ·rcases hst with ⟨_, rfl, h3⟩ | ⟨h1, _⟩
   ·have hjl : j < l.length := by omega
    obtain ⟨q, hq, r0, r1⟩ := Rgs.atN is9 hjl
    have hlw := lowl _ (getD_mem' (0, 0) hjl)
    have hget := getD_get (0, 0) hjl
    generalize hre : l.getD j (0, 0) = r at *
    have hcd := cd_spec (a := r.1) hP
    refine ⟨by omega, by omega, unSome_mk hq ⟨_, r0, (rup_spec r.1 K H10 (by omega) (by omega)).mono ?_⟩⟩
    rintro v H11 ⟨rfl, rfl⟩
    rw [Int.toNat_natCast] at *
    refine ⟨_, rfl, u64_nonneg _, by omega, by omega, unSome_mk hq ⟨_, r0, by omega, by omega, unSome_mk hq ⟨_, r1, ?_⟩⟩⟩
    rw [shl1 (by omega) (by omega), Int.toNat_natCast, u64_in (n := cd r.1 (2 ^ K) * 2 ^ K + 2 ^ K) (by omega), u64_in (n := r.1 + r.2) (by omega)]
    refine iteB_dec (fun d4 => ⟨by omega, by omega, RB.ok0 bb9 (by omega) (by omega), letH_mk ?_⟩) (fun d4 => letV_mk _ (i64_succ (by omega)) ⟨⟨j + 1, rfl, by omega, .inl ⟨d3, rfl, fun j' hj' => ?_⟩⟩, by dsimp only; omega⟩)
    ·intro H12 h12
     have hfind : l.find? (fitQ (2 ^ K)) = some r := by
      rw [List.find?_eq_some_iff_getElem]
      refine ⟨by unfold fitQ; exact decide_eq_true d4, j, hjl, ?_, fun j' hj' => ?_⟩
      ·have := List.getElem?_eq_some_iff.1 hget
       exact this.2
      ·have := h3 j' hj'
       have hjj : j' < l.length := by omega
       simp only [List.getD, List.getElem?_eq_getElem hjj, Option.getD_some] at this
       rw [this]; rfl
     have htk : takeF l (2 ^ K) = some (cd r.1 (2 ^ K) * 2 ^ K, rmF l (cd r.1 (2 ^ K) * 2 ^ K, 2 ^ K)) := by unfold takeF; rw [hfind]
     refine letV_mk _ (i64_succ (by omega)) ⟨⟨j + 1, rfl, by omega, .inr ⟨rfl, _, htk, ?_, ?_⟩⟩, by dsimp only; omega⟩
     ·rw [h12]; exact BsB.set bb9 (by omega) _
     ·rw [h12]; exact mods_wr_add (by simp)
    ·by_cases e : j' = j
     ·subst e; rw [hre]; unfold fitQ; exact decide_eq_false d4
     ·exact h3 j' (by omega)
   ·rw [d3] at h1; cases h1
  ·rcases hst with ⟨h1, _⟩ | h1
   ·rw [d3] at h1; cases h1
   ·exact .inr h1
  ·rcases hst with ⟨h1, _⟩ | h1
   ·exact .inl (done h1 (by omega))
   ·exact .inr h1
 ·rintro found H13 hst
  unfold F_96_k2
  refine iteB_not (fun d2 => ?_) (fun d2 => ?_)
  ·rcases hst with ⟨_, rfl, h3⟩ | ⟨h1, _⟩
   ·have hfail := fail (ordN S m ++ ((List.range i).filter (fun j => decide (S.getD j 0 = K)) ++ [i])) (by
     rw [hrest1]
     unfold ordK
     rw [<- hfs2]
     have hsp : (List.range S.length).filter (fun j => decide (S.getD j 0 = K)) = (List.range (i + 1)).filter (fun j => decide (S.getD j 0 = K)) ++ ((List.range (S.length - (i + 1))).map (fun x => (i + 1) + x)).filter (fun j => decide (S.getD j 0 = K)) := by
      rw [<- List.filter_append, <- List.range_add, show i + 1 + (S.length - (i + 1)) = S.length by omega]
     exact ⟨_, by rw [hsp, List.append_assoc, List.append_assoc, List.append_assoc]⟩) (by
     rw [<- List.append_assoc, plI_append, hpl]
     show plI S [i] l bs = none
     simp only [plI]
     rw [hszi, h3])
    refine (rrefusal_spec H13 s t free S (h.ext (e1.trans e9)) hu (hS.ext (e1.trans e9)) hI hv).mono ?_
    rintro v H14 ⟨rfl, e14⟩
    refine ⟨_, _, _, _, rfl, ?_⟩
    refine cert_wr (c := certF (mergeF free) S 44) (K := fun v H' => PlaceP (placeV free S) H (.tuple #[.slice none 0 0, v, .int .i64 19]) H') ((b1.ext e9).ext e14) (fun H' m' _ => ?_)
    rw [hfail]
    exact ⟨⟨none, 0, 0⟩, rfl, IsS.nil _ _ _, (fun a ha => by cases ha), Mods.ext ((e1.trans e9).trans e14) m' (by simp)⟩
   ·rw [d2] at h1; cases h1
  ·rcases hst with ⟨h1, _⟩ | ⟨_, b, htk, bb13, m13⟩
   ·rw [d2] at h1; cases h1
   ·obtain ⟨r, hr, t1, t2, t3, t4⟩ := takeF_some htk hP
    have hlr := lowl r hr
    have o13 := o9.mods m13 (hobn (own_ty o9))
    have hrd : rd H13 ((⟨H4.size, 0, none⟩ : Addr).add ((i : Int).toNat * 1)) = some (.int .u64 b) := by
     rw [Int.toNat_natCast]
     exact RB.rd0 bb13 (i := i) (x := b) (by rw [List.getElem?_set_self (by omega)]) rfl
    refine ⟨by omega, by omega, b, hrd, u64_nonneg _, ?_⟩
    rw [shl1 (by omega) (by omega), Int.toNat_natCast]
    have x13 : Ext H4 H13 := Mods.ext e9 m13 (by simp)
    refine (rremove_spec H13 left2 l (b, 2 ^ K) (Own.is rkRange o13) lowl (by dsimp only; omega) (by omega)).mono ?_
    rintro v H16 ⟨left3, rfl, o16, e16⟩
    refine ⟨left3, rfl, letV_mk _ rfl (next2 hin (by omega) ⟨rmF l (b, 2 ^ K), bs.set i b, ?_, own_lo o16 x13.size, RB.ext bb13 e16, x13.trans e16⟩)⟩
    rw [hfs2, <- List.append_assoc, plI_append, hpl]
    show plI S [i] l bs = _
    simp only [plI]
    rw [hszi, htk]

end Go.Proofs.YtnhhncjflnlfaaaGreat
