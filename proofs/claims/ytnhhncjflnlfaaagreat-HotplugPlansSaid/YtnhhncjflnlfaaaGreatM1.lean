/-
 Lists of ranges in memory: the contracts of the reference's ValidRanges, remove, merge, Free.
-/
import Derived.Test.YtnhhncjflnlfaaaGreatN2
import Derived.Test.YtnhhncjflnlfaaaGreatK1
import Derived.Test.YtnhhncjflnlfaaaGreatJR
namespace Go.Proofs.YtnhhncjflnlfaaaGreat
open Go.Eng
set_option linter.unusedVariables false

def encR (r : Rg) : List Value := [.int .u64 r.1, .int .u64 r.2]
theorem encR_len (r : Rg) : (encR r).length = 2 := rfl
theorem encR_one (r : Rg) : ∀ u ∈ encR r, oneC u = true := fun u hu => by simp [encR] at hu; rcases hu with rfl | rfl <;> rfl
theorem rkRange : RK Tryz.prog t_23 t_95 (.agg #[.int .u64 0, .int .u64 0]) 2 16 encR := ⟨by kernel_rfl, by kernel_rfl, rfl, by omega, by omega, encR_len, encR_one⟩
abbrev Rgs (H : Heap) (s : Sl) (l : List Rg) : Prop := IsS 2 encR H s l

def U64L (l : List Rg) : Prop := ∀ r ∈ l, (0 <= r.1 /\ r.1 <= 18446744073709551615) /\ (0 <= r.2 /\ r.2 <= 18446744073709551615)
def RgOk (r : Rg) : Prop := 1 <= r.2 /\ 0 <= r.1 /\ r.1 + r.2 <= 4503599627370496
instance (r : Rg) : Decidable (RgOk r) := by unfold RgOk; infer_instance
def ValidR (l : List Rg) : Prop := l.length <= 1024 /\ ∀ r ∈ l, RgOk r
instance (l : List Rg) : Decidable (ValidR l) := by unfold ValidR; infer_instance

theorem Rgs.atN {H : Heap} {s : Sl} {l : List Rg} (h : Rgs H s l) {k : Nat} (hk : k < l.length) :
  ∃ a, s.p = some a /\ rd H (a.add ((k : Int).toNat * 2)) = some (.int .u64 (l.getD k (0, 0)).1) /\ rd H ((a.add ((k : Int).toNat * 2)).add 1) = some (.int .u64 (l.getD k (0, 0)).2) := by
 obtain ⟨a, hp, hr⟩ := IsS.atN h (0, 0) hk
 exact ⟨a, hp, hr 0 _ rfl, hr 1 _ rfl⟩

theorem all_of_getD {α : Type} {Q : α -> Prop} {l : List α} (d : α) (h : ∀ i, i < l.length -> Q (l.getD i d)) : ∀ x ∈ l, Q x := fun x hx => by
 obtain ⟨i, hi, rfl⟩ := List.getElem_of_mem hx
 have := h i hi
 simpa [List.getD, hi] using this

theorem rValidRanges_spec (H : Heap) (s : Sl) (l : List Rg) (h : Rgs H s l) (hu : U64L l) :
  CallsH Tryz.prog n_92 #[.slice s.p s.n s.c] H (fun v H' => v = .bool (decide (ValidR l)) /\ H' = H) := by
 refine F_92_ok _ ?_
 unfold F_92
 have hn := h.len
 have no : ¬ ValidR l -> (.bool false : Value) = .bool (decide (ValidR l)) /\ H = H := fun hh => ⟨by rw [decide_eq_false hh], rfl⟩
 refine iteB_dec (fun c => no (fun hv => by have := hv.1; omega)) (fun c => ?_)
 refine loop1 l.length (fun k H' => H' = H /\ ∀ i, i < k -> RgOk (l.getD i (0, 0))) ⟨rfl, fun i hi => by omega⟩ ?_
 rintro k H1 hk ⟨rfl, hok⟩
 unfold F_92_r1
 refine iteB_dec (fun c1 => ?_) (fun c1 => ⟨?_, rfl⟩)
 ·have hkn : k < l.length := by omega
  obtain ⟨a, hp, r0, r1⟩ := h.atN hkn
  have hm := getD_mem' (0, 0) hkn
  have hur := hu _ hm
  have hbad : ¬ RgOk (l.getD k (0, 0)) -> ¬ ValidR l := fun hh hv => hh (hv.2 _ hm)
  generalize hre : l.getD k (0, 0) = r at *
  refine ⟨by omega, by omega, unSome_mk hp ⟨_, r1, iteB_dec (fun d => no (hbad (fun ho => by have := ho.1; omega))) (fun d => ⟨by omega, by omega, unSome_mk hp ⟨_, r1, iteB_dec (fun d1 => no (hbad (fun ho => by have := ho.2; omega))) (fun d1 => ⟨by omega, by omega, unSome_mk hp ⟨_, r0, by omega, by omega, unSome_mk hp ⟨_, r1, ?_⟩⟩⟩)⟩⟩)⟩⟩
  rw [u64_in (n := 4503599627370496 - r.2) (by omega)]
  refine iteB_dec (fun d2 => no (hbad (fun ho => by have := ho.2; omega))) (fun d2 => letV_mk _ rfl (next1 hkn (by omega) ⟨rfl, fun i hi => ?_⟩))
  by_cases e : i = k
  ·subst e; rw [hre]; exact ⟨by omega, by omega, by omega⟩
  ·exact hok i (by omega)
 ·rw [decide_eq_true]
  exact ⟨by omega, all_of_getD (0, 0) (fun i hi => hok i (by omega))⟩

/-! ### removing a range -/

def Low (l : List Rg) : Prop := ∀ r ∈ l, 1 <= r.2 /\ 0 <= r.1 /\ r.1 + r.2 <= 9007199254740992
theorem ValidR.low {l : List Rg} (h : ValidR l) : Low l := fun r hr => by have := h.2 r hr; unfold RgOk at this; omega
theorem Low.rm {l : List Rg} {x : Rg} (h : Low l) (ha : Asc l) (hx : 1 <= x.2) : Low (rmF l x) := fun q hq => by
 obtain ⟨r1, _, r3⟩ := rmF_spec ha hx
 obtain ⟨f, hf, h1, h2⟩ := r3 q hq
 have := h f hf
 have := Asc.len r1 q hq
 omega

def RgP (L : List Rg) (H : Heap) (v : Value) (H' : Heap) : Prop := ∃ out : Sl, v = .slice out.p out.n out.c /\ Own H.size t_95 2 H' out (L.flatMap encR) /\ Ext H H'

theorem rmF_succ {l : List Rg} {x : Rg} {k : Nat} (hk : k < l.length) : rmF (l.take (k + 1)) x = rmF (l.take k) x ++ piece (l.getD k (0, 0)) x := by
 rw [take_succ_d (0, 0) hk]
 unfold rmF
 rw [List.flatMap_append]
 simp
theorem rmF_len (l : List Rg) (x : Rg) : (rmF l x).length <= 2 * l.length := by
 induction l with
 | nil => simp [rmF]
 | cons f l ih =>
  have e : rmF (f :: l) x = piece f x ++ rmF l x := by unfold rmF; rw [List.flatMap_cons]
  have := piece_len f x
  rw [e, List.length_append, List.length_cons]
  omega

theorem rmF_len1 {l : List Rg} {x : Rg} (h : Asc l) (hx : 1 <= x.2) : (rmF l x).length <= l.length + 1 := by
 induction l with
 | nil => simp [rmF]
 | cons f l ih =>
  have e : rmF (f :: l) x = piece f x ++ rmF l x := by unfold rmF; rw [List.flatMap_cons]
  rw [e, List.length_append, List.length_cons]
  by_cases hs : f.1 < x.1 /\ x.1 + x.2 < f.1 + f.2
  ·have : rmF l x = l := rmF_apart (fun g hg => by have := h.2.1 g hg; omega)
   have := piece_len f x
   rw [‹rmF l x = l›]
   omega
  ·have hp : (piece f x).length <= 1 := by
    unfold piece
    split
    ·simp
    ·rw [List.length_append]
     split <;> split <;> simp <;> omega
   have := ih h.2.2
   omega

theorem rremove_spec (H : Heap) (s : Sl) (l : List Rg) (x : Rg) (h : Rgs H s l) (hlow : Low l) (hx : 1 <= x.2 /\ 0 <= x.1 /\ x.1 + x.2 <= 9007199254740992) (hll : l.length <= 100000) :
  CallsH Tryz.prog n_94 #[.slice s.p s.n s.c, .agg #[.int .u64 x.1, .int .u64 x.2]] H (RgP (rmF l x) H) := by
 refine F_94_ok _ _ _ ?_
 unfold F_94
 have hn := h.len
 refine push_mk (vs := encR x) fun H1 e1 z1 b1 => ?_
 refine loop2 l.length (fun k out H' => Own H1.size t_95 2 H' out ((rmF (l.take k) x).flatMap encR) /\ Ext H1 H') ⟨Own.nil _ _ _ _, .refl _⟩ ?_
 rintro k out H2 hk ⟨o2, e2⟩
 unfold F_94_r3
 have n2 := Own.len rkRange o2
 have hl2 := rmF_len (l.take k) x
 have hl3 : (l.take k).length <= k := by simp; omega
 refine iteB_dec (fun c => ?_) (fun c => ?_)
 ·have hkn : k < l.length := by omega
  obtain ⟨a, hp, r0, r1⟩ := Rgs.atN (h.ext (e1.trans e2)) hkn
  have hf := hlow _ (getD_mem' (0, 0) hkn)
  have hstep := rmF_succ (x := x) hkn
  generalize l.getD k (0, 0) = f at *
  have x2 := e1.trans e2
  refine ⟨by omega, by omega, unSome_mk hp ⟨_, r0, _, r1, local_mk (vs := encR f) rfl rfl fun H4 e4 z4 b4 => ?_⟩⟩
  have bx := (b1.ext e2).ext e4
  refine ⟨_, b4.rd0 rfl, _, b4.rd (i := 1) rfl, _, bx.rd0 rfl, _, bx.rd (i := 1) rfl, letV_mk (f.1 + f.2) (u64_in (by omega)) (letV_mk (x.1 + x.2) (u64_in (by omega)) ?_)⟩
  refine ⟨fun b H' => (b = true ↔ (x.1 >= f.1 + f.2 \/ x.1 + x.2 <= f.1)) /\ H' = H4, ⟨_, bx.rd0 rfl, iteB_dec (fun d => ⟨by simp [d], rfl⟩) (fun d => ⟨_, b4.rd0 rfl, by simp; omega, rfl⟩)⟩, ?_⟩
  rintro b H5 ⟨hb, rfl⟩
  unfold F_94_k2
  have fin : ∀ (s' : Sl) (H' : Heap), Own H1.size t_95 2 H' s' ((rmF (l.take k) x ++ piece f x).flatMap encR) -> Ext H1 H' -> CI2 l.length (fun k out H' => Own H1.size t_95 2 H' out ((rmF (l.take k) x).flatMap encR) /\ Ext H1 H') s' (IntKind.i64.wrap ((k : Int) + 1)) H' /\ CM2 l.length s' (IntKind.i64.wrap ((k : Int) + 1)) H' < CM2 l.length out (k : Int) H2 := fun s' H' ho he => next2 hkn (by omega) ⟨by rw [hstep]; exact ho, he⟩
  have e5 := e2.trans e4
  have o5 := o2.ext e4
  refine iteB_intro (fun d => ⟨_, b4.rd0 rfl, _, b4.rd (i := 1) rfl, ?_⟩) (fun d => ?_)
  ·refine apR rkRange f (lo := H1.size) o5 (by omega) e5.size ?_
   intro s' H7 ho hn7 m7
   refine letV_mk _ rfl (fin s' H7 ?_ (Mods.ext e5 m7 (blkOf_new o5.new)))
   rw [piece_apart (hb.1 d)]
   exact ho
  ·have hnap : ¬ (x.1 >= f.1 + f.2 \/ x.1 + x.2 <= f.1) := fun hh => by have := hb.2 hh; rw [d] at this; cases this
   have hpc : piece f x = (if f.1 < x.1 then [(f.1, x.1 - f.1)] else []) ++ (if x.1 + x.2 < f.1 + f.2 then [(x.1 + x.2, f.1 + f.2 - (x.1 + x.2))] else []) := by unfold piece; rw [if_neg hnap]
   refine ⟨fun o3 H' => Own H1.size t_95 2 H' o3 ((rmF (l.take k) x ++ (if f.1 < x.1 then [(f.1, x.1 - f.1)] else [])).flatMap encR) /\ Ext H1 H', ⟨_, b4.rd0 rfl, _, bx.rd0 rfl, iteB_dec (fun d1 => ⟨_, b4.rd0 rfl, _, bx.rd0 rfl, _, b4.rd0 rfl, ?_⟩) (fun d1 => ⟨by rw [if_neg d1, List.append_nil]; exact o5, e5⟩)⟩, ?_⟩
   ·rw [u64_in (n := x.1 - f.1) (by omega)]
    refine apR rkRange (f.1, x.1 - f.1) (lo := H1.size) o5 (by omega) e5.size ?_
    intro s' H9 ho hn9 m9
    exact ⟨by rw [if_pos d1]; exact ho, Mods.ext e5 m9 (blkOf_new o5.new)⟩
   ·rintro o3 H10 ⟨o10, e10⟩
    unfold F_94_k1
    have n10 := Own.len rkRange o10
    have hl10 : (rmF (l.take k) x ++ (if f.1 < x.1 then [(f.1, x.1 - f.1)] else [])).length <= 2 * k + 1 := by
     rw [List.length_append]; split <;> simp <;> omega
    refine iteB_dec (fun d1 => ?_) (fun d1 => letV_mk _ rfl (fin o3 H10 ?_ e10))
    ·rw [u64_in (n := f.1 + f.2 - (x.1 + x.2)) (by omega)]
     refine apR rkRange (x.1 + x.2, f.1 + f.2 - (x.1 + x.2)) (lo := H1.size) o10 (by omega) e10.size ?_
     intro s' H12 ho hn12 m12
     refine letV_mk _ rfl (fin s' H12 ?_ (Mods.ext e10 m12 (blkOf_new o10.new)))
     rw [hpc, if_pos d1, <- List.append_assoc]
     exact ho
    ·rw [hpc, if_neg d1, List.append_nil]
     exact o10
 ·obtain rfl : k = l.length := by omega
  rw [List.take_length] at o2
  exact ⟨out, rfl, own_lo o2 e1.size, e1.trans e2⟩

/-! ### merging -/

def mst (O : List Rg) (x : Rg) : List Rg :=
 if 0 < O.length /\ x.1 <= (O.getD (O.length - 1) (0, 0)).1 + (O.getD (O.length - 1) (0, 0)).2 then O.set (O.length - 1) ((O.getD (O.length - 1) (0, 0)).1, max (O.getD (O.length - 1) (0, 0)).2 (x.1 + x.2 - (O.getD (O.length - 1) (0, 0)).1)) else O ++ [x]

theorem mst_cons {c x : Rg} {O : List Rg} (h : O ≠ []) : mst (c :: O) x = c :: mst O x := by
 have hl : 0 < O.length := List.length_pos_iff.2 h
 obtain ⟨n, hn⟩ : ∃ n, O.length = n + 1 := ⟨O.length - 1, by omega⟩
 have e : (c :: O).length - 1 = (O.length - 1) + 1 := by simp; omega
 unfold mst
 rw [e, List.getD_cons_succ, List.set_cons_succ]
 split
 ·rename_i hc
  rw [if_pos ⟨hl, hc.2⟩]
 ·rename_i hc
  rw [if_neg (fun hh => hc ⟨by simp, hh.2⟩)]
  rfl
theorem mrg_ne (c : Rg) (l : List Rg) : mrg c l ≠ [] := by
 induction l generalizing c with
 | nil => simp [mrg]
 | cons x l ih => unfold mrg; split; exact ih _; simp
theorem mrg_snoc (x : Rg) : ∀ (l : List Rg) (c : Rg), mrg c (l ++ [x]) = mst (mrg c l) x
 | [], c => by
  show mrg c [x] = mst [c] x
  by_cases h : x.1 <= c.1 + c.2
  ·have e : mrg c [x] = [(c.1, max c.2 (x.1 + x.2 - c.1))] := by simp [mrg, h]
   rw [e]
   unfold mst
   rw [if_pos ⟨by simp, by simpa using h⟩]
   rfl
  ·have e : mrg c [x] = [c, x] := by simp [mrg, h]
   rw [e]
   unfold mst
   rw [if_neg (fun hh => h (by simpa using hh.2))]
   rfl
 | y :: l, c => by
  rw [List.cons_append, mrg, mrg]
  split
  ·exact mrg_snoc x l _
  ·rw [mrg_snoc x l y, mst_cons (mrg_ne y l)]
theorem mergeS_snoc (l : List Rg) (x : Rg) : mergeS (l ++ [x]) = mst (mergeS l) x := by
 cases l with
 | nil => simp [mergeS, mrg, mst]
 | cons y l => exact mrg_snoc x l y

theorem mst_len (O : List Rg) (x : Rg) : (mst O x).length <= O.length + 1 := by
 unfold mst
 split <;> simp

theorem mrg_base : ∀ (l : List Rg) (c r : Rg), r ∈ mrg c l -> r.1 = c.1 \/ ∃ z ∈ l, z.1 = r.1
 | [], c, r, h => by simp [mrg] at h; exact .inl (by rw [h])
 | x :: l, c, r, h => by
  unfold mrg at h
  split at h
  ·rcases mrg_base l _ r h with h1 | ⟨z, hz, h1⟩
   ·exact .inl h1
   ·exact .inr ⟨z, by simp [hz], h1⟩
  ·rcases List.mem_cons.1 h with rfl | h
   ·exact .inl rfl
   ·rcases mrg_base l x r h with h1 | ⟨z, hz, h1⟩
    ·exact .inr ⟨x, by simp, h1.symm⟩
    ·exact .inr ⟨z, by simp [hz], h1⟩
theorem mergeS_base {l : List Rg} {r : Rg} (h : r ∈ mergeS l) : ∃ z ∈ l, z.1 = r.1 := by
 cases l with
 | nil => cases h
 | cons c l =>
  rcases mrg_base l c r h with h1 | ⟨z, hz, h1⟩
  ·exact ⟨c, by simp, h1.symm⟩
  ·exact ⟨z, by simp [hz], h1⟩

theorem mrg_low {B : Int} : ∀ (l : List Rg) (c : Rg), (∀ x ∈ c :: l, 0 <= x.1 /\ 1 <= x.2 /\ x.1 + x.2 <= B) -> ∀ x ∈ mrg c l, 0 <= x.1 /\ 1 <= x.2 /\ x.1 + x.2 <= B
 | [], c, h, x, hx => by simp [mrg] at hx; rw [hx]; exact h c (by simp)
 | y :: l, c, h, x, hx => by
  have hc := h c (by simp)
  have hy := h y (by simp)
  unfold mrg at hx
  split at hx
  ·refine mrg_low l _ (fun z hz => ?_) x hx
   rcases List.mem_cons.1 hz with rfl | hz
   ·dsimp only; omega
   ·exact h z (by simp [hz])
  ·rcases List.mem_cons.1 hx with rfl | hx
   ·exact hc
   ·exact mrg_low l y (fun z hz => h z (by rcases List.mem_cons.1 hz with rfl | hz; simp; simp [hz])) x hx
theorem mergeS_low {B : Int} {l : List Rg} (h : ∀ x ∈ l, 0 <= x.1 /\ 1 <= x.2 /\ x.1 + x.2 <= B) : ∀ x ∈ mergeS l, 0 <= x.1 /\ 1 <= x.2 /\ x.1 + x.2 <= B := by
 cases l with
 | nil => intro x hx; cases hx
 | cons c l => exact mrg_low l c h
theorem mergeF_low {B : Int} {l : List Rg} (h : ∀ x ∈ l, 0 <= x.1 /\ 1 <= x.2 /\ x.1 + x.2 <= B) : ∀ x ∈ mergeF l, 0 <= x.1 /\ 1 <= x.2 /\ x.1 + x.2 <= B :=
 mergeS_low (fun x hx => h x ((List.mergeSort_perm l rle).mem_iff.1 hx))
theorem ValidR.merge {l : List Rg} (h : ValidR l) : ValidR (mergeF l) /\ Asc (mergeF l) := by
 have hl : ∀ x ∈ l, 1 <= x.2 := fun x hx => (h.2 x hx).1
 obtain ⟨h1, _, h3⟩ := mergeF_spec hl
 refine ⟨⟨by have := h.1; omega, fun r hr => ?_⟩, h1⟩
 have := mergeF_low (B := 4503599627370496) (fun x hx => by have := h.2 x hx; unfold RgOk at this; omega) r hr
 exact ⟨this.2.1, this.1, this.2.2⟩

theorem own_last {lo : Nat} {H : Heap} {out : Sl} {O : List Rg} (o : Own lo t_95 2 H out (O.flatMap encR)) {n : Nat} (hn : n < O.length) (v : Int) :
  ∃ a, out.p = some a /\ okRow H ((a.add ((n : Int).toNat * 2)).add 1) 1 /\ ∀ H', H' = wrs H ((a.add ((n : Int).toNat * 2)).add 1) [.int .u64 v] -> Own lo t_95 2 H' out ((O.set n ((O.getD n (0, 0)).1, v)).flatMap encR) /\ Mods (blkOf out.p) H H' := by
 obtain ⟨h1, h2 | ⟨g, cap, cur, hv, hg, hb, hc, hm, hs, ht⟩⟩ := o
 ·exfalso
  obtain ⟨hv, h0⟩ := h2
  rw [flat_len encR_len] at h1
  omega
 ·simp only [Value.slice.injEq] at hv
  obtain ⟨hp, hnn, hcc⟩ := hv
  have hlen : O.length * 2 = out.n * 2 := by rw [<- flat_len encR_len O]; exact h1
  rw [Int.toNat_natCast, hp]
  refine ⟨⟨g, 0, none⟩, rfl, ?_, ?_⟩
  ·rw [add_mk, add_mk]
   exact okRow_mk hb (by omega)
  ·rintro H' rfl
   have hsplit := flat_split_set (enc := encR) (l := O) (i := n) (y := ((O.getD n (0, 0)).1, v)) hn
   have hsplit0 := flat_split (enc := encR) (l := O) (i := n) (x := O.getD n (0, 0)) (by simp [List.getD, hn])
   have htl := flat_take_len (enc := encR) encR_len hn
   refine ⟨⟨?_, .inr ⟨g, cap, splice cur (0 + n * 2 + 1) [.int .u64 v], ?_, hg, ?_, hc, hm, ?_, ?_⟩⟩, ?_⟩
   ·rw [flat_len encR_len, List.length_set]; omega
   ·rw [hp, hcc]
   ·rw [add_mk, add_mk]
    exact wrs_get hb
   ·simp [splice, hs]
   ·simp only [splice, Array.toList_setIfInBounds]
    rw [List.take_set, ht, hsplit0, hsplit, List.append_assoc, List.append_assoc, Nat.zero_add, <- htl, List.set_append_right _ _ (by omega)]
    congr 1
    rw [show ((O.take n).flatMap encR).length + 1 - ((O.take n).flatMap encR).length = 1 by omega]
    rfl
   ·refine Mods.wrs ?_
    rw [add_mk, add_mk]
    simp [blkOf]

end Go.Proofs.YtnhhncjflnlfaaaGreat
