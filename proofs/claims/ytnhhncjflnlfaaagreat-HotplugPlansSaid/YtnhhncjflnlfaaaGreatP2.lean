/-
 The program's merged.
-/
import Derived.Test.YtnhhncjflnlfaaaGreatS1
namespace Go.Proofs.YtnhhncjflnlfaaaGreat
open Go.Eng
set_option linter.unusedVariables false

theorem CloneR_spec (H : Heap) (s : Sl) (l : List Rg) (h : Rgs H s l) (hl : l.length <= 100000) :
  CallsH Tryz.prog n_108 #[.slice s.p s.n s.c] H (fun v H' => ∃ c : Sl, v = .slice c.p c.n c.c /\ Own H.size t_95 2 H' c (l.flatMap encR) /\ Ext H H') := by
 have hn := h.len
 refine F_108_ok _ ?_
 unfold F_108
 exact clone_vc (R := fun v H' => ∃ c : Sl, v = .slice c.p c.n c.c /\ Own H.size t_95 2 H' c (l.flatMap encR) /\ Ext H H') rkRange.ht rkRange.hi rkRange.hzs rkRange.hsz rkRange.he rkRange.hone h (by simp [maxLen]; omega) (by omega) (fun s' H' o _ e => ⟨s', rfl, o, e⟩)

theorem srt_take {m : List Rg} (h : Srt m) {k : Nat} (hk : k < m.length) : ∀ z ∈ m.take k, z.1 <= (m.getD k (0, 0)).1 := fun z hz => by
 obtain ⟨i, hi, rfl⟩ := List.getElem_of_mem hz
 have hi' : i < k := by simp at hi; omega
 have e1 : m.getD k (0, 0) = m[k] := by simp [List.getD, hk]
 rw [e1, List.getElem_take]
 exact List.pairwise_iff_getElem.1 h i k (by omega) hk hi'

theorem mergeS_len (l : List Rg) : (mergeS l).length <= l.length := by
 have key : ∀ (n : Nat) (l : List Rg), l.length = n -> (mergeS l).length <= n := by
  intro n
  induction n with
  | zero => intro l hl; rw [List.eq_nil_of_length_eq_zero hl]; simp [mergeS]
  | succ n ih =>
   intro l hl
   have hk : n < l.length := by omega
   have e : l = l.take n ++ [l.getD n (0, 0)] := by
    rw [<- take_succ_d (0, 0) hk, show n + 1 = l.length by omega, List.take_length]
   rw [e, mergeS_snoc]
   have := mst_len (mergeS (l.take n)) (l.getD n (0, 0))
   have := ih (l.take n) (by simp; omega)
   omega
 exact key _ l rfl

theorem merged_spec (H : Heap) (s : Sl) (l : List Rg) (h : Rgs H s l) (hv : ValidR l) : CallsH Tryz.prog n_91 #[.slice s.p s.n s.c] H (RgP (mergeF l) H) := by
 refine F_91_ok _ ?_
 unfold F_91
 have hvl := hv.1
 refine (CloneR_spec H s l h (by omega)).mono ?_
 rintro v H1 ⟨c, rfl, o1, e1⟩
 refine ⟨c, rfl, (sortRg_spec H1 c l H.size o1 (by omega)).mono ?_⟩
 rintro v H2 ⟨rfl, m, hp, hs, o2, m2⟩
 have e2 : Ext H H2 := Mods.ext e1 m2 (blkOf_new o1.new)
 have hme : mergeS m = mergeF l := mergeS_eq (fun x hx => (hv.2 x hx).1) hp hs
 have hml : m.length = l.length := hp.length_eq
 have hmv : ∀ x ∈ m, RgOk x := fun x hx => hv.2 x (hp.mem_iff.1 hx)
 have is2 := Own.is rkRange o2
 have hcn := is2.len
 refine ⟨rfl, ?_⟩
 refine loop2 m.length (fun k out H' => Own H2.size t_95 2 H' out ((mergeS (m.take k)).flatMap encR) /\ Ext H2 H') ⟨Own.nil _ _ _ _, .refl _⟩ ?_
 rintro k out H3 hk ⟨o3, e3⟩
 unfold F_91_r2
 refine iteB_dec (fun c1 => ?_) (fun c1 => ?_)
 ·have hkm : k < m.length := by omega
  obtain ⟨a, hpa, r0, r1⟩ := Rgs.atN (is2.ext e3) hkm
  have hx := hmv _ (getD_mem' (0, 0) hkm)
  have htk := take_succ_d ((0, 0) : Rg) hkm
  have hdx := srt_take hs hkm
  have hok : ∀ z ∈ m.take k, RgOk z := fun z hz => hmv z (List.mem_of_mem_take hz)
  have hdl : (mergeS (m.take k)).length <= 1024 := by
   have := mergeS_len (m.take k)
   simp at this
   omega
  generalize m.getD k (0, 0) = x at *
  have hnx : ∀ (s' : Sl) (H' : Heap), Own H2.size t_95 2 H' s' ((mergeS (m.take k ++ [x])).flatMap encR) -> Ext H2 H' -> Own H2.size t_95 2 H' s' ((mergeS (m.take (k + 1))).flatMap encR) /\ Ext H2 H' := fun s' H' o e => by rw [htk]; exact ⟨o, e⟩
  clear htk
  generalize m.take k = done at *
  unfold RgOk at hx
  have hon := Own.len rkRange o3
  refine ⟨by omega, by omega, unSome_mk hpa ⟨_, r0, _, r1, local_mk (vs := encR x) rfl rfl fun H5 e5 z5 b5 => ?_⟩⟩
  have oo := o3.ext e5
  have x5 := e3.trans e5
  refine letV_mk ((out.n : Int) - 1) (i64_in (by omega)) ⟨fun b H' => (b = true ↔ (0 < (mergeS done).length /\ x.1 <= ((mergeS done).getD ((mergeS done).length - 1) (0, 0)).1 + ((mergeS done).getD ((mergeS done).length - 1) (0, 0)).2)) /\ H' = H5, iteB_dec (fun d => ?_) (fun d => ⟨by simp; omega, rfl⟩), ?_⟩
  ·obtain ⟨n, hn⟩ : ∃ n, (mergeS done).length = n + 1 := ⟨(mergeS done).length - 1, by omega⟩
   have he : (out.n : Int) - 1 = (n : Int) := by omega
   rw [he, hn, Nat.add_sub_cancel]
   obtain ⟨a, hpa, q0, q1⟩ := Rgs.atN (Own.is rkRange oo) (k := n) (by omega)
   have hlow := mergeS_low (B := 4503599627370496) (l := done) (fun y hy => by have := hok y hy; unfold RgOk at this; omega) _ (getD_mem' (l := mergeS done) (k := n) (0, 0) (by omega))
   refine ⟨_, b5.rd0 rfl, by omega, by omega, unSome_mk hpa ⟨_, q0, by omega, by omega, unSome_mk hpa ⟨_, q1, ?_, rfl⟩⟩⟩
   rw [u64_in (by omega)]
   simp
  ·rintro b H8 ⟨hb, rfl⟩
   unfold F_91_k1
   refine iteB_intro (fun d => ?_) (fun d => ⟨_, b5.rd0 rfl, _, b5.rd (i := 1) rfl, ?_⟩)
   ·have hcond := hb.1 d
    obtain ⟨n, hn⟩ : ∃ n, (mergeS done).length = n + 1 := ⟨(mergeS done).length - 1, by omega⟩
    have he : (out.n : Int) - 1 = (n : Int) := by omega
    rw [hn, Nat.add_sub_cancel] at hcond
    have hmst : mergeS (done ++ [x]) = (mergeS done).set n (((mergeS done).getD n (0, 0)).1, max ((mergeS done).getD n (0, 0)).2 (x.1 + x.2 - ((mergeS done).getD n (0, 0)).1)) := by
     rw [mergeS_snoc]
     unfold mst
     rw [hn, Nat.add_sub_cancel, if_pos hcond]
    have hlow := mergeS_low (B := 4503599627370496) (l := done) (fun y hy => by have := hok y hy; unfold RgOk at this; omega) _ (getD_mem' (l := mergeS done) (k := n) (0, 0) (by omega))
    have hsrt : ((mergeS done).getD n (0, 0)).1 <= x.1 := by
     obtain ⟨z, hz, hze⟩ := mergeS_base (getD_mem' (l := mergeS done) (k := n) (0, 0) (by omega))
     have := hdx z hz
     omega
    obtain ⟨a, hpa, q0, q1⟩ := Rgs.atN (Own.is rkRange oo) (k := n) (by omega)
    rw [he]
    refine ⟨by omega, by omega, unSome_mk hpa ⟨_, q1, _, b5.rd0 rfl, _, b5.rd (i := 1) rfl, by omega, by omega, unSome_mk hpa ⟨_, q0, by omega, by omega, ?_⟩⟩⟩
    generalize hlast : (mergeS done).getD n (0, 0) = y at *
    obtain ⟨a', hpa', hokr, hwr⟩ := own_last oo (n := n) (by omega) (max y.2 (x.1 + x.2 - y.1))
    have hval : (if IntKind.u64.wrap (IntKind.u64.wrap (x.1 + x.2) - y.1) > y.2 then IntKind.u64.wrap (IntKind.u64.wrap (x.1 + x.2) - y.1) else y.2) = max y.2 (x.1 + x.2 - y.1) := by
     rw [u64_in (n := x.1 + x.2) (by omega), u64_in (by omega)]
     split <;> omega
    rw [hval]
    refine unSome_mk hpa' ⟨hokr, letH_mk ?_⟩
    intro H9 h9
    obtain ⟨o9, m9⟩ := hwr H9 h9
    clear h9
    rw [hlast] at o9
    exact next2 hkm (by omega) (hnx _ _ (by rw [hmst]; exact o9) (Mods.ext x5 m9 (blkOf_new oo.new)))
   ·have hncond : ¬ (0 < (mergeS done).length /\ x.1 <= ((mergeS done).getD ((mergeS done).length - 1) (0, 0)).1 + ((mergeS done).getD ((mergeS done).length - 1) (0, 0)).2) := fun hh => by have := hb.2 hh; rw [d] at this; cases this
    have hmst : mergeS (done ++ [x]) = mergeS done ++ [x] := by
     rw [mergeS_snoc]
     unfold mst
     rw [if_neg hncond]
    refine apR rkRange x (lo := H2.size) oo (by omega) x5.size ?_
    intro s' H11 ho hn11 m11
    exact next2 hkm (by omega) (hnx _ _ (by rw [hmst]; exact ho) (Mods.ext x5 m11 (blkOf_new oo.new)))
 ·have hke : k = m.length := by omega
  rw [hke, List.take_length, hme] at o3
  exact ⟨out, rfl, own_lo o3 e2.size, e2.trans e3⟩

end Go.Proofs.YtnhhncjflnlfaaaGreat
