/-
 The contracts of the reference's merge and Free.
-/
import Derived.Test.YtnhhncjflnlfaaaGreatM1
namespace Go.Proofs.YtnhhncjflnlfaaaGreat
open Go.Eng
set_option linter.unusedVariables false

def MI (l : List Rg) (H : Heap) (out left : Sl) (H' : Heap) : Prop :=
 ∃ done rest : List Rg, (done ++ rest).Perm l /\ Srt done /\ (∀ a ∈ done, ∀ b ∈ rest, a.1 <= b.1) /\ Own H.size t_95 2 H' out ((mergeS done).flatMap encR) /\ Own H.size t_95 2 H' left (rest.flatMap encR) /\
  (∀ a, left.p = some a -> a.block ∉ blkOf out.p) /\ Ext H H'

theorem srt_snoc {d : List Rg} {x : Rg} (h : Srt d) (hx : ∀ a ∈ d, a.1 <= x.1) : Srt (d ++ [x]) := by
 refine List.pairwise_append.2 ⟨h, by simp, fun a ha b hb => ?_⟩
 simp at hb
 rw [hb]
 exact hx a ha

theorem erase_perm {l : List Rg} {k : Nat} (hk : k < l.length) : l.Perm (l.getD k (0, 0) :: (l.take k ++ l.drop (k + 1))) := by
 have e : l = l.take k ++ l.getD k (0, 0) :: l.drop (k + 1) := by
  have : l.getD k (0, 0) = l[k] := by simp [List.getD, hk]
  rw [this, <- List.drop_eq_getElem_cons hk, List.take_append_drop]
 conv => lhs; rw [e]
 exact List.perm_middle

theorem rmerge_spec (H : Heap) (s : Sl) (l : List Rg) (h : Rgs H s l) (hv : ValidR l) : CallsH Tryz.prog n_93 #[.slice s.p s.n s.c] H (RgP (mergeF l) H) := by
 refine F_93_ok _ ?_
 unfold F_93
 have hl1 : ∀ x ∈ l, 1 <= x.2 := fun x hx => (hv.2 x hx).1
 have hlen := hv.1
 refine apA rkRange (s := ⟨none, 0, 0⟩) (l := []) (lo := H.size) (Own.nil _ _ _ _) h (by simp; omega) (Nat.le_refl _) ?_
 intro left0 H1 o1 n1 m1 _
 rw [List.nil_append] at o1
 refine ⟨left0, rfl, MI l H, fun _ left _ => left.n, ⟨[], l, by simp, List.Pairwise.nil, (fun a ha => by cases ha), Own.nil _ _ _ _, o1, (fun a _ => by simp [blkOf]), m1.to_ext⟩, ?_⟩
 rintro out left H2 ⟨done, rest, hp, hsd, hcr, oo, ol, hap, e2⟩
 unfold F_93_r3
 have nl := Own.len rkRange ol
 have no := Own.len rkRange oo
 have hok : ∀ x ∈ done ++ rest, RgOk x := fun x hx => hv.2 x (hp.mem_iff.1 hx)
 have hlen2 : done.length + rest.length <= 1024 := by rw [<- List.length_append, hp.length_eq]; exact hlen
 have hml : (mergeS done).length <= done.length := (mergeS_spec (l := done) (fun x hx => (hok x (by simp [hx])).1) hsd).2.2
 refine iteB_dec (fun c => ?_) (fun c => ?_)
 rotate_left
 ·have : rest = [] := List.eq_nil_of_length_eq_zero (by omega)
  subst this
  rw [List.append_nil] at hp
  rw [mergeS_eq hl1 hp hsd] at oo
  exact ⟨out, rfl, oo, e2⟩
 have isl := Own.is rkRange ol
 have hcap := ol.cap
 refine ⟨fun k i H' => H' = H2 /\ ∃ kk ii : Nat, k = kk /\ i = ii /\ kk < ii /\ ii <= rest.length /\ ∀ j, j < ii -> (rest.getD kk (0, 0)).1 <= (rest.getD j (0, 0)).1, fun _ i _ => (rest.length - i).toNat, ⟨rfl, 0, 1, rfl, rfl, by omega, by omega, fun j hj => by obtain rfl : j = 0 := (by omega); exact Int.le_refl _⟩, ?_⟩
 rintro _ _ H3 ⟨rfl, k, i, rfl, rfl, hki, hi, hmin⟩
 unfold F_93_r2
 obtain ⟨ak, hpk, rk0, rk1⟩ := Rgs.atN isl (k := k) (by omega)
 refine iteB_dec (fun c1 => ?_) (fun c1 => ?_)
 ·have hin : i < rest.length := by omega
  obtain ⟨ai, hpi, ri0, _⟩ := Rgs.atN isl hin
  refine ⟨by omega, by omega, unSome_mk hpi ⟨_, ri0, by omega, by omega, unSome_mk hpk ⟨_, rk0, iteB_dec (fun d => letV_mk _ (i64_succ (by omega)) ⟨⟨rfl, i, i + 1, rfl, rfl, by omega, by omega, fun j hj => ?_⟩, by dsimp only; omega⟩) (fun d => letV_mk _ (i64_succ (by omega)) ⟨⟨rfl, k, i + 1, rfl, rfl, by omega, by omega, fun j hj => ?_⟩, by dsimp only; omega⟩)⟩⟩⟩
  ·by_cases e : j = i
   ·subst e; exact Int.le_refl _
   ·have := hmin j (by omega); omega
  ·by_cases e : j = i
   ·subst e; omega
   ·exact hmin j (by omega)
 ·obtain rfl : i = rest.length := by omega
  have hkn : k < rest.length := by omega
  have hxm := getD_mem' (0, 0) hkn
  have hx := hok _ (by simp only [List.mem_append]; exact .inr hxm)
  have hper := erase_perm hkn
  have hminx : ∀ b ∈ rest, (rest.getD k (0, 0)).1 <= b.1 := all_of_getD (Q := fun b => (rest.getD k (0, 0)).1 <= b.1) (0, 0) hmin
  have hdx : ∀ a ∈ done, a.1 <= (rest.getD k (0, 0)).1 := fun a ha => hcr a ha _ hxm
  have is1 := IsS.takeS isl k left.c (by omega)
  have is2 := IsS.dropS isl hcap (k + 1) (by omega)
  generalize hxe : rest.getD k (0, 0) = x at *
  unfold RgOk at hx
  rw [i64_succ (k := k) (by omega), Int.toNat_natCast, Int.toNat_natCast, slP0, Nat.sub_zero, Nat.sub_zero]
  refine ⟨by omega, by omega, unSome_mk hpk ⟨_, rk0, _, rk1, local_mk (vs := encR x) rfl rfl fun H5 e5 z5 b5 => ⟨by omega, by omega, by omega, by omega, ?_⟩⟩⟩
  refine apA rkRange (s := ⟨none, 0, 0⟩) (l := []) (src := ⟨left.p, k, left.c⟩) (ys := rest.take k) (lo := H.size) (Own.nil _ _ _ _) (is1.ext e5) (by simp; omega) (by have := (e2.trans e5).size; omega) ?_
  intro x4 H6 o6 n6 m6 at6
  rw [List.nil_append] at o6
  have e6 : Ext H5 H6 := m6.to_ext
  have hz5 := e5.size
  have new6 : ∀ a, x4.p = some a -> H3.size <= a.block := fun a ha => by
   rcases at6 a ha with hh | hh
   ·simp [blkOf] at hh
   ·omega
  refine ⟨x4, rfl, ?_⟩
  refine apA rkRange (src := ⟨slP left.p left.c (k + 1) 2, left.n - (k + 1), left.c - (k + 1)⟩) (ys := rest.drop (k + 1)) (lo := H.size) o6 (is2.ext (e5.trans e6)) (by simp at n6 ⊢; omega) (by have := ((e2.trans e5).trans e6).size; omega) ?_
  intro left2 H7 o7 n7 m7 at7
  have e37 : Ext H3 H7 := Mods.ext (e5.trans e6) m7 (fun y hy => by
   cases hpx : x4.p with
   | none => rw [hpx] at hy; simp [blkOf] at hy
   | some a => rw [hpx] at hy; simp [blkOf] at hy; rw [hy]; exact new6 a hpx)
  have hz6 := (e5.trans e6).size
  have new7 : ∀ a, left2.p = some a -> H3.size <= a.block := fun a ha => by
   rcases at7 a ha with hh | hh
   ·cases hpx : x4.p with
    | none => rw [hpx] at hh; simp [blkOf] at hh
    | some b => rw [hpx] at hh; simp [blkOf] at hh; rw [hh]; exact new6 b hpx
   ·omega
  have b7 : Blk H7 H3.size t_95 (encR x) := by
   refine (b5.ext e6).mods m7 (fun hy => ?_)
   cases hpx : x4.p with
   | none => rw [hpx] at hy; simp [blkOf] at hy
   | some a =>
    rw [hpx] at hy; simp [blkOf] at hy
    rcases at6 a hpx with hh | hh
    ·simp [blkOf] at hh
    ·omega
  have oo7 := oo.ext e37
  have hperm' : (done ++ [x] ++ (rest.take k ++ rest.drop (k + 1))).Perm l := by
   refine List.Perm.trans ?_ hp
   rw [List.append_assoc]
   exact List.Perm.append_left _ hper.symm
  have hsd' := srt_snoc hsd hdx
  have hcr' : ∀ a ∈ done ++ [x], ∀ b ∈ rest.take k ++ rest.drop (k + 1), a.1 <= b.1 := fun a ha b hb => by
   have hbr : b ∈ rest := hper.symm.mem_iff.1 (by simp at hb ⊢; exact .inr hb)
   simp only [List.mem_append, List.mem_singleton] at ha
   rcases ha with ha | rfl
   ·exact hcr a ha b hbr
   ·exact hminx b hbr
  have hol : ∀ a, out.p = some a -> a.block < H3.size := fun a ha => oo.lt a ha
  have hsub : left2.n < left.n := by
   have := Own.len rkRange o7
   simp only [List.length_append, List.length_take, List.length_drop] at this
   omega
  refine ⟨left2, rfl, letV_mk ((out.n : Int) - 1) (i64_in (by omega)) ⟨fun b H' => (b = true ↔ (0 < (mergeS done).length /\ x.1 <= ((mergeS done).getD ((mergeS done).length - 1) (0, 0)).1 + ((mergeS done).getD ((mergeS done).length - 1) (0, 0)).2)) /\ H' = H7, iteB_dec (fun d => ?_) (fun d => ⟨by simp; omega, rfl⟩), ?_⟩⟩
  ·obtain ⟨n, hn⟩ : ∃ n, (mergeS done).length = n + 1 := ⟨(mergeS done).length - 1, by omega⟩
   have he : (out.n : Int) - 1 = (n : Int) := by omega
   rw [he, hn, Nat.add_sub_cancel]
   obtain ⟨a, hpa, q0, q1⟩ := Rgs.atN (Own.is rkRange oo7) (k := n) (by omega)
   have hlow := mergeS_low (B := 4503599627370496) (l := done) (fun y hy => by have := hok y (by simp [hy]); unfold RgOk at this; omega) _ (getD_mem' (l := mergeS done) (k := n) (0, 0) (by omega))
   refine ⟨_, b7.rd0 rfl, by omega, by omega, unSome_mk hpa ⟨_, q0, by omega, by omega, unSome_mk hpa ⟨_, q1, ?_, rfl⟩⟩⟩
   rw [u64_in (by omega)]
   simp
  ·rintro b H8 ⟨hb, rfl⟩
   unfold F_93_k1
   refine iteB_intro (fun d => ?_) (fun d => ⟨_, b7.rd0 rfl, _, b7.rd (i := 1) rfl, ?_⟩)
   ·have hcond := hb.1 d
    obtain ⟨n, hn⟩ : ∃ n, (mergeS done).length = n + 1 := ⟨(mergeS done).length - 1, by omega⟩
    have he : (out.n : Int) - 1 = (n : Int) := by omega
    rw [hn, Nat.add_sub_cancel] at hcond
    have hmst : mergeS (done ++ [x]) = (mergeS done).set n (((mergeS done).getD n (0, 0)).1, max ((mergeS done).getD n (0, 0)).2 (x.1 + x.2 - ((mergeS done).getD n (0, 0)).1)) := by
     rw [mergeS_snoc]
     unfold mst
     rw [hn, Nat.add_sub_cancel, if_pos hcond]
    have hlow := mergeS_low (B := 4503599627370496) (l := done) (fun y hy => by have := hok y (by simp [hy]); unfold RgOk at this; omega) _ (getD_mem' (l := mergeS done) (k := n) (0, 0) (by omega))
    have hsrt : ((mergeS done).getD n (0, 0)).1 <= x.1 := by
     obtain ⟨z, hz, hze⟩ := mergeS_base (getD_mem' (l := mergeS done) (k := n) (0, 0) (by omega))
     have := hdx z hz
     omega
    obtain ⟨a, hpa, q0, q1⟩ := Rgs.atN (Own.is rkRange oo7) (k := n) (by omega)
    rw [he]
    refine ⟨by omega, by omega, unSome_mk hpa ⟨_, q1, _, b7.rd0 rfl, _, b7.rd (i := 1) rfl, by omega, by omega, unSome_mk hpa ⟨_, q0, by omega, by omega, ?_⟩⟩⟩
    generalize hlast : (mergeS done).getD n (0, 0) = y at *
    obtain ⟨a', hpa', hokr, hwr⟩ := own_last oo7 (n := n) (by omega) (max y.2 (x.1 + x.2 - y.1))
    have hval : (if IntKind.u64.wrap (IntKind.u64.wrap (x.1 + x.2) - y.1) > y.2 then IntKind.u64.wrap (IntKind.u64.wrap (x.1 + x.2) - y.1) else y.2) = max y.2 (x.1 + x.2 - y.1) := by
     rw [u64_in (n := x.1 + x.2) (by omega), u64_in (by omega)]
     split <;> omega
    rw [hval]
    refine unSome_mk hpa' ⟨hokr, letH_mk ?_⟩
    intro H9 h9
    obtain ⟨o9, m9⟩ := hwr H9 h9
    clear h9
    rw [hlast] at o9
    have nout : ∀ a, left2.p = some a -> a.block ∉ blkOf out.p := fun a ha hh => by
     have := new7 a ha
     cases hpo : out.p with
     | none => rw [hpo] at hh; simp [blkOf] at hh
     | some b => rw [hpo] at hh; simp [blkOf] at hh; have := hol b hpo; omega
    exact ⟨⟨done ++ [x], _, hperm', hsd', hcr', by rw [hmst]; exact o9, o7.mods m9 nout, nout, Mods.ext (e2.trans e37) m9 (blkOf_new oo.new)⟩, hsub⟩
   ·have hncond : ¬ (0 < (mergeS done).length /\ x.1 <= ((mergeS done).getD ((mergeS done).length - 1) (0, 0)).1 + ((mergeS done).getD ((mergeS done).length - 1) (0, 0)).2) := fun hh => by have := hb.2 hh; rw [d] at this; cases this
    have hmst : mergeS (done ++ [x]) = mergeS done ++ [x] := by
     rw [mergeS_snoc]
     unfold mst
     rw [if_neg hncond]
    refine apRat rkRange x (lo := H.size) oo7 (by omega) ((e2.trans e37).size) ?_
    intro s' H11 ho hn11 m11 hat
    have nout : ∀ a, left2.p = some a -> a.block ∉ blkOf out.p := fun a ha hh => by
     have := new7 a ha
     cases hpo : out.p with
     | none => rw [hpo] at hh; simp [blkOf] at hh
     | some b => rw [hpo] at hh; simp [blkOf] at hh; have := hol b hpo; omega
    refine ⟨⟨done ++ [x], _, hperm', hsd', hcr', by rw [hmst]; exact ho, o7.mods m11 nout, fun a ha hh => ?_, Mods.ext (e2.trans e37) m11 (blkOf_new oo.new)⟩, hsub⟩
    have hlt := o7.lt a ha
    cases hps : s'.p with
    | none => rw [hps] at hh; simp [blkOf] at hh
    | some b =>
     rw [hps] at hh
     simp [blkOf] at hh
     rcases hat b hps with h1 | h1
     ·rw [<- hh] at h1; exact nout a ha h1
     ·omega

theorem rFree_spec (H : Heap) (s t : Sl) (l f : List Rg) (h : Rgs H s l) (hf : Rgs H t f) (hu : U64L l) (hfu : U64L f) :
  CallsH Tryz.prog n_58 #[.slice s.p s.n s.c, .slice t.p t.n t.c] H (RgP (if ValidR l /\ ValidR f then freeF l f else []) H) := by
 refine F_58_ok _ _ ?_
 unfold F_58
 have no : ¬ (ValidR l /\ ValidR f) -> RgP (if ValidR l /\ ValidR f then freeF l f else []) H (.slice none 0 0) H := fun hh => by
  rw [if_neg hh]
  exact ⟨⟨none, 0, 0⟩, rfl, Own.nil _ _ _ _, .refl _⟩
 have hfn := hf.len
 refine (rValidRanges_spec H s l h hu).mono ?_
 rintro v H1 ⟨rfl, rfl⟩
 refine ⟨_, rfl, iteB_not (fun c => no (fun hh => by simp at c; exact c hh.1)) (fun c => (rValidRanges_spec H1 t f hf hfu).mono ?_)⟩
 rintro v H2 ⟨rfl, rfl⟩
 refine ⟨_, rfl, iteB_not (fun c1 => no (fun hh => by simp at c1; exact c1 hh.2)) (fun c1 => (rmerge_spec H2 s l h (by simpa using c)).mono ?_)⟩
 rintro v H3 ⟨fr, rfl, o3, e3⟩
 have hv : ValidR l := by simpa using c
 have hvf : ValidR f := by simpa using c1
 rw [if_pos ⟨hv, hvf⟩]
 obtain ⟨vm, am⟩ := hv.merge
 have hfl := hvf.1
 have hml := vm.1
 refine ⟨fr, rfl, ?_⟩
 refine loop2 f.length (fun k out H' => Own H2.size t_95 2 H' out (((f.take k).foldl rmF (mergeF l)).flatMap encR) /\ ((f.take k).foldl rmF (mergeF l)).length <= 1024 + k /\ Low ((f.take k).foldl rmF (mergeF l)) /\ Asc ((f.take k).foldl rmF (mergeF l)) /\ Ext H2 H') ⟨o3, by simpa using hml, vm.low, am, e3⟩ ?_
 rintro k out H4 hk ⟨o4, l4, low4, a4, e4⟩
 unfold F_58_r1
 refine iteB_dec (fun d => ?_) (fun d => ?_)
 ·have hkn : k < f.length := by omega
  obtain ⟨a, hp, r0, r1⟩ := Rgs.atN (hf.ext e4) hkn
  have hx := hvf.2 _ (getD_mem' (0, 0) hkn)
  have htk := take_succ_d (0, 0) hkn
  generalize f.getD k (0, 0) = x at *
  unfold RgOk at hx
  have hstep : (f.take (k + 1)).foldl rmF (mergeF l) = rmF ((f.take k).foldl rmF (mergeF l)) x := by rw [htk, List.foldl_append]; rfl
  refine ⟨by omega, by omega, unSome_mk hp ⟨_, r0, _, r1, (rremove_spec H4 out _ x (Own.is rkRange o4) low4 (by omega) (by omega)).mono ?_⟩⟩
  rintro v H5 ⟨o, rfl, o5, e5⟩
  refine ⟨o, rfl, letV_mk _ rfl (next2 hkn (by omega) ⟨?_, ?_, ?_, ?_, e4.trans e5⟩)⟩
  ·rw [hstep]; exact own_lo o5 e4.size
  ·rw [hstep]; have := rmF_len1 a4 (x := x) (by omega); omega
  ·rw [hstep]; exact low4.rm a4 (by omega)
  ·rw [hstep]; exact (rmF_spec a4 (by omega)).1
 ·obtain rfl : k = f.length := by omega
  rw [List.take_length] at o4
  exact ⟨out, rfl, o4, e4⟩

end Go.Proofs.YtnhhncjflnlfaaaGreat
