/-
 Topologies (lists of functions) in memory; when one is valid; the contracts of enumerate.Valid and of the reference's Valid.
-/
import Derived.Test.YtnhhncjflnlfaaaGreatF1
import Derived.Test.YtnhhncjflnlfaaaGreatH1
import Derived.Test.YtnhhncjflnlfaaaGreatEngP
namespace Go.Proofs.YtnhhncjflnlfaaaGreat
open Go.Eng

abbrev FS := Fn × Sl
abbrev encF (x : FS) : List Value := fnL x.1 x.2
theorem encF_len (x : FS) : (encF x).length = 11 := rfl
theorem encF_one (x : FS) : ∀ u ∈ encF x, oneC u = true := fun u hu => by
 simp only [encF, fnL, List.mem_cons, List.not_mem_nil, or_false] at hu
 rcases hu with rfl | rfl | rfl | rfl | rfl | rfl | rfl | rfl | rfl | rfl | rfl <;> rfl

structure Topo (H : Heap) (s : Sl) (T : List FS) : Prop where
 is : IsS 11 encF H s T
 bars : ∀ x ∈ T, Bars H x.2 x.1.bars

theorem Topo.ext {H H' : Heap} {s : Sl} {T : List FS} (h : Topo H s T) (e : Ext H H') : Topo H' s T := ⟨h.is.ext e, fun x hx => (h.bars x hx).ext e⟩
theorem Topo.len {H : Heap} {s : Sl} {T : List FS} (h : Topo H s T) : s.n = T.length := h.is.len

def zF : FS := (⟨0, 0, 0, 0, false, false, false, 0, 0, 0, []⟩, ⟨none, 0, 0⟩)
def fnAt (T : List FS) (i : Nat) : Fn := (T.getD i zF).1
def slAt (T : List FS) (i : Nat) : Sl := (T.getD i zF).2

theorem Topo.barsAt {H : Heap} {s : Sl} {T : List FS} (h : Topo H s T) {i : Nat} (hi : i < T.length) : Bars H (slAt T i) (fnAt T i).bars := by
 have : T.getD i zF = T[i] := by simp [List.getD, hi]
 unfold slAt fnAt
 rw [this]
 exact h.bars _ (List.getElem_mem hi)

theorem Topo.at {H : Heap} {s : Sl} {T : List FS} (h : Topo H s T) {i : Nat} (hi : i < T.length) : ∃ a, s.p = some a /\ ∀ j v, (fnL (fnAt T i) (slAt T i))[j]? = some v -> rd H ((a.add ((i : Int).toNat * 11)).add j) = some v := by
 obtain ⟨a, hp, hr⟩ := h.is.get (i := i) (x := T.getD i zF) (by simp [List.getD, hi])
 exact ⟨a, hp, fun j v hv => by rw [Int.toNat_natCast]; exact hr j v hv⟩

theorem rdFn {H : Heap} {a : Addr} {f : Fn} {s : Sl} (h : ∀ j v, (fnL f s)[j]? = some v -> rd H (a.add j) = some v) :
  rd H a = some (.int .i64 f.parent) /\ rd H (a.add 1) = some (.int .i64 f.slot) /\ rd H (a.add 2) = some (.int .i64 f.vendor) /\ rd H (a.add 3) = some (.int .i64 f.device) /\ rd H (a.add 4) = some (.bool f.bridge) /\ rd H (a.add 5) = some (.bool f.pref) /\
  rd H (a.add 6) = some (.bool f.hot) /\ rd H (a.add 7) = some (.int .i64 f.spare) /\ rd H (a.add 8) = some (.int .i64 f.pin) /\ rd H (a.add 9) = some (.int .i64 f.vec) /\ rd H (a.add 10) = some (.slice s.p s.n s.c) := by
 refine ⟨?_, h 1 _ rfl, h 2 _ rfl, h 3 _ rfl, h 4 _ rfl, h 5 _ rfl, h 6 _ rfl, h 7 _ rfl, h 8 _ rfl, h 9 _ rfl, h 10 _ rfl⟩
 have := h 0 _ rfl
 simpa [Addr.add] using this

structure OkAt (T : List FS) (i : Nat) : Prop where
 va : ValidF (fnAt T i)
 pa : -1 <= (fnAt T i).parent /\ (fnAt T i).parent < i
 br : 0 <= (fnAt T i).parent -> (fnAt T (fnAt T i).parent.toNat).bridge = true
 un : ∀ k, k < i -> ¬ ((fnAt T k).parent = (fnAt T i).parent /\ (fnAt T k).slot = (fnAt T i).slot)

theorem OkAt_iff (T : List FS) (i : Nat) : OkAt T i ↔ ValidF (fnAt T i) /\ (-1 <= (fnAt T i).parent /\ (fnAt T i).parent < i) /\ (0 <= (fnAt T i).parent -> (fnAt T (fnAt T i).parent.toNat).bridge = true) /\ (∀ k, k < i -> ¬ ((fnAt T k).parent = (fnAt T i).parent /\ (fnAt T k).slot = (fnAt T i).slot)) :=
 ⟨fun ⟨a, b, c, d⟩ => ⟨a, b, c, d⟩, fun ⟨a, b, c, d⟩ => ⟨a, b, c, d⟩⟩
instance (T : List FS) (i : Nat) : Decidable (OkAt T i) := decidable_of_iff _ (OkAt_iff T i).symm

def ValidT (T : List FS) : Prop := T.length <= 64 /\ ∀ i, i < T.length -> OkAt T i
instance (T : List FS) : Decidable (ValidT T) := by unfold ValidT; infer_instance

theorem in64 {a : Int} (h : -9223372036854775808 <= a /\ a <= 9223372036854775807) : In64 a := h
theorem place_key : PairKey Tryz.prog t_147 := pairKey_of (by kernel_rfl)

theorem eValid_spec (T : List FS) (s : Sl) (H : Heap) (h : Topo H s T) : CallsH Tryz.prog n_45 #[.slice s.p s.n s.c] H (BoolP (decide (ValidT T)) H) := by
 refine F_45_ok _ ?_
 unfold F_45
 have bad : ∀ H', Ext H H' -> ¬ ValidT T -> BoolP (decide (ValidT T)) H (.bool false) H' := fun H' he hn => ⟨by rw [decide_eq_false hn], he⟩
 have hn := h.len
 refine iteB_dec (fun c => bad H (.refl _) (fun hv => by have := hv.1; omega)) (fun c => letH_mk ?_)
 intro H1 h1
 have e1 : Ext H H1 := by rw [h1]; exact Ext.push _ _
 have m1 : PSet H1 H.size [] := by rw [h1]; exact PSet.new H
 clear h1
 refine loop1 T.length (fun k H' => Ext H H' /\ (∀ i, i < k -> OkAt T i) /\ PSet H' H.size (tab k (fun i => ((fnAt T i).parent, (fnAt T i).slot)))) ⟨e1, fun i hi => by omega, m1⟩ ?_
 rintro k H2 hk ⟨e2, hok, m2⟩
 unfold F_45_r2
 refine iteB_dec (fun c1 => ?_) (fun c1 => ?_)
 ·have hkn : k < T.length := by omega
  obtain ⟨a, hp, hr⟩ := (h.ext e2).at hkn
  obtain ⟨p0, p1, p2, p3, p4, p5, p6, p7, p8, p9, p10⟩ := rdFn hr
  have no : ∀ H', Ext H H' -> ¬ OkAt T k -> BoolP (decide (ValidT T)) H (.bool false) H' := fun H' he hn => bad H' he (fun hv => hn (hv.2 k hkn))
  refine ⟨by omega, by omega, unSome_mk hp ⟨_, p0, _, p1, _, p2, _, p3, _, p4, _, p5, _, p6, _, p7, _, p8, _, p9, slAt T k, p10, local_mk (vs := fnL (fnAt T k) (slAt T k)) rfl rfl fun H4 e4 z4 b4 => ?_⟩⟩
  have x4 := e2.trans e4
  obtain ⟨p0, p1, p2, p3, p4, p5, p6, p7, p8, p9, p10⟩ := Blk.fn b4
  refine ⟨_, p0, _, p1, _, p2, _, p3, _, p4, _, p5, _, p6, _, p7, _, p8, _, p9, _, p10, (Valid_spec _ _ H4 ((h.ext x4).barsAt hkn)).mono ?_⟩
  rintro v H5 ⟨rfl, e5⟩
  have x5 := x4.trans e5
  have b5 := b4.ext e5
  refine ⟨_, rfl, iteB_not (fun c2 => no H5 x5 (fun ho => by simp at c2; exact c2 ho.va)) (fun c2 => ⟨_, b5.rd0 rfl, iteB_dec (fun c3 => no H5 x5 (fun ho => by have := ho.pa; omega)) (fun c3 => ⟨_, b5.rd0 rfl, iteB_dec (fun c4 => no H5 x5 (fun ho => by have := ho.pa; omega)) (fun c4 => ?_)⟩)⟩)⟩
  have hva : ValidF (fnAt T k) := by simpa using c2
  refine ⟨fun H' => H' = H5 /\ (0 <= (fnAt T k).parent -> (fnAt T (fnAt T k).parent.toNat).bridge = true), ⟨_, b5.rd0 rfl, iteB_dec (fun c5 => ?_) (fun c5 => ⟨rfl, fun hh => absurd hh c5⟩)⟩, ?_⟩
  ·obtain ⟨j, hj⟩ := Int.eq_ofNat_of_zero_le c5
   obtain ⟨a', hp', hr'⟩ := (h.ext x5).at (i := j) (by omega)
   have r4 := (rdFn hr').2.2.2.2.1
   refine ⟨_, b5.rd0 rfl, by omega, by omega, unSome_mk hp' ⟨_, by rw [hj]; exact r4, iteB_not (fun c6 => no H5 x5 (fun ho => ?_)) (fun c6 => ⟨rfl, fun _ => by rw [hj]; exact c6⟩)⟩⟩
   have := ho.br c5
   rw [hj] at this
   simp only [Int.toNat_natCast] at this
   rw [c6] at this
   cases this
  ·rintro H6 ⟨rfl, hbr⟩
   unfold F_45_k1
   have hsl := hva.sl
   have ha : In64 (fnAt T k).parent := in64 (by omega)
   have hb : In64 (fnAt T k).slot := in64 (by omega)
   refine ⟨_, b5.rd0 rfl, _, b5.rd (i := 1) rfl, local_mk rfl rfl fun H8 e8 z8 b8 => ⟨_, b8.rd0 rfl, _, b8.rd (i := 1) rfl, ?_⟩⟩
   have x8 := x5.trans e8
   have m8 := ((m2.ext e4).ext e5).ext e8
   refine lookup_ps place_key (et := t_4) (by kernel_rfl) (by kernel_rfl) m8 ha hb ⟨_, rfl, iteB_dec (fun c7 => no H8 x8 (fun ho => ?_)) (fun c7 => ⟨_, b8.rd0 rfl, _, b8.rd (i := 1) rfl, update_ps place_key (et := t_4) (by kernel_rfl) m8 ha hb c7 fun H10 m10 md10 z10 => ?_⟩)⟩
   ·obtain ⟨i, hi, hie⟩ := List.mem_map.1 c7
    simp only [List.mem_range] at hi
    simp only [Prod.mk.injEq] at hie
    exact ho.un i hi hie
   ·refine next1 hkn (by omega) ⟨Mods.ext x8 md10 (by simp), fun i hi => ?_, ?_⟩
    ·by_cases e : i = k
     ·subst e
      refine ⟨hva, by omega, hbr, fun j hj hjj => c7 ?_⟩
      refine List.mem_map.2 ⟨j, by simpa using hj, ?_⟩
      rw [hjj.1, hjj.2]
     ·exact hok i (by omega)
    ·rw [tab_succ]; exact m10
 ·refine ⟨?_, e2⟩
  rw [decide_eq_true]
  exact ⟨by omega, fun i hi => hok i (by omega)⟩

end Go.Proofs.YtnhhncjflnlfaaaGreat
