/-
 Hosts in memory: the contracts of the reference's within, ValidHost, Space.
-/
import Derived.Test.YtnhhncjflnlfaaaGreatM4
namespace Go.Proofs.YtnhhncjflnlfaaaGreat
open Go.Eng
set_option linter.unusedVariables false

abbrev Rt := Int × Int × Int
def encRt (x : Rt) : List Value := [.int .i64 x.1, .int .i64 x.2.1, .int .i64 x.2.2]
theorem encRt_len (x : Rt) : (encRt x).length = 3 := rfl
theorem encRt_one (x : Rt) : ∀ u ∈ encRt x, oneC u = true := fun u hu => by simp [encRt] at hu; rcases hu with rfl | rfl | rfl <;> rfl

structure Host where
 buses : Int
 io : List Rg
 mem : List Rg
 high : List Rg
 fio : List Rg
 fix : List Rg
 links : List Int
 routes : List Rt
structure HostS where
 io : Sl
 mem : Sl
 high : Sl
 fio : Sl
 fix : Sl
 links : Sl
 routes : Sl
abbrev hostL (h : Host) (s : HostS) : List Value := [.int .i64 h.buses, .slice s.io.p s.io.n s.io.c, .slice s.mem.p s.mem.n s.mem.c, .slice s.high.p s.high.n s.high.c, .slice s.fio.p s.fio.n s.fio.c, .slice s.fix.p s.fix.n s.fix.c, .slice s.links.p s.links.n s.links.c, .slice s.routes.p s.routes.n s.routes.c]
abbrev hostV (h : Host) (s : HostS) : Value := .agg #[.int .i64 h.buses, .slice s.io.p s.io.n s.io.c, .slice s.mem.p s.mem.n s.mem.c, .slice s.high.p s.high.n s.high.c, .slice s.fio.p s.fio.n s.fio.c, .slice s.fix.p s.fix.n s.fix.c, .slice s.links.p s.links.n s.links.c, .slice s.routes.p s.routes.n s.routes.c]

structure HostM (H : Heap) (h : Host) (s : HostS) : Prop where
 io : Rgs H s.io h.io
 mem : Rgs H s.mem h.mem
 high : Rgs H s.high h.high
 fio : Rgs H s.fio h.fio
 fix : Rgs H s.fix h.fix
 links : IsS 1 (encI .u32) H s.links h.links
 routes : IsS 3 encRt H s.routes h.routes
 uio : U64L h.io
 umem : U64L h.mem
 uhigh : U64L h.high
 ufio : U64L h.fio
 ufix : U64L h.fix
theorem HostM.ext {H H' : Heap} {h : Host} {s : HostS} (m : HostM H h s) (e : Ext H H') : HostM H' h s :=
 ⟨m.io.ext e, m.mem.ext e, m.high.ext e, m.fio.ext e, m.fix.ext e, m.links.ext e, m.routes.ext e, m.uio, m.umem, m.uhigh, m.ufio, m.ufix⟩

theorem Blk.host {H : Heap} {b : Nat} {e : TypeId} {h : Host} {s : HostS} (k : Blk H b e (hostL h s)) :
  rd H (⟨b, 0, none⟩ : Addr) = some (.int .i64 h.buses) /\ rd H ((⟨b, 0, none⟩ : Addr).add 1) = some (.slice s.io.p s.io.n s.io.c) /\ rd H ((⟨b, 0, none⟩ : Addr).add 2) = some (.slice s.mem.p s.mem.n s.mem.c) /\ rd H ((⟨b, 0, none⟩ : Addr).add 3) = some (.slice s.high.p s.high.n s.high.c) /\
  rd H ((⟨b, 0, none⟩ : Addr).add 4) = some (.slice s.fio.p s.fio.n s.fio.c) /\ rd H ((⟨b, 0, none⟩ : Addr).add 5) = some (.slice s.fix.p s.fix.n s.fix.c) /\ rd H ((⟨b, 0, none⟩ : Addr).add 6) = some (.slice s.links.p s.links.n s.links.c) /\ rd H ((⟨b, 0, none⟩ : Addr).add 7) = some (.slice s.routes.p s.routes.n s.routes.c) :=
 ⟨k.rd0 rfl, k.rd (i := 1) rfl, k.rd (i := 2) rfl, k.rd (i := 3) rfl, k.rd (i := 4) rfl, k.rd (i := 5) rfl, k.rd (i := 6) rfl, k.rd (i := 7) rfl⟩

def WithinR (l : List Rg) (a b : Int) : Prop := l.length <= 16 /\ ValidR l /\ ∀ r ∈ l, a <= r.1 /\ r.1 + r.2 <= b
instance (l : List Rg) (a b : Int) : Decidable (WithinR l a b) := by unfold WithinR; infer_instance

theorem rwithin_spec (H : Heap) (s : Sl) (l : List Rg) (a b : Int) (h : Rgs H s l) (hu : U64L l) :
  CallsH Tryz.prog n_95 #[.slice s.p s.n s.c, .int .u64 a, .int .u64 b] H (fun v H' => v = .bool (decide (WithinR l a b)) /\ H' = H) := by
 refine F_95_ok _ _ _ ?_
 unfold F_95
 have hn := h.len
 have no : ¬ WithinR l a b -> (.bool false : Value) = .bool (decide (WithinR l a b)) /\ H = H := fun hh => ⟨by rw [decide_eq_false hh], rfl⟩
 refine iteB_dec (fun c => no (fun hv => by have := hv.1; omega)) (fun c => (rValidRanges_spec H s l h hu).mono ?_)
 rintro v H1 ⟨rfl, rfl⟩
 refine ⟨_, rfl, iteB_not (fun d => no (fun hv => by simp at d; exact d hv.2.1)) (fun d => ?_)⟩
 have hv : ValidR l := by simpa using d
 refine loop1 l.length (fun k H' => H' = H1 /\ ∀ i, i < k -> a <= (l.getD i (0, 0)).1 /\ (l.getD i (0, 0)).1 + (l.getD i (0, 0)).2 <= b) ⟨rfl, fun i hi => by omega⟩ ?_
 rintro k H2 hk ⟨rfl, hok⟩
 unfold F_95_r1
 refine iteB_dec (fun c1 => ?_) (fun c1 => ⟨?_, rfl⟩)
 ·have hkn : k < l.length := by omega
  obtain ⟨q, hq, r0, r1⟩ := h.atN hkn
  have hm := getD_mem' (0, 0) hkn
  have hr := hv.2 _ hm
  have hbad : ¬ (a <= (l.getD k (0, 0)).1 /\ (l.getD k (0, 0)).1 + (l.getD k (0, 0)).2 <= b) -> ¬ WithinR l a b := fun hh hw => hh (hw.2.2 _ hm)
  generalize hre : l.getD k (0, 0) = r at *
  unfold RgOk at hr
  refine ⟨by omega, by omega, unSome_mk hq ⟨_, r0, iteB_dec (fun d1 => no (hbad (by omega))) (fun d1 => ⟨by omega, by omega, unSome_mk hq ⟨_, r0, by omega, by omega, unSome_mk hq ⟨_, r1, ?_⟩⟩⟩)⟩⟩
  rw [u64_in (n := r.1 + r.2) (by omega)]
  refine iteB_dec (fun d2 => no (hbad (by omega))) (fun d2 => letV_mk _ rfl (next1 hkn (by omega) ⟨rfl, fun i hi => ?_⟩))
  by_cases e : i = k
  ·subst e; rw [hre]; omega
  ·exact hok i (by omega)
 ·rw [decide_eq_true]
  exact ⟨by omega, hv, all_of_getD (Q := fun r => a <= r.1 /\ r.1 + r.2 <= b) (0, 0) (fun i hi => hok i (by omega))⟩

def RtOk (n : Nat) (x : Rt) : Prop := (0 <= x.1 /\ x.1 <= 31) /\ (1 <= x.2.1 /\ x.2.1 <= 4) /\ (0 <= x.2.2 /\ x.2.2 < n)
instance (n : Nat) (x : Rt) : Decidable (RtOk n x) := by unfold RtOk; infer_instance
structure ValidH (h : Host) : Prop where
 bu : 1 <= h.buses /\ h.buses <= 256
 li : h.links.length <= 16
 ro : h.routes.length <= 128
 io : WithinR h.io 0 65536
 fio : WithinR h.fio 0 65536
 mem : WithinR h.mem 0 4294967296
 fix : WithinR h.fix 0 4503599627370496
 high : WithinR h.high 4294967296 4503599627370496
 rt : ∀ x ∈ h.routes, RtOk h.links.length x
theorem ValidH_iff (h : Host) : ValidH h ↔ (1 <= h.buses /\ h.buses <= 256) /\ h.links.length <= 16 /\ h.routes.length <= 128 /\ WithinR h.io 0 65536 /\ WithinR h.fio 0 65536 /\ WithinR h.mem 0 4294967296 /\ WithinR h.fix 0 4503599627370496 /\ WithinR h.high 4294967296 4503599627370496 /\ ∀ x ∈ h.routes, RtOk h.links.length x :=
 ⟨fun ⟨a, b, c, d, e, f, g, i, j⟩ => ⟨a, b, c, d, e, f, g, i, j⟩, fun ⟨a, b, c, d, e, f, g, i, j⟩ => ⟨a, b, c, d, e, f, g, i, j⟩⟩
instance (h : Host) : Decidable (ValidH h) := decidable_of_iff _ (ValidH_iff h).symm

theorem rValidHost_spec (h : Host) (s : HostS) (H : Heap) (m : HostM H h s) : CallsH Tryz.prog n_61 #[hostV h s] H (BoolP (decide (ValidH h)) H) := by
 refine F_61_ok _ _ _ _ _ _ _ _ ?_
 unfold F_61
 have bad : ∀ H', Ext H H' -> ¬ ValidH h -> BoolP (decide (ValidH h)) H (.bool false) H' := fun H' he hn => ⟨by rw [decide_eq_false hn], he⟩
 refine push_mk (vs := hostL h s) fun H1 e1 z1 b1 => ?_
 obtain ⟨p0, p1, p2, p3, p4, p5, p6, p7⟩ := Blk.host b1
 have hln := m.links.len
 have hrn := m.routes.len
 have m1 := m.ext e1
 refine ⟨_, p0, iteB_dec (fun c => bad _ e1 (fun hv => by have := hv.bu; omega)) (fun c1 => ⟨_, p0, iteB_dec (fun c => bad _ e1 (fun hv => by have := hv.bu; omega)) (fun c2 => ⟨_, p6, iteB_dec (fun c => bad _ e1 (fun hv => by have := hv.li; omega)) (fun c3 => ⟨_, p7, iteB_dec (fun c => bad _ e1 (fun hv => by have := hv.ro; omega)) (fun c4 => ⟨_, p1, (rwithin_spec H1 s.io h.io _ _ m1.io m.uio).mono ?_⟩)⟩)⟩)⟩)⟩
 rintro v _ ⟨rfl, rfl⟩
 refine ⟨_, rfl, iteB_not (fun c => bad _ e1 (fun hv => by simp at c; exact c hv.io)) (fun d1 => ⟨_, p4, (rwithin_spec _ s.fio h.fio _ _ m1.fio m.ufio).mono ?_⟩)⟩
 rintro v _ ⟨rfl, rfl⟩
 refine ⟨_, rfl, iteB_not (fun c => bad _ e1 (fun hv => by simp at c; exact c hv.fio)) (fun d2 => ⟨_, p2, (rwithin_spec _ s.mem h.mem _ _ m1.mem m.umem).mono ?_⟩)⟩
 rintro v _ ⟨rfl, rfl⟩
 refine ⟨_, rfl, iteB_not (fun c => bad _ e1 (fun hv => by simp at c; exact c hv.mem)) (fun d3 => ⟨_, p5, (rwithin_spec _ s.fix h.fix _ _ m1.fix m.ufix).mono ?_⟩)⟩
 rintro v _ ⟨rfl, rfl⟩
 refine ⟨_, rfl, iteB_not (fun c => bad _ e1 (fun hv => by simp at c; exact c hv.fix)) (fun d4 => ⟨_, p3, (rwithin_spec _ s.high h.high _ _ m1.high m.uhigh).mono ?_⟩)⟩
 rintro v H6 ⟨rfl, rfl⟩
 refine ⟨_, rfl, iteB_not (fun c => bad _ e1 (fun hv => by simp at c; exact c hv.high)) (fun d5 => ?_)⟩
 refine loop1 h.routes.length (fun k H' => Ext H6 H' /\ ∀ i, i < k -> RtOk h.links.length (h.routes.getD i (0, 0, 0))) ⟨.refl _, fun i hi => by omega⟩ ?_
 rintro k H7 hk ⟨e7, hok⟩
 unfold F_61_r1
 have q7 := (Blk.host (b1.ext e7)).2.2.2.2.2.2.2
 have x7 := e1.trans e7
 refine ⟨_, q7, iteB_dec (fun c => ?_) (fun c => ⟨?_, x7⟩)⟩
 ·have hkn : k < h.routes.length := by omega
  obtain ⟨a, hp, hr⟩ := IsS.atN (m.routes.ext x7) (0, 0, 0) hkn
  have hbad : ¬ RtOk h.links.length (h.routes.getD k (0, 0, 0)) -> ¬ ValidH h := fun hh hv => hh (hv.rt _ (getD_mem' (0, 0, 0) hkn))
  generalize hxe : h.routes.getD k (0, 0, 0) = x at *
  obtain ⟨x0, x1, x2⟩ := x
  refine ⟨_, q7, by omega, by omega, unSome_mk hp ⟨_, hr 0 _ rfl, _, hr 1 _ rfl, _, hr 2 _ rfl, local_mk (vs := encRt (x0, x1, x2)) rfl rfl fun H9 e9 z9 b9 => ?_⟩⟩
  have x9 := x7.trans e9
  have q6 := (Blk.host ((b1.ext e7).ext e9)).2.2.2.2.2.2.1
  unfold RtOk at hbad
  dsimp only at hbad
  refine ⟨x0, b9.rd0 rfl, iteB_dec (fun d => bad _ x9 (hbad (by omega))) (fun f1 => ⟨x0, b9.rd0 rfl, iteB_dec (fun d => bad _ x9 (hbad (by omega))) (fun f2 => ⟨x1, b9.rd (i := 1) rfl, iteB_dec (fun d => bad _ x9 (hbad (by omega))) (fun f3 => ⟨x1, b9.rd (i := 1) rfl, iteB_dec (fun d => bad _ x9 (hbad (by omega))) (fun f4 => ⟨x2, b9.rd (i := 2) rfl, iteB_dec (fun d => bad _ x9 (hbad (by omega))) (fun f5 => ⟨x2, b9.rd (i := 2) rfl, _, q6, iteB_dec (fun d => bad _ x9 (hbad (by omega))) (fun f6 => letV_mk _ rfl (next1 hkn (by omega) ⟨e7.trans e9, fun i hi => ?_⟩))⟩)⟩)⟩)⟩)⟩)⟩
  by_cases e : i = k
  ·subst e; rw [hxe]; unfold RtOk; dsimp only; omega
  ·exact hok i (by omega)
 ·rw [decide_eq_true]
  simp at d1 d2 d3 d4 d5
  exact ⟨by omega, by omega, by omega, d1, d2, d3, d4, d5, all_of_getD (Q := RtOk h.links.length) (0, 0, 0) (fun i hi => hok i (by omega))⟩

def spaceF (h : Host) (c : Int) : List Rg := if c = 0 then freeF h.io h.fio else if c = 1 then freeF h.mem h.fix else freeF h.high h.fix

theorem freeF_valid {l f : List Rg} (hl : ValidR l) (hf : ValidR f) (hn : l.length + f.length <= 1024) : ValidR (freeF l f) /\ Asc (freeF l f) := by
 obtain ⟨vm, am⟩ := hl.merge
 have hl1 : ∀ x ∈ l, 1 <= x.2 := fun x hx => (hl.2 x hx).1
 have hml := (mergeF_spec hl1).2.2
 have key : ∀ (g m : List Rg), (∀ x ∈ g, 1 <= x.2) -> Asc m -> (∀ r ∈ m, RgOk r) -> Asc (g.foldl rmF m) /\ (∀ r ∈ g.foldl rmF m, RgOk r) /\ (g.foldl rmF m).length <= m.length + g.length := by
  intro g
  induction g with
  | nil => intro m _ ha hr; exact ⟨ha, hr, by simp⟩
  | cons x g ih =>
   intro m hx ha hr
   have h1 := hx x (by simp)
   obtain ⟨r1, _, r3⟩ := rmF_spec ha h1
   obtain ⟨i1, i2, i3⟩ := ih (rmF m x) (fun y hy => hx y (by simp [hy])) r1 (fun q hq => by
    obtain ⟨f, hf, g1, g2⟩ := r3 q hq
    have := hr f hf
    have := Asc.len r1 q hq
    unfold RgOk at *
    omega)
   refine ⟨i1, i2, ?_⟩
   have := rmF_len1 ha h1
   rw [List.foldl_cons, List.length_cons]
   omega
 obtain ⟨k1, k2, k3⟩ := key f (mergeF l) (fun x hx => (hf.2 x hx).1) am vm.2
 exact ⟨⟨by unfold freeF; omega, k2⟩, k1⟩
theorem ValidR.u64 {l : List Rg} (h : ValidR l) : U64L l := fun r hr => by have := h.2 r hr; unfold RgOk at this; omega
theorem spaceF_valid {h : Host} (hv : ValidH h) (c : Int) : ValidR (spaceF h c) /\ Asc (spaceF h c) := by
 unfold spaceF
 have a1 := hv.io; have a2 := hv.fio; have a3 := hv.mem; have a4 := hv.fix; have a5 := hv.high
 unfold WithinR at *
 split
 ·exact freeF_valid a1.2.1 a2.2.1 (by omega)
 ·split
  ·exact freeF_valid a3.2.1 a4.2.1 (by omega)
  ·exact freeF_valid a5.2.1 a4.2.1 (by omega)

theorem rSpace_spec (h : Host) (s : HostS) (c : Int) (H : Heap) (m : HostM H h s) (hv : ValidH h) : CallsH Tryz.prog n_19 #[hostV h s, .int .i64 c] H (RgP (spaceF h c) H) := by
 refine F_19_ok _ _ _ _ _ _ _ _ _ ?_
 unfold F_19
 refine push_mk (vs := hostL h s) fun H1 e1 z1 b1 => ?_
 obtain ⟨p0, p1, p2, p3, p4, p5, p6, p7⟩ := Blk.host b1
 have m1 := m.ext e1
 have a1 := hv.io.2.1; have a2 := hv.fio.2.1; have a3 := hv.mem.2.1; have a4 := hv.fix.2.1; have a5 := hv.high.2.1
 have fin : ∀ (L : List Rg) v H2, spaceF h c = L -> RgP L H1 v H2 -> ∃ x : Sl, v = .slice x.p x.n x.c /\ RgP (spaceF h c) H (.slice x.p x.n x.c) H2 := fun L v H2 hL ⟨o, hv, ho, he⟩ => ⟨o, hv, o, rfl, by rw [hL]; exact own_lo ho e1.size, e1.trans he⟩
 refine iteB_beq (fun d => ⟨_, p1, _, p4, (rFree_spec H1 s.io s.fio h.io h.fio m1.io m1.fio m.uio m.ufio).mono ?_⟩) (fun d => iteB_beq (fun d1 => ⟨_, p2, _, p5, (rFree_spec H1 s.mem s.fix h.mem h.fix m1.mem m1.fix m.umem m.ufix).mono ?_⟩) (fun d1 => ⟨_, p3, _, p5, (rFree_spec H1 s.high s.fix h.high h.fix m1.high m1.fix m.uhigh m.ufix).mono ?_⟩))
 ·intro v H2 h2
  rw [if_pos ⟨a1, a2⟩] at h2
  exact fin _ v H2 (by unfold spaceF; rw [if_pos d]) h2
 ·intro v H2 h2
  rw [if_pos ⟨a3, a4⟩] at h2
  exact fin _ v H2 (by unfold spaceF; rw [if_neg d, if_pos d1]) h2
 ·intro v H2 h2
  rw [if_pos ⟨a5, a4⟩] at h2
  exact fin _ v H2 (by unfold spaceF; rw [if_neg d, if_neg d1]) h2

end Go.Proofs.YtnhhncjflnlfaaaGreat
