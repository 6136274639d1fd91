/-
 The program's allocate: within, validRanges, ValidHost, placeable, demand, countBlocks, certificate.
-/
import Derived.Test.YtnhhncjflnlfaaaGreatM5
namespace Go.Proofs.YtnhhncjflnlfaaaGreat
open Go.Eng
set_option linter.unusedVariables false

def InR (l : List Rg) (a b : Int) : Prop := ∀ r ∈ l, 1 <= r.2 /\ a <= r.1 /\ r.1 + r.2 <= b
instance (l : List Rg) (a b : Int) : Decidable (InR l a b) := by unfold InR; infer_instance

theorem within_spec (H : Heap) (s : Sl) (l : List Rg) (a b : Int) (h : Rgs H s l) (hu : U64L l) (ha : 0 <= a /\ a <= b /\ b <= 18446744073709551615) (hl : l.length <= 9223372036854775807) :
  CallsH Tryz.prog n_84 #[.slice s.p s.n s.c, .int .u64 a, .int .u64 b] H (BoolP (decide (InR l a b)) H) := by
 refine F_84_ok _ _ _ ?_
 unfold F_84
 have hn := h.len
 have no : ∀ H', Ext H H' -> ¬ InR l a b -> BoolP (decide (InR l a b)) H (.bool false) H' := fun H' e hh => ⟨by rw [decide_eq_false hh], e⟩
 refine loop1 l.length (fun k H' => Ext H H' /\ ∀ i, i < k -> 1 <= (l.getD i (0, 0)).2 /\ a <= (l.getD i (0, 0)).1 /\ (l.getD i (0, 0)).1 + (l.getD i (0, 0)).2 <= b) ⟨.refl _, fun i hi => by omega⟩ ?_
 rintro k H1 hk ⟨e1, hok⟩
 unfold F_84_r1
 refine iteB_dec (fun c1 => ?_) (fun c1 => ⟨?_, e1⟩)
 ·have hkn : k < l.length := by omega
  obtain ⟨q, hq, r0, r1⟩ := Rgs.atN (h.ext e1) hkn
  have hm := getD_mem' (0, 0) hkn
  have hur := hu _ hm
  have hbad : ¬ (1 <= (l.getD k (0, 0)).2 /\ a <= (l.getD k (0, 0)).1 /\ (l.getD k (0, 0)).1 + (l.getD k (0, 0)).2 <= b) -> ¬ InR l a b := fun hh hv => hh (hv _ hm)
  generalize hre : l.getD k (0, 0) = r at *
  refine ⟨by omega, by omega, unSome_mk hq ⟨_, r0, _, r1, local_mk (vs := encR r) rfl rfl fun H3 e3 z3 b3 => ?_⟩⟩
  have x3 := e1.trans e3
  have p0 := b3.rd0 (v := .int .u64 r.1) rfl
  have p1 := b3.rd (i := 1) (v := .int .u64 r.2) rfl
  refine ⟨_, p1, iteB_dec (fun d => no _ x3 (hbad (by omega))) (fun d1 => ⟨_, p0, iteB_dec (fun d => no _ x3 (hbad (by omega))) (fun d2 => ⟨_, p0, iteB_dec (fun d => no _ x3 (hbad (by omega))) (fun d3 => ⟨_, p1, _, p0, ?_⟩)⟩)⟩)⟩
  rw [u64_in (n := b - r.1) (by omega)]
  refine iteB_dec (fun d => no _ x3 (hbad (by omega))) (fun d4 => next1 hkn (by omega) ⟨x3, fun i hi => ?_⟩)
  by_cases e : i = k
  ·subst e; rw [hre]; omega
  ·exact hok i (by omega)
 ·rw [decide_eq_true]
  exact all_of_getD (Q := fun r => 1 <= r.2 /\ a <= r.1 /\ r.1 + r.2 <= b) (0, 0) (fun i hi => hok i (by omega))

theorem validRanges_spec (H : Heap) (s : Sl) (l : List Rg) (h : Rgs H s l) (hu : U64L l) :
  CallsH Tryz.prog n_83 #[.slice s.p s.n s.c] H (BoolP (decide (ValidR l)) H) := by
 refine F_83_ok _ ?_
 unfold F_83
 have hn := h.len
 refine iteB_dec (fun c => (within_spec H s l 0 4503599627370496 h hu (by omega) (by omega)).mono ?_) (fun c => ⟨by rw [decide_eq_false]; intro hv; have := hv.1; omega, .refl _⟩)
 rintro v H1 ⟨rfl, e1⟩
 refine ⟨_, rfl, ?_, e1⟩
 congr 1
 exact decide_eq_decide.2 ⟨fun hh => ⟨by omega, hh⟩, fun hh => hh.2⟩

theorem ValidHost_spec (h : Host) (s : HostS) (H : Heap) (m : HostM H h s) : CallsH Tryz.prog n_46 #[hostV h s] H (BoolP (decide (ValidH h)) H) := by
 refine F_46_ok _ _ _ _ _ _ _ _ ?_
 unfold F_46
 have bad : ∀ H', Ext H H' -> ¬ ValidH h -> BoolP (decide (ValidH h)) H (.bool false) H' := fun H' he hn => ⟨by rw [decide_eq_false hn], he⟩
 refine push_mk (vs := hostL h s) fun H1 e1 z1 b1 => ?_
 obtain ⟨p0, p1, p2, p3, p4, p5, p6, p7⟩ := Blk.host b1
 refine ⟨_, p0, iteB_dec (fun c => bad _ e1 (fun hv => by have := hv.bu; omega)) (fun c1 => ⟨_, p0, iteB_dec (fun c => bad _ e1 (fun hv => by have := hv.bu; omega)) (fun c2 => ⟨_, p1, _, p2, _, p3, _, p4, _, p5, ?_⟩)⟩)⟩
 refine push_mk (vs := [.slice s.io.p s.io.n s.io.c, .slice s.mem.p s.mem.n s.mem.c, .slice s.high.p s.high.n s.high.c, .slice s.fio.p s.fio.n s.fio.c, .slice s.fix.p s.fix.n s.fix.c]) fun H2 e2 z2 b2 => ?_
 have x2 := e1.trans e2
 let LS : List (Sl × List Rg) := [(s.io, h.io), (s.mem, h.mem), (s.high, h.high), (s.fio, h.fio), (s.fix, h.fix)]
 have hLS : ∀ x ∈ LS, (Rgs H x.1 x.2 /\ U64L x.2) /\ (ValidH h -> x.2.length <= 16 /\ ValidR x.2) := by
  intro x hx
  simp only [LS, List.mem_cons, List.not_mem_nil, or_false] at hx
  rcases hx with rfl | rfl | rfl | rfl | rfl
  ·exact ⟨⟨m.io, m.uio⟩, fun hv => ⟨hv.io.1, hv.io.2.1⟩⟩
  ·exact ⟨⟨m.mem, m.umem⟩, fun hv => ⟨hv.mem.1, hv.mem.2.1⟩⟩
  ·exact ⟨⟨m.high, m.uhigh⟩, fun hv => ⟨hv.high.1, hv.high.2.1⟩⟩
  ·exact ⟨⟨m.fio, m.ufio⟩, fun hv => ⟨hv.fio.1, hv.fio.2.1⟩⟩
  ·exact ⟨⟨m.fix, m.ufix⟩, fun hv => ⟨hv.fix.1, hv.fix.2.1⟩⟩
 have hat : ∀ (H' : Heap), Ext H2 H' -> ∀ (k : Nat) (hk : k < 5), rd H' ((⟨H1.size, 0, none⟩ : Addr).add (((k : Int)).toNat * 1)) = some (.slice (LS[k]'hk).1.p (LS[k]'hk).1.n (LS[k]'hk).1.c) := by
  intro H' e' k hk
  have b' := b2.ext e'
  rw [Int.toNat_natCast, Nat.mul_one]
  refine b'.rd ?_
  rcases (by omega : k = 0 \/ k = 1 \/ k = 2 \/ k = 3 \/ k = 4) with rfl | rfl | rfl | rfl | rfl <;> rfl
 have hlen : LS.length = 5 := rfl
 refine loop1 5 (fun k H' => Ext H2 H' /\ ∀ i, (hi : i < 5) -> i < k -> (LS[i]'hi).2.length <= 16 /\ ValidR (LS[i]'hi).2) ⟨.refl _, fun i hi h0 => by omega⟩ ?_
 rintro k H3 hk ⟨e3, hok⟩
 unfold F_46_r2
 have x3 := x2.trans e3
 refine iteB_dec (fun c => ?_) (fun c => ?_)
 ·have hk5 : k < 5 := by omega
  have hmem : LS[k]'hk5 ∈ LS := List.getElem_mem _
  obtain ⟨⟨hr, hru⟩, hval⟩ := hLS _ hmem
  have hrn := hr.len
  refine ⟨by omega, by omega, _, hat H3 e3 k hk5, iteB_dec (fun d => bad _ x3 (fun hv => by have := (hval hv).1; omega)) (fun d => (validRanges_spec H3 _ _ (hr.ext x3) hru).mono ?_)⟩
  rintro v H4 ⟨rfl, e4⟩
  refine ⟨_, rfl, iteB_not (fun d1 => bad _ (x3.trans e4) (fun hv => by simp at d1; exact d1 (hval hv).2)) (fun d1 => next1 hk5 (by omega) ⟨e3.trans e4, fun i hi hik => ?_⟩)⟩
  by_cases e : i = k
  ·subst e; exact ⟨by omega, by simpa using d1⟩
  ·exact hok i hi (by omega)
 ·have hall : ∀ x ∈ LS, x.2.length <= 16 /\ ValidR x.2 := fun x hx => by
   obtain ⟨i, hi, rfl⟩ := List.getElem_of_mem hx
   exact hok i hi (by omega)
  have g1 : h.io.length <= 16 /\ ValidR h.io := hall (s.io, h.io) (by simp [LS])
  have g2 : h.mem.length <= 16 /\ ValidR h.mem := hall (s.mem, h.mem) (by simp [LS])
  have g3 : h.high.length <= 16 /\ ValidR h.high := hall (s.high, h.high) (by simp [LS])
  have g4 : h.fio.length <= 16 /\ ValidR h.fio := hall (s.fio, h.fio) (by simp [LS])
  have g5 : h.fix.length <= 16 /\ ValidR h.fix := hall (s.fix, h.fix) (by simp [LS])
  clear hat hok hLS hall
  clear LS hlen
  have inR : ∀ {l : List Rg} {a b : Int}, WithinR l a b -> ValidR l -> InR l a b := fun hw hv r hr => ⟨(hv.2 r hr).1, hw.2.2 r hr⟩
  have wiR : ∀ {l : List Rg} {a b : Int}, InR l a b -> l.length <= 16 -> ValidR l -> WithinR l a b := fun hi hl hv => ⟨hl, hv, fun r hr => (hi r hr).2⟩
  obtain ⟨p0, p1, p2, p3, p4, p5, p6, p7⟩ := Blk.host (b1.ext (e2.trans e3))
  refine ⟨_, p1, (within_spec H3 s.io h.io 0 65536 (m.io.ext x3) m.uio (by omega) (by omega)).mono ?_⟩
  rintro v H5 ⟨rfl, e5⟩
  have x5 := x3.trans e5
  obtain ⟨p0, p1, p2, p3, p4, p5, p6, p7⟩ := Blk.host (b1.ext ((e2.trans e3).trans e5))
  refine ⟨_, rfl, iteB_not (fun d => bad _ x5 (fun hv => by simp at d; exact d (inR hv.io g1.2))) (fun d1 => ⟨_, p4, (within_spec H5 s.fio h.fio 0 65536 (m.fio.ext x5) m.ufio (by omega) (by omega)).mono ?_⟩)⟩
  rintro v H6 ⟨rfl, e6⟩
  have x6 := x5.trans e6
  obtain ⟨p0, p1, p2, p3, p4, p5, p6, p7⟩ := Blk.host (b1.ext (((e2.trans e3).trans e5).trans e6))
  refine ⟨_, rfl, iteB_not (fun d => bad _ x6 (fun hv => by simp at d; exact d (inR hv.fio g4.2))) (fun d2 => ⟨_, p2, (within_spec H6 s.mem h.mem 0 4294967296 (m.mem.ext x6) m.umem (by omega) (by omega)).mono ?_⟩)⟩
  rintro v H7 ⟨rfl, e7⟩
  have x7 := x6.trans e7
  obtain ⟨p0, p1, p2, p3, p4, p5, p6, p7⟩ := Blk.host (b1.ext ((((e2.trans e3).trans e5).trans e6).trans e7))
  refine ⟨_, rfl, iteB_not (fun d => bad _ x7 (fun hv => by simp at d; exact d (inR hv.mem g2.2))) (fun d3 => ⟨_, p3, (within_spec H7 s.high h.high 4294967296 4503599627370496 (m.high.ext x7) m.uhigh (by omega) (by omega)).mono ?_⟩)⟩
  rintro v H8 ⟨rfl, e8⟩
  have x8 := x7.trans e8
  have b8 := b1.ext (((((e2.trans e3).trans e5).trans e6).trans e7).trans e8)
  obtain ⟨p0, p1, p2, p3, p4, p5, p6, p7⟩ := Blk.host b8
  have hln := m.links.len
  have hrn := m.routes.len
  simp at d1 d2 d3
  refine ⟨_, rfl, iteB_not (fun d => bad _ x8 (fun hv => by simp at d; exact d (inR hv.high g3.2))) (fun d4 => ⟨_, p6, iteB_dec (fun d => bad _ x8 (fun hv => by have := hv.li; omega)) (fun d5 => ⟨_, p7, iteB_dec (fun d => bad _ x8 (fun hv => by have := hv.ro; omega)) (fun d6 => ⟨_, p7, ?_⟩)⟩)⟩)⟩
  simp at d4
  refine loop1 h.routes.length (fun k H' => Ext H8 H' /\ ∀ i, i < k -> RtOk h.links.length (h.routes.getD i (0, 0, 0))) ⟨.refl _, fun i hi => by omega⟩ ?_
  rintro k H9 hk ⟨e9, hok⟩
  unfold F_46_r1
  have x9 := x8.trans e9
  refine iteB_dec (fun c1 => ?_) (fun c1 => ⟨?_, x9⟩)
  ·have hkn : k < h.routes.length := by omega
   obtain ⟨q, hq, hr⟩ := IsS.atN (m.routes.ext x9) (0, 0, 0) hkn
   have hm := getD_mem' (0, 0, 0) hkn
   have hbad : ¬ RtOk h.links.length (h.routes.getD k (0, 0, 0)) -> ¬ ValidH h := fun hh hv => hh (hv.rt _ hm)
   generalize hre : h.routes.getD k (0, 0, 0) = r at *
   unfold RtOk at hbad
   refine ⟨by omega, by omega, unSome_mk hq ⟨_, hr 0 _ rfl, _, hr 1 _ rfl, _, hr 2 _ rfl, local_mk (vs := encRt r) rfl rfl fun H11 e11 z11 b11 => ?_⟩⟩
   have x11 := x9.trans e11
   have q0 := b11.rd0 (v := .int .i64 r.1) rfl
   have q1 := b11.rd (i := 1) (v := .int .i64 r.2.1) rfl
   have q2 := b11.rd (i := 2) (v := .int .i64 r.2.2) rfl
   have q6 := (b8.ext (e9.trans e11)).rd (i := 6) (v := .slice s.links.p s.links.n s.links.c) rfl
   refine ⟨_, q0, iteB_dec (fun d => bad _ x11 (hbad (by omega))) (fun f1 => ⟨_, q0, iteB_dec (fun d => bad _ x11 (hbad (by omega))) (fun f2 => ⟨_, q1, iteB_dec (fun d => bad _ x11 (hbad (by omega))) (fun f3 => ⟨_, q1, iteB_dec (fun d => bad _ x11 (hbad (by omega))) (fun f4 => ⟨_, q2, iteB_dec (fun d => bad _ x11 (hbad (by omega))) (fun f5 => ⟨_, q2, _, q6, iteB_dec (fun d => bad _ x11 (hbad (by omega))) (fun f6 => next1 hkn (by omega) ⟨e9.trans e11, fun i hi => ?_⟩)⟩)⟩)⟩)⟩)⟩)⟩
   by_cases e : i = k
   ·subst e; rw [hre]; exact ⟨by omega, by omega, by omega⟩
   ·exact hok i (by omega)
  ·rw [decide_eq_true]
   exact ⟨by omega, by omega, by omega, wiR d1 g1.1 g1.2, wiR d2 g4.1 g4.2, wiR d3 g2.1 g2.2, ⟨g5.1, g5.2, fun r hr => by have := g5.2.2 r hr; unfold RgOk at this; omega⟩, wiR d4 g3.1 g3.2, all_of_getD (0, 0, 0) (fun i hi => hok i (by omega))⟩

theorem placeable_spec (H : Heap) (s t : Sl) (l : List Rg) (S : List Int) (h : Rgs H s l) (hu : U64L l) (hS : Ints .i64 H t S) :
  CallsH Tryz.prog n_55 #[.slice s.p s.n s.c, .slice t.p t.n t.c] H (BoolP (decide (ValidR l /\ ItemsOk S)) H) := by
 refine F_55_ok _ _ ?_
 unfold F_55
 have hn := hS.len
 have no : ∀ H', Ext H H' -> ¬ (ValidR l /\ ItemsOk S) -> BoolP (decide (ValidR l /\ ItemsOk S)) H (.bool false) H' := fun H' e hh => ⟨by rw [decide_eq_false hh], e⟩
 refine (validRanges_spec H s l h hu).mono ?_
 rintro v H1 ⟨rfl, e1⟩
 refine ⟨_, rfl, iteB_not (fun d => no _ e1 (fun hv => by simp at d; exact d hv.1)) (fun d => iteB_dec (fun c => no _ e1 (fun hv => by have := hv.2.1; omega)) (fun c => ?_))⟩
 have hv : ValidR l := by simpa using d
 refine loop1 S.length (fun k H' => H' = H1 /\ ∀ i, i < k -> 0 <= S.getD i 0 /\ S.getD i 0 <= 44) ⟨rfl, fun i hi => by omega⟩ ?_
 rintro k H2 hk ⟨rfl, hok⟩
 unfold F_55_r1
 refine iteB_dec (fun c1 => ?_) (fun c1 => ⟨?_, e1⟩)
 ·have hkn : k < S.length := by omega
  obtain ⟨a, hp, hr⟩ := Ints.atN (hS.ext e1) hkn
  have hm := getD_mem' 0 hkn
  have hbad : ¬ (0 <= S.getD k 0 /\ S.getD k 0 <= 44) -> ¬ (ValidR l /\ ItemsOk S) := fun hh hv => hh (hv.2.2 _ hm)
  generalize hre : S.getD k 0 = x at *
  refine ⟨by omega, by omega, unSome_mk hp ⟨_, hr, iteB_dec (fun d => no _ e1 (hbad (by omega))) (fun d1 => iteB_dec (fun d => no _ e1 (hbad (by omega))) (fun d2 => next1 hkn (by omega) ⟨rfl, fun i hi => ?_⟩))⟩⟩
  by_cases e : i = k
  ·subst e; rw [hre]; omega
  ·exact hok i (by omega)
 ·rw [decide_eq_true]
  exact ⟨hv, by omega, all_of_getD (Q := fun x => 0 <= x /\ x <= 44) 0 (fun i hi => hok i (by omega))⟩

theorem min64' {k : Int} (h0 : 0 <= k) (h1 : k <= 60) : min k.toNat IntKind.u64.bits = k.toNat := by
 have : IntKind.u64.bits = 64 := rfl
 rw [this]; omega
theorem shl1' {k : Int} (h0 : 0 <= k) (h1 : k <= 60) : IntKind.u64.wrap ((1 : Int) * 2 ^ (min k.toNat IntKind.u64.bits)) = 2 ^ k.toNat := by
 rw [min64' h0 h1, Int.one_mul]
 have := pw_small (w := k.toNat) (by omega)
 have := pow_pos2 k.toNat
 exact u64_in (by omega)

theorem demand_spec (H : Heap) (s : Sl) (S : List Int) (k : Int) (h : Ints .i64 H s S) (hS : ItemsOk S) : CallsH Tryz.prog n_56 #[.slice s.p s.n s.c, .int .i64 k] H (fun v H' => v = .int .u64 (demI k S) /\ H' = H) := by
 refine F_56_ok _ _ ?_
 unfold F_56
 have hn := h.len
 have hl := hS.1
 refine loop2 S.length (fun i (n : Int) H' => n = demI k (S.take i) /\ H' = H) ⟨rfl, rfl⟩ ?_
 rintro i n H1 hi ⟨rfl, rfl⟩
 unfold F_56_r1
 refine iteB_dec (fun d1 => ?_) (fun d1 => ?_)
 ·have hin : i < S.length := by omega
  obtain ⟨a, hp, hr⟩ := Ints.atN h hin
  have hx := hS.2 _ (getD_mem' 0 hin)
  have htk := take_succ_d (0 : Int) hin
  have hp44 := pow44 hx
  have hd := demI_range k (hS.2.takeN i)
  have hlen : ((S.take i).length : Int) <= 1024 := by simp; omega
  generalize S.getD i 0 = x at *
  have hstep : demI k (S.take (i + 1)) = demI k (S.take i) + (if x >= k then 2 ^ x.toNat else 0) := by rw [htk, demI_append]; simp [demI]
  refine ⟨by omega, by omega, unSome_mk hp ⟨_, hr, iteB_dec (fun d => ⟨by omega, letV_mk (demI k (S.take (i + 1))) ?_ (next2 hin (by omega) ⟨rfl, rfl⟩)⟩) (fun d => next2 hin (by omega) ⟨?_, rfl⟩)⟩⟩
  ·rw [shl1' hx.1 (by omega), hstep, if_pos d]
   exact u64_in (by omega)
  ·rw [hstep, if_neg d, Int.add_zero]
 ·obtain rfl : i = S.length := by omega
  rw [List.take_length]
  exact ⟨rfl, rfl⟩

theorem fdiv_pow (a : Int) (k : Nat) : a.fdiv (2 ^ k) = a / 2 ^ k := Int.fdiv_eq_ediv_of_nonneg _ (by have := pow_pos2 k; omega)

theorem countBlocks_spec (H : Heap) (s : Sl) (M : List Rg) (k : Int) (h : Rgs H s M) (hk : 0 <= k /\ k <= 52) (vm : ValidR M) (am : Asc M) :
  CallsH Tryz.prog n_90 #[.slice s.p s.n s.c, .int .i64 k] H (fun v H' => v = .int .u64 (blkN (2 ^ k.toNat) M) /\ Ext H H') := by
 refine F_90_ok _ _ ?_
 unfold F_90
 have hn := h.len
 have hml := vm.1
 have hP := pow_pos2 k.toNat
 have hP2 := pw_52 (w := k.toNat) (by omega)
 have htot := (valid_blk vm am k.toNat).2
 refine ⟨by omega, letV_mk (2 ^ k.toNat) (shl1' (by omega) (by omega)) ?_⟩
 refine loop2 M.length (fun i (n : Int) H' => n = blkN (2 ^ k.toNat) (M.take i) /\ Ext H H') ⟨rfl, .refl _⟩ ?_
 rintro i n H3 hi ⟨rfl, e3⟩
 unfold F_90_r1
 refine iteB_dec (fun d1 => ?_) (fun d1 => ?_)
 ·have hin : i < M.length := by omega
  obtain ⟨a, hp, r0, r1⟩ := Rgs.atN (h.ext e3) hin
  have hr := vm.2 _ (getD_mem' (0, 0) hin)
  have hstep := blkN_succ (P := 2 ^ k.toNat) hin
  have hle := blkN_take_le (2 ^ k.toNat) M (i + 1)
  have hnn := blkN_nn (2 ^ k.toNat) (M.take i)
  generalize M.getD i (0, 0) = r at *
  unfold RgOk at hr
  refine ⟨by omega, by omega, unSome_mk hp ⟨_, r0, _, r1, local_mk (vs := encR r) rfl rfl fun H5 e5 z5 b5 => ?_⟩⟩
  have x5 := e3.trans e5
  have p0 := b5.rd0 (v := .int .u64 r.1) rfl
  have p1 := b5.rd (i := 1) (v := .int .u64 r.2) rfl
  have hcd : (IntKind.u64.wrap (IntKind.u64.wrap (r.1 + 2 ^ k.toNat) - 1)).fdiv (2 ^ (min k.toNat IntKind.u64.bits)) = cd r.1 (2 ^ k.toNat) := by
   rw [min64' (by omega) (by omega), u64_in (n := r.1 + 2 ^ k.toNat) (by omega), u64_in (n := r.1 + 2 ^ k.toNat - 1) (by omega), fdiv_pow]
   rfl
  have hfl : (IntKind.u64.wrap (r.1 + r.2)).fdiv (2 ^ (min k.toNat IntKind.u64.bits)) = (r.1 + r.2) / 2 ^ k.toNat := by
   rw [min64' (by omega) (by omega), u64_in (n := r.1 + r.2) (by omega), fdiv_pow]
  refine ⟨_, p0, by omega, letV_mk _ hcd ⟨_, p0, _, p1, by omega, letV_mk _ hfl ?_⟩⟩
  have hbp : blkP (2 ^ k.toNat) r = max 0 ((r.1 + r.2) / 2 ^ k.toNat - cd r.1 (2 ^ k.toNat)) := rfl
  have c0 : 0 <= cd r.1 (2 ^ k.toNat) := by
   unfold cd
   exact Int.ediv_nonneg (by omega) (by omega)
  have f0 : (r.1 + r.2) / 2 ^ k.toNat <= r.1 + r.2 := Int.ediv_le_self _ (by omega)
  generalize (r.1 + r.2) / 2 ^ k.toNat = q at *
  generalize cd r.1 (2 ^ k.toNat) = c at *
  refine iteB_dec (fun d2 => letV_mk (blkN (2 ^ k.toNat) (M.take (i + 1))) ?_ (next2 hin (by omega) ⟨rfl, x5⟩)) (fun d2 => next2 hin (by omega) ⟨by omega, x5⟩)
  rw [u64_in (n := q - c) (by omega), u64_in (by omega)]
  omega
 ·obtain rfl : i = M.length := by omega
  rw [List.take_length]
  exact ⟨rfl, e3⟩

theorem certF_52 {M : List Rg} {S : List Int} (hS : InS S) : certF M S 52 = certF M S 44 := by
 have nb : ∀ k : Nat, 44 < k -> ¬ Bad M S k := fun k hk hb => by
  unfold Bad at hb
  rw [demI_big hS (by omega)] at hb
  have h1 := blkN_nn (2 ^ k) M
  have h2 := pow_pos2 k
  have := Int.mul_nonneg h1 (Int.le_of_lt h2)
  omega
 have st : ∀ k : Nat, 44 < k -> certF M S k = certF M S (k - 1) := fun k hk => by
  rw [certF_step, if_neg (nb k hk), if_neg (by omega)]
 rw [st 52 (by omega), st 51 (by omega), st 50 (by omega), st 49 (by omega), st 48 (by omega), st 47 (by omega), st 46 (by omega), st 45 (by omega)]

theorem certificate_spec (H : Heap) (s t : Sl) (M : List Rg) (S : List Int) (h : Rgs H s M) (hS : Ints .i64 H t S) (hI : ItemsOk S) (vm : ValidR M) (am : Asc M) :
  CallsH Tryz.prog n_120 #[.slice s.p s.n s.c, .slice t.p t.n t.c] H (fun v H' => v = certV (certF M S 44) /\ Ext H H') := by
 rw [<- certF_52 hI.2]
 refine F_120_ok _ _ ?_
 unfold F_120
 refine push_mk (vs := encC noCert) fun H1 e1 z1 b1 => ?_
 refine ⟨fun k H' => ∃ n : Nat, k = (n : Int) - 1 /\ n <= 53 /\ Ext H1 H' /\ certF M S 52 = (if n = 0 then noCert else certF M S (n - 1)), fun k _ => (k + 1).toNat, ⟨53, by omega, by omega, .refl _, by rw [if_neg (by omega : ¬ (53 = 0))]⟩, ?_⟩
 rintro k H2 ⟨n, rfl, hn, e2, hc⟩
 unfold F_120_r1
 have x2 := e1.trans e2
 refine iteB_dec (fun d => ?_) (fun d => ?_)
 ·have hn0 : n ≠ 0 := by omega
  rw [if_neg hn0] at hc
  obtain ⟨k, rfl⟩ : ∃ k, n = k + 1 := ⟨n - 1, by omega⟩
  have ek : ((k + 1 : Nat) : Int) - 1 = (k : Int) := by omega
  rw [ek]
  refine (demand_spec H2 t S k (hS.ext x2) hI).mono ?_
  rintro v H3 ⟨rfl, rfl⟩
  refine ⟨_, rfl, (countBlocks_spec H3 s M k (h.ext x2) (by omega) vm am).mono ?_⟩
  rintro v H4 ⟨rfl, e4⟩
  have hb := valid_blk vm am k
  have hnn := blkN_nn (2 ^ k) M
  have hp := pow_pos2 k
  have hm := Int.mul_nonneg hnn (Int.le_of_lt hp)
  rw [Int.toNat_natCast]
  have hw : IntKind.u64.wrap (blkN (2 ^ k) M * 2 ^ (min k IntKind.u64.bits)) = blkN (2 ^ k) M * 2 ^ k := by
   have := min64' (k := (k : Int)) (by omega) (by omega)
   rw [Int.toNat_natCast] at this
   rw [this]
   exact u64_in (by omega)
  simp only [Nat.add_sub_cancel] at hc
  have hstep := certF_step M S k
  refine ⟨_, rfl, by omega, ?_⟩
  rw [hw]
  refine iteB_dec (fun d2 => cert_wr (K := fun v H' => v = certV (certF M S 52) /\ Ext H H') (c0 := noCert) (c := (0, (k : Int), demI k S, blkN (2 ^ k) M)) (b1.ext (e2.trans e4)) (fun H5 m5 b5 => ⟨?_, Mods.ext (e1.trans (e2.trans e4)) m5 (by simp)⟩)) (fun d2 => letV_mk ((k : Int) - 1) (i64_in (by omega)) ⟨⟨k, rfl, by omega, e2.trans e4, ?_⟩, by dsimp only; omega⟩)
  ·rw [hc, hstep, if_pos (show Bad M S k from d2)]
  ·rw [hc, hstep, if_neg (show ¬ Bad M S k from d2)]
 ·have hn0 : n = 0 := by omega
  rw [if_pos hn0] at hc
  exact cert_wr (K := fun v H' => v = certV (certF M S 52) /\ Ext H H') (c0 := noCert) (c := noCert) (b1.ext e2) (fun H5 m5 b5 => ⟨by rw [hc], Mods.ext (e1.trans e2) m5 (by simp)⟩)

end Go.Proofs.YtnhhncjflnlfaaaGreat
