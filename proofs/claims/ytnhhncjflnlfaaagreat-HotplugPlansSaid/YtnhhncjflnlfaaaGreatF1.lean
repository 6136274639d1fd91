/-
 Functions of a board (api.Function): when one is valid; the contracts of pciconf.Valid and of the reference's ValidFunction.
-/
import Derived.Test.YtnhhncjflnlfaaaGreatW
import Derived.Test.YtnhhncjflnlfaaaGreatEngM
namespace Go.Proofs.YtnhhncjflnlfaaaGreat
open Go.Eng

abbrev Bar := Int × Int
def encBar (b : Bar) : List Value := [.int .i64 b.1, .int .i64 b.2]
theorem encBar_len (b : Bar) : (encBar b).length = 2 := rfl
theorem encBar_one (b : Bar) : ∀ u ∈ encBar b, oneC u = true := fun u hu => by simp [encBar] at hu; rcases hu with rfl | rfl <;> rfl
abbrev Bars (H : Heap) (s : Sl) (l : List Bar) : Prop := IsS 2 encBar H s l
def bk (B : List Bar) (i : Nat) : Int := (B.getD i (0, 0)).1
def bz (B : List Bar) (i : Nat) : Int := (B.getD i (0, 0)).2

theorem Bars.atN {H : Heap} {s : Sl} {B : List Bar} (h : Bars H s B) {k : Nat} (hk : k < B.length) :
  ∃ a, s.p = some a /\ rd H (a.add ((k : Int).toNat * 2)) = some (.int .i64 (bk B k)) /\ rd H ((a.add ((k : Int).toNat * 2)).add 1) = some (.int .i64 (bz B k)) := by
 obtain ⟨a, hp, hr⟩ := IsS.atN h (0, 0) hk
 exact ⟨a, hp, hr 0 _ rfl, hr 1 _ rfl⟩

structure Fn where
 parent : Int
 slot : Int
 vendor : Int
 device : Int
 bridge : Bool
 pref : Bool
 hot : Bool
 spare : Int
 pin : Int
 vec : Int
 bars : List Bar

abbrev fnL (f : Fn) (s : Sl) : List Value := [.int .i64 f.parent, .int .i64 f.slot, .int .i64 f.vendor, .int .i64 f.device, .bool f.bridge, .bool f.pref, .bool f.hot, .int .i64 f.spare, .int .i64 f.pin, .int .i64 f.vec, .slice s.p s.n s.c]
abbrev fnV (f : Fn) (s : Sl) : Value := .agg #[.int .i64 f.parent, .int .i64 f.slot, .int .i64 f.vendor, .int .i64 f.device, .bool f.bridge, .bool f.pref, .bool f.hot, .int .i64 f.spare, .int .i64 f.pin, .int .i64 f.vec, .slice s.p s.n s.c]

theorem Blk.fn {H : Heap} {b : Nat} {e : TypeId} {f : Fn} {s : Sl} (h : Blk H b e (fnL f s)) :
  rd H (⟨b, 0, none⟩ : Addr) = some (.int .i64 f.parent) /\ rd H ((⟨b, 0, none⟩ : Addr).add 1) = some (.int .i64 f.slot) /\ rd H ((⟨b, 0, none⟩ : Addr).add 2) = some (.int .i64 f.vendor) /\ rd H ((⟨b, 0, none⟩ : Addr).add 3) = some (.int .i64 f.device) /\
  rd H ((⟨b, 0, none⟩ : Addr).add 4) = some (.bool f.bridge) /\ rd H ((⟨b, 0, none⟩ : Addr).add 5) = some (.bool f.pref) /\ rd H ((⟨b, 0, none⟩ : Addr).add 6) = some (.bool f.hot) /\ rd H ((⟨b, 0, none⟩ : Addr).add 7) = some (.int .i64 f.spare) /\
  rd H ((⟨b, 0, none⟩ : Addr).add 8) = some (.int .i64 f.pin) /\ rd H ((⟨b, 0, none⟩ : Addr).add 9) = some (.int .i64 f.vec) /\ rd H ((⟨b, 0, none⟩ : Addr).add 10) = some (.slice s.p s.n s.c) :=
 ⟨h.rd0 rfl, h.rd (i := 1) rfl, h.rd (i := 2) rfl, h.rd (i := 3) rfl, h.rd (i := 4) rfl, h.rd (i := 5) rfl, h.rd (i := 6) rfl, h.rd (i := 7) rfl, h.rd (i := 8) rfl, h.rd (i := 9) rfl, h.rd (i := 10) rfl⟩

def BarOk (B : List Bar) (i : Nat) : Prop :=
 (bk B i = 0 /\ bz B i = 0) \/ (bk B i = 1 /\ 2 <= bz B i /\ bz B i <= 8) \/ (bk B i = 2 /\ 4 <= bz B i /\ bz B i <= 31) \/ ((bk B i = 3 \/ bk B i = 4) /\ 4 <= bz B i /\ bz B i <= 40 /\ i + 1 < B.length /\ bk B (i + 1) = 0)
instance (B : List Bar) (i : Nat) : Decidable (BarOk B i) := by unfold BarOk; infer_instance
def regs (b : Bool) : Nat := if b then 2 else 6

structure ValidF (f : Fn) : Prop where
 ve : 1 <= f.vendor /\ f.vendor <= 65534
 de : 0 <= f.device /\ f.device <= 65535
 sl : 0 <= f.slot /\ f.slot <= 31
 pi : 0 <= f.pin /\ f.pin <= 4
 vc : 0 <= f.vec /\ f.vec <= 32
 vb : bitsAnd .i64 f.vec (IntKind.i64.wrap (f.vec - 1)) = 0
 sp : 0 <= f.spare /\ f.spare <= 32
 sh : 0 < f.spare -> f.bridge = true /\ f.hot = true
 nb : f.bridge = false -> f.pref = false /\ f.hot = false
 bl : f.bars.length <= regs f.bridge
 ba : ∀ i, i < f.bars.length -> BarOk f.bars i

theorem ValidF_iff (f : Fn) : ValidF f ↔ (1 <= f.vendor /\ f.vendor <= 65534) /\ (0 <= f.device /\ f.device <= 65535) /\ (0 <= f.slot /\ f.slot <= 31) /\ (0 <= f.pin /\ f.pin <= 4) /\ (0 <= f.vec /\ f.vec <= 32) /\ bitsAnd .i64 f.vec (IntKind.i64.wrap (f.vec - 1)) = 0 /\ (0 <= f.spare /\ f.spare <= 32) /\
  (0 < f.spare -> f.bridge = true /\ f.hot = true) /\ (f.bridge = false -> f.pref = false /\ f.hot = false) /\ f.bars.length <= regs f.bridge /\ ∀ i, i < f.bars.length -> BarOk f.bars i :=
 ⟨fun ⟨a, b, c, d, e, g, h, i, j, k, l⟩ => ⟨a, b, c, d, e, g, h, i, j, k, l⟩, fun ⟨a, b, c, d, e, g, h, i, j, k, l⟩ => ⟨a, b, c, d, e, g, h, i, j, k, l⟩⟩
instance (f : Fn) : Decidable (ValidF f) := decidable_of_iff _ (ValidF_iff f).symm

theorem registers_spec (b : Bool) (H : Heap) : CallsH Tryz.prog n_105 #[.bool b] H (fun v H' => v = .int .i64 (regs b) /\ H' = H) := by
 refine F_105_ok _ ?_
 unfold F_105
 cases b
 ·exact iteB_neg rfl ⟨rfl, rfl⟩
 ·exact iteB_pos rfl ⟨rfl, rfl⟩

theorem Registers_spec (f : Fn) (s : Sl) (H : Heap) : CallsH Tryz.prog n_107 #[fnV f s] H (fun v H' => v = .int .i64 (regs f.bridge) /\ Ext H H') := by
 refine F_107_ok _ _ _ _ _ _ _ _ _ _ _ ?_
 unfold F_107
 refine push_mk (vs := fnL f s) fun H1 e1 _ b1 => ⟨_, b1.rd (i := 4) rfl, iteB_intro (fun c => ?_) (fun c => ?_)⟩
 ·exact ⟨by rw [c]; rfl, e1⟩
 ·exact ⟨by rw [c]; rfl, e1⟩

theorem validBar_spec (H : Heap) (s : Sl) (B : List Bar) (k : Nat) (h : Bars H s B) (hk : k < B.length) (hB : B.length <= 100) :
  CallsH Tryz.prog n_106 #[.slice s.p s.n s.c, .int .i64 k] H (fun v H' => v = .bool (decide (BarOk B k)) /\ H' = H) := by
 refine F_106_ok _ _ ?_
 unfold F_106
 have hn := h.len
 obtain ⟨a, hp, r0, r1⟩ := Bars.atN h hk
 have dec : ∀ (b : Bool), (b = true ↔ BarOk B k) -> Value.bool b = Value.bool (decide (BarOk B k)) /\ H = H := by
  intro b hb
  refine ⟨?_, rfl⟩
  congr 1
  by_cases ho : BarOk B k
  ·rw [decide_eq_true ho, hb.2 ho]
  ·rw [decide_eq_false ho]
   cases b
   ·rfl
   ·exact absurd (hb.1 rfl) ho
 refine ⟨by omega, by omega, unSome_mk hp ⟨_, r1, by omega, by omega, unSome_mk hp ⟨_, r0, ?_⟩⟩⟩
 refine iteB_beq (fun c => dec _ ?_) (fun c => iteB_beq (fun c1 => iteB_dec (fun c2 => dec _ ?_) (fun c2 => dec _ ?_)) (fun c1 => iteB_beq (fun c2 => iteB_dec (fun c3 => dec _ ?_) (fun c3 => dec _ ?_)) (fun c2 => ?_)))
 ·unfold BarOk; simp; omega
 ·unfold BarOk; simp; omega
 ·unfold BarOk; simp; omega
 ·unfold BarOk; simp; omega
 ·unfold BarOk; simp; omega
 refine ⟨fun x H' => (x = true ↔ (bk B k = 3 \/ bk B k = 4)) /\ H' = H, ?_, ?_⟩
 ·exact iteB_beq (fun c3 => ⟨by simp; omega, rfl⟩) (fun c3 => ⟨by simp; omega, rfl⟩)
 rintro x H1 ⟨hx, rfl⟩
 unfold F_106_k1
 rw [i64_succ (by omega)]
 refine iteB_intro (fun d1 => iteB_dec (fun d2 => iteB_dec (fun d3 => iteB_dec (fun d4 => ?_) (fun d4 => dec _ ?_)) (fun d3 => dec _ ?_)) (fun d2 => dec _ ?_)) (fun d1 => dec _ ?_)
 ·obtain ⟨a', hp', r0', _⟩ := Bars.atN h (k := k + 1) (by omega)
  refine ⟨by omega, by omega, unSome_mk hp' ⟨_, r0', dec _ ?_⟩⟩
  have := hx.1 d1
  unfold BarOk; simp; omega
 ·unfold BarOk; simp; omega
 ·unfold BarOk; simp; omega
 ·unfold BarOk; simp; omega
 ·rw [d1] at hx
  simp at hx
  unfold BarOk; simp; omega

theorem Valid_spec (f : Fn) (s : Sl) (H : Heap) (h : Bars H s f.bars) :
  CallsH Tryz.prog n_82 #[fnV f s] H (BoolP (decide (ValidF f)) H) := by
 refine F_82_ok _ _ _ _ _ _ _ _ _ _ _ ?_
 unfold F_82
 have bad : ∀ H', Ext H H' -> ¬ ValidF f -> BoolP (decide (ValidF f)) H (.bool false) H' := fun H' he hn => ⟨by rw [decide_eq_false hn], he⟩
 refine push_mk (vs := fnL f s) fun H1 e1 _ b1 => ?_
 have r1 := b1.rd (i := 1) rfl
 have r2 := b1.rd (i := 2) rfl
 have r3 := b1.rd (i := 3) rfl
 have r4 := b1.rd (i := 4) rfl
 have r5 := b1.rd (i := 5) rfl
 have r6 := b1.rd (i := 6) rfl
 have r7 := b1.rd (i := 7) rfl
 have r8 := b1.rd (i := 8) rfl
 have r9 := b1.rd (i := 9) rfl
 have r10 := b1.rd (i := 10) rfl
 simp only [r1, r2, r3, r4, r6, r7, r8, r9, Option.some.injEq, Value.int.injEq, Value.bool.injEq, true_and, exists_eq_left']
 refine iteB_dec (fun c => bad _ e1 (fun hv => by have := hv.ve; omega)) (fun c1 => iteB_dec (fun c => bad _ e1 (fun hv => by have := hv.ve; omega)) (fun c2 => ?_))
 refine iteB_dec (fun c => bad _ e1 (fun hv => by have := hv.de; omega)) (fun c3 => iteB_dec (fun c => bad _ e1 (fun hv => by have := hv.de; omega)) (fun c4 => ?_))
 refine iteB_dec (fun c => bad _ e1 (fun hv => by have := hv.sl; omega)) (fun c5 => iteB_dec (fun c => bad _ e1 (fun hv => by have := hv.sl; omega)) (fun c6 => ?_))
 refine iteB_dec (fun c => bad _ e1 (fun hv => by have := hv.pi; omega)) (fun c7 => iteB_dec (fun c => bad _ e1 (fun hv => by have := hv.pi; omega)) (fun c8 => ?_))
 refine iteB_dec (fun c => bad _ e1 (fun hv => by have := hv.vc; omega)) (fun c9 => iteB_dec (fun c => bad _ e1 (fun hv => by have := hv.vc; omega)) (fun c10 => ?_))
 refine iteB_bne (fun c => bad _ e1 (fun hv => c hv.vb)) (fun c11 => ?_)
 refine ⟨fun H' => H' = H1 /\ (0 <= f.spare /\ f.spare <= 32) /\ (0 < f.spare -> f.bridge = true /\ f.hot = true), ?_, ?_⟩
 ·refine iteB_dec (fun c => bad _ e1 (fun hv => by have := hv.sp; omega)) (fun c12 => iteB_dec (fun c => bad _ e1 (fun hv => by have := hv.sp; omega)) (fun c13 => ?_))
  refine iteB_dec (fun c14 => iteB_intro (fun c15 => iteB_not (fun c16 => bad _ e1 (fun hv => ?_)) (fun c16 => ⟨rfl, by omega, fun _ => ⟨c15, c16⟩⟩)) (fun c15 => bad _ e1 (fun hv => ?_))) (fun c14 => ⟨rfl, by omega, fun h => absurd h c14⟩)
  ·have := (hv.sh c14).2; rw [c16] at this; cases this
  ·have := (hv.sh c14).1; rw [c15] at this; cases this
 rintro H2 ⟨rfl, hsp, hsh⟩
 unfold F_82_k3
 simp only [r4, r5, r6, Option.some.injEq, Value.bool.injEq, exists_eq_left']
 refine ⟨fun H' => H' = H2 /\ (f.bridge = false -> f.pref = false /\ f.hot = false), ?_, ?_⟩
 ·refine iteB_not (fun d1 => iteB_intro (fun d2 => bad _ e1 (fun hv => ?_)) (fun d2 => iteB_intro (fun d3 => bad _ e1 (fun hv => ?_)) (fun d3 => ⟨rfl, fun _ => ⟨d2, d3⟩⟩))) (fun d1 => ⟨rfl, fun h => by rw [d1] at h; cases h⟩)
  ·have := (hv.nb d1).1; rw [d2] at this; cases this
  ·have := (hv.nb d1).2; rw [d3] at this; cases this
 rintro H3 ⟨rfl, hnb⟩
 unfold F_82_k2
 refine ⟨s, r10, _, r4, (registers_spec _ H3).mono ?_⟩
 rintro v H4 ⟨rfl, rfl⟩
 have hn := h.len
 have hr : regs f.bridge <= 6 := by unfold regs; split <;> omega
 refine ⟨_, rfl, .refl _ _, iteB_dec (fun c => bad _ e1 (fun hv => by have := hv.bl; omega)) (fun c12 => ⟨s, r10, ?_⟩)⟩
 refine loop1 f.bars.length (fun k H' => H' = H4 /\ ∀ i, i < k -> BarOk f.bars i) ⟨rfl, fun i hi => by omega⟩ ?_
 rintro k H5 hk ⟨rfl, hall⟩
 unfold F_82_r1
 refine iteB_dec (fun g1 => ?_) (fun g1 => ?_)
 ·have hkn : k < f.bars.length := by omega
  refine ⟨s, r10, (validBar_spec H5 s f.bars k (h.ext e1) hkn (by omega)).mono ?_⟩
  rintro v H6 ⟨rfl, rfl⟩
  refine ⟨_, rfl, iteB_not (fun g2 => bad _ e1 (fun hv => ?_)) (fun g2 => next1 hkn (by omega) ⟨rfl, fun i hi => ?_⟩)⟩
  ·have := hv.ba k hkn; simp at g2; exact g2 this
  ·by_cases e : i = k
   ·subst e; simpa using g2
   ·exact hall i (by omega)
 ·refine ⟨?_, e1⟩
  rw [decide_eq_true]
  exact ⟨by omega, by omega, by omega, by omega, by omega, c11, hsp, hsh, hnb, by omega, fun i hi => hall i (by omega)⟩

theorem rValid_spec (f : Fn) (s : Sl) (H : Heap) (h : Bars H s f.bars) :
  CallsH Tryz.prog n_86 #[fnV f s] H (BoolP (decide (ValidF f)) H) := by
 refine F_86_ok _ _ _ _ _ _ _ _ _ _ _ ?_
 unfold F_86
 have bad : ∀ H', Ext H H' -> ¬ ValidF f -> BoolP (decide (ValidF f)) H (.bool false) H' := fun H' he hn => ⟨by rw [decide_eq_false hn], he⟩
 refine push_mk (vs := fnL f s) fun H1 e1 _ b1 => ?_
 have r0 := b1.rd0 rfl
 have r1 := b1.rd (i := 1) rfl
 have r2 := b1.rd (i := 2) rfl
 have r3 := b1.rd (i := 3) rfl
 have r4 := b1.rd (i := 4) rfl
 have r5 := b1.rd (i := 5) rfl
 have r6 := b1.rd (i := 6) rfl
 have r7 := b1.rd (i := 7) rfl
 have r8 := b1.rd (i := 8) rfl
 have r9 := b1.rd (i := 9) rfl
 have r10 := b1.rd (i := 10) rfl
 simp only [r1, r2, r3, r4, r5, r6, r7, r8, r9, Option.some.injEq, Value.int.injEq, Value.bool.injEq, true_and, exists_eq_left']
 refine iteB_dec (fun c => bad _ e1 (fun hv => by have := hv.ve; omega)) (fun c1 => iteB_dec (fun c => bad _ e1 (fun hv => by have := hv.ve; omega)) (fun c2 => ?_))
 refine iteB_dec (fun c => bad _ e1 (fun hv => by have := hv.de; omega)) (fun c3 => iteB_dec (fun c => bad _ e1 (fun hv => by have := hv.de; omega)) (fun c4 => ?_))
 refine iteB_dec (fun c => bad _ e1 (fun hv => by have := hv.sl; omega)) (fun c5 => iteB_dec (fun c => bad _ e1 (fun hv => by have := hv.sl; omega)) (fun c6 => ?_))
 refine iteB_dec (fun c => bad _ e1 (fun hv => by have := hv.pi; omega)) (fun c7 => iteB_dec (fun c => bad _ e1 (fun hv => by have := hv.pi; omega)) (fun c8 => ?_))
 refine iteB_dec (fun c => bad _ e1 (fun hv => by have := hv.sp; omega)) (fun c9 => iteB_dec (fun c => bad _ e1 (fun hv => by have := hv.sp; omega)) (fun c10 => ?_))
 refine ⟨fun H' => H' = H1 /\ (0 <= f.vec /\ f.vec <= 32) /\ bitsAnd .i64 f.vec (IntKind.i64.wrap (f.vec - 1)) = 0 /\ (0 < f.spare -> f.bridge = true /\ f.hot = true) /\ (f.bridge = false -> f.pref = false /\ f.hot = false), ?_, ?_⟩
 ·refine iteB_dec (fun c => bad _ e1 (fun hv => by have := hv.vc; omega)) (fun c11 => iteB_dec (fun c => bad _ e1 (fun hv => by have := hv.vc; omega)) (fun c12 => ?_))
  refine iteB_bne (fun c => bad _ e1 (fun hv => c hv.vb)) (fun c13 => ?_)
  have nbk : ∀ (K : Prop), ((f.bridge = false -> f.pref = false /\ f.hot = false) -> K) -> (∀ _ : ¬ ValidF f, (BoolP (decide (ValidF f)) H (.bool false) H1)) -> iteB (!f.bridge) (iteB f.pref (BoolP (decide (ValidF f)) H (.bool false) H1) (iteB f.hot (BoolP (decide (ValidF f)) H (.bool false) H1) K)) K := by
   intro K hK hb
   refine iteB_not (fun d1 => iteB_intro (fun d2 => hb (fun hv => ?_)) (fun d2 => iteB_intro (fun d3 => hb (fun hv => ?_)) (fun d3 => hK (fun _ => ⟨d2, d3⟩)))) (fun d1 => hK (fun h => by rw [d1] at h; cases h))
   ·have := (hv.nb d1).1; rw [d2] at this; cases this
   ·have := (hv.nb d1).2; rw [d3] at this; cases this
  refine iteB_dec (fun c14 => iteB_not (fun c15 => bad _ e1 (fun hv => ?_)) (fun c15 => iteB_not (fun c16 => bad _ e1 (fun hv => ?_)) (fun c16 => nbk _ (fun hh => ?_) (bad _ e1)))) (fun c14 => nbk _ (fun hh => ?_) (bad _ e1))
  ·have := (hv.sh c14).1; rw [c15] at this; cases this
  ·have := (hv.sh c14).2; rw [c16] at this; cases this
  ·exact ⟨rfl, by omega, c13, fun _ => ⟨c15, c16⟩, hh⟩
  ·exact ⟨rfl, by omega, c13, fun h => absurd h c14, hh⟩
 rintro H2 ⟨rfl, hvc, hvb, hsh, hnb⟩
 unfold F_86_k3
 refine ⟨s, r10, _, r0, _, r1, _, r2, _, r3, _, r4, _, r5, _, r6, _, r7, _, r8, _, r9, s, r10, (Registers_spec f s H2).mono ?_⟩
 rintro v H3 ⟨rfl, e3⟩
 have hn := h.len
 have hr : regs f.bridge <= 6 := by unfold regs; split <;> omega
 have x3 := e1.trans e3
 refine ⟨_, rfl, e3.keeps, iteB_dec (fun c => bad _ x3 (fun hv => by have := hv.bl; omega)) (fun c12 => ?_)⟩
 refine loop1 f.bars.length (fun k H' => Ext H2 H' /\ ∀ i, i < k -> BarOk f.bars i) ⟨e3, fun i hi => by omega⟩ ?_
 rintro k H4 hk ⟨e4, hall⟩
 unfold F_86_r2
 have x4 := e1.trans e4
 have q10 := (b1.ext e4).rd (i := 10) rfl
 refine ⟨s, q10, iteB_dec (fun g1 => ?_) (fun g1 => ?_)⟩
 ·have hkn : k < f.bars.length := by omega
  obtain ⟨a, hp, s0, s1⟩ := Bars.atN (h.ext x4) hkn
  refine ⟨s, q10, by omega, by omega, unSome_mk hp ⟨_, s0, _, s1, local_mk rfl rfl fun H6 e6 _ b6 => ?_⟩⟩
  have t0 := b6.rd0 rfl
  have t1 := b6.rd (i := 1) rfl
  have x6 := x4.trans e6
  have y6 := e4.trans e6
  have p10 := (b1.ext y6).rd (i := 10) rfl
  simp only [t0, t1, Option.some.injEq, Value.int.injEq, true_and, exists_eq_left']
  have no : ¬ BarOk f.bars k -> BoolP (decide (ValidF f)) H (.bool false) H6 := fun hb => bad _ x6 (fun hv => hb (hv.ba k hkn))
  have nx : BarOk f.bars k -> CI f.bars.length (fun k H' => Ext H2 H' /\ ∀ i, i < k -> BarOk f.bars i) (IntKind.i64.wrap ((k : Int) + 1)) H6 /\ CM f.bars.length (IntKind.i64.wrap ((k : Int) + 1)) H6 < CM f.bars.length (k : Int) H4 := fun hb => next1 hkn (by omega) ⟨y6, fun i hi => by
   by_cases e : i = k
   ·subst e; exact hb
   ·exact hall i (by omega)⟩
  refine iteB_beq (fun d1 => iteB_bne (fun d2 => no (by unfold BarOk; omega)) (fun d2 => nx (by unfold BarOk; omega))) (fun d1 => iteB_beq (fun d2 => iteB_dec (fun d3 => no (by unfold BarOk; omega)) (fun d3 => iteB_dec (fun d4 => no (by unfold BarOk; omega)) (fun d4 => nx (by unfold BarOk; omega)))) (fun d2 => iteB_beq (fun d3 => iteB_dec (fun d4 => no (by unfold BarOk; omega)) (fun d4 => iteB_dec (fun d5 => no (by unfold BarOk; omega)) (fun d5 => nx (by unfold BarOk; omega)))) (fun d3 => ?_)))
  refine ⟨fun x H' => (x = true ↔ (bk f.bars k = 3 \/ bk f.bars k = 4)) /\ H' = H6, ?_, ?_⟩
  ·exact iteB_beq (fun c3 => ⟨by simp; omega, rfl⟩) (fun c3 => ⟨by simp; omega, rfl⟩)
  rintro x H7 ⟨hx, rfl⟩
  unfold F_86_k1
  simp only [t1, Option.some.injEq, Value.int.injEq, true_and, exists_eq_left']
  refine iteB_intro (fun g2 => ?_) (fun g2 => no (by rw [g2] at hx; simp at hx; unfold BarOk; omega))
  have hx' := hx.1 g2
  refine iteB_dec (fun g3 => no (by unfold BarOk; omega)) (fun g3 => iteB_dec (fun g4 => no (by unfold BarOk; omega)) (fun g4 => ⟨s, p10, ?_⟩))
  rw [i64_succ (by omega)]
  refine iteB_dec (fun g5 => no (by unfold BarOk; omega)) (fun g5 => ⟨s, p10, ?_⟩)
  obtain ⟨a', hp', u0, _⟩ := Bars.atN (h.ext x6) (k := k + 1) (by omega)
  refine ⟨by omega, by omega, unSome_mk hp' ⟨_, u0, iteB_bne (fun g6 => no (by unfold BarOk; omega)) (fun g6 => ?_)⟩⟩
  have := nx (by unfold BarOk; omega)
  rw [i64_succ (by omega)] at this
  exact this
 ·refine ⟨?_, x4⟩
  rw [decide_eq_true]
  exact ⟨by omega, by omega, by omega, by omega, by omega, hvb, by omega, hsh, hnb, by omega, fun i hi => hall i (by omega)⟩

end Go.Proofs.YtnhhncjflnlfaaaGreat
