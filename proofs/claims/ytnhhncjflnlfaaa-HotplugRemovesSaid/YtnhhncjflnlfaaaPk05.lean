import Derived.DeepKeys3
import Derived.Laws.CopyRow
import Derived.Laws.IdiomCopy
import Derived.Maps.AppendAt
import Derived.Test.YtnhhncjflnlfaaaPk04

section
/-
  Functions of a board (api.Function): when one is valid; the contracts of pciconf.Valid and of the reference's ValidFunction.
-/
namespace Go.Proofs.Ytnhhncjflnlfaaa
open Go.Eng

abbrev Bar := Int × Int
def encBar (b : Bar) : List Value := [.int .i64 b.1, .int .i64 b.2]
theorem encBar_len (b : Bar) : (encBar b).length = 2 := rfl
theorem encBar_one (b : Bar) : ∀ u ∈ encBar b, oneC u = true := fun u hu => by simp [encBar] at hu; rcases hu with rfl | rfl <;> rfl
abbrev Bars (H : Heap) (s : Sl) (l : List Bar) : Prop := IsS 2 encBar H s l
def bk (B : List Bar) (i : Nat) : Int := (B.getD i (0, 0)).1
def bz (B : List Bar) (i : Nat) : Int := (B.getD i (0, 0)).2

theorem Bars.atN {H : Heap} {s : Sl} {B : List Bar} (h : Bars H s B) {k : Nat} (hk : k < B.length) :
    ∃ a, s.p = some a ∧ rd H (a.add ((k : Int).toNat * 2)) = some (.int .i64 (bk B k)) ∧ rd H ((a.add ((k : Int).toNat * 2)).add 1) = some (.int .i64 (bz B k)) := by
  obtain ⟨a, hp, hr⟩ := IsS.atN h (0, 0) hk
  exact ⟨a, hp, hr 0 _ rfl, hr 1 _ rfl⟩

structure Fn where
  parent : Int
  slot : Int
  vendor : Int
  device : Int
  bridge : Bool
  pref : Bool
  hot : Bool
  spare : Int
  pin : Int
  vec : Int
  bars : List Bar

abbrev fnL (f : Fn) (s : Sl) : List Value := [.int .i64 f.parent, .int .i64 f.slot, .int .i64 f.vendor, .int .i64 f.device, .bool f.bridge, .bool f.pref, .bool f.hot, .int .i64 f.spare, .int .i64 f.pin, .int .i64 f.vec, .slice s.p s.n s.c]
abbrev fnV (f : Fn) (s : Sl) : Value := .agg #[.int .i64 f.parent, .int .i64 f.slot, .int .i64 f.vendor, .int .i64 f.device, .bool f.bridge, .bool f.pref, .bool f.hot, .int .i64 f.spare, .int .i64 f.pin, .int .i64 f.vec, .slice s.p s.n s.c]

theorem Blk.fn {H : Heap} {b : Nat} {e : TypeId} {f : Fn} {s : Sl} (h : Blk H b e (fnL f s)) :
    rd H (⟨b, 0, none⟩ : Addr) = some (.int .i64 f.parent) ∧ rd H ((⟨b, 0, none⟩ : Addr).add 1) = some (.int .i64 f.slot) ∧ rd H ((⟨b, 0, none⟩ : Addr).add 2) = some (.int .i64 f.vendor) ∧ rd H ((⟨b, 0, none⟩ : Addr).add 3) = some (.int .i64 f.device) ∧
    rd H ((⟨b, 0, none⟩ : Addr).add 4) = some (.bool f.bridge) ∧ rd H ((⟨b, 0, none⟩ : Addr).add 5) = some (.bool f.pref) ∧ rd H ((⟨b, 0, none⟩ : Addr).add 6) = some (.bool f.hot) ∧ rd H ((⟨b, 0, none⟩ : Addr).add 7) = some (.int .i64 f.spare) ∧
    rd H ((⟨b, 0, none⟩ : Addr).add 8) = some (.int .i64 f.pin) ∧ rd H ((⟨b, 0, none⟩ : Addr).add 9) = some (.int .i64 f.vec) ∧ rd H ((⟨b, 0, none⟩ : Addr).add 10) = some (.slice s.p s.n s.c) :=
  ⟨h.rd0 rfl, h.rd (i := 1) rfl, h.rd (i := 2) rfl, h.rd (i := 3) rfl, h.rd (i := 4) rfl, h.rd (i := 5) rfl, h.rd (i := 6) rfl, h.rd (i := 7) rfl, h.rd (i := 8) rfl, h.rd (i := 9) rfl, h.rd (i := 10) rfl⟩

def BarOk (B : List Bar) (i : Nat) : Prop :=
  (bk B i = 0 ∧ bz B i = 0) ∨ (bk B i = 1 ∧ 2 ≤ bz B i ∧ bz B i ≤ 8) ∨ (bk B i = 2 ∧ 4 ≤ bz B i ∧ bz B i ≤ 31) ∨ ((bk B i = 3 ∨ bk B i = 4) ∧ 4 ≤ bz B i ∧ bz B i ≤ 40 ∧ i + 1 < B.length ∧ bk B (i + 1) = 0)
instance (B : List Bar) (i : Nat) : Decidable (BarOk B i) := by unfold BarOk; infer_instance
def regs (b : Bool) : Nat := if b then 2 else 6

structure ValidF (f : Fn) : Prop where
  ve : 1 ≤ f.vendor ∧ f.vendor ≤ 65534
  de : 0 ≤ f.device ∧ f.device ≤ 65535
  sl : 0 ≤ f.slot ∧ f.slot ≤ 31
  pi : 0 ≤ f.pin ∧ f.pin ≤ 4
  vc : 0 ≤ f.vec ∧ f.vec ≤ 32
  vb : bitsAnd .i64 f.vec (IntKind.i64.wrap (f.vec - 1)) = 0
  sp : 0 ≤ f.spare ∧ f.spare ≤ 32
  sh : 0 < f.spare → f.bridge = true ∧ f.hot = true
  nb : f.bridge = false → f.pref = false ∧ f.hot = false
  bl : f.bars.length ≤ regs f.bridge
  ba : ∀ i, i < f.bars.length → BarOk f.bars i

theorem ValidF_iff (f : Fn) : ValidF f ↔ (1 ≤ f.vendor ∧ f.vendor ≤ 65534) ∧ (0 ≤ f.device ∧ f.device ≤ 65535) ∧ (0 ≤ f.slot ∧ f.slot ≤ 31) ∧ (0 ≤ f.pin ∧ f.pin ≤ 4) ∧ (0 ≤ f.vec ∧ f.vec ≤ 32) ∧ bitsAnd .i64 f.vec (IntKind.i64.wrap (f.vec - 1)) = 0 ∧ (0 ≤ f.spare ∧ f.spare ≤ 32) ∧
    (0 < f.spare → f.bridge = true ∧ f.hot = true) ∧ (f.bridge = false → f.pref = false ∧ f.hot = false) ∧ f.bars.length ≤ regs f.bridge ∧ ∀ i, i < f.bars.length → BarOk f.bars i :=
  ⟨fun ⟨a, b, c, d, e, g, h, i, j, k, l⟩ => ⟨a, b, c, d, e, g, h, i, j, k, l⟩, fun ⟨a, b, c, d, e, g, h, i, j, k, l⟩ => ⟨a, b, c, d, e, g, h, i, j, k, l⟩⟩
instance (f : Fn) : Decidable (ValidF f) := decidable_of_iff _ (ValidF_iff f).symm

theorem registers_spec (b : Bool) (H : Heap) : CallsH Try.prog n_pciconf_registers #[.bool b] H (fun v H' => v = .int .i64 (regs b) ∧ H' = H) := by
  refine F_pciconf_registers_ok _ ?_
  unfold F_pciconf_registers
  cases b
  · exact iteB_neg rfl ⟨rfl, rfl⟩
  · exact iteB_pos rfl ⟨rfl, rfl⟩

theorem Registers_spec (f : Fn) (s : Sl) (H : Heap) : CallsH Try.prog n_ref18_Registers #[fnV f s] H (fun v H' => v = .int .i64 (regs f.bridge) ∧ Ext H H') := by
  refine F_ref18_Registers_ok _ _ _ _ _ _ _ _ _ _ _ ?_
  unfold F_ref18_Registers
  refine push_mk (vs := fnL f s) fun H1 e1 _ b1 => ⟨_, b1.rd (i := 4) rfl, iteB_intro (fun c => ?_) (fun c => ?_)⟩
  · exact ⟨by rw [c]; rfl, e1⟩
  · exact ⟨by rw [c]; rfl, e1⟩

theorem validBar_spec (H : Heap) (s : Sl) (B : List Bar) (k : Nat) (h : Bars H s B) (hk : k < B.length) (hB : B.length ≤ 100) :
    CallsH Try.prog n_pciconf_validBar #[.slice s.p s.n s.c, .int .i64 k] H (fun v H' => v = .bool (decide (BarOk B k)) ∧ H' = H) := by
  refine F_pciconf_validBar_ok _ _ ?_
  unfold F_pciconf_validBar
  have hn := h.len
  obtain ⟨a, hp, r0, r1⟩ := Bars.atN h hk
  have dec : ∀ (b : Bool), (b = true ↔ BarOk B k) → Value.bool b = Value.bool (decide (BarOk B k)) ∧ H = H := by
    intro b hb
    refine ⟨?_, rfl⟩
    congr 1
    by_cases ho : BarOk B k
    · rw [decide_eq_true ho, hb.2 ho]
    · rw [decide_eq_false ho]
      cases b
      · rfl
      · exact absurd (hb.1 rfl) ho
  refine ⟨by omega, by omega, unSome_mk hp ⟨_, r1, by omega, by omega, unSome_mk hp ⟨_, r0, ?_⟩⟩⟩
  refine iteB_beq (fun c => dec _ ?_) (fun c => iteB_beq (fun c1 => iteB_dec (fun c2 => dec _ ?_) (fun c2 => dec _ ?_)) (fun c1 => iteB_beq (fun c2 => iteB_dec (fun c3 => dec _ ?_) (fun c3 => dec _ ?_)) (fun c2 => ?_)))
  · unfold BarOk; simp; omega
  · unfold BarOk; simp; omega
  · unfold BarOk; simp; omega
  · unfold BarOk; simp; omega
  · unfold BarOk; simp; omega
  refine ⟨fun x H' => (x = true ↔ (bk B k = 3 ∨ bk B k = 4)) ∧ H' = H, ?_, ?_⟩
  · exact iteB_beq (fun c3 => ⟨by simp; omega, rfl⟩) (fun c3 => ⟨by simp; omega, rfl⟩)
  rintro x H1 ⟨hx, rfl⟩
  unfold F_pciconf_validBar_k1
  rw [i64_succ (by omega)]
  refine iteB_intro (fun d1 => iteB_dec (fun d2 => iteB_dec (fun d3 => iteB_dec (fun d4 => ?_) (fun d4 => dec _ ?_)) (fun d3 => dec _ ?_)) (fun d2 => dec _ ?_)) (fun d1 => dec _ ?_)
  · obtain ⟨a', hp', r0', _⟩ := Bars.atN h (k := k + 1) (by omega)
    refine ⟨by omega, by omega, unSome_mk hp' ⟨_, r0', dec _ ?_⟩⟩
    have := hx.1 d1
    unfold BarOk; simp; omega
  · unfold BarOk; simp; omega
  · unfold BarOk; simp; omega
  · unfold BarOk; simp; omega
  · rw [d1] at hx
    simp at hx
    unfold BarOk; simp; omega

theorem Valid_spec (f : Fn) (s : Sl) (H : Heap) (h : Bars H s f.bars) :
    CallsH Try.prog n_pciconf_Valid #[fnV f s] H (BoolP (decide (ValidF f)) H) := by
  refine F_pciconf_Valid_ok _ _ _ _ _ _ _ _ _ _ _ ?_
  unfold F_pciconf_Valid
  have bad : ∀ H', Ext H H' → ¬ ValidF f → BoolP (decide (ValidF f)) H (.bool false) H' := fun H' he hn => ⟨by rw [decide_eq_false hn], he⟩
  refine push_mk (vs := fnL f s) fun H1 e1 _ b1 => ?_
  have r1 := b1.rd (i := 1) rfl
  have r2 := b1.rd (i := 2) rfl
  have r3 := b1.rd (i := 3) rfl
  have r4 := b1.rd (i := 4) rfl
  have r5 := b1.rd (i := 5) rfl
  have r6 := b1.rd (i := 6) rfl
  have r7 := b1.rd (i := 7) rfl
  have r8 := b1.rd (i := 8) rfl
  have r9 := b1.rd (i := 9) rfl
  have r10 := b1.rd (i := 10) rfl
  simp only [r1, r2, r3, r4, r6, r7, r8, r9, Option.some.injEq, Value.int.injEq, Value.bool.injEq, true_and, exists_eq_left']
  refine iteB_dec (fun c => bad _ e1 (fun hv => by have := hv.ve; omega)) (fun c1 => iteB_dec (fun c => bad _ e1 (fun hv => by have := hv.ve; omega)) (fun c2 => ?_))
  refine iteB_dec (fun c => bad _ e1 (fun hv => by have := hv.de; omega)) (fun c3 => iteB_dec (fun c => bad _ e1 (fun hv => by have := hv.de; omega)) (fun c4 => ?_))
  refine iteB_dec (fun c => bad _ e1 (fun hv => by have := hv.sl; omega)) (fun c5 => iteB_dec (fun c => bad _ e1 (fun hv => by have := hv.sl; omega)) (fun c6 => ?_))
  refine iteB_dec (fun c => bad _ e1 (fun hv => by have := hv.pi; omega)) (fun c7 => iteB_dec (fun c => bad _ e1 (fun hv => by have := hv.pi; omega)) (fun c8 => ?_))
  refine iteB_dec (fun c => bad _ e1 (fun hv => by have := hv.vc; omega)) (fun c9 => iteB_dec (fun c => bad _ e1 (fun hv => by have := hv.vc; omega)) (fun c10 => ?_))
  refine iteB_bne (fun c => bad _ e1 (fun hv => c hv.vb)) (fun c11 => ?_)
  refine ⟨fun H' => H' = H1 ∧ (0 ≤ f.spare ∧ f.spare ≤ 32) ∧ (0 < f.spare → f.bridge = true ∧ f.hot = true), ?_, ?_⟩
  · refine iteB_dec (fun c => bad _ e1 (fun hv => by have := hv.sp; omega)) (fun c12 => iteB_dec (fun c => bad _ e1 (fun hv => by have := hv.sp; omega)) (fun c13 => ?_))
    refine iteB_dec (fun c14 => iteB_intro (fun c15 => iteB_not (fun c16 => bad _ e1 (fun hv => ?_)) (fun c16 => ⟨rfl, by omega, fun _ => ⟨c15, c16⟩⟩)) (fun c15 => bad _ e1 (fun hv => ?_))) (fun c14 => ⟨rfl, by omega, fun h => absurd h c14⟩)
    · have := (hv.sh c14).2; rw [c16] at this; cases this
    · have := (hv.sh c14).1; rw [c15] at this; cases this
  rintro H2 ⟨rfl, hsp, hsh⟩
  unfold F_pciconf_Valid_k3
  simp only [r4, r5, r6, Option.some.injEq, Value.bool.injEq, exists_eq_left']
  refine ⟨fun H' => H' = H2 ∧ (f.bridge = false → f.pref = false ∧ f.hot = false), ?_, ?_⟩
  · refine iteB_not (fun d1 => iteB_intro (fun d2 => bad _ e1 (fun hv => ?_)) (fun d2 => iteB_intro (fun d3 => bad _ e1 (fun hv => ?_)) (fun d3 => ⟨rfl, fun _ => ⟨d2, d3⟩⟩))) (fun d1 => ⟨rfl, fun h => by rw [d1] at h; cases h⟩)
    · have := (hv.nb d1).1; rw [d2] at this; cases this
    · have := (hv.nb d1).2; rw [d3] at this; cases this
  rintro H3 ⟨rfl, hnb⟩
  unfold F_pciconf_Valid_k2
  refine ⟨s, r10, _, r4, (registers_spec _ H3).mono ?_⟩
  rintro v H4 ⟨rfl, rfl⟩
  have hn := h.len
  have hr : regs f.bridge ≤ 6 := by unfold regs; split <;> omega
  refine ⟨_, rfl, .refl _ _, iteB_dec (fun c => bad _ e1 (fun hv => by have := hv.bl; omega)) (fun c12 => ⟨s, r10, ?_⟩)⟩
  refine loop1 f.bars.length (fun k H' => H' = H4 ∧ ∀ i, i < k → BarOk f.bars i) ⟨rfl, fun i hi => by omega⟩ ?_
  rintro k H5 hk ⟨rfl, hall⟩
  unfold F_pciconf_Valid_r1
  refine iteB_dec (fun g1 => ?_) (fun g1 => ?_)
  · have hkn : k < f.bars.length := by omega
    refine ⟨s, r10, (validBar_spec H5 s f.bars k (h.ext e1) hkn (by omega)).mono ?_⟩
    rintro v H6 ⟨rfl, rfl⟩
    refine ⟨_, rfl, iteB_not (fun g2 => bad _ e1 (fun hv => ?_)) (fun g2 => next1 hkn (by omega) ⟨rfl, fun i hi => ?_⟩)⟩
    · have := hv.ba k hkn; simp at g2; exact g2 this
    · by_cases e : i = k
      · subst e; simpa using g2
      · exact hall i (by omega)
  · refine ⟨?_, e1⟩
    rw [decide_eq_true]
    exact ⟨by omega, by omega, by omega, by omega, by omega, c11, hsp, hsh, hnb, by omega, fun i hi => hall i (by omega)⟩

theorem rValid_spec (f : Fn) (s : Sl) (H : Heap) (h : Bars H s f.bars) :
    CallsH Try.prog n_ref18_ValidFunction #[fnV f s] H (BoolP (decide (ValidF f)) H) := by
  refine F_ref18_ValidFunction_ok _ _ _ _ _ _ _ _ _ _ _ ?_
  unfold F_ref18_ValidFunction
  have bad : ∀ H', Ext H H' → ¬ ValidF f → BoolP (decide (ValidF f)) H (.bool false) H' := fun H' he hn => ⟨by rw [decide_eq_false hn], he⟩
  refine push_mk (vs := fnL f s) fun H1 e1 _ b1 => ?_
  have r0 := b1.rd0 rfl
  have r1 := b1.rd (i := 1) rfl
  have r2 := b1.rd (i := 2) rfl
  have r3 := b1.rd (i := 3) rfl
  have r4 := b1.rd (i := 4) rfl
  have r5 := b1.rd (i := 5) rfl
  have r6 := b1.rd (i := 6) rfl
  have r7 := b1.rd (i := 7) rfl
  have r8 := b1.rd (i := 8) rfl
  have r9 := b1.rd (i := 9) rfl
  have r10 := b1.rd (i := 10) rfl
  simp only [r1, r2, r3, r4, r5, r6, r7, r8, r9, Option.some.injEq, Value.int.injEq, Value.bool.injEq, true_and, exists_eq_left']
  refine iteB_dec (fun c => bad _ e1 (fun hv => by have := hv.ve; omega)) (fun c1 => iteB_dec (fun c => bad _ e1 (fun hv => by have := hv.ve; omega)) (fun c2 => ?_))
  refine iteB_dec (fun c => bad _ e1 (fun hv => by have := hv.de; omega)) (fun c3 => iteB_dec (fun c => bad _ e1 (fun hv => by have := hv.de; omega)) (fun c4 => ?_))
  refine iteB_dec (fun c => bad _ e1 (fun hv => by have := hv.sl; omega)) (fun c5 => iteB_dec (fun c => bad _ e1 (fun hv => by have := hv.sl; omega)) (fun c6 => ?_))
  refine iteB_dec (fun c => bad _ e1 (fun hv => by have := hv.pi; omega)) (fun c7 => iteB_dec (fun c => bad _ e1 (fun hv => by have := hv.pi; omega)) (fun c8 => ?_))
  refine iteB_dec (fun c => bad _ e1 (fun hv => by have := hv.sp; omega)) (fun c9 => iteB_dec (fun c => bad _ e1 (fun hv => by have := hv.sp; omega)) (fun c10 => ?_))
  refine ⟨fun H' => H' = H1 ∧ (0 ≤ f.vec ∧ f.vec ≤ 32) ∧ bitsAnd .i64 f.vec (IntKind.i64.wrap (f.vec - 1)) = 0 ∧ (0 < f.spare → f.bridge = true ∧ f.hot = true) ∧ (f.bridge = false → f.pref = false ∧ f.hot = false), ?_, ?_⟩
  · refine iteB_dec (fun c => bad _ e1 (fun hv => by have := hv.vc; omega)) (fun c11 => iteB_dec (fun c => bad _ e1 (fun hv => by have := hv.vc; omega)) (fun c12 => ?_))
    refine iteB_bne (fun c => bad _ e1 (fun hv => c hv.vb)) (fun c13 => ?_)
    have nbk : ∀ (K : Prop), ((f.bridge = false → f.pref = false ∧ f.hot = false) → K) → (∀ _ : ¬ ValidF f, (BoolP (decide (ValidF f)) H (.bool false) H1)) → iteB (!f.bridge) (iteB f.pref (BoolP (decide (ValidF f)) H (.bool false) H1) (iteB f.hot (BoolP (decide (ValidF f)) H (.bool false) H1) K)) K := by
      intro K hK hb
      refine iteB_not (fun d1 => iteB_intro (fun d2 => hb (fun hv => ?_)) (fun d2 => iteB_intro (fun d3 => hb (fun hv => ?_)) (fun d3 => hK (fun _ => ⟨d2, d3⟩)))) (fun d1 => hK (fun h => by rw [d1] at h; cases h))
      · have := (hv.nb d1).1; rw [d2] at this; cases this
      · have := (hv.nb d1).2; rw [d3] at this; cases this
    refine iteB_dec (fun c14 => iteB_not (fun c15 => bad _ e1 (fun hv => ?_)) (fun c15 => iteB_not (fun c16 => bad _ e1 (fun hv => ?_)) (fun c16 => nbk _ (fun hh => ?_) (bad _ e1)))) (fun c14 => nbk _ (fun hh => ?_) (bad _ e1))
    · have := (hv.sh c14).1; rw [c15] at this; cases this
    · have := (hv.sh c14).2; rw [c16] at this; cases this
    · exact ⟨rfl, by omega, c13, fun _ => ⟨c15, c16⟩, hh⟩
    · exact ⟨rfl, by omega, c13, fun h => absurd h c14, hh⟩
  rintro H2 ⟨rfl, hvc, hvb, hsh, hnb⟩
  unfold F_ref18_ValidFunction_k3
  refine ⟨s, r10, _, r0, _, r1, _, r2, _, r3, _, r4, _, r5, _, r6, _, r7, _, r8, _, r9, s, r10, (Registers_spec f s H2).mono ?_⟩
  rintro v H3 ⟨rfl, e3⟩
  have hn := h.len
  have hr : regs f.bridge ≤ 6 := by unfold regs; split <;> omega
  have x3 := e1.trans e3
  refine ⟨_, rfl, e3.keeps, iteB_dec (fun c => bad _ x3 (fun hv => by have := hv.bl; omega)) (fun c12 => ?_)⟩
  refine loop1 f.bars.length (fun k H' => Ext H2 H' ∧ ∀ i, i < k → BarOk f.bars i) ⟨e3, fun i hi => by omega⟩ ?_
  rintro k H4 hk ⟨e4, hall⟩
  unfold F_ref18_ValidFunction_r2
  have x4 := e1.trans e4
  have q10 := (b1.ext e4).rd (i := 10) rfl
  refine ⟨s, q10, iteB_dec (fun g1 => ?_) (fun g1 => ?_)⟩
  · have hkn : k < f.bars.length := by omega
    obtain ⟨a, hp, s0, s1⟩ := Bars.atN (h.ext x4) hkn
    refine ⟨s, q10, by omega, by omega, unSome_mk hp ⟨_, s0, _, s1, local_mk rfl rfl fun H6 e6 _ b6 => ?_⟩⟩
    have t0 := b6.rd0 rfl
    have t1 := b6.rd (i := 1) rfl
    have x6 := x4.trans e6
    have y6 := e4.trans e6
    have p10 := (b1.ext y6).rd (i := 10) rfl
    simp only [t0, t1, Option.some.injEq, Value.int.injEq, true_and, exists_eq_left']
    have no : ¬ BarOk f.bars k → BoolP (decide (ValidF f)) H (.bool false) H6 := fun hb => bad _ x6 (fun hv => hb (hv.ba k hkn))
    have nx : BarOk f.bars k → CI f.bars.length (fun k H' => Ext H2 H' ∧ ∀ i, i < k → BarOk f.bars i) (IntKind.i64.wrap ((k : Int) + 1)) H6 ∧ CM f.bars.length (IntKind.i64.wrap ((k : Int) + 1)) H6 < CM f.bars.length (k : Int) H4 := fun hb => next1 hkn (by omega) ⟨y6, fun i hi => by
      by_cases e : i = k
      · subst e; exact hb
      · exact hall i (by omega)⟩
    refine iteB_beq (fun d1 => iteB_bne (fun d2 => no (by unfold BarOk; omega)) (fun d2 => nx (by unfold BarOk; omega))) (fun d1 => iteB_beq (fun d2 => iteB_dec (fun d3 => no (by unfold BarOk; omega)) (fun d3 => iteB_dec (fun d4 => no (by unfold BarOk; omega)) (fun d4 => nx (by unfold BarOk; omega)))) (fun d2 => iteB_beq (fun d3 => iteB_dec (fun d4 => no (by unfold BarOk; omega)) (fun d4 => iteB_dec (fun d5 => no (by unfold BarOk; omega)) (fun d5 => nx (by unfold BarOk; omega)))) (fun d3 => ?_)))
    refine ⟨fun x H' => (x = true ↔ (bk f.bars k = 3 ∨ bk f.bars k = 4)) ∧ H' = H6, ?_, ?_⟩
    · exact iteB_beq (fun c3 => ⟨by simp; omega, rfl⟩) (fun c3 => ⟨by simp; omega, rfl⟩)
    rintro x H7 ⟨hx, rfl⟩
    unfold F_ref18_ValidFunction_k1
    simp only [t1, Option.some.injEq, Value.int.injEq, true_and, exists_eq_left']
    refine iteB_intro (fun g2 => ?_) (fun g2 => no (by rw [g2] at hx; simp at hx; unfold BarOk; omega))
    have hx' := hx.1 g2
    refine iteB_dec (fun g3 => no (by unfold BarOk; omega)) (fun g3 => iteB_dec (fun g4 => no (by unfold BarOk; omega)) (fun g4 => ⟨s, p10, ?_⟩))
    rw [i64_succ (by omega)]
    refine iteB_dec (fun g5 => no (by unfold BarOk; omega)) (fun g5 => ⟨s, p10, ?_⟩)
    obtain ⟨a', hp', u0, _⟩ := Bars.atN (h.ext x6) (k := k + 1) (by omega)
    refine ⟨by omega, by omega, unSome_mk hp' ⟨_, u0, iteB_bne (fun g6 => no (by unfold BarOk; omega)) (fun g6 => ?_)⟩⟩
    have := nx (by unfold BarOk; omega)
    rw [i64_succ (by omega)] at this
    exact this
  · refine ⟨?_, x4⟩
    rw [decide_eq_true]
    exact ⟨by omega, by omega, by omega, by omega, by omega, hvb, by omega, hsh, hnb, by omega, fun i hi => hall i (by omega)⟩

end Go.Proofs.Ytnhhncjflnlfaaa
end

section
/-
  Helpers that the laws share: Mod; blocks of a slice of one's own.
-/
namespace Go.Proofs.Ytnhhncjflnlfaaa
open Go.Eng

def modI (v n : Int) : Int := IntKind.u64.wrap v % n

theorem modI_range (v : Int) {n : Int} (hn : 0 < n) : 0 ≤ modI v n ∧ modI v n < n :=
  ⟨Int.emod_nonneg _ (by omega), Int.emod_lt_of_pos _ hn⟩

theorem Mod_spec (v n : Int) (H : Heap) (hn : 0 < n) (hn2 : n ≤ 9223372036854775807) :
    CallsH Try.prog n_help_Mod #[.int .i64 v, .int .i64 n] H (fun r H' => r = .int .i64 (modI v n) ∧ H' = H) := by
  refine F_help_Mod_ok v n ?_
  unfold F_help_Mod
  have hw : IntKind.u64.wrap n = n := u64_in (by omega)
  rw [hw]
  rw [Int.tmod_eq_emod_of_nonneg (u64_nonneg v)]
  have h1 := modI_range v hn
  refine ⟨by omega, letV_mk _ rfl ?_⟩
  have h2 : IntKind.i64.wrap (IntKind.u64.wrap v % n) = modI v n := i64_in (by unfold modI at h1; omega)
  rw [h2]
  exact ⟨rfl, rfl⟩

theorem Mod_pure (v n : Int) (hn : 0 < n) (hn2 : n ≤ 9223372036854775807) {K : Value → Prop} (h : K (.int .i64 (modI v n))) :
    CallsP Try.prog n_help_Mod #[.int .i64 v, .int .i64 n] K := ⟨_, fun H => Mod_spec v n H hn hn2, h⟩

/-- 'int64(uint64(x) % m)' -/
theorem umod_code (x : Int) {m : Int} (hm : 0 < m) (hm2 : m ≤ 9223372036854775807) : IntKind.i64.wrap ((IntKind.u64.wrap x).tmod m) = modI x m := by
  rw [Int.tmod_eq_emod_of_nonneg (u64_nonneg x)]
  have h1 := modI_range x hm
  exact i64_in (by unfold modI at h1; omega)

theorem blkOf_new {n : Nat} {p : Option Addr} (h : NewP n p) : ∀ x ∈ blkOf p, n ≤ x := by
  intro x hx
  cases p with
  | none => cases hx
  | some a => simp [blkOf] at hx; subst hx; exact h a rfl

theorem tab_succ {α : Type} (n : Nat) (f : Nat → α) : tab (n + 1) f = tab n f ++ [f n] := by
  unfold tab; rw [List.range_succ]; simp

end Go.Proofs.Ytnhhncjflnlfaaa
end

section
/-
  The engine, part 8: a map from pairs of integers to truth values, used as a set.
-/
namespace Go.Eng

abbrev prV (a b : Int) : Value := .agg #[.int .i64 a, .int .i64 b]
def In64 (a : Int) : Prop := -9223372036854775808 ≤ a ∧ a ≤ 9223372036854775807

structure PairKey (P : Program) (kt : TypeId) : Prop where
  law : WideMaps.KeyLaw P kt
  key : ∀ a b, In64 a → In64 b → ∃ l, keyOf P kt (prV a b) = some l

theorem wf_i64 {a : Int} (h : In64 a) : (Lit.int .i64 a).wf = true := by
  unfold In64 at h
  simp [Lit.wf, IntKind.min, IntKind.max, IntKind.bits, IntKind.signed]
  omega

theorem pairKey_arr {P : Program} {kt e : TypeId} (h : P.underlying kt = some (.array 2 e)) (he : P.underlying e = some (.int .i64)) (h1 : P.cellsOf e = 1) (h2 : P.cellsOf kt = 2) (hk : P.keyType kt = true) (hk2 : P.keyTypeAt 2 kt = true) (ht : P.tiled 2 kt = true)
    (hn : Nat.ble 1 P.types.size = true) : PairKey P kt := by
  refine ⟨deep_law (m := 2) (by omega) hk2 ht (by rw [h]), fun a b ha hb => ?_⟩
  obtain ⟨n, hn'⟩ : ∃ n, P.types.size = n + 1 := ⟨P.types.size - 1, by have := Nat.le_of_ble_eq_true hn; omega⟩
  have wa := wf_i64 ha
  have wb := wf_i64 hb
  have hl : ∀ x, (Lit.int .i64 x).wf = true → P.keyLits (n + 1) e [.int .i64 x] = some [.int .i64 x] := fun x hx => by simp [Program.keyLits, he, hx]
  unfold keyOf
  simp only [h]
  rw [if_pos (by simp [hk, Value.formed, h, h2])]
  rw [hn']
  have : P.keyLits (n + 1 + 1) kt (prV a b).cells.toList = some [.int .i64 a, .int .i64 b] := by
    rw [Program.keyLits.eq_def]
    simp only [h, h1, h2, Value.cells]
    simp [List.range, List.range.loop, hl a wa, hl b wb]
  exact ⟨_, by rw [this]; rfl⟩

theorem pairKey_str {P : Program} {kt e e' : TypeId} {fs : Array Field} (h : P.underlying kt = some (.struct fs)) (he : P.underlying e = some (.int .i64)) (he' : P.underlying e' = some (.int .i64)) (h1 : P.cellsOf e = 1) (h1' : P.cellsOf e' = 1) (h2 : P.cellsOf kt = 2) (hk : P.keyType kt = true) (hk2 : P.keyTypeAt 2 kt = true) (ht : P.tiled 2 kt = true)
    (hfs : fs.toList.map (fun f => (f.offset, f.type)) = [(0, e), (1, e')]) (hnm : (fs.all (·.name != "_")) = true) (hn : Nat.ble 1 P.types.size = true) : PairKey P kt := by
  refine ⟨deep_law (m := 2) (by omega) hk2 ht (by rw [h]), fun a b ha hb => ?_⟩
  obtain ⟨n, hn'⟩ : ∃ n, P.types.size = n + 1 := ⟨P.types.size - 1, by have := Nat.le_of_ble_eq_true hn; omega⟩
  have wa := wf_i64 ha
  have wb := wf_i64 hb
  have hl : ∀ x, (Lit.int .i64 x).wf = true → P.keyLits (n + 1) e [.int .i64 x] = some [.int .i64 x] := fun x hx => by simp [Program.keyLits, he, hx]
  have hl' : ∀ x, (Lit.int .i64 x).wf = true → P.keyLits (n + 1) e' [.int .i64 x] = some [.int .i64 x] := fun x hx => by simp [Program.keyLits, he', hx]
  obtain ⟨f0, f1, hf⟩ : ∃ f0 f1, fs.toList = [f0, f1] := by
    have : (fs.toList.map (fun f => (f.offset, f.type))).length = 2 := by rw [hfs]; rfl
    rw [List.length_map] at this
    match hq : fs.toList, this with
    | [f0, f1], _ => exact ⟨f0, f1, rfl⟩
  rw [hf] at hfs
  simp only [List.map_cons, List.map_nil, List.cons.injEq, Prod.mk.injEq, and_true] at hfs
  obtain ⟨⟨o0, t0⟩, o1, t1⟩ := hfs
  unfold keyOf
  simp only [h]
  rw [if_pos (by simp [hk, Value.formed, h, h2])]
  rw [hn']
  have : P.keyLits (n + 1 + 1) kt (prV a b).cells.toList = some [.int .i64 a, .int .i64 b] := by
    rw [Program.keyLits.eq_def]
    simp only [h, h2, Value.cells]
    rw [if_pos ⟨rfl, hnm⟩, hf]
    simp [o0, o1, t0, t1, h1, h1', hl a wa, hl' b wb]
  exact ⟨_, by rw [this]; rfl⟩

def intB (P : Program) (e : TypeId) : Bool := match P.underlying e with
  | some (.int k) => decide (k = .i64)
  | _ => false

def isPair (P : Program) (kt : TypeId) : Bool :=
  P.keyType kt && P.keyTypeAt 2 kt && P.tiled 2 kt && Nat.ble 1 P.types.size && Nat.beq (P.cellsOf kt) 2 &&
  match P.underlying kt with
  | some (.array n e) => Nat.beq n 2 && intB P e && Nat.beq (P.cellsOf e) 1
  | some (.struct fs) => fs.all (·.name != "_") && match fs.toList with
    | [f, g] => Nat.beq f.offset 0 && Nat.beq g.offset 1 && intB P f.type && intB P g.type && Nat.beq (P.cellsOf f.type) 1 && Nat.beq (P.cellsOf g.type) 1
    | _ => false
  | _ => false

theorem intB_elim {P : Program} {e : TypeId} (h : intB P e = true) : P.underlying e = some (.int .i64) := by
  unfold intB at h
  split at h
  · rename_i k hk
    rw [hk, of_decide_eq_true h]
  · cases h

theorem pairKey_of {P : Program} {kt : TypeId} (h : isPair P kt = true) : PairKey P kt := by
  unfold isPair at h
  simp only [Bool.and_eq_true] at h
  obtain ⟨⟨⟨⟨⟨h1, h2⟩, h3⟩, h4⟩, h5⟩, h6⟩ := h
  have h5' := Nat.eq_of_beq_eq_true h5
  split at h6
  · rename_i n e hu
    simp only [Bool.and_eq_true] at h6
    obtain ⟨⟨a1, a2⟩, a3⟩ := h6
    have := Nat.eq_of_beq_eq_true a1
    subst this
    exact pairKey_arr hu (intB_elim a2) (Nat.eq_of_beq_eq_true a3) h5' h1 h2 h3 h4
  · rename_i fs hu
    simp only [Bool.and_eq_true] at h6
    obtain ⟨hnm, h7⟩ := h6
    split at h7
    · rename_i f g hf
      simp only [Bool.and_eq_true] at h7
      obtain ⟨⟨⟨⟨⟨a1, a2⟩, a3⟩, a4⟩, a5⟩, a6⟩ := h7
      exact pairKey_str hu (intB_elim a3) (intB_elim a4) (Nat.eq_of_beq_eq_true a5) (Nat.eq_of_beq_eq_true a6) h5' h1 h2 h3 (by rw [hf]; simp [Nat.eq_of_beq_eq_true a1, Nat.eq_of_beq_eq_true a2]) hnm h4
    · cases h7
  · cases h6

/-- A set of pairs in memory: a map whose values are true. -/
def PSet (H : Heap) (r : Nat) (ks : List (Int × Int)) : Prop :=
  ∃ es clock, H[r]? = some (.map es clock) ∧ es.toList.map (fun e => (e.key, e.val)) = ks.map (fun k => (prV k.1 k.2, Value.bool true)) ∧ ∀ k ∈ ks, In64 k.1 ∧ In64 k.2

theorem PSet.lt {H : Heap} {r : Nat} {ks : List (Int × Int)} (h : PSet H r ks) : r < H.size := by
  obtain ⟨es, c, h1, _⟩ := h
  exact get_lt h1
theorem PSet.ext {H H' : Heap} {r : Nat} {ks : List (Int × Int)} (h : PSet H r ks) (e : Ext H H') : PSet H' r ks := by
  have hl := h.lt
  obtain ⟨es, c, h1, h2⟩ := h
  exact ⟨es, c, by rw [e.get r hl]; exact h1, h2⟩
theorem PSet.mods {H H' : Heap} {r : Nat} {ks : List (Int × Int)} {S : List Nat} (h : PSet H r ks) (e : Mods S H H') (hr : r ∉ S) : PSet H' r ks := by
  have hl := h.lt
  obtain ⟨es, c, h1, h2⟩ := h
  exact ⟨es, c, by rw [e.get r hl hr]; exact h1, h2⟩
theorem PSet.new (H : Heap) : PSet (H.push (.map #[] 0)) H.size [] := ⟨#[], 0, push_new _ _, rfl, by simp⟩

theorem psKeys {ks : List (Int × Int)} {es : Array MapEntry} (h : es.toList.map (fun e => (e.key, e.val)) = ks.map (fun k => (prV k.1 k.2, Value.bool true))) : ∀ e ∈ es.toList, ∃ k ∈ ks, e.key = prV k.1 k.2 ∧ e.val = .bool true := by
  intro e he
  have : (e.key, e.val) ∈ ks.map (fun k => (prV k.1 k.2, Value.bool true)) := by rw [← h]; exact List.mem_map.2 ⟨e, he, rfl⟩
  obtain ⟨k, hk, hke⟩ := List.mem_map.1 this
  simp only [Prod.mk.injEq] at hke
  exact ⟨k, hk, hke.1.symm, hke.2.symm⟩

theorem prV_inj {a b c d : Int} (h : prV a b = prV c d) : (a, b) = (c, d) := by
  simp at h
  rw [h.1, h.2]

theorem lookup_ps {P : Program} {t kt et : TypeId} {H : Heap} {r : Nat} {ks : List (Int × Int)} {a b : Int} {K : Value → Heap → Prop} (L : PairKey P kt) (ht : P.underlying t = some (.map kt et)) (hz : zeroT P et = some (.bool false)) (h : PSet H r ks) (ha : In64 a) (hb : In64 b)
    (hK : K (.bool (decide ((a, b) ∈ ks))) H) : runH P (Instr.lookup t (.map (some r)) (prV a b) false) H K := by
  intro w hw
  subst hw
  obtain ⟨es, c, h1, h2, h3⟩ := h
  obtain ⟨l, hl⟩ := L.key a b ha hb
  have hk := psKeys h2
  have hall : ∀ e ∈ es.toList, ∃ l, keyOf P kt e.key = some l := fun e he => by
    obtain ⟨k, hk1, hk2, _⟩ := hk e he
    rw [hk2]
    exact L.key _ _ (h3 k hk1).1 (h3 k hk1).2
  have hzv : (zeroValue et).run P w = .ok (.bool false) w := by
    unfold zeroT at hz
    cases hi : P.info? et with
    | none => rw [hi] at hz; cases hz
    | some i => rw [hi] at hz; simp at hz; simp [zeroValue, typeInfo, hi, hz]
  rcases L.law.find w hl es.toList hall with ⟨f1, f2⟩ | ⟨j, e0, f1, f2, f3⟩
  · have hno : (a, b) ∉ ks := by
      intro hm
      have : (prV a b, Value.bool true) ∈ es.toList.map (fun e => (e.key, e.val)) := by rw [h2]; exact List.mem_map.2 ⟨(a, b), hm, rfl⟩
      obtain ⟨e, he, hee⟩ := List.mem_map.1 this
      simp only [Prod.mk.injEq] at hee
      exact f2 e he hee.1
    refine ⟨.bool false, w, ?_, .refl w, ?_⟩
    · simp [Instr.lookup, run_underlying ht, MapKept.run_getObj_map h1, L.law.check w _ hl, f1, hzv, Result.andThen]
    · rw [decide_eq_false hno] at hK; exact hK
  · have he0 : e0 ∈ es.toList := List.mem_of_getElem? f2
    obtain ⟨k, hk1, hk2, hk3⟩ := hk e0 he0
    have hyes : (a, b) ∈ ks := by
      rw [f3] at hk2
      rw [prV_inj hk2]
      exact hk1
    refine ⟨.bool true, w, ?_, .refl w, ?_⟩
    · simp [Instr.lookup, run_underlying ht, MapKept.run_getObj_map h1, L.law.check w _ hl, f1, Result.andThen, hk3]
    · rw [decide_eq_true hyes] at hK; exact hK

theorem update_ps {P : Program} {t kt et : TypeId} {H : Heap} {r : Nat} {ks : List (Int × Int)} {a b : Int} {K : Unit → Heap → Prop} (L : PairKey P kt) (ht : P.underlying t = some (.map kt et)) (h : PSet H r ks) (ha : In64 a) (hb : In64 b) (hno : (a, b) ∉ ks)
    (hK : ∀ H', PSet H' r (ks ++ [(a, b)]) → Mods [r] H H' → H'.size = H.size → K () H') : runH P (Instr.mapUpdate t (.map (some r)) (prV a b) (.bool true)) H K := by
  intro w hw
  subst hw
  have hlt := h.lt
  obtain ⟨es, c, h1, h2, h3⟩ := h
  obtain ⟨l, hl⟩ := L.key a b ha hb
  have hk := psKeys h2
  have hall : ∀ e ∈ es.toList, ∃ l, keyOf P kt e.key = some l := fun e he => by
    obtain ⟨k, hk1, hk2, _⟩ := hk e he
    rw [hk2]
    exact L.key _ _ (h3 k hk1).1 (h3 k hk1).2
  rcases L.law.find w hl es.toList hall with ⟨f1, f2⟩ | ⟨j, e0, f1, f2, f3⟩
  · refine ⟨(), { w with heap := w.heap.setIfInBounds r (.map (es.push ⟨prV a b, .bool true, c⟩) (c + 1)) }, ?_, ⟨rfl, rfl, rfl⟩, hK _ ⟨es.push ⟨prV a b, .bool true, c⟩, c + 1, ?_, ?_, ?_⟩ ⟨?_, fun k hk hkn => ?_⟩ ?_⟩
    · simp [Instr.mapUpdate, run_underlying ht, MapKept.run_getObj_map h1, L.law.check w _ hl, f1, MapKept.run_setObj_map _ h1, Result.andThen]
    · simp [hlt]
    · simp [h2]
    · intro k hk
      simp only [List.mem_append, List.mem_singleton] at hk
      rcases hk with hk | rfl
      · exact h3 k hk
      · exact ⟨ha, hb⟩
    · simp
    · rw [Array.getElem?_setIfInBounds, if_neg (by simp at hkn; omega)]
    · simp
  · exfalso
    have he0 : e0 ∈ es.toList := List.mem_of_getElem? f2
    obtain ⟨k, hk1, hk2, hk3⟩ := hk e0 he0
    rw [f3] at hk2
    exact hno (by rw [prV_inj hk2]; exact hk1)

end Go.Eng
end

section
/-
  Topologies (lists of functions) in memory; when one is valid; the contracts of enumerate.Valid and of the reference's Valid.
-/
namespace Go.Proofs.Ytnhhncjflnlfaaa
open Go.Eng

abbrev FS := Fn × Sl
abbrev encF (x : FS) : List Value := fnL x.1 x.2
theorem encF_len (x : FS) : (encF x).length = 11 := rfl
theorem encF_one (x : FS) : ∀ u ∈ encF x, oneC u = true := fun u hu => by
  simp only [encF, fnL, List.mem_cons, List.not_mem_nil, or_false] at hu
  rcases hu with rfl | rfl | rfl | rfl | rfl | rfl | rfl | rfl | rfl | rfl | rfl <;> rfl

/-- A list of functions in memory. -/
structure Topo (H : Heap) (s : Sl) (T : List FS) : Prop where
  is : IsS 11 encF H s T
  bars : ∀ x ∈ T, Bars H x.2 x.1.bars

theorem Topo.ext {H H' : Heap} {s : Sl} {T : List FS} (h : Topo H s T) (e : Ext H H') : Topo H' s T := ⟨h.is.ext e, fun x hx => (h.bars x hx).ext e⟩
theorem Topo.len {H : Heap} {s : Sl} {T : List FS} (h : Topo H s T) : s.n = T.length := h.is.len

def zF : FS := (⟨0, 0, 0, 0, false, false, false, 0, 0, 0, []⟩, ⟨none, 0, 0⟩)
def fnAt (T : List FS) (i : Nat) : Fn := (T.getD i zF).1
def slAt (T : List FS) (i : Nat) : Sl := (T.getD i zF).2

theorem Topo.barsAt {H : Heap} {s : Sl} {T : List FS} (h : Topo H s T) {i : Nat} (hi : i < T.length) : Bars H (slAt T i) (fnAt T i).bars := by
  have : T.getD i zF = T[i] := by simp [List.getD, hi]
  unfold slAt fnAt
  rw [this]
  exact h.bars _ (List.getElem_mem hi)

theorem Topo.at {H : Heap} {s : Sl} {T : List FS} (h : Topo H s T) {i : Nat} (hi : i < T.length) : ∃ a, s.p = some a ∧ ∀ j v, (fnL (fnAt T i) (slAt T i))[j]? = some v → rd H ((a.add ((i : Int).toNat * 11)).add j) = some v := by
  obtain ⟨a, hp, hr⟩ := h.is.get (i := i) (x := T.getD i zF) (by simp [List.getD, hi])
  exact ⟨a, hp, fun j v hv => by rw [Int.toNat_natCast]; exact hr j v hv⟩

/-- Reading a function's cells. -/
theorem rdFn {H : Heap} {a : Addr} {f : Fn} {s : Sl} (h : ∀ j v, (fnL f s)[j]? = some v → rd H (a.add j) = some v) :
    rd H a = some (.int .i64 f.parent) ∧ rd H (a.add 1) = some (.int .i64 f.slot) ∧ rd H (a.add 2) = some (.int .i64 f.vendor) ∧ rd H (a.add 3) = some (.int .i64 f.device) ∧ rd H (a.add 4) = some (.bool f.bridge) ∧ rd H (a.add 5) = some (.bool f.pref) ∧
    rd H (a.add 6) = some (.bool f.hot) ∧ rd H (a.add 7) = some (.int .i64 f.spare) ∧ rd H (a.add 8) = some (.int .i64 f.pin) ∧ rd H (a.add 9) = some (.int .i64 f.vec) ∧ rd H (a.add 10) = some (.slice s.p s.n s.c) := by
  refine ⟨?_, h 1 _ rfl, h 2 _ rfl, h 3 _ rfl, h 4 _ rfl, h 5 _ rfl, h 6 _ rfl, h 7 _ rfl, h 8 _ rfl, h 9 _ rfl, h 10 _ rfl⟩
  have := h 0 _ rfl
  simpa [Addr.add] using this

/-- What the two validities ask of function 'i'. -/
structure OkAt (T : List FS) (i : Nat) : Prop where
  va : ValidF (fnAt T i)
  pa : -1 ≤ (fnAt T i).parent ∧ (fnAt T i).parent < i
  br : 0 ≤ (fnAt T i).parent → (fnAt T (fnAt T i).parent.toNat).bridge = true
  un : ∀ k, k < i → ¬ ((fnAt T k).parent = (fnAt T i).parent ∧ (fnAt T k).slot = (fnAt T i).slot)

theorem OkAt_iff (T : List FS) (i : Nat) : OkAt T i ↔ ValidF (fnAt T i) ∧ (-1 ≤ (fnAt T i).parent ∧ (fnAt T i).parent < i) ∧ (0 ≤ (fnAt T i).parent → (fnAt T (fnAt T i).parent.toNat).bridge = true) ∧ (∀ k, k < i → ¬ ((fnAt T k).parent = (fnAt T i).parent ∧ (fnAt T k).slot = (fnAt T i).slot)) :=
  ⟨fun ⟨a, b, c, d⟩ => ⟨a, b, c, d⟩, fun ⟨a, b, c, d⟩ => ⟨a, b, c, d⟩⟩
instance (T : List FS) (i : Nat) : Decidable (OkAt T i) := decidable_of_iff _ (OkAt_iff T i).symm

def ValidT (T : List FS) : Prop := T.length ≤ 64 ∧ ∀ i, i < T.length → OkAt T i
instance (T : List FS) : Decidable (ValidT T) := by unfold ValidT; infer_instance

theorem in64 {a : Int} (h : -9223372036854775808 ≤ a ∧ a ≤ 9223372036854775807) : In64 a := h
theorem place_key : PairKey Try.prog t_enumerate_place := pairKey_of (by kernel_rfl)

theorem eValid_spec (T : List FS) (s : Sl) (H : Heap) (h : Topo H s T) : CallsH Try.prog n_enumerate_Valid #[.slice s.p s.n s.c] H (BoolP (decide (ValidT T)) H) := by
  refine F_enumerate_Valid_ok _ ?_
  unfold F_enumerate_Valid
  have bad : ∀ H', Ext H H' → ¬ ValidT T → BoolP (decide (ValidT T)) H (.bool false) H' := fun H' he hn => ⟨by rw [decide_eq_false hn], he⟩
  have hn := h.len
  refine iteB_dec (fun c => bad H (.refl _) (fun hv => by have := hv.1; omega)) (fun c => letH_mk ?_)
  intro H1 h1
  have e1 : Ext H H1 := by rw [h1]; exact Ext.push _ _
  have m1 : PSet H1 H.size [] := by rw [h1]; exact PSet.new H
  clear h1
  refine loop1 T.length (fun k H' => Ext H H' ∧ (∀ i, i < k → OkAt T i) ∧ PSet H' H.size (tab k (fun i => ((fnAt T i).parent, (fnAt T i).slot)))) ⟨e1, fun i hi => by omega, m1⟩ ?_
  rintro k H2 hk ⟨e2, hok, m2⟩
  unfold F_enumerate_Valid_r2
  refine iteB_dec (fun c1 => ?_) (fun c1 => ?_)
  · have hkn : k < T.length := by omega
    obtain ⟨a, hp, hr⟩ := (h.ext e2).at hkn
    obtain ⟨p0, p1, p2, p3, p4, p5, p6, p7, p8, p9, p10⟩ := rdFn hr
    have no : ∀ H', Ext H H' → ¬ OkAt T k → BoolP (decide (ValidT T)) H (.bool false) H' := fun H' he hn => bad H' he (fun hv => hn (hv.2 k hkn))
    refine ⟨by omega, by omega, unSome_mk hp ⟨_, p0, _, p1, _, p2, _, p3, _, p4, _, p5, _, p6, _, p7, _, p8, _, p9, slAt T k, p10, local_mk (vs := fnL (fnAt T k) (slAt T k)) rfl rfl fun H4 e4 z4 b4 => ?_⟩⟩
    have x4 := e2.trans e4
    obtain ⟨p0, p1, p2, p3, p4, p5, p6, p7, p8, p9, p10⟩ := Blk.fn b4
    refine ⟨_, p0, _, p1, _, p2, _, p3, _, p4, _, p5, _, p6, _, p7, _, p8, _, p9, _, p10, (Valid_spec _ _ H4 ((h.ext x4).barsAt hkn)).mono ?_⟩
    rintro v H5 ⟨rfl, e5⟩
    have x5 := x4.trans e5
    have b5 := b4.ext e5
    refine ⟨_, rfl, iteB_not (fun c2 => no H5 x5 (fun ho => by simp at c2; exact c2 ho.va)) (fun c2 => ⟨_, b5.rd0 rfl, iteB_dec (fun c3 => no H5 x5 (fun ho => by have := ho.pa; omega)) (fun c3 => ⟨_, b5.rd0 rfl, iteB_dec (fun c4 => no H5 x5 (fun ho => by have := ho.pa; omega)) (fun c4 => ?_)⟩)⟩)⟩
    have hva : ValidF (fnAt T k) := by simpa using c2
    refine ⟨fun H' => H' = H5 ∧ (0 ≤ (fnAt T k).parent → (fnAt T (fnAt T k).parent.toNat).bridge = true), ⟨_, b5.rd0 rfl, iteB_dec (fun c5 => ?_) (fun c5 => ⟨rfl, fun hh => absurd hh c5⟩)⟩, ?_⟩
    · obtain ⟨j, hj⟩ := Int.eq_ofNat_of_zero_le c5
      obtain ⟨a', hp', hr'⟩ := (h.ext x5).at (i := j) (by omega)
      have r4 := (rdFn hr').2.2.2.2.1
      refine ⟨_, b5.rd0 rfl, by omega, by omega, unSome_mk hp' ⟨_, by rw [hj]; exact r4, iteB_not (fun c6 => no H5 x5 (fun ho => ?_)) (fun c6 => ⟨rfl, fun _ => by rw [hj]; exact c6⟩)⟩⟩
      have := ho.br c5
      rw [hj] at this
      simp only [Int.toNat_natCast] at this
      rw [c6] at this
      cases this
    · rintro H6 ⟨rfl, hbr⟩
      unfold F_enumerate_Valid_k1
      have hsl := hva.sl
      have ha : In64 (fnAt T k).parent := in64 (by omega)
      have hb : In64 (fnAt T k).slot := in64 (by omega)
      refine ⟨_, b5.rd0 rfl, _, b5.rd (i := 1) rfl, local_mk rfl rfl fun H8 e8 z8 b8 => ⟨_, b8.rd0 rfl, _, b8.rd (i := 1) rfl, ?_⟩⟩
      have x8 := x5.trans e8
      have m8 := ((m2.ext e4).ext e5).ext e8
      refine lookup_ps place_key (et := t_bool) (by kernel_rfl) (by kernel_rfl) m8 ha hb ⟨_, rfl, iteB_dec (fun c7 => no H8 x8 (fun ho => ?_)) (fun c7 => ⟨_, b8.rd0 rfl, _, b8.rd (i := 1) rfl, update_ps place_key (et := t_bool) (by kernel_rfl) m8 ha hb c7 fun H10 m10 md10 z10 => ?_⟩)⟩
      · obtain ⟨i, hi, hie⟩ := List.mem_map.1 c7
        simp only [List.mem_range] at hi
        simp only [Prod.mk.injEq] at hie
        exact ho.un i hi hie
      · refine next1 hkn (by omega) ⟨Mods.ext x8 md10 (by simp), fun i hi => ?_, ?_⟩
        · by_cases e : i = k
          · subst e
            refine ⟨hva, by omega, hbr, fun j hj hjj => c7 ?_⟩
            refine List.mem_map.2 ⟨j, by simpa using hj, ?_⟩
            rw [hjj.1, hjj.2]
          · exact hok i (by omega)
        · rw [tab_succ]; exact m10
  · refine ⟨?_, e2⟩
    rw [decide_eq_true]
    exact ⟨by omega, fun i hi => hok i (by omega)⟩

end Go.Proofs.Ytnhhncjflnlfaaa
end

section
/-
  The contract of the reference's Valid; the registers that the generator makes.
-/
namespace Go.Proofs.Ytnhhncjflnlfaaa
open Go.Eng

theorem rVal_spec (T : List FS) (s : Sl) (H : Heap) (h : Topo H s T) : CallsH Try.prog n_ref18_Valid #[.slice s.p s.n s.c] H (BoolP (decide (ValidT T)) H) := by
  refine F_ref18_Valid_ok _ ?_
  unfold F_ref18_Valid
  have bad : ∀ H', Ext H H' → ¬ ValidT T → BoolP (decide (ValidT T)) H (.bool false) H' := fun H' he hn => ⟨by rw [decide_eq_false hn], he⟩
  have hn := h.len
  refine iteB_dec (fun c => bad H (.refl _) (fun hv => by have := hv.1; omega)) (fun c => ?_)
  refine loop1 T.length (fun k H' => Ext H H' ∧ (∀ i, i < k → OkAt T i)) ⟨.refl _, fun i hi => by omega⟩ ?_
  rintro k H1 hk ⟨e1, hok⟩
  unfold F_ref18_Valid_r3
  refine iteB_dec (fun c1 => ?_) (fun c1 => ?_)
  · have hkn : k < T.length := by omega
    obtain ⟨a, hp, hr⟩ := (h.ext e1).at hkn
    obtain ⟨p0, p1, p2, p3, p4, p5, p6, p7, p8, p9, p10⟩ := rdFn hr
    have no : ∀ H', Ext H H' → ¬ OkAt T k → BoolP (decide (ValidT T)) H (.bool false) H' := fun H' he hn => bad H' he (fun hv => hn (hv.2 k hkn))
    refine ⟨fun H' => Ext H H' ∧ ValidF (fnAt T k) ∧ (-1 ≤ (fnAt T k).parent ∧ (fnAt T k).parent < k) ∧ (0 ≤ (fnAt T k).parent → (fnAt T (fnAt T k).parent.toNat).bridge = true), ?_, ?_⟩
    · refine ⟨by omega, by omega, unSome_mk hp ⟨_, p0, _, p1, _, p2, _, p3, _, p4, _, p5, _, p6, _, p7, _, p8, _, p9, slAt T k, p10, (rValid_spec _ _ H1 ((h.ext e1).barsAt hkn)).mono ?_⟩⟩
      rintro v H2 ⟨rfl, e2⟩
      have x2 := e1.trans e2
      have q0 := e2.rd p0
      refine ⟨_, rfl, iteB_not (fun c2 => no H2 x2 (fun ho => by simp at c2; exact c2 ho.va)) (fun c2 => ⟨by omega, by omega, unSome_mk hp ⟨_, q0, iteB_dec (fun c3 => no H2 x2 (fun ho => by have := ho.pa; omega)) (fun c3 => ⟨by omega, by omega, unSome_mk hp ⟨_, q0, iteB_dec (fun c4 => no H2 x2 (fun ho => by have := ho.pa; omega)) (fun c4 => ⟨by omega, by omega, unSome_mk hp ⟨_, q0, iteB_dec (fun c5 => ⟨by omega, by omega, unSome_mk hp ⟨_, q0, by omega, by omega, ?_⟩⟩) (fun c5 => ⟨x2, by simpa using c2, by omega, fun hh => absurd hh c5⟩)⟩⟩)⟩⟩)⟩⟩)⟩
      obtain ⟨j, hj⟩ := Int.eq_ofNat_of_zero_le c5
      obtain ⟨a', hp', hr'⟩ := (h.ext x2).at (i := j) (by omega)
      have r4 := (rdFn hr').2.2.2.2.1
      refine unSome_mk hp' ⟨_, by rw [hj]; exact r4, iteB_not (fun c6 => no H2 x2 (fun ho => ?_)) (fun c6 => ⟨x2, by simpa using c2, by omega, fun _ => by rw [hj]; exact c6⟩)⟩
      have := ho.br c5
      rw [hj] at this
      simp only [Int.toNat_natCast] at this
      rw [c6] at this
      cases this
    · rintro H3 ⟨e3, hva, hpa, hbr⟩
      unfold F_ref18_Valid_k2
      obtain ⟨a, hp, hr⟩ := (h.ext e3).at hkn
      obtain ⟨p0, p1, p2, p3, p4, p5, p6, p7, p8, p9, p10⟩ := rdFn hr
      refine loop1 k (fun j H' => H' = H3 ∧ ∀ i, i < j → ¬ ((fnAt T i).parent = (fnAt T k).parent ∧ (fnAt T i).slot = (fnAt T k).slot)) ⟨rfl, fun i hi => by omega⟩ ?_
      rintro j H4 hj ⟨rfl, hun⟩
      unfold F_ref18_Valid_r1
      refine iteB_dec (fun d1 => ?_) (fun d1 => ?_)
      · have hjk : j < k := by omega
        obtain ⟨b, hq, hr'⟩ := (h.ext e3).at (i := j) (by omega)
        obtain ⟨q0, q1, _⟩ := rdFn hr'
        have ext1 : ¬ ((fnAt T j).parent = (fnAt T k).parent ∧ (fnAt T j).slot = (fnAt T k).slot) → ∀ i, i < j + 1 → ¬ ((fnAt T i).parent = (fnAt T k).parent ∧ (fnAt T i).slot = (fnAt T k).slot) := fun hne i hi => by
          by_cases e : i = j
          · subst e; exact hne
          · exact hun i (by omega)
        refine ⟨by omega, by omega, unSome_mk hq ⟨_, q0, by omega, by omega, unSome_mk hp ⟨_, p0, iteB_beq (fun c7 => ⟨by omega, by omega, unSome_mk hq ⟨_, q1, by omega, by omega, unSome_mk hp ⟨_, p1, iteB_beq (fun c8 => no H4 e3 (fun ho => ho.un j hjk ⟨c7, c8⟩)) (fun c8 => letV_mk _ rfl (next1 hjk (by omega) ⟨rfl, ext1 (fun hh => c8 hh.2)⟩))⟩⟩⟩) (fun c7 => letV_mk _ rfl (next1 hjk (by omega) ⟨rfl, ext1 (fun hh => c7 hh.1)⟩))⟩⟩⟩
      · have hjk : j = k := by omega
        subst hjk
        refine letV_mk _ rfl (next1 hkn (by omega) ⟨e3, fun i hi => ?_⟩)
        by_cases e : i = j
        · subst e; exact ⟨hva, hpa, hbr, hun⟩
        · exact hok i (by omega)
  · refine ⟨?_, e1⟩
    rw [decide_eq_true]
    exact ⟨by omega, fun i hi => hok i (by omega)⟩

/-- Registers in order: none, or such as 'Valid' asks for. -/
def BarsOk (B : List Bar) : Prop := ∀ i, i < B.length → BarOk B i

theorem bk_append {B C : List Bar} {i : Nat} (h : i < B.length) : bk (B ++ C) i = bk B i ∧ bz (B ++ C) i = bz B i := by
  unfold bk bz
  simp [List.getD, List.getElem?_append_left h]
theorem bk_append_r {B C : List Bar} {i : Nat} : bk (B ++ C) (B.length + i) = bk C i ∧ bz (B ++ C) (B.length + i) = bz C i := by
  unfold bk bz
  simp [List.getD, List.getElem?_append_right]
theorem BarsOk.append {B C : List Bar} (hB : BarsOk B) (hC : BarsOk C) : BarsOk (B ++ C) := by
  intro i hi
  by_cases c : i < B.length
  · have h1 := bk_append (C := C) c
    have hb := hB i c
    unfold BarOk at hb ⊢
    rw [h1.1, h1.2]
    rcases hb with hb | hb | hb | ⟨x1, x2, x3, x4, x5⟩
    · exact .inl hb
    · exact .inr (.inl hb)
    · exact .inr (.inr (.inl hb))
    · refine .inr (.inr (.inr ⟨x1, x2, x3, by simp; omega, ?_⟩))
      rw [(bk_append (C := C) x4).1]
      exact x5
  · obtain ⟨j, rfl⟩ : ∃ j, i = B.length + j := ⟨i - B.length, by omega⟩
    have hj : j < C.length := by simp at hi; omega
    have h1 := bk_append_r (B := B) (C := C) (i := j)
    have h2 := bk_append_r (B := B) (C := C) (i := j + 1)
    have hb := hC j hj
    unfold BarOk at hb ⊢
    rw [h1.1, h1.2]
    rcases hb with hb | hb | hb | ⟨x1, x2, x3, x4, x5⟩
    · exact .inl hb
    · exact .inr (.inl hb)
    · exact .inr (.inr (.inl hb))
    · refine .inr (.inr (.inr ⟨x1, x2, x3, by simp; omega, ?_⟩))
      rw [Nat.add_assoc, h2.1]
      exact x5

end Go.Proofs.Ytnhhncjflnlfaaa
end

section
/-
  The engine, part 7: the builtin 'copy' into a block of one's own.
-/
namespace Go.Eng

theorem copy_rb {α : Type} {P : Program} {st st' ty e e' : TypeId} {sz g dc : Nat} {enc : α → List Value} {H : Heap} {s : Sl} {l L : List α} {K : Value → Heap → Prop}
    (ht : P.underlying st = some (.slice e)) (hi : szT P e = some sz) (hd : RB H g e' sz enc L) (hs : IsS sz enc H s l) (hl : l.length ≤ L.length) (hone : ∀ x, ∀ u ∈ enc x, oneC u = true)
    (hK : ∀ H', RB H' g e' sz enc (l ++ L.drop l.length) → Mods [g] H H' → H'.size = H.size → K (.int .i64 l.length) H') :
    runH P (Builtin.copy_ #[st, st'] ty #[.slice (some (⟨g, 0, none⟩ : Addr)) L.length dc, .slice s.p s.n s.c]) H K := by
  intro w hw
  subst hw
  obtain ⟨he, ex, hb⟩ := hd
  obtain ⟨i, hi1, hi2⟩ : ∃ i, P.info? e = some i ∧ i.size = sz := by
    unfold szT at hi
    cases hq : P.info? e with
    | none => rw [hq] at hi; cases hi
    | some i => rw [hq] at hi; exact ⟨i, rfl, by simpa using hi⟩
  have hn : Nat.min s.n L.length = l.length := by rw [hs.len]; exact Nat.min_eq_left hl
  cases hp : s.p with
  | none =>
    have hl0 : l = [] := by
      rcases hs.row with h | ⟨a, ha, _⟩
      · exact h
      · rw [hp] at ha; cases ha
    subst hl0
    refine ⟨_, w, ?_, .refl w, hK w.heap ⟨he, ex, by simpa using hb⟩ (.refl _ _) rfl⟩
    simp [Builtin.copy_, run_underlying ht, Builtin.lenOf, Builtin.firstCells, sizeOf, typeInfo, hi1, storeCells, goInt]
    have := hs.len
    exact .inl (by simpa using this)
  | some a =>
    have hfl := flat_len he l
    have hld := run_loadCells_list (P := P) w a (l.flatMap enc) (fun j v hv => hs.flat he hp j v hv)
    have h1 : ∀ v ∈ l.flatMap enc, v.oneCell' = true := by
      intro u hu
      obtain ⟨x, _, hx⟩ := List.mem_flatMap.1 hu
      have := hone x u hx
      cases u <;> simp_all [oneC, Value.oneCell']
    have hfit : (l.flatMap enc).length ≤ (L.flatMap enc ++ ex).toArray.size := by
      simp only [List.size_toArray, List.length_append, flat_len he]
      have := Nat.mul_le_mul_right sz hl
      omega
    have hst := run_storeCells_at P g 0 e' (l.flatMap enc) 0 _ w hb (by simpa using hfit) h1
    simp only [Nat.add_zero, Nat.zero_add, List.take_zero, List.nil_append, hfl] at hst
    have hX : l.flatMap enc ++ (L.flatMap enc ++ ex).drop (l.length * sz) = (l ++ L.drop l.length).flatMap enc ++ ex := by
      rw [List.flatMap_append, List.append_assoc]
      congr 1
      have h2 := flat_len he (L.take l.length)
      rw [List.length_take, Nat.min_eq_left hl] at h2
      have h3 : L.flatMap enc = (L.take l.length).flatMap enc ++ (L.drop l.length).flatMap enc := by rw [← List.flatMap_append, List.take_append_drop]
      rw [h3, List.append_assoc, ← h2, List.drop_left]
    rw [hX] at hst
    refine ⟨.int .i64 l.length, w.setRow g ((l ++ L.drop l.length).flatMap enc ++ ex).toArray, ?_, ⟨rfl, rfl, rfl⟩, hK _ ⟨he, ex, setRow_heap w g _ _ e' _ hb⟩ ⟨?_, fun k hk hne => ?_⟩ ?_⟩
    · rw [hfl] at hld
      simp [Builtin.copy_, Builtin.lenOf, Builtin.firstCells, sizeOf, typeInfo, goInt, run_underlying ht, hi1, hi2]
      rw [hn, hld]
      simp [hst]
    · simp [World.setRow]
    · unfold World.setRow
      dsimp only
      rw [Array.getElem?_modify, if_neg (fun e => hne (by simp [e]))]
    · simp [World.setRow]

/-- 'append' of several rows to a slice of one's own. -/
theorem append_rows {α : Type} {P : Program} {st e : TypeId} {z : Value} {sz bytes lo n : Nat} {enc : α → List Value} {H : Heap} {s : Sl} {l : List α} (ys : List α) {K : Sl → Heap → Prop}
    (ht : P.underlying st = some (.slice e)) (hi : (P.info? e).map (fun i => (i.zero, i.size, i.bytes)) = some (some z, sz, bytes)) (hzs : z.cells.size = sz) (hsz : 0 < sz) (he : ∀ x, (enc x).length = sz)
    (hone : ∀ x, ∀ u ∈ enc x, oneC u = true) (hy : n = ys.length) (h : Own lo e sz H s (l.flatMap enc)) (hn : s.n + n ≤ maxLen) (hb : (s.n + n) * bytes ≤ 140737488355328) (hlo : lo ≤ H.size)
    (hK : ∀ (s' : Sl) (H' : Heap), Own lo e sz H' s' ((l ++ ys).flatMap enc) → s'.n = s.n + n → Mods (blkOf s.p) H H' → K s' H') :
    letH (H.push (.cells (ys.flatMap enc).toArray e (0, 0))) (fun H1 => runH P (Builtin.append_ #[st, st] st #[.slice s.p s.n s.c, .slice (some (⟨H.size, 0, none⟩ : Addr)) n n]) H1 (fun v H2 => ∃ y : Sl, v = .slice y.p y.n y.c ∧ K y H2)) := by
  obtain ⟨i, hi1, hi2, hi3, hi4⟩ := info_ex hi
  refine letH_mk ?_
  rintro H1 rfl
  have hnew : Blk (H.push (.cells (ys.flatMap enc).toArray e (0, 0))) H.size e (ys.flatMap enc) := Blk.new _ _ _
  refine append_own (src := ⟨some ⟨H.size, 0, none⟩, n, n⟩) (news := ys.flatMap enc) ht hi1 hi2 hi3 hi4 hzs hsz (h.ext (Ext.push _ _)) rfl (by rw [flat_len he, hy]) (fun j u hu => hnew.rd hu) (fun u hu => ?_) hn hb (by simp; omega) ?_
  · obtain ⟨x, _, hx⟩ := List.mem_flatMap.1 hu
    exact hone x u hx
  intro s' H' ho hn' hg
  refine ⟨s', rfl, hK s' H' ?_ hn' ⟨?_, fun k hk hkn => ?_⟩⟩
  · rw [List.flatMap_append]; exact ho
  · have := hg.1; simp at this; omega
  · rw [hg.2 k (by simp; omega) (fun a ha e => hkn (by rw [ha]; simp [blkOf, e])), push_lt hk]

/-- 'append' of a list (a slice somewhere in memory) to a slice of one's own; it tells where the result lies. -/
theorem append_at {α : Type} {P : Program} {st ty e : TypeId} {z : Value} {sz bytes lo : Nat} {enc : α → List Value} {H : Heap} {s src : Sl} {l ys : List α} {K : Value → Heap → Prop}
    (ht : P.underlying st = some (.slice e)) (hi : (P.info? e).map (fun i => (i.zero, i.size, i.bytes)) = some (some z, sz, bytes)) (hzs : z.cells.size = sz) (hsz : 0 < sz) (he : ∀ x, (enc x).length = sz)
    (hone : ∀ x, ∀ u ∈ enc x, oneC u = true) (h : Own lo e sz H s (l.flatMap enc)) (hs : IsS sz enc H src ys) (hp : src.p ≠ none) (hn : s.n + ys.length ≤ maxLen) (hb : (s.n + ys.length) * bytes ≤ 140737488355328) (hlo : lo ≤ H.size)
    (hK : ∀ (s' : Sl) (H' : Heap), Own lo e sz H' s' ((l ++ ys).flatMap enc) → s'.n = s.n + ys.length → Mods (blkOf s.p) H H' → (∀ a, s'.p = some a → a.block ∈ blkOf s.p ∨ a.block = H.size) → K (.slice s'.p s'.n s'.c) H') :
    runH P (Builtin.append_ #[st, st] ty #[.slice s.p s.n s.c, .slice src.p src.n src.c]) H K := by
  obtain ⟨i, hi1, hi2, hi3, hi4⟩ := info_ex hi
  intro w hw
  subst hw
  cases hsp : src.p with
  | none => exact absurd hsp hp
  | some ad =>
    have hown : w.ownsRow lo e sz (.slice s.p s.n s.c) s.n (l.flatMap enc) := h
    have hl := hs.len
    have h1' : ∀ u ∈ ys.flatMap enc, u.oneCell' = true := by
      intro u hu
      obtain ⟨x, _, hx⟩ := List.mem_flatMap.1 hu
      have := hone x u hx
      cases u <;> simp_all [oneC, Value.oneCell']
    have hnews : ∀ j u, (ys.flatMap enc)[j]? = some u → w.cell? (ad.add j) = some u := fun j u hu => hs.flat he hsp j u hu
    obtain ⟨v', w', hr, ho, hg, _, hat⟩ := run_append_own_at (P := P) w lo st ty e i z sz bytes ht hi1 hi2 hi3 hi4 hzs hsz _ s.n (l.flatMap enc) hown ad src.n src.c (ys.flatMap enc) (by rw [flat_len he, hl]) hnews h1' (by rw [hl]; exact hn) (by rw [hl]; exact hb) hlo
    refine ⟨v', w', hr, ⟨hg.tape, hg.os, hg.output⟩, ?_⟩
    obtain ⟨s', hv'⟩ : ∃ s' : Sl, v' = .slice s'.p s'.n s'.c := by
      rcases ho.2 with ⟨hv, _⟩ | ⟨g, cap, cur, hv, _⟩
      · exact ⟨⟨none, 0, 0⟩, hv⟩
      · exact ⟨⟨_, _, _⟩, hv⟩
    subst hv'
    have hn' : s'.n = s.n + src.n := by
      rcases ho.2 with ⟨hv, h0⟩ | ⟨g, cap, cur, hv, _⟩
      · simp only [Value.slice.injEq] at hv
        omega
      · simp only [Value.slice.injEq] at hv
        exact hv.2.1
    refine hK s' w'.heap ?_ (by rw [hn', hl]) ⟨hg.size, fun k hk hne => hg.block k hk ?_⟩ ?_
    · have ho2 : (wOf w'.heap).ownsRow lo e sz (.slice s'.p s'.n s'.c) (s.n + src.n) (l.flatMap enc ++ ys.flatMap enc) := ho
      rw [← hn'] at ho2
      rw [List.flatMap_append]
      exact ho2
    · intro e2
      cases hp2 : s.p with
      | none => rw [hp2] at e2; simp [Value.ownBlock] at e2
      | some a => rw [hp2] at e2 hne; simp [Value.ownBlock] at e2; exact hne (by simp [blkOf, e2])
    · intro a ha
      rw [ha] at hat
      cases hp2 : s.p with
      | none => rw [hp2] at hat; simp [Value.ownBlock] at hat; exact .inr hat
      | some b => rw [hp2] at hat; simp [Value.ownBlock] at hat; simp [blkOf]; exact hat

/-- 'append' of nothing. -/
theorem append_none {P : Program} {st ty e : TypeId} {sz : Nat} {H : Heap} {s : Sl} {c : Nat} {K : Value → Heap → Prop} (ht : P.underlying st = some (.slice e)) (hi : szT P e = some sz) (hc : s.n ≤ s.c)
    (hK : K (.slice s.p s.n s.c) H) : runH P (Builtin.append_ #[st, st] ty #[.slice s.p s.n s.c, .slice none 0 c]) H K := by
  obtain ⟨i, hi1, hi2⟩ : ∃ i, P.info? e = some i ∧ i.size = sz := by
    unfold szT at hi
    cases hq : P.info? e with
    | none => rw [hq] at hi; cases hi
    | some i => rw [hq] at hi; exact ⟨i, rfl, by simpa using hi⟩
  intro w hw
  subst hw
  refine ⟨_, w, ?_, .refl w, hK⟩
  cases hp : s.p with
  | none => simp [Builtin.append_, run_underlying ht, sizeOf, typeInfo, hi1, Builtin.lenOf, Builtin.firstCells, hc]
  | some a => simp [Builtin.append_, run_underlying ht, sizeOf, typeInfo, hi1, Builtin.lenOf, Builtin.firstCells, hc, storeCells]

end Go.Eng
end

section
/-
  The generator's registers.
-/
namespace Go.Proofs.Ytnhhncjflnlfaaa
open Go.Eng

structure GBars (most : Nat) (H : Heap) (v : Value) (H' : Heap) : Prop where
  ex : ∃ (out : Sl) (B : List Bar), v = .slice out.p out.n out.c ∧ Own H.size t_api_Bar 2 H' out (B.flatMap encBar) ∧ out.n = B.length ∧ BarsOk B ∧ B.length ≤ most ∧ Ext H H'

theorem barsOk_one {k n : Int} (h : (k = 0 ∧ n = 0) ∨ (k = 1 ∧ 2 ≤ n ∧ n ≤ 8) ∨ (k = 2 ∧ 4 ≤ n ∧ n ≤ 31)) : BarsOk [(k, n)] := by
  intro i hi
  obtain rfl : i = 0 := by simpa using hi
  unfold BarOk bk bz
  simp
  omega
theorem barsOk_two {k n : Int} (h : (k = 3 ∨ k = 4) ∧ 4 ≤ n ∧ n ≤ 40) : BarsOk [(k, n), (0, 0)] := by
  intro i hi
  rcases (by simp at hi; omega : i = 0 ∨ i = 1) with rfl | rfl
  · unfold BarOk bk bz
    simp
    omega
  · unfold BarOk bk bz
    simp

theorem gBars_spec (H : Heap) (s : Sl) (B : List Bar) (most : Nat) (hB : Bars H s B) (hm : most ≤ 6) (hs : B.length ≤ 9223372036854775807) :
    CallsH Try.prog n_gen_bars #[.slice s.p s.n s.c, .int .i64 most] H (GBars most H) := by
  refine F_gen_bars_ok _ _ ?_
  unfold F_gen_bars
  have hn := hB.len
  refine loop2 B.length (fun k out H' => ∃ O, Own H.size t_api_Bar 2 H' out (O.flatMap encBar) ∧ out.n = O.length ∧ BarsOk O ∧ O.length ≤ most ∧ Ext H H') ⟨[], Own.nil _ _ _ _, rfl, fun i hi => by simp at hi, by simp, .refl _⟩ ?_
  rintro k out H1 hk ⟨O, o1, n1, ok1, l1, e1⟩
  unfold F_gen_bars_r3
  refine iteB_dec (fun c1 => iteB_dec (fun c2 => ?_) (fun _ => ⟨out, O, rfl, o1, n1, ok1, l1, e1⟩)) (fun _ => ⟨out, O, rfl, o1, n1, ok1, l1, e1⟩)
  have hkn : k < B.length := by omega
  obtain ⟨a, hp, r0, r1⟩ := Bars.atN (hB.ext e1) hkn
  have m5 := modI_range (bk B k) (n := 5) (by omega)
  have m30 := modI_range (bz B k) (n := 30) (by omega)
  refine ⟨by omega, by omega, unSome_mk hp ⟨_, r0, Mod_pure _ _ (by omega) (by omega) ⟨_, rfl, by omega, by omega, unSome_mk hp ⟨_, r1, Mod_pure _ _ (by omega) (by omega) ⟨_, rfl, ?_⟩⟩⟩⟩⟩
  generalize modI (bk B k) 5 = kk at *
  generalize modI (bz B k) 30 = nn at *
  have t7 : nn.tmod 7 = nn % 7 := Int.tmod_eq_emod_of_nonneg m30.1
  have t16 : nn.tmod 16 = nn % 16 := Int.tmod_eq_emod_of_nonneg m30.1
  have t4 : nn.tmod 4 = nn % 4 := Int.tmod_eq_emod_of_nonneg m30.1
  refine ⟨fun n' H' => H' = H1 ∧ ((kk = 0 ∧ n' = 0) ∨ (kk = 1 ∧ 2 ≤ n' ∧ n' ≤ 8) ∨ (kk = 2 ∧ 4 ≤ n' ∧ n' ≤ 31) ∨ ((kk = 3 ∨ kk = 4) ∧ 4 ≤ n' ∧ n' ≤ 40)), ?_, ?_⟩
  · refine iteB_beq (fun d0 => ⟨rfl, .inl ⟨d0, rfl⟩⟩) (fun d0 => iteB_beq (fun d1 => letV_mk (2 + nn % 7) (by rw [t7, i64_in (by omega)]) ⟨rfl, by omega⟩) (fun d1 => ?_))
    refine ⟨fun x H' => H' = H1 ∧ (kk = 2 → x = true), iteB_beq (fun d2 => ⟨rfl, fun _ => rfl⟩) (fun d2 => ⟨rfl, fun h => absurd h d2⟩), ?_⟩
    rintro x H2 ⟨rfl, hx⟩
    unfold F_gen_bars_k1
    refine iteB_intro (fun c => letV_mk (8 + nn % 16) (by rw [t16, i64_in (by omega)]) ⟨rfl, by omega⟩) (fun c => letV_mk (30 + nn % 4) (by rw [t4, i64_in (by omega)]) ⟨rfl, ?_⟩)
    have : kk ≠ 2 := fun h => by have := hx h; rw [c] at this; cases this
    omega
  · rintro n' H3 ⟨rfl, hn'⟩
    unfold F_gen_bars_k2
    have nb := blkOf_new o1.new
    refine iteB_dec (fun c3 => ?_) (fun c3 => ?_)
    · refine append_row (enc := encBar) (l := O) (z := .agg #[.int .i64 0, .int .i64 0]) (sz := 2) (bytes := 16) (lo := H.size) (kk, n') (by kernel_rfl) (by kernel_rfl) rfl (by omega) encBar_len encBar_one o1 (by simp [maxLen]; omega) (by omega) e1.size ?_
      intro s' H5 ho hn5 m5'
      exact letV_mk _ rfl (next2 hkn (by omega) ⟨O ++ [(kk, n')], ho, by simp; omega, ok1.append (barsOk_one (by omega)), by simp; omega, Mods.ext e1 m5' nb⟩)
    · rw [i64_in (n := (out.n : Int) + 2) (by omega)]
      refine iteB_dec (fun c4 => ?_) (fun c4 => letV_mk _ rfl (next2 hkn (by omega) ⟨O, o1, n1, ok1, l1, e1⟩))
      refine append_rows (enc := encBar) (l := O) (n := 2) (z := .agg #[.int .i64 0, .int .i64 0]) (sz := 2) (bytes := 16) (lo := H.size) [(kk, n'), (0, 0)] (by kernel_rfl) (by kernel_rfl) rfl (by omega) encBar_len encBar_one rfl o1 (by simp [maxLen]; omega) (by omega) e1.size ?_
      intro s' H5 ho hn5 m5'
      exact letV_mk _ rfl (next2 hkn (by omega) ⟨O ++ [(kk, n'), (0, 0)], ho, by simp; omega, ok1.append (barsOk_two (by omega)), by simp; omega, Mods.ext e1 m5' nb⟩)

end Go.Proofs.Ytnhhncjflnlfaaa
end

section
/-
  The generator's topologies.
-/
namespace Go.Proofs.Ytnhhncjflnlfaaa
open Go.Eng

/-- Blocks of a type. -/
def TyB (H : Heap) (p : Option Addr) (e : TypeId) : Prop := ∀ a, p = some a → ∃ c f, H[a.block]? = some (.cells c e f)

theorem own_ty {lo : Nat} {e : TypeId} {sz : Nat} {H : Heap} {s : Sl} {xs : List Value} (h : Own lo e sz H s xs) : TyB H s.p e := by
  intro a ha
  rcases h.cases.2 with ⟨h1, _⟩ | ⟨g, cur, h1, h2, h3, _⟩
  · rw [h1] at ha; cases ha
  · rw [h1] at ha
    cases ha
    exact ⟨_, _, h3⟩

theorem ty_ne {H : Heap} {p q : Option Addr} {e e' : TypeId} (h : TyB H p e) (h' : TyB H q e') (hne : e ≠ e') : ∀ a, p = some a → a.block ∉ blkOf q := by
  intro a ha
  cases hq : q with
  | none => simp [blkOf]
  | some b =>
    simp only [blkOf, List.mem_singleton]
    intro hab
    obtain ⟨c, f, h1⟩ := h a ha
    obtain ⟨c', f', h2⟩ := h' b hq
    rw [hab, h2] at h1
    simp only [Option.some.injEq, Obj.cells.injEq] at h1
    exact hne h1.2.1.symm

theorem TyB.lt {H : Heap} {p : Option Addr} {e : TypeId} (h : TyB H p e) : ∀ a, p = some a → a.block < H.size := fun a ha => by
  obtain ⟨c, f, h1⟩ := h a ha
  exact get_lt h1
theorem TyB.mods {H H' : Heap} {p : Option Addr} {e : TypeId} {S : List Nat} (h : TyB H p e) (m : Mods S H H') (hn : ∀ a, p = some a → a.block ∉ S) : TyB H' p e := fun a ha => by
  have hl := h.lt a ha
  obtain ⟨c, f, h1⟩ := h a ha
  exact ⟨c, f, by rw [m.get _ hl (hn a ha)]; exact h1⟩

/-- Functions whose registers lie in blocks of registers. -/
def GT (H : Heap) (T : List FS) : Prop := ∀ x ∈ T, Bars H x.2 x.1.bars ∧ TyB H x.2.p t_api_Bar
theorem GT.mods {H H' : Heap} {T : List FS} {S : List Nat} (h : GT H T) (m : Mods S H H') (hn : ∀ p, TyB H p t_api_Bar → ∀ a, p = some a → a.block ∉ S) : GT H' T := fun x hx => by
  obtain ⟨h1, h2⟩ := h x hx
  exact ⟨h1.mods m (hn _ h2), h2.mods m (hn _ h2)⟩
theorem GT.ext {H H' : Heap} {T : List FS} (h : GT H T) (e : Ext H H') : GT H' T := h.mods (S := []) e.mods (fun _ _ _ _ => by simp)

theorem fnAt_append {T : List FS} {x : FS} {i : Nat} (h : i < T.length) : fnAt (T ++ [x]) i = fnAt T i := by
  unfold fnAt; simp [List.getD, List.getElem?_append_left h]
theorem fnAt_last {T : List FS} {x : FS} : fnAt (T ++ [x]) T.length = x.1 := by
  unfold fnAt; simp [List.getD]

theorem OkAt.append {T : List FS} {x : FS} {i : Nat} (h : OkAt T i) (hi : i < T.length) : OkAt (T ++ [x]) i := by
  have hp := h.pa
  refine ⟨?_, ?_, ?_, ?_⟩
  · rw [fnAt_append hi]; exact h.va
  · rw [fnAt_append hi]; exact h.pa
  · rw [fnAt_append hi]
    intro h0
    rw [fnAt_append (by omega)]
    exact h.br h0
  · intro k hk
    rw [fnAt_append hi, fnAt_append (by omega)]
    exact h.un k hk

/-- What the generator makes of a function, before its registers. -/
structure GOk (T : List FS) (G : Fn) : Prop where
  pa : G.parent = -1 ∨ (0 ≤ G.parent ∧ G.parent < T.length ∧ (fnAt T G.parent.toNat).bridge = true)
  sl : 0 ≤ G.slot ∧ G.slot ≤ 7
  ve : 1 ≤ G.vendor ∧ G.vendor ≤ 9
  de : 0 ≤ G.device ∧ G.device ≤ 8
  pi : 0 ≤ G.pin ∧ G.pin ≤ 4
  vc : G.vec = 0 ∨ G.vec = 1 ∨ G.vec = 2 ∨ G.vec = 4 ∨ G.vec = 16 ∨ G.vec = 32

theorem GOk.valid {T : List FS} {G : Fn} (h : GOk T G) (sp : 0 ≤ G.spare ∧ G.spare ≤ 3) (sh : 0 < G.spare → G.bridge = true ∧ G.hot = true) (nb : G.bridge = false → G.pref = false ∧ G.hot = false) (bl : G.bars.length ≤ regs G.bridge) (ba : BarsOk G.bars) : ValidF G := by
  have h1 := h.sl
  have h2 := h.ve
  have h3 := h.de
  have h4 := h.pi
  have h5 := h.vc
  refine ⟨by omega, by omega, by omega, by omega, by omega, ?_, by omega, sh, nb, bl, ba⟩
  rcases h5 with e | e | e | e | e | e <;> rw [e] <;> decide +kernel

theorem pairs_key : PairKey Try.prog t_2_int := pairKey_of (by kernel_rfl)

/-- The generator's state. -/
structure GS (H0 : Heap) (most : Nat) (H : Heap) (out bridges : Sl) (T : List FS) (Bs : List Int) : Prop where
  ext : Ext H0 H
  own : Own H0.size t_api_Function 11 H out (T.flatMap encF)
  n : out.n = T.length
  gt : GT H T
  ok : ∀ i, i < T.length → OkAt T i
  most : T.length ≤ most
  set : PSet H H0.size (tab T.length (fun i => ((fnAt T i).parent, (fnAt T i).slot)))
  bown : Own H0.size t_int 1 H bridges (Bs.flatMap (encI .i64))
  bn : bridges.n = Bs.length
  b0 : 0 < Bs.length
  bl : Bs.length ≤ T.length + 1
  bb : ∀ p ∈ Bs, p = -1 ∨ (0 ≤ p ∧ p < T.length ∧ (fnAt T p.toNat).bridge = true)

theorem ps_nty {H : Heap} {r : Nat} {ks : List (Int × Int)} (h : PSet H r ks) {p : Option Addr} {e : TypeId} (hp : TyB H p e) : ∀ a, p = some a → a.block ≠ r := by
  intro a ha hr
  obtain ⟨c, f, h1⟩ := hp a ha
  obtain ⟨es, cl, h2, _⟩ := h
  rw [hr, h2] at h1
  cases h1

theorem GS.lo {H0 H : Heap} {most : Nat} {out bridges : Sl} {T : List FS} {Bs : List Int} (h : GS H0 most H out bridges T Bs) : H0.size < H.size := h.set.lt

/-- Writes to blocks that are none of the generator's own. -/
theorem GS.mods {H0 H H' : Heap} {most lo : Nat} {out bridges : Sl} {T : List FS} {Bs : List Int} {S : List Nat} (h : GS H0 most H out bridges T Bs) (m : Mods S H H') (hS : ∀ x ∈ S, lo ≤ x) (hlo : H.size ≤ lo) : GS H0 most H' out bridges T Bs := by
  have hl := h.lo
  have e : Ext H H' := Mods.ext (.refl _) m (fun x hx => by have := hS x hx; omega)
  exact ⟨h.ext.trans e, h.own.ext e, h.n, h.gt.ext e, h.ok, h.most, h.set.ext e, h.bown.ext e, h.bn, h.b0, h.bl, h.bb⟩
theorem GS.ext' {H0 H H' : Heap} {most : Nat} {out bridges : Sl} {T : List FS} {Bs : List Int} (h : GS H0 most H out bridges T Bs) (e : Ext H H') : GS H0 most H' out bridges T Bs :=
  ⟨h.ext.trans e, h.own.ext e, h.n, h.gt.ext e, h.ok, h.most, h.set.ext e, h.bown.ext e, h.bn, h.b0, h.bl, h.bb⟩

end Go.Proofs.Ytnhhncjflnlfaaa
end

section
/-
  The contract of the generator's Topology.
-/
namespace Go.Proofs.Ytnhhncjflnlfaaa
open Go.Eng

structure GTopo (most : Nat) (H : Heap) (v : Value) (H' : Heap) : Prop where
  ex : ∃ (out : Sl) (T : List FS), v = .slice out.p out.n out.c ∧ Topo H' out T ∧ ValidT T ∧ T.length ≤ most ∧ Ext H H'

/-- And in what blocks it lies. -/
structure GTopoT (most : Nat) (H : Heap) (v : Value) (H' : Heap) : Prop where
  ex : ∃ (out : Sl) (T : List FS), v = .slice out.p out.n out.c ∧ Topo H' out T ∧ ValidT T ∧ T.length ≤ most ∧ Ext H H' ∧ TyB H' out.p t_api_Function ∧ GT H' T
theorem GTopoT.to {most : Nat} {H : Heap} {v : Value} {H' : Heap} (h : GTopoT most H v H') : GTopo most H v H' := by
  obtain ⟨out, T, h1, h2, h3, h4, h5, _⟩ := h
  exact ⟨out, T, h1, h2, h3, h4, h5⟩

theorem GS.done {H0 H : Heap} {most : Nat} {out bridges : Sl} {T : List FS} {Bs : List Int} (h : GS H0 most H out bridges T Bs) (hm : most ≤ 64) : GTopoT most H0 (.slice out.p out.n out.c) H :=
  ⟨out, T, rfl, ⟨h.own.isS encF_len (by omega), fun x hx => (h.gt x hx).1⟩, ⟨by have := h.most; omega, h.ok⟩, h.most, h.ext, own_ty h.own, h.gt⟩

abbrev GI (H0 : Heap) (most : Nat) (_k : Nat) (out bridges : Sl) (H : Heap) : Prop := ∃ T Bs, GS H0 most H out bridges T Bs

/-- The state of a round once the place is taken: 'x' is the key that was put in. -/
structure GR (H0 : Heap) (most : Nat) (H3 H : Heap) (gb : Nat) (f : Fn) (fs : Sl) (G : Fn) (out bridges : Sl) (T : List FS) (Bs : List Int) : Prop where
  ext : Ext H0 H
  own : Own H0.size t_api_Function 11 H out (T.flatMap encF)
  n : out.n = T.length
  gt : GT H T
  ok : ∀ i, i < T.length → OkAt T i
  most : T.length < most
  set : PSet H H0.size (tab T.length (fun i => ((fnAt T i).parent, (fnAt T i).slot)) ++ [(G.parent, G.slot)])
  un : (G.parent, G.slot) ∉ tab T.length (fun i => ((fnAt T i).parent, (fnAt T i).slot))
  fb : Blk H H3.size t_api_Function (fnL f fs)
  g : Blk H gb t_api_Function (fnL G ⟨none, 0, 0⟩)
  gn : H3.size < gb
  lo : H0.size < H3.size
  old : ∀ a, out.p = some a → a.block < H3.size
  gok : GOk T G

theorem GR.mods {H0 H3 H H' : Heap} {most gb : Nat} {f : Fn} {fs : Sl} {G G' : Fn} {out bridges : Sl} {T : List FS} {Bs : List Int} (h : GR H0 most H3 H gb f fs G out bridges T Bs) (m : Mods [gb] H H') (hg : Blk H' gb t_api_Function (fnL G' ⟨none, 0, 0⟩)) (hp : G'.parent = G.parent) (hs : G'.slot = G.slot) (hok : GOk T G') : GR H0 most H3 H' gb f fs G' out bridges T Bs := by
  have h1 := h.gn
  have h2 := h.lo
  refine ⟨Mods.ext h.ext m (by simp; omega), h.own.mods m (fun a ha => by have := h.old a ha; simp; omega), h.n, h.gt.mods m (fun p hp a ha => ?_), h.ok, h.most, ?_, ?_, h.fb.mods m (by simp; omega), hg, h.gn, h.lo, h.old, hok⟩
  · have hgt : TyB H (some ⟨gb, 0, none⟩) t_api_Function := fun a ha => by cases ha; exact ⟨_, _, h.g⟩
    have := ty_ne hp hgt (by decide) a ha
    simpa [blkOf] using this
  · rw [hp, hs]; exact h.set.mods m (by simp; omega)
  · rw [hp, hs]; exact h.un

theorem topo_k3 (H0 : Heap) (most : Nat) (hm : most ≤ 64) (n k : Nat) (hkn : k < n) (hn : n ≤ 9223372036854775807) (H3 : Heap) (out bridges bridges2 : Sl) (most2 : Nat) (gb : Nat) (H31 : Heap) (f : Fn) (fs : Sl) (G : Fn) (T : List FS) (Bs Bs2 : List Int)
    (h : GR H0 most H3 H31 gb f fs G out bridges T Bs) (hfs : Bars H31 fs f.bars) (hfl : f.bars.length ≤ 9223372036854775807) (h2 : most2 = regs G.bridge) (sp : 0 ≤ G.spare ∧ G.spare ≤ 3) (sh : 0 < G.spare → G.bridge = true ∧ G.hot = true) (nb : G.bridge = false → G.pref = false ∧ G.hot = false)
    (bown : Own H0.size t_int 1 H31 bridges2 (Bs2.flatMap (encI .i64))) (bn : bridges2.n = Bs2.length) (b0 : 0 < Bs2.length) (bl : Bs2.length ≤ T.length + 2) (bb : ∀ p ∈ Bs2, p = -1 ∨ (0 ≤ p ∧ p < T.length ∧ (fnAt T p.toNat).bridge = true) ∨ (p = T.length ∧ G.bridge = true)) :
    F_gen_Topology_k3 (CI3 n (GI H0 most)) (CM3 n) out bridges k H3 ⟨gb, 0, none⟩ bridges2 most2 H31 := by
  unfold F_gen_Topology_k3
  have q10 := (Blk.fn h.fb).2.2.2.2.2.2.2.2.2.2
  have hr : regs G.bridge ≤ 6 := by unfold regs; split <;> omega
  refine ⟨fs, q10, (gBars_spec H31 fs f.bars most2 hfs (by omega) hfl).mono ?_⟩
  rintro v H32 ⟨bs, B, rfl, ob, nb', okb, lb, e32⟩
  have h32 := h.mods (H' := H32) (G' := G) e32.mods (h.g.ext e32) rfl rfl h.gok
  refine ⟨bs, rfl, h32.g.ok (i := 10) (n := 1) (by simp), letH_mk ?_⟩
  intro H33 hh
  have g33 : Blk H33 gb t_api_Function (fnL G bs) := by rw [hh]; exact h32.g.wr1 (i := 10) (w := .slice bs.p bs.n bs.c)
  have m33 : Mods [gb] H32 H33 := by rw [hh]; exact mods_wr_add (by simp)
  clear hh
  have hgl := h.g.lt
  have h1 := h.gn
  have hlo := h.lo
  have hz32 := e32.size
  have hz33 := m33.size
  have hgt : TyB H32 (some ⟨gb, 0, none⟩) t_api_Function := fun a ha => by cases ha; exact ⟨_, _, h32.g⟩
  have nbar : ∀ p, TyB H32 p t_api_Bar → ∀ a, p = some a → a.block ∉ [gb] := fun p hp a ha => by
    have := ty_ne hp hgt (by decide) a ha
    simpa [blkOf] using this
  have gt33 := h32.gt.mods m33 nbar
  have bs33 : Bars H33 bs B ∧ TyB H33 bs.p t_api_Bar := ⟨(ob.isS encBar_len (by omega)).mods m33 (nbar _ (own_ty ob)), (own_ty ob).mods m33 (nbar _ (own_ty ob))⟩
  have own33 := h32.own.mods m33 (fun a ha => by have := h.old a ha; simp; omega)
  have set33 := h32.set.mods m33 (by simp; omega)
  have bo33 : Own H0.size t_int 1 H33 bridges2 (Bs2.flatMap (encI .i64)) := (bown.ext e32).mods m33 (fun a ha => by
    have := ty_ne (own_ty (bown.ext e32)) hgt (by decide) a ha
    simpa [blkOf] using this)
  have x33 : Ext H0 H33 := Mods.ext h32.ext m33 (by simp; omega)
  obtain ⟨p0, p1, p2, p3, p4, p5, p6, p7, p8, p9, p10⟩ := Blk.fn g33
  refine ⟨_, p0, _, p1, _, p2, _, p3, _, p4, _, p5, _, p6, _, p7, _, p8, _, p9, bs, p10, ?_⟩
  have hmost := h.most
  have hon := h.n
  refine append_row (enc := encF) (l := T) (z := .agg #[.int .i64 0, .int .i64 0, .int .i64 0, .int .i64 0, .bool false, .bool false, .bool false, .int .i64 0, .int .i64 0, .int .i64 0, .slice none 0 0]) (sz := 11) (bytes := 88) (lo := H0.size) ({ G with bars := B }, bs) (by kernel_rfl) (by kernel_rfl) rfl (by omega) encF_len encF_one own33 (by simp [maxLen]; omega) (by omega) x33.size ?_
  intro s' H35 ho35 hn35 m35
  have nout : ∀ p, TyB H33 p t_api_Bar → ∀ a, p = some a → a.block ∉ blkOf out.p := fun p hp a ha => ty_ne hp (own_ty own33) (by decide) a ha
  have hnb := blkOf_new own33.new
  have hlast : fnAt (T ++ [({ G with bars := B }, bs)]) T.length = { G with bars := B } := fnAt_last
  have hGv : ValidF { G with bars := B } := GOk.valid (T := T) ⟨h.gok.pa, h.gok.sl, h.gok.ve, h.gok.de, h.gok.pi, h.gok.vc⟩ sp sh nb (by show B.length ≤ regs G.bridge; omega) okb
  refine letV_mk _ rfl (next3 hkn hn ⟨T ++ [({ G with bars := B }, bs)], Bs2, ⟨Mods.ext x33 m35 hnb, ho35, by simp; omega, ?_, ?_, by simp; omega, ?_, bo33.mods m35 (fun a ha => ty_ne (own_ty bo33) (own_ty own33) (by decide) a ha), bn, b0, by simp; omega, ?_⟩⟩)
  · intro x hx
    simp only [List.mem_append, List.mem_singleton] at hx
    rcases hx with hx | rfl
    · exact (gt33.mods m35 nout) x hx
    · exact ⟨bs33.1.mods m35 (nout _ bs33.2), bs33.2.mods m35 (nout _ bs33.2)⟩
  · intro i hi
    by_cases e : i < T.length
    · exact (h.ok i e).append e
    · obtain rfl : i = T.length := by simp at hi; omega
      have hpa := h.gok.pa
      refine ⟨by rw [hlast]; exact hGv, by rw [hlast]; show -1 ≤ G.parent ∧ G.parent < _; omega, ?_, fun j hj hjj => h.un ?_⟩
      · rw [hlast]
        intro h0
        have h0' : 0 ≤ G.parent := h0
        show (fnAt _ G.parent.toNat).bridge = true
        rw [fnAt_append (by omega)]
        rcases hpa with e | ⟨_, _, e⟩
        · omega
        · exact e
      · rw [hlast, fnAt_append hj] at hjj
        refine List.mem_map.2 ⟨j, by simpa using hj, ?_⟩
        have e1 : (fnAt T j).parent = G.parent := hjj.1
        have e2 : (fnAt T j).slot = G.slot := hjj.2
        rw [e1, e2]
  · have := set33.mods m35 (fun hh => by
      have := (own_ty own33)
      cases hp : out.p with
      | none => rw [hp] at hh; simp [blkOf] at hh
      | some a =>
        rw [hp] at hh this
        simp only [blkOf, List.mem_singleton] at hh
        exact ps_nty set33 this a rfl hh.symm)
    rw [List.length_append, List.length_singleton, tab_succ, hlast]
    rw [tab_congr (g := fun i => ((fnAt T i).parent, (fnAt T i).slot)) (fun i hi => by rw [fnAt_append hi])]
    exact this
  · intro p hp
    rcases bb p hp with e | ⟨e1, e2, e3⟩ | ⟨e1, e2⟩
    · exact .inl e
    · refine .inr ⟨e1, by simp; omega, ?_⟩
      rw [fnAt_append (by omega)]
      exact e3
    · refine .inr ⟨by omega, by simp; omega, ?_⟩
      rw [e1, Int.toNat_natCast, hlast]
      exact e2

end Go.Proofs.Ytnhhncjflnlfaaa
end

section
/-
  The contract of the generator's Topology, whole.
-/
namespace Go.Proofs.Ytnhhncjflnlfaaa
open Go.Eng

theorem ints_row (k : IntKind) (x : Int) : (encI k x).length = 1 := rfl
theorem ints_one (k : IntKind) (x : Int) : ∀ u ∈ encI k x, oneC u = true := fun u hu => by simp [encI] at hu; subst hu; rfl

/-- What holds when the registers are to be made. -/
structure GJ (H0 : Heap) (most : Nat) (H3 : Heap) (gb : Nat) (f : Fn) (fs : Sl) (out bridges : Sl) (T : List FS) (Bs : List Int) (bridges2 : Sl) (most2 : Int) (H : Heap) : Prop where
  ex : ∃ (G : Fn) (Bs2 : List Int), GR H0 most H3 H gb f fs G out bridges T Bs ∧ most2 = (regs G.bridge : Int) ∧ (0 ≤ G.spare ∧ G.spare ≤ 3) ∧ (0 < G.spare → G.bridge = true ∧ G.hot = true) ∧ (G.bridge = false → G.pref = false ∧ G.hot = false) ∧
    Own H0.size t_int 1 H bridges2 (Bs2.flatMap (encI .i64)) ∧ bridges2.n = Bs2.length ∧ 0 < Bs2.length ∧ Bs2.length ≤ T.length + 2 ∧ (∀ p ∈ Bs2, p = -1 ∨ (0 ≤ p ∧ p < T.length ∧ (fnAt T p.toNat).bridge = true) ∨ (p = T.length ∧ G.bridge = true))

theorem GR.nint {H0 H3 H : Heap} {most gb : Nat} {f : Fn} {fs : Sl} {G : Fn} {out bridges : Sl} {T : List FS} {Bs : List Int} (h : GR H0 most H3 H gb f fs G out bridges T Bs) {e : TypeId} (he : e ≠ t_api_Function) {p : Option Addr} (hp : TyB H p e) : ∀ a, p = some a → a.block ∉ [gb] := fun a ha => by
  have hgt : TyB H (some ⟨gb, 0, none⟩) t_api_Function := fun a ha => by cases ha; exact ⟨_, _, h.g⟩
  have := ty_ne hp hgt he a ha
  simpa [blkOf] using this

theorem topo_k2 (H0 : Heap) (most : Nat) (H3 : Heap) (gb : Nat) (f : Fn) (fs : Sl) (out bridges : Sl) (T : List FS) (Bs : List Int) (G : Fn) (H25 : Heap) (hm : most ≤ 64) (h : GR H0 most H3 H25 gb f fs G out bridges T Bs) (hb : G.bridge = true) (hs : G.spare = 0)
    (bown : Own H0.size t_int 1 H25 bridges (Bs.flatMap (encI .i64))) (bn : bridges.n = Bs.length) (bl : Bs.length ≤ T.length + 1) (bb : ∀ p ∈ Bs, p = -1 ∨ (0 ≤ p ∧ p < T.length ∧ (fnAt T p.toNat).bridge = true)) :
    F_gen_Topology_k2 out bridges H3 ⟨gb, 0, none⟩ (GJ H0 most H3 gb f fs out bridges T Bs) H25 := by
  unfold F_gen_Topology_k2
  refine ⟨fun H' => ∃ G', GR H0 most H3 H' gb f fs G' out bridges T Bs ∧ G'.bridge = true ∧ (0 ≤ G'.spare ∧ G'.spare ≤ 3) ∧ (0 < G'.spare → G'.hot = true) ∧ Own H0.size t_int 1 H' bridges (Bs.flatMap (encI .i64)), ⟨_, (Blk.fn h.g).2.2.2.2.2.2.1, iteB_intro (fun c => ?_) (fun c => ⟨G, h, hb, by omega, fun hh => by omega, bown⟩)⟩, ?_⟩
  · refine ⟨_, (Blk.fn h.fb).2.2.2.2.2.2.2.1, (Mod_spec _ _ H25 (by omega) (by omega)).mono ?_⟩
    rintro v H26 ⟨rfl, rfl⟩
    have m4 := modI_range f.spare (n := 4) (by omega)
    refine ⟨_, rfl, h.g.ok (i := 7) (n := 1) (by simp), letH_mk ?_⟩
    intro H27 hh
    have g27 : Blk H27 gb t_api_Function (fnL { G with spare := modI f.spare 4 } ⟨none, 0, 0⟩) := by rw [hh]; exact h.g.wr1 (i := 7) (w := .int .i64 (modI f.spare 4))
    have m27 : Mods [gb] H26 H27 := by rw [hh]; exact mods_wr_add (by simp)
    clear hh
    exact ⟨{ G with spare := modI f.spare 4 }, h.mods m27 g27 rfl rfl ⟨h.gok.pa, h.gok.sl, h.gok.ve, h.gok.de, h.gok.pi, h.gok.vc⟩, hb, by dsimp only; omega, fun _ => c, bown.mods m27 (h.nint (by decide) (own_ty bown))⟩
  · rintro H28 ⟨G', h28, hb', sp, sh, bo⟩
    unfold F_gen_Topology_k1
    have hmost := h28.most
    refine append_row (enc := encI .i64) (l := Bs) (z := .int .i64 0) (sz := 1) (bytes := 8) (lo := H0.size) (out.n : Int) (by kernel_rfl) (by kernel_rfl) rfl (by omega) (ints_row _) (ints_one _) bo (by simp [maxLen]; omega) (by omega) h28.ext.size ?_
    intro s' H30 ho hn m30
    have hne : ∀ (e : TypeId), e ≠ t_int → ∀ p, TyB H28 p e → ∀ a, p = some a → a.block ∉ blkOf bridges.p := fun e he p hp a ha => ty_ne hp (own_ty bo) he a ha
    have nb := blkOf_new bo.new
    have hblk : ∀ b vs, Blk H28 b t_api_Function vs → b ∉ blkOf bridges.p := fun b vs hb => by
      have : TyB H28 (some ⟨b, 0, none⟩) t_api_Function := fun a ha => by cases ha; exact ⟨_, _, hb⟩
      exact hne _ (by decide) _ this ⟨b, 0, none⟩ rfl
    refine ⟨G', Bs ++ [(out.n : Int)], ⟨Mods.ext h28.ext m30 nb, h28.own.mods m30 (hne _ (by decide) _ (own_ty h28.own)), h28.n, h28.gt.mods m30 (fun p hp => hne _ (by decide) p hp), h28.ok, h28.most, h28.set.mods m30 (fun hh => ?_), h28.un, h28.fb.mods m30 (hblk _ _ h28.fb), h28.g.mods m30 (hblk _ _ h28.g), h28.gn, h28.lo, h28.old, h28.gok⟩, by rw [hb']; rfl, sp, fun h0 => ⟨hb', sh h0⟩, fun h0 => (by rw [hb'] at h0; cases h0), ho, by simp; omega, by simp, by simp; omega, ?_⟩
    · have hty := own_ty bo
      cases hp : bridges.p with
      | none => rw [hp] at hh; simp [blkOf] at hh
      | some a =>
        rw [hp] at hh hty
        simp only [blkOf, List.mem_singleton] at hh
        exact ps_nty h28.set hty a rfl hh.symm
    · intro p hp
      simp only [List.mem_append, List.mem_singleton] at hp
      rcases hp with hp | rfl
      · rcases bb p hp with e | e
        · exact .inl e
        · exact .inr (.inl e)
      · exact .inr (.inr ⟨by rw [h28.n], hb'⟩)

theorem topo_k4 (H0 : Heap) (most : Nat) (hm : most ≤ 64) (n k : Nat) (hkn : k < n) (hn : n ≤ 9223372036854775807) (H3 : Heap) (out bridges : Sl) (T : List FS) (Bs : List Int) (h3 : GS H0 most H3 out bridges T Bs) (hlt : T.length < most) (gb : Nat) (H18 : Heap) (f : Fn) (fs : Sl) (G : Fn)
    (hfs : Bars H0 fs f.bars) (hfl : f.bars.length ≤ 9223372036854775807) (gn : H3.size < gb) (g18 : Blk H18 gb t_api_Function (fnL G ⟨none, 0, 0⟩)) (f18 : Blk H18 H3.size t_api_Function (fnL f fs)) (gok : GOk T G) (hpr : G.pref = false) (hho : G.hot = false) (hsp : G.spare = 0) (e18 : Ext H3 H18) :
    F_gen_Topology_k4 H0 (CI3 n (GI H0 most)) (CM3 n) out bridges k H3 ⟨gb, 0, none⟩ H18 := by
  unfold F_gen_Topology_k4
  have h18 := h3.ext' e18
  obtain ⟨p0, p1, _⟩ := Blk.fn g18
  have hpa := gok.pa
  have hsl := gok.sl
  have hmost := h3.most
  have ha : In64 G.parent := in64 (by omega)
  have hb : In64 G.slot := in64 (by omega)
  have hlo := h3.lo
  refine ⟨_, p0, _, p1, lookup_ps pairs_key (et := t_bool) (by kernel_rfl) (by kernel_rfl) h18.set ha hb ⟨_, rfl, iteB_dec (fun c => letV_mk _ rfl (next3 hkn hn ⟨T, Bs, h18⟩)) (fun c => ⟨_, p0, _, p1, update_ps pairs_key (et := t_bool) (by kernel_rfl) h18.set ha hb c fun H20 s20 m20 z20 => ?_⟩)⟩⟩
  have nty : ∀ (e : TypeId) p, TyB H18 p e → ∀ a, p = some a → a.block ∉ [H0.size] := fun e p hp a ha => by simpa using ps_nty h18.set hp a ha
  have x20 : Ext H0 H20 := Mods.ext h18.ext m20 (by simp)
  have bo20 := h18.bown.mods m20 (nty _ _ (own_ty h18.bown))
  have hR : GR H0 most H3 H20 gb f fs G out bridges T Bs := ⟨x20, h18.own.mods m20 (nty _ _ (own_ty h18.own)), h18.n, h18.gt.mods m20 (fun p hp => nty _ p hp), h18.ok, hlt, s20, c, f18.mods m20 (by simp; omega), g18.mods m20 (by simp; omega), gn, hlo, fun a ha => (own_ty h3.own).lt a ha, gok⟩
  refine ⟨GJ H0 most H3 gb f fs out bridges T Bs, ⟨_, (Blk.fn hR.g).2.2.2.2.1, iteB_intro (fun cb => ?_) (fun cb => ⟨G, Bs, hR, by rw [cb]; rfl, by omega, fun h0 => by omega, fun _ => ⟨hpr, hho⟩, bo20, h18.bn, h18.b0, by have := h18.bl; omega, fun p hp => (h18.bb p hp).elim .inl (fun e => .inr (.inl e))⟩)⟩, ?_⟩
  · obtain ⟨_, _, _, q3, _, _, q6, _, _, _, _⟩ := Blk.fn hR.fb
    refine ⟨fun H' => ∃ G', GR H0 most H3 H' gb f fs G' out bridges T Bs ∧ G'.bridge = true ∧ G'.spare = 0 ∧ Own H0.size t_int 1 H' bridges (Bs.flatMap (encI .i64)), ⟨_, q3, Mod_pure _ _ (by omega) (by omega) ⟨_, rfl, _, q6, ?_⟩⟩, ?_⟩
    · have two : ∀ (x y : Bool) (H' : Heap), H' = wrs (wrs H20 ((⟨gb, 0, none⟩ : Addr).add 5) [.bool x]) ((⟨gb, 0, none⟩ : Addr).add 6) [.bool y] → ∃ G', GR H0 most H3 H' gb f fs G' out bridges T Bs ∧ G'.bridge = true ∧ G'.spare = 0 ∧ Own H0.size t_int 1 H' bridges (Bs.flatMap (encI .i64)) := by
        intro x y H' hH
        have g1 : Blk (wrs H20 ((⟨gb, 0, none⟩ : Addr).add 5) [.bool x]) gb t_api_Function (fnL { G with pref := x } ⟨none, 0, 0⟩) := hR.g.wr1 (i := 5) (w := .bool x)
        have g2 : Blk H' gb t_api_Function (fnL { G with pref := x, hot := y } ⟨none, 0, 0⟩) := by rw [hH]; exact g1.wr1 (i := 6) (w := .bool y)
        have mm : Mods [gb] H20 H' := by rw [hH]; exact (mods_wr_add (by simp)).trans (mods_wr_add (by simp))
        exact ⟨{ G with pref := x, hot := y }, hR.mods mm g2 rfl rfl ⟨gok.pa, gok.sl, gok.ve, gok.de, gok.pi, gok.vc⟩, cb, hsp, bo20.mods mm (hR.nint (by decide) (own_ty bo20))⟩
      have ok5 : okRow H20 ((⟨gb, 0, none⟩ : Addr).add 5) 1 := hR.g.ok (i := 5) (n := 1) (by simp)
      have ok6 : ∀ x, okRow (wrs H20 ((⟨gb, 0, none⟩ : Addr).add 5) [.bool x]) ((⟨gb, 0, none⟩ : Addr).add 6) 1 := fun x => (hR.g.wr1 (i := 5) (w := .bool x)).ok (i := 6) (n := 1) (by simp)
      refine iteB_intro (fun c6 => ⟨ok5, letH_mk ?_⟩) (fun c6 => ⟨_, q3, Mod_pure _ _ (by omega) (by omega) ⟨_, rfl, ok5, letH_mk ?_⟩⟩)
      · rintro H21 rfl
        exact ⟨ok6 _, letH_mk (by rintro H22 hh; exact two _ _ _ hh)⟩
      · rintro H21 rfl
        exact ⟨ok6 _, letH_mk (by rintro H22 hh; exact two _ _ _ hh)⟩
    · rintro H25 ⟨G', hR', hb', hs', bo'⟩
      exact topo_k2 H0 most H3 gb f fs out bridges T Bs G' H25 hm hR' hb' hs' bo' h18.bn h18.bl h18.bb
  · rintro bridges2 most2 H31 ⟨G', Bs2, hR', rfl, sp, sh, nb, bo', bn', b0', bl', bb'⟩
    exact topo_k3 H0 most hm n k hkn hn H3 out bridges bridges2 _ gb H31 f fs G' T Bs Bs2 hR' (hfs.ext hR'.ext) hfl rfl sp sh nb bo' bn' b0' bl' bb'

end Go.Proofs.Ytnhhncjflnlfaaa
end

section
/-
  The contract of the generator's Topology, whole.
-/
namespace Go.Proofs.Ytnhhncjflnlfaaa
open Go.Eng

def vecs : List Value := [.int .i64 0, .int .i64 1, .int .i64 2, .int .i64 4, .int .i64 16, .int .i64 32]
theorem vecs_at {x : Int} (h0 : 0 ≤ x) (h1 : x < 6) : ∃ v, vecs[x.toNat * 1]? = some (.int .i64 v) ∧ (v = 0 ∨ v = 1 ∨ v = 2 ∨ v = 4 ∨ v = 16 ∨ v = 32) := by
  rcases (by omega : x = 0 ∨ x = 1 ∨ x = 2 ∨ x = 3 ∨ x = 4 ∨ x = 5) with rfl | rfl | rfl | rfl | rfl | rfl
  · exact ⟨0, rfl, by omega⟩
  · exact ⟨1, rfl, by omega⟩
  · exact ⟨2, rfl, by omega⟩
  · exact ⟨4, rfl, by omega⟩
  · exact ⟨16, rfl, by omega⟩
  · exact ⟨32, rfl, by omega⟩

/-- What holds when the new function is made. -/
def GN (H3 : Heap) (f : Fn) (fs : Sl) (T : List FS) (g : Addr) (H : Heap) : Prop := ∃ gb G, g = ⟨gb, 0, none⟩ ∧ H3.size < gb ∧ Blk H gb t_api_Function (fnL G ⟨none, 0, 0⟩) ∧ Blk H H3.size t_api_Function (fnL f fs) ∧ GOk T G ∧ G.pref = false ∧ G.hot = false ∧ G.spare = 0 ∧ Ext H3 H

theorem topo_leaf {H3 H5 : Heap} {f : Fn} {fs : Sl} {T : List FS} (e5 : Ext H3 H5) (z5 : H5.size = H3.size + 1) (b5 : Blk H5 H3.size t_api_Function (fnL f fs)) {x : Int} (h0 : 0 ≤ x) (h1 : x < 6) (G : Int → Fn) (hG : ∀ v, (v = 0 ∨ v = 1 ∨ v = 2 ∨ v = 4 ∨ v = 16 ∨ v = 32) → GOk T (G v) ∧ (G v).pref = false ∧ (G v).hot = false ∧ (G v).spare = 0)
    (l1 l2 l3 l4 : List (Addr × Nat)) :
    (letH (H5.push (.cells vecs.toArray t_int (0, 0))) (fun H6 : Heap => Keeps H5 H6 l1 ∧ (0 ≤ x ∧ x < (6 : Int) ∧ (∃ x25 : Int, rd H6 ((⟨H5.size, 0, none⟩ : Addr).add (x.toNat * 1)) = some (.int .i64 x25) ∧ (
      letH (H6.push (.cells (fnL ⟨0, 0, 0, 0, false, false, false, 0, 0, 0, []⟩ ⟨none, 0, 0⟩).toArray t_api_Function (0, 0))) (fun H7 : Heap => Keeps H6 H7 l2 ∧ (okRow H7 (⟨H6.size, 0, none⟩ : Addr) 11 ∧ (
        letH (wrs H7 (⟨H6.size, 0, none⟩ : Addr) (fnL (G x25) ⟨none, 0, 0⟩)) (fun H8 : Heap => GN H3 f fs T (⟨H6.size, 0, none⟩ : Addr) H8)))))))) ) ∧
    (letH (H5.push (.cells (fnL ⟨0, 0, 0, 0, false, false, false, 0, 0, 0, []⟩ ⟨none, 0, 0⟩).toArray t_api_Function (0, 0))) (fun H9 : Heap => Keeps H5 H9 l3 ∧ (
      letH (H9.push (.cells vecs.toArray t_int (0, 0))) (fun H10 : Heap => Keeps H9 H10 l4 ∧ (0 ≤ x ∧ x < (6 : Int) ∧ (∃ x26 : Int, rd H10 ((⟨H9.size, 0, none⟩ : Addr).add (x.toNat * 1)) = some (.int .i64 x26) ∧ (okRow H10 (⟨H5.size, 0, none⟩ : Addr) 11 ∧ (
        letH (wrs H10 (⟨H5.size, 0, none⟩ : Addr) (fnL (G x26) ⟨none, 0, 0⟩)) (fun H11 : Heap => GN H3 f fs T (⟨H5.size, 0, none⟩ : Addr) H11)))))))) ) := by
  obtain ⟨v, hv, hvv⟩ := vecs_at h0 h1
  obtain ⟨g1, g2, g3, g4⟩ := hG v hvv
  constructor
  · refine push_mk fun H6 e6 z6 b6 => ⟨e6.keeps, h0, h1, v, b6.rd hv, push_mk fun H7 e7 z7 b7 => ⟨e7.keeps, b7.ok0 (by simp), letH_mk ?_⟩⟩
    rintro H8 rfl
    have mm : Mods [H6.size] H7 (wrs H7 (⟨H6.size, 0, none⟩ : Addr) (fnL (G v) ⟨none, 0, 0⟩)) := Mods.wrs (by simp)
    exact ⟨H6.size, G v, rfl, by omega, b7.wr, ((b5.ext e6).ext e7).mods mm (by simp; omega), g1, g2, g3, g4, Mods.ext ((e5.trans e6).trans e7) mm (by simp; omega)⟩
  · refine push_mk fun H9 e9 z9 b9 => ⟨e9.keeps, push_mk fun H10 e10 z10 b10 => ⟨e10.keeps, h0, h1, v, b10.rd hv, (b9.ext e10).ok0 (by simp), letH_mk ?_⟩⟩
    rintro H11 rfl
    have mm : Mods [H5.size] H10 (wrs H10 (⟨H5.size, 0, none⟩ : Addr) (fnL (G v) ⟨none, 0, 0⟩)) := Mods.wrs (by simp)
    exact ⟨H5.size, G v, rfl, by omega, (b9.ext e10).wr, ((b5.ext e9).ext e10).mods mm (by simp; omega), g1, g2, g3, g4, Mods.ext ((e5.trans e9).trans e10) mm (by simp; omega)⟩

theorem gTopoT_spec (H : Heap) (s : Sl) (L : List FS) (most : Nat) (hm : most ≤ 64) (h : Topo H s L) (hl : L.length ≤ 9223372036854775807) (hb : ∀ x ∈ L, x.1.bars.length ≤ 9223372036854775807) :
    CallsH Try.prog n_gen_Topology #[.slice s.p s.n s.c, .int .i64 most] H (GTopoT most H) := by
  refine F_gen_Topology_ok _ _ ?_
  unfold F_gen_Topology
  refine letH_mk ?_
  intro H1 h1
  have e1 : Ext H H1 := by rw [h1]; exact Ext.push _ _
  have s1 : PSet H1 H.size [] := by rw [h1]; exact PSet.new H
  have z1 : H1.size = H.size + 1 := by rw [h1]; simp
  clear h1
  refine push_mk (vs := encI .i64 (-1)) fun H2 e2 z2 b2 => ?_
  have hn := h.len
  have b0 : Own H.size t_int 1 H2 ⟨some ⟨H1.size, 0, none⟩, 1, 1⟩ (([-1] : List Int).flatMap (encI .i64)) := Own.of_blk b2 rfl (by omega) (by simp [maxLen])
  refine loop3 L.length (GI H most) ⟨[], [-1], ⟨e1.trans e2, Own.nil _ _ _ _, rfl, fun x hx => by simp at hx, fun i hi => by simp at hi, by simp, s1.ext e2, b0, rfl, by simp, by simp, fun p hp => .inl (by simpa using hp)⟩⟩ ?_
  rintro k out bridges H3 hk ⟨T, Bs, h3⟩
  unfold F_gen_Topology_r5
  refine iteB_dec (fun c1 => iteB_dec (fun c2 => ?_) (fun _ => h3.done hm)) (fun _ => h3.done hm)
  have hkn : k < L.length := by omega
  have h3n := h3.n
  have hlt : T.length < most := by omega
  obtain ⟨a, hp, hr⟩ := (h.ext h3.ext).at hkn
  obtain ⟨p0, p1, p2, p3, p4, p5, p6, p7, p8, p9, p10⟩ := rdFn hr
  refine ⟨by omega, by omega, unSome_mk hp ⟨_, p0, _, p1, _, p2, _, p3, _, p4, _, p5, _, p6, _, p7, _, p8, _, p9, slAt L k, p10, local_mk (vs := fnL (fnAt L k) (slAt L k)) rfl rfl fun H5 e5 z5 b5 => ?_⟩⟩
  have hfs := h.barsAt hkn
  have hfl : (fnAt L k).bars.length ≤ 9223372036854775807 := by
    have : L.getD k zF = L[k] := by simp [List.getD, hkn]
    unfold fnAt
    rw [this]
    exact hb _ (List.getElem_mem hkn)
  generalize fnAt L k = f at *
  generalize slAt L k = fs at *
  obtain ⟨q0, q1, q2, q3, q4, q5, q6, q7, q8, q9, q10⟩ := Blk.fn b5
  have hbn := h3.bn
  have hb0 := h3.b0
  have hbl := h3.bl
  have hmp := modI_range f.parent (n := (bridges.n : Int)) (by omega)
  have hints : Ints .i64 H5 bridges Bs := (h3.bown.ext e5).isS (ints_row _) (by omega)
  obtain ⟨a1, hp1, hr1⟩ := hints.at hmp.1 (by omega)
  have hpar : Bs.getD (modI f.parent bridges.n).toNat 0 ∈ Bs := by
    have : (modI f.parent bridges.n).toNat < Bs.length := by omega
    simp [List.getD, this]
  have hpa := h3.bb _ hpar
  generalize Bs.getD (modI f.parent bridges.n).toNat 0 = par at *
  have m8 := modI_range f.slot (n := 8) (by omega)
  have m9 := modI_range f.vendor (n := 9) (by omega)
  have m9' := modI_range f.device (n := 9) (by omega)
  have m5 := modI_range f.pin (n := 5) (by omega)
  have m6 := modI_range f.vec (n := 6) (by omega)
  have hG : ∀ (br : Bool) (v : Int), (v = 0 ∨ v = 1 ∨ v = 2 ∨ v = 4 ∨ v = 16 ∨ v = 32) → GOk T ⟨par, modI f.slot 8, IntKind.i64.wrap (1 + modI f.vendor 9), modI f.device 9, br, false, false, 0, modI f.pin 5, v, []⟩ := fun br v hv => by
    refine ⟨hpa, by dsimp only; omega, ?_, by dsimp only; omega, by dsimp only; omega, hv⟩
    show 1 ≤ IntKind.i64.wrap (1 + modI f.vendor 9) ∧ IntKind.i64.wrap (1 + modI f.vendor 9) ≤ 9
    rw [i64_in (by omega)]
    omega
  refine ⟨GN H3 f fs T, ⟨_, q0, Mod_pure _ _ (by omega) (by omega) ⟨_, rfl, hmp.1, hmp.2, unSome_mk hp1 ⟨_, hr1, _, q1, Mod_pure _ _ (by omega) (by omega) ⟨_, rfl, _, q2, Mod_pure _ _ (by omega) (by omega) ⟨_, rfl, _, q3, Mod_pure _ _ (by omega) (by omega) ⟨_, rfl, _, q4, iteB_intro (fun c3 => ?_) (fun c3 => ?_)⟩⟩⟩⟩⟩⟩, ?_⟩
  · refine ⟨_, q8, Mod_pure _ _ (by omega) (by omega) ⟨_, rfl, _, q9, Mod_pure _ _ (by omega) (by omega) ⟨_, rfl, ?_⟩⟩⟩
    exact topo_leaf e5 z5 b5 m6.1 m6.2 (fun v => ⟨par, modI f.slot 8, IntKind.i64.wrap (1 + modI f.vendor 9), modI f.device 9, true, false, false, 0, modI f.pin 5, v, []⟩) (fun v hv => ⟨hG true v hv, rfl, rfl, rfl⟩) _ _ _ _
  · refine ⟨_, q2, Mod_pure _ _ (by omega) (by omega) ⟨_, rfl, _, q8, Mod_pure _ _ (by omega) (by omega) ⟨_, rfl, _, q9, Mod_pure _ _ (by omega) (by omega) ⟨_, rfl, ?_⟩⟩⟩⟩
    exact topo_leaf e5 z5 b5 m6.1 m6.2 (fun v => ⟨par, modI f.slot 8, IntKind.i64.wrap (1 + modI f.vendor 9), modI f.device 9, modI f.vendor 3 == 0, false, false, 0, modI f.pin 5, v, []⟩) (fun v hv => ⟨hG _ v hv, rfl, rfl, rfl⟩) _ _ _ _
  · rintro g H18 ⟨gb, G, rfl, gn, g18, f18, gok, hpr, hho, hsp, e18⟩
    exact topo_k4 H most hm L.length k hkn hl H3 out bridges T Bs h3 hlt gb H18 f fs G hfs hfl gn g18 f18 gok hpr hho hsp e18

theorem gTopo_spec (H : Heap) (s : Sl) (L : List FS) (most : Nat) (hm : most ≤ 64) (h : Topo H s L) (hl : L.length ≤ 9223372036854775807) (hb : ∀ x ∈ L, x.1.bars.length ≤ 9223372036854775807) :
    CallsH Try.prog n_gen_Topology #[.slice s.p s.n s.c, .int .i64 most] H (GTopo most H) :=
  (gTopoT_spec H s L most hm h hl hb).mono (fun _ _ h => h.to)

end Go.Proofs.Ytnhhncjflnlfaaa
end

section
/-
  The engine, part 9: kinds of rows (their constants at one place), append by kind, lists that grow by a condition.
-/
namespace Go.Eng

/-- What 'append' wants to know of a kind of rows. -/
structure RK {α : Type} (P : Program) (st e : TypeId) (z : Value) (sz bytes : Nat) (enc : α → List Value) : Prop where
  ht : P.underlying st = some (.slice e)
  hi : (P.info? e).map (fun i => (i.zero, i.size, i.bytes)) = some (some z, sz, bytes)
  hzs : z.cells.size = sz
  hsz : 0 < sz
  hby : 0 < bytes
  he : ∀ x, (enc x).length = sz
  hone : ∀ x, ∀ u ∈ enc x, oneC u = true

section
variable {α : Type} {P : Program} {st ty e : TypeId} {z : Value} {sz bytes lo : Nat} {enc : α → List Value} {H : Heap} {s src : Sl} {l ys : List α}

theorem rk_max (r : RK P st e z sz bytes enc) {n : Nat} (hb : n * bytes ≤ 140737488355328) : n ≤ maxLen := by
  have := Nat.le_mul_of_pos_right n r.hby
  show n ≤ 9223372036854775807
  omega

theorem Own.len (r : RK P st e z sz bytes enc) (h : Own lo e sz H s (l.flatMap enc)) : s.n = l.length := (Own.rb r.he r.hsz h).1
theorem Own.is (r : RK P st e z sz bytes enc) (h : Own lo e sz H s (l.flatMap enc)) : IsS sz enc H s l := h.isS r.he r.hsz

theorem apR (r : RK P st e z sz bytes enc) (x : α) {K : Sl → Heap → Prop} (h : Own lo e sz H s (l.flatMap enc)) (hb : (s.n + 1) * bytes ≤ 140737488355328) (hlo : lo ≤ H.size)
    (hK : ∀ (s' : Sl) (H' : Heap), Own lo e sz H' s' ((l ++ [x]).flatMap enc) → s'.n = s.n + 1 → Mods (blkOf s.p) H H' → K s' H') :
    letH (H.push (.cells (enc x).toArray e (0, 0))) (fun H1 => runH P (Builtin.append_ #[st, st] st #[.slice s.p s.n s.c, .slice (some (⟨H.size, 0, none⟩ : Addr)) 1 1]) H1 (fun v H2 => ∃ y : Sl, v = .slice y.p y.n y.c ∧ K y H2)) :=
  append_row x r.ht r.hi r.hzs r.hsz r.he r.hone h (rk_max r hb) hb hlo hK

/-- The same; it tells where the result lies. -/
theorem apRat (r : RK P st e z sz bytes enc) (x : α) {K : Sl → Heap → Prop} (h : Own lo e sz H s (l.flatMap enc)) (hb : (s.n + 1) * bytes ≤ 140737488355328) (hlo : lo ≤ H.size)
    (hK : ∀ (s' : Sl) (H' : Heap), Own lo e sz H' s' ((l ++ [x]).flatMap enc) → s'.n = s.n + 1 → Mods (blkOf s.p) H H' → (∀ a, s'.p = some a → a.block ∈ blkOf s.p ∨ H.size < a.block) → K s' H') :
    letH (H.push (.cells (enc x).toArray e (0, 0))) (fun H1 => runH P (Builtin.append_ #[st, st] st #[.slice s.p s.n s.c, .slice (some (⟨H.size, 0, none⟩ : Addr)) 1 1]) H1 (fun v H2 => ∃ y : Sl, v = .slice y.p y.n y.c ∧ K y H2)) := by
  refine letH_mk ?_
  rintro H1 rfl
  have hnew : Blk (H.push (.cells (enc x).toArray e (0, 0))) H.size e (enc x) := Blk.new _ _ _
  have his : IsS sz enc (H.push (.cells (enc x).toArray e (0, 0))) ⟨some ⟨H.size, 0, none⟩, 1, 1⟩ [x] := ⟨rfl, .inr ⟨_, rfl, fun i y hi j v hv => by
    have hi0 : i = 0 := by
      have := (List.getElem?_eq_some_iff.1 hi).1
      simpa using this
    subst hi0
    simp at hi
    subst hi
    rw [Nat.zero_mul]
    show rd _ (((⟨H.size, 0, none⟩ : Addr).add 0).add j) = _
    rw [add_add', Nat.zero_add]
    exact hnew.rd hv⟩⟩
  refine append_at (src := ⟨some ⟨H.size, 0, none⟩, 1, 1⟩) (ys := [x]) r.ht r.hi r.hzs r.hsz r.he r.hone (h.ext (Ext.push _ _)) his (by simp) (rk_max r (by simpa using hb)) (by simpa using hb) (by simp; omega) ?_
  intro s' H' ho hn' m hat
  refine ⟨s', rfl, hK s' H' ho hn' ⟨?_, fun k hk hkn => ?_⟩ (fun a ha => ?_)⟩
  · have := m.size; simp at this; omega
  · rw [m.get k (by simp; omega) hkn, push_lt hk]
  · rcases hat a ha with h1 | h1
    · exact .inl h1
    · exact .inr (by simp at h1; omega)

theorem apA (r : RK P st e z sz bytes enc) {K : Value → Heap → Prop} (h : Own lo e sz H s (l.flatMap enc)) (hs : IsS sz enc H src ys) (hb : (s.n + ys.length) * bytes ≤ 140737488355328) (hlo : lo ≤ H.size)
    (hK : ∀ (s' : Sl) (H' : Heap), Own lo e sz H' s' ((l ++ ys).flatMap enc) → s'.n = s.n + ys.length → Mods (blkOf s.p) H H' → (∀ a, s'.p = some a → a.block ∈ blkOf s.p ∨ a.block = H.size) → K (.slice s'.p s'.n s'.c) H') :
    runH P (Builtin.append_ #[st, st] ty #[.slice s.p s.n s.c, .slice src.p src.n src.c]) H K := by
  cases hp : src.p with
  | none =>
    have h0 : ys = [] := by
      rcases hs.row with e | ⟨a, ha, _⟩
      · exact e
      · rw [hp] at ha; cases ha
    have hn0 : src.n = 0 := by rw [hs.len, h0]; rfl
    subst h0
    rw [hn0]
    obtain ⟨i, hi1, _, hi3, _⟩ := info_ex r.hi
    refine append_none (e := e) (sz := sz) r.ht (by simp [szT, hi1, hi3]) ?_ (hK s H (by simpa using h) (by simp) (Mods.refl _ _) (fun a ha => .inl (by rw [ha]; simp [blkOf])))
    rcases h.cases.2 with ⟨e, _⟩ | ⟨_, _, _, _, _, hc, _⟩
    · rw [e]; simp
    · exact hc
  | some ad =>
    rw [← hp]
    exact append_at r.ht r.hi r.hzs r.hsz r.he r.hone h hs (by rw [hp]; simp) (rk_max r hb) hb hlo hK

end

theorem zeroRow_size (z : Value) (n : Nat) : (zeroRow z n).size = n * z.cells.size := by simp [zeroRow]
/-- 'make' with length 0. -/
theorem Own.make {lo n sz : Nat} {e : TypeId} {H : Heap} {z : Value} (hlo : lo ≤ H.size) (hn : n ≤ maxLen) (hz : z.cells.size = sz) : Own lo e sz (H.push (.cells (zeroRow z n) e (0, 0))) ⟨some ⟨H.size, 0, none⟩, 0, n⟩ [] :=
  ⟨by simp, .inr ⟨H.size, n, zeroRow z n, rfl, hlo, push_new _ _, Nat.zero_le _, hn, by rw [zeroRow_size, hz], by simp⟩⟩

theorem own_lo {lo lo' : Nat} {e : TypeId} {sz : Nat} {H : Heap} {s : Sl} {xs : List Value} (h : Own lo e sz H s xs) (hl : lo' ≤ lo) : Own lo' e sz H s xs := by
  obtain ⟨h1, h2⟩ := h
  refine ⟨h1, ?_⟩
  rcases h2 with h2 | ⟨g, cap, cur, a, b, c⟩
  · exact .inl h2
  · exact .inr ⟨g, cap, cur, a, Nat.le_trans hl b, c⟩

theorem Own.cap {lo : Nat} {e : TypeId} {sz : Nat} {H : Heap} {s : Sl} {xs : List Value} (h : Own lo e sz H s xs) : s.n ≤ s.c := by
  rcases h.cases.2 with ⟨e, _⟩ | ⟨_, _, _, _, _, hc, _⟩
  · rw [e]; simp
  · exact hc

/-- The elements from 'm' on. -/
theorem IsS.dropS {α : Type} {sz : Nat} {enc : α → List Value} {H : Heap} {s : Sl} {l : List α} (h : IsS sz enc H s l) (hc : s.n ≤ s.c) (m : Nat) (hm : m ≤ l.length) : IsS sz enc H ⟨slP s.p s.c m sz, s.n - m, s.c - m⟩ (l.drop m) := by
  have hn := h.len
  refine ⟨by simp; omega, ?_⟩
  by_cases he : m = l.length
  · left; rw [he]; simp
  · right
    rcases h.row with e | ⟨a, hp, hr⟩
    · subst e; simp at hm; exact absurd hm he
    · refine ⟨a.add (m * sz), ?_, fun i x hi j v hv => ?_⟩
      · unfold slP
        rw [if_neg (by omega), hp]
        rfl
      · rw [List.getElem?_drop] at hi
        have := hr (m + i) x hi j v hv
        rw [add_add' a (m * sz) (i * sz), ← Nat.add_mul]
        exact this

/-- Later writes touch only what is new, or what may change anyhow. -/
theorem Mods.newer {S T : List Nat} {A B C : Heap} (h : Mods S A B) (k : Mods T B C) (hT : ∀ t ∈ T, A.size ≤ t ∨ t ∈ S) : Mods S A C :=
  ⟨Nat.le_trans h.size k.size, fun i hi hn => (k.get i (Nat.lt_of_lt_of_le hi h.size) (fun e => by rcases hT i e with h1 | h1; omega; exact hn h1)).trans (h.get i hi hn)⟩
theorem Mods.ext' {S : List Nat} {A B C : Heap} (h : Mods S A B) (k : Ext B C) : Mods S A C := h.trans k.mods

theorem spl_sub (A C : List Value) : ∀ (ws B : List Value) (j : Nat), j + ws.length ≤ B.length → spl (A ++ B ++ C) (A.length + j) ws = A ++ spl B j ws ++ C
  | [], B, j, _ => rfl
  | w :: ws, B, j, h => by
    simp only [List.length_cons] at h
    simp only [spl]
    rw [set_mid (by omega), Nat.add_assoc, spl_sub A C ws (B.set j w) (j + 1) (by simp; omega)]
/-- Some cells of a row are written. -/
theorem RB.wrSub {α : Type} {sz : Nat} {enc : α → List Value} {H : Heap} {b : Nat} {e : TypeId} {l : List α} (h : RB H b e sz enc l) {i j : Nat} {x y : α} {ws : List Value} (hi : l[i]? = some x) (hj : j + ws.length ≤ sz) (hy : spl (enc x) j ws = enc y) :
    RB (wrs H (((⟨b, 0, none⟩ : Addr).add (i * sz)).add j) ws) b e sz enc (l.set i y) := by
  obtain ⟨g, ex, h⟩ := h
  have hlt := (List.getElem?_eq_some_iff.1 hi).1
  refine ⟨g, ex, ?_⟩
  rw [add_add', add_mk]
  have h2 := h.wr (o := 0 + (i * sz + j)) (ws := ws)
  have e1 : spl (l.flatMap enc ++ ex) (0 + (i * sz + j)) ws = (l.set i y).flatMap enc ++ ex := by
    rw [flat_split (enc := enc) hi, flat_split_set hlt, List.append_assoc _ _ ex, List.append_assoc _ _ ex, Nat.zero_add, ← flat_take_len g hlt, spl_sub _ _ _ _ _ (by rw [g]; exact hj), hy]
  rw [e1] at h2
  exact h2

/-- How many cells a block has. -/
def CS (H : Heap) (g n : Nat) : Prop := ∃ c e, H[g]? = some (.cells c e (0, 0)) ∧ c.size = n
theorem CS.lt {H : Heap} {g n : Nat} (h : CS H g n) : g < H.size := by obtain ⟨c, e, h1, _⟩ := h; exact get_lt h1
theorem CS.ext {H H' : Heap} {g n : Nat} (h : CS H g n) (e : Ext H H') : CS H' g n := by
  have hl := h.lt
  obtain ⟨c, t, h1, h2⟩ := h
  exact ⟨c, t, by rw [e.get g hl]; exact h1, h2⟩
theorem CS.mods {H H' : Heap} {g n : Nat} {S : List Nat} (h : CS H g n) (m : Mods S H H') (hn : g ∉ S) : CS H' g n := by
  have hl := h.lt
  obtain ⟨c, t, h1, h2⟩ := h
  exact ⟨c, t, by rw [m.get g hl hn]; exact h1, h2⟩
theorem splice_size (vs : List Value) : ∀ (c : Array Value) (i : Nat), (splice c i vs).size = c.size := by
  induction vs with
  | nil => intro c i; rfl
  | cons v vs ih => intro c i; simp only [splice]; rw [ih]; simp
theorem CS.wrs {H : Heap} {g n : Nat} (h : CS H g n) (a : Addr) (vs : List Value) : CS (wrs H a vs) g n := by
  obtain ⟨c, t, h1, h2⟩ := h
  by_cases e : g = a.block
  · subst e
    obtain ⟨b, o, s⟩ := a
    exact ⟨_, _, wrs_get h1, by rw [splice_size]; exact h2⟩
  · exact ⟨c, t, by rw [wrs_ne e]; exact h1, h2⟩
theorem RB.own {α : Type} {sz : Nat} {enc : α → List Value} {H : Heap} {b : Nat} {e : TypeId} {l : List α} (h : RB H b e sz enc l) (hc : CS H b (l.length * sz)) {lo n : Nat} (hlo : lo ≤ b) (hn : n = l.length) (hm : n ≤ maxLen) : Own lo e sz H ⟨some ⟨b, 0, none⟩, n, n⟩ (l.flatMap enc) := by
  obtain ⟨g, ex, hb⟩ := h
  obtain ⟨c, t, h1, h2⟩ := hc
  have hf := flat_len g l
  have hb' : H[b]? = some (.cells (l.flatMap enc ++ ex).toArray e (0, 0)) := hb
  rw [hb'] at h1
  simp only [Option.some.injEq, Obj.cells.injEq] at h1
  have hex : ex = [] := by
    rw [← h1.1, List.size_toArray, List.length_append, hf] at h2
    exact List.eq_nil_of_length_eq_zero (by omega)
  subst hex
  rw [List.append_nil] at hb'
  exact Own.of_blk hb' (by rw [hf, hn]) hlo hm

theorem take_succ_d {α : Type} {l : List α} {k : Nat} (d : α) (h : k < l.length) : l.take (k + 1) = l.take k ++ [l.getD k d] := by
  rw [List.take_add_one]
  simp [List.getD, h]
theorem filter_succ {α : Type} {l : List α} {k : Nat} (d : α) (q : α → Bool) (h : k < l.length) : (l.take (k + 1)).filter q = (l.take k).filter q ++ (if q (l.getD k d) then [l.getD k d] else []) := by
  rw [take_succ_d d h, List.filter_append]
  congr 1
  simp only [List.filter_cons, List.filter_nil]
theorem filter_take_len {α : Type} (l : List α) (k : Nat) (q : α → Bool) : ((l.take k).filter q).length ≤ k := by
  have h1 := List.length_filter_le q (l.take k)
  have h2 : (l.take k).length ≤ k := by simp; omega
  omega
theorem getD_get {α : Type} {l : List α} {k : Nat} (d : α) (h : k < l.length) : l[k]? = some (l.getD k d) := by simp [List.getD, h]
theorem getD_mem' {α : Type} {l : List α} {k : Nat} (d : α) (h : k < l.length) : l.getD k d ∈ l := by
  have := getD_get d h
  exact List.mem_of_getElem? this

end Go.Eng
end

section
/-
  Kinds of rows; equality of lists of integers and of registers; the first elements of a slice.
-/
namespace Go.Proofs.Ytnhhncjflnlfaaa
open Go.Eng

theorem rkBar : RK Try.prog t_sl_api_Bar t_api_Bar (.agg #[.int .i64 0, .int .i64 0]) 2 16 encBar := ⟨by kernel_rfl, by kernel_rfl, rfl, by omega, by omega, encBar_len, encBar_one⟩
theorem rkInt : RK Try.prog t_sl_int t_int (.int .i64 0) 1 8 (encI .i64) := ⟨by kernel_rfl, by kernel_rfl, rfl, by omega, by omega, ints_row _, ints_one _⟩
theorem rkFn : RK Try.prog t_sl_api_Function t_api_Function (.agg #[.int .i64 0, .int .i64 0, .int .i64 0, .int .i64 0, .bool false, .bool false, .bool false, .int .i64 0, .int .i64 0, .int .i64 0, .slice none 0 0]) 11 88 encF :=
  ⟨by kernel_rfl, by kernel_rfl, rfl, by omega, by omega, encF_len, encF_one⟩

theorem slP0 (p : Option Addr) (m s : Nat) : slP p m 0 s = p := by
  unfold slP
  split
  · rfl
  · cases p with
    | none => rfl
    | some a => simp [Addr.add]

theorem IsS.takeS {α : Type} {sz : Nat} {enc : α → List Value} {H : Heap} {s : Sl} {l : List α} (h : IsS sz enc H s l) (m c : Nat) (hm : m ≤ l.length) : IsS sz enc H ⟨s.p, m, c⟩ (l.take m) := by
  refine ⟨by simp; omega, ?_⟩
  rcases h.row with e | ⟨a, hp, hr⟩
  · subst e; exact .inl (by simp)
  · refine .inr ⟨a, hp, fun i x hx => hr i x ?_⟩
    rw [List.getElem?_take] at hx
    split at hx
    · exact hx
    · cases hx
theorem Topo.takeS {H : Heap} {s : Sl} {T : List FS} (h : Topo H s T) (m c : Nat) (hm : m ≤ T.length) : Topo H ⟨s.p, m, c⟩ (T.take m) :=
  ⟨IsS.takeS h.is m c hm, fun x hx => h.bars x (List.mem_of_mem_take hx)⟩

theorem Equal_int_spec (H : Heap) (a b : Sl) (A B : List Int) (ha : IsS 1 (encI .i64) H a A) (hb : IsS 1 (encI .i64) H b B) (hl : A.length ≤ 9223372036854775807) :
    CallsH Try.prog n_help_Equal_int #[.slice a.p a.n a.c, .slice b.p b.n b.c] H (fun v H' => v = .bool (decide (A = B)) ∧ H' = H) := by
  refine F_help_Equal_int_ok _ _ ?_
  unfold F_help_Equal_int
  have na := ha.len
  have nb := hb.len
  refine iteB_bne (fun c => ⟨by rw [decide_eq_false (fun e => c (by rw [na, nb, e]))], rfl⟩) (fun c => ?_)
  have hlen : A.length = B.length := by omega
  refine loop1 A.length (fun k H' => H' = H ∧ ∀ i, i < k → A[i]? = B[i]?) ⟨rfl, fun i hi => by omega⟩ ?_
  rintro k H1 hk ⟨rfl, heq⟩
  unfold F_help_Equal_int_r1
  refine iteB_dec (fun c1 => ?_) (fun c1 => ⟨?_, rfl⟩)
  · have hkA : k < A.length := by omega
    have hkB : k < B.length := by omega
    obtain ⟨p, hp, hr⟩ := IsS.atN ha (0 : Int) hkA
    obtain ⟨q, hq, hs⟩ := IsS.atN hb (0 : Int) hkB
    have eA : A[k]? = some (A.getD k (0 : Int)) := by simp [List.getD, hkA]
    have eB : B[k]? = some (B.getD k (0 : Int)) := by simp [List.getD, hkB]
    generalize A.getD k (0 : Int) = x at *
    generalize B.getD k (0 : Int) = y at *
    refine ⟨by omega, by omega, unSome_mk hp ⟨_, hr 0 _ rfl, by omega, by omega, unSome_mk hq ⟨_, hs 0 _ rfl, iteB_bne (fun c2 => ⟨?_, rfl⟩) (fun c2 => letV_mk _ rfl (next1 hkA (by omega) ⟨rfl, fun i hi => ?_⟩))⟩⟩⟩
    · rw [decide_eq_false]
      intro e
      rw [e, eB] at eA
      simp at eA
      exact c2 eA.symm
    · by_cases e : i = k
      · subst e
        rw [eA, eB, c2]
      · exact heq i (by omega)
  · rw [decide_eq_true]
    apply List.ext_getElem?
    intro i
    by_cases hi : i < A.length
    · exact heq i (by omega)
    · rw [List.getElem?_eq_none (by omega), List.getElem?_eq_none (by omega)]

theorem Equal_api_Bar_spec (H : Heap) (a b : Sl) (A B : List Bar) (ha : IsS 2 encBar H a A) (hb : IsS 2 encBar H b B) (hl : A.length ≤ 9223372036854775807) :
    CallsH Try.prog n_help_Equal_api_Bar #[.slice a.p a.n a.c, .slice b.p b.n b.c] H (fun v H' => v = .bool (decide (A = B)) ∧ H' = H) := by
  refine F_help_Equal_api_Bar_ok _ _ ?_
  unfold F_help_Equal_api_Bar
  have na := ha.len
  have nb := hb.len
  refine iteB_bne (fun c => ⟨by rw [decide_eq_false (fun e => c (by rw [na, nb, e]))], rfl⟩) (fun c => ?_)
  have hlen : A.length = B.length := by omega
  refine loop1 A.length (fun k H' => H' = H ∧ ∀ i, i < k → A[i]? = B[i]?) ⟨rfl, fun i hi => by omega⟩ ?_
  rintro k H1 hk ⟨rfl, heq⟩
  unfold F_help_Equal_api_Bar_r1
  refine iteB_dec (fun c1 => ?_) (fun c1 => ⟨?_, rfl⟩)
  · have hkA : k < A.length := by omega
    have hkB : k < B.length := by omega
    obtain ⟨p, hp, hr⟩ := IsS.atN ha (0, 0) hkA
    obtain ⟨q, hq, hs⟩ := IsS.atN hb (0, 0) hkB
    have eA : A[k]? = some (A.getD k (0, 0)) := by simp [List.getD, hkA]
    have eB : B[k]? = some (B.getD k (0, 0)) := by simp [List.getD, hkB]
    generalize A.getD k (0, 0) = x at *
    generalize B.getD k (0, 0) = y at *
    obtain ⟨x0, x1⟩ := x
    obtain ⟨y0, y1⟩ := y
    refine ⟨by omega, by omega, unSome_mk hp ⟨_, hr 0 _ rfl, _, hr 1 _ rfl, by omega, by omega, unSome_mk hq ⟨_, hs 0 _ rfl, _, hs 1 _ rfl, iteB_not (fun c2 => ⟨?_, rfl⟩) (fun c2 => letV_mk _ rfl (next1 hkA (by omega) ⟨rfl, fun i hi => ?_⟩))⟩⟩⟩
    · rw [decide_eq_false]
      intro e
      rw [e, eB] at eA
      simp at eA
      simp at c2
      simp_all
    · by_cases e : i = k
      · subst e
        simp at c2
        rw [eA, eB]
        simp_all
      · exact heq i (by omega)
  · rw [decide_eq_true]
    apply List.ext_getElem?
    intro i
    by_cases hi : i < A.length
    · exact heq i (by omega)
    · rw [List.getElem?_eq_none (by omega), List.getElem?_eq_none (by omega)]


end Go.Proofs.Ytnhhncjflnlfaaa
end

section
/-
  The fixed example of the slots.
-/
namespace Go.Proofs.Ytnhhncjflnlfaaa
open Go.Eng

abbrev slotL (s d g : Int) : List Value := [.int .i64 s, .int .u64 d, .int .u64 g]

theorem enter_spec (H : Heap) (b : Nat) (s d g st : Int) (ac : Sl) (h : Blk H b t_hotplug_Slot (slotL s d g)) :
    CallsH Try.prog n_hotplug_Slot_enter #[.pointer (some ⟨b, 0, none⟩), .int .i64 st, .slice ac.p ac.n ac.c] H (fun v H' => v = .tuple #[.slice ac.p ac.n ac.c, .int .i64 0] ∧ Blk H' b t_hotplug_Slot (slotL st d (if st = 3 then g else 0)) ∧ Mods [b] H H') := by
  refine F_hotplug_Slot_enter_ok _ _ _ ?_
  unfold F_hotplug_Slot_enter
  refine ⟨h.ok0 (by simp), letH_mk ?_⟩
  intro H1 h1
  have b1 : Blk H1 b t_hotplug_Slot (slotL st d g) := by rw [h1]; exact h.wr
  have m1 : Mods [b] H H1 := by rw [h1]; exact Mods.wrs (by simp)
  clear h1
  refine iteB_bne (fun c => ⟨b1.ok (by simp), letH_mk ?_⟩) (fun c => ⟨rfl, by rw [if_pos c]; exact b1, m1⟩)
  intro H2 h2
  have b2 : Blk H2 b t_hotplug_Slot (slotL st d 0) := by rw [h2]; exact b1.wr1
  have m2 : Mods [b] H1 H2 := by rw [h2]; exact mods_wr_add (by simp)
  exact ⟨rfl, by rw [if_neg c]; exact b2, m1.trans m2⟩

theorem awake_spec (H : Heap) : CallsH Try.prog n_law23_awake #[] H (BoolP true H) := by
  refine F_law23_awake_ok ?_
  unfold F_law23_awake
  refine F_hotplug_NewSlot_ok _ _ ?_
  unfold F_hotplug_NewSlot
  refine iteB_neg (by decide) (push_mk (vs := slotL 1 5 0) fun H1 e1 z1 b1 => iteB_pos rfl ⟨b1.ok0 (by simp), letH_mk ?_⟩)
  intro H2 h2
  have b2 : Blk H2 H.size t_hotplug_Slot (slotL 2 5 0) := by rw [h2]; exact b1.wr
  have x2 : Ext H H2 := by rw [h2]; exact Mods.ext e1 (Mods.wrs (S := [H.size]) (by simp)) (by simp)
  clear h2 b1 e1 z1
  refine ⟨_, _, rfl, iteB_neg rfl (iteB_neg rfl (F_hotplug_Slot_Handle_ok _ _ _ ?_))⟩
  unfold F_hotplug_Slot_Handle
  refine iteB_neg rfl (iteB_pos rfl ⟨2, b2.rd0 rfl, fun b H' => b = true ∧ H' = H2, iteB_pos rfl ⟨rfl, rfl⟩, ?_⟩)
  rintro _ _ ⟨rfl, rfl⟩
  unfold F_hotplug_Slot_Handle_k1
  refine iteB_pos rfl ⟨5, b2.rd (i := 1) rfl, F_hotplug_saturatingSum_ok _ _ ?_⟩
  unfold F_hotplug_saturatingSum
  refine iteB_neg (by decide) (letV_mk 15 (by decide) ⟨_, rfl, b2.ok (by simp), letH_mk ?_⟩)
  rename_i H2
  intro H3 h3
  have b3 : Blk H3 H.size t_hotplug_Slot (slotL 2 5 15) := by rw [h3]; exact b2.wr1
  have m3 : Mods [H.size] H2 H3 := by rw [h3]; exact mods_wr_add (by simp)
  have x3 : Ext H H3 := Mods.ext x2 m3 (by simp)
  clear h3 m3
  refine push_mk (vs := encI .i64 1) fun H4 e4 z4 b4 => (enter_spec H4 H.size 2 5 15 3 ⟨some ⟨H3.size, 0, none⟩, 1, 1⟩ (b3.ext e4)).mono ?_
  rintro v H5 ⟨rfl, b5, m5⟩
  rw [if_pos rfl] at b5
  have hne : H3.size ≠ H.size := by have := b3.lt; omega
  have a5 : Ints .i64 H5 ⟨some ⟨H3.size, 0, none⟩, 1, 1⟩ [1] := IsS.of_blk (ints_row _) (b4.mods m5 (by simpa using hne)) rfl (fun i v h => h)
  have x5 : Ext H H5 := Mods.ext (x3.trans e4) m5 (by simp)
  refine ⟨_, _, rfl, _, _, rfl, F_hotplug_Slot_Advance_ok _ _ ?_⟩
  have hz5 := m5.size
  unfold F_hotplug_Slot_Advance
  refine ⟨3, b5.rd0 rfl, iteB_neg rfl ⟨15, b5.rd (i := 2) rfl, iteB_neg (by decide) (push_mk (vs := encI .i64 3) fun H6 e6 z6 b6 => (enter_spec H6 H.size 3 5 15 4 ⟨some ⟨H5.size, 0, none⟩, 1, 1⟩ (b5.ext e6)).mono ?_)⟩⟩
  rintro v H7 ⟨rfl, b7, m7⟩
  rw [if_neg (by decide)] at b7
  have hlt := b5.lt
  have a7 : Ints .i64 H7 ⟨some ⟨H5.size, 0, none⟩, 1, 1⟩ [3] := IsS.of_blk (ints_row _) (b6.mods m7 (by simp; omega)) rfl (fun i v h => h)
  have p7 := (a5.ext e6).mods m7 (fun a ha => by cases ha; simpa using hne)
  have x7 : Ext H H7 := Mods.ext (x5.trans e6) m7 (by simp)
  have hz7 := m7.size
  refine ⟨_, _, rfl, _, rfl, F_hotplug_Slot_Handle_ok _ _ _ ?_⟩
  unfold F_hotplug_Slot_Handle
  refine iteB_neg rfl (iteB_neg rfl (iteB_neg rfl (iteB_neg rfl (iteB_pos rfl ⟨4, b7.rd0 rfl, fun b H' => b = false ∧ H' = H7, iteB_neg rfl ⟨rfl, rfl⟩, ?_⟩))))
  rintro _ _ ⟨rfl, rfl⟩
  unfold F_hotplug_Slot_Handle_k3
  rename_i H7
  refine iteB_neg rfl (iteB_neg rfl ⟨fun b H' => b = true ∧ H' = H7, iteB_pos rfl ⟨rfl, rfl⟩, ?_⟩)
  rintro _ _ ⟨rfl, rfl⟩
  unfold F_hotplug_Slot_Handle_k2
  rename_i H7
  refine iteB_pos rfl (push_mk (vs := ([5, 2] : List Int).flatMap (encI .i64)) fun H8 e8 z8 b8 => (enter_spec H8 H.size 4 5 0 1 ⟨some ⟨H7.size, 0, none⟩, 2, 2⟩ (b7.ext e8)).mono ?_)
  rintro v H9 ⟨rfl, b9, m9⟩
  have a9 : Ints .i64 H9 ⟨some ⟨H7.size, 0, none⟩, 2, 2⟩ [5, 2] := IsS.of_blk (ints_row _) (b8.mods m9 (by simp; omega)) rfl (fun i v h => h)
  have p9 := (p7.ext e8).mods m9 (fun a ha => by cases ha; simpa using hne)
  have q9 := (a7.ext e8).mods m9 (fun a ha => by cases ha; simp; omega)
  have x9 : Ext H H9 := Mods.ext (x7.trans e8) m9 (by simp)
  refine ⟨_, _, rfl, _, _, rfl, iteB_pos rfl (iteB_pos rfl (push_mk (vs := encI .i64 1) fun H10 e10 z10 b10 => (Equal_int_spec H10 _ ⟨some ⟨H9.size, 0, none⟩, 1, 1⟩ [1] [1] (p9.ext e10) (IsS.of_blk (ints_row _) b10 rfl (fun i v h => h)) (by simp)).mono ?_))⟩
  rintro v H11 ⟨rfl, rfl⟩
  refine ⟨_, rfl, iteB_pos (by simp) (push_mk (vs := encI .i64 3) fun H12 e12 z12 b12 => (Equal_int_spec H12 _ ⟨some ⟨H11.size, 0, none⟩, 1, 1⟩ [3] [3] ((q9.ext e10).ext e12) (IsS.of_blk (ints_row _) b12 rfl (fun i v h => h)) (by simp)).mono ?_)⟩
  rintro v H13 ⟨rfl, rfl⟩
  refine ⟨_, rfl, iteB_pos (by simp) (push_mk (vs := ([5, 2] : List Int).flatMap (encI .i64)) fun H14 e14 z14 b14 => (Equal_int_spec H14 _ ⟨some ⟨H13.size, 0, none⟩, 2, 2⟩ [5, 2] [5, 2] (((a9.ext e10).ext e12).ext e14) (IsS.of_blk (ints_row _) b14 rfl (fun i v h => h)) (by simp)).mono ?_)⟩
  rintro v H15 ⟨rfl, rfl⟩
  refine ⟨_, rfl, iteB_pos (by simp) (F_hotplug_Slot_State_ok _ ?_)⟩
  unfold F_hotplug_Slot_State
  exact ⟨1, (((b9.ext e10).ext e12).ext e14).rd0 rfl, _, rfl, rfl, ((x9.trans e10).trans e12).trans e14⟩

end Go.Proofs.Ytnhhncjflnlfaaa
end
