import Derived.Test.YtnhhncjflnlfaaaProg
import Derived.Below
import Derived.Test.YtnhhncjflnlfaaaPk03

section
/-
  The shallow readings of this seat's functions, written by a program (gen.py); the kernel holds each against the loaded program.
-/
namespace Go.Proofs.Ytnhhncjflnlfaaa
open Go.Eng

/-! ### 47: platformfw/pciconf.Valid -/

def F_pciconf_Valid_r1 (R : Value → Heap → Prop) (H : Heap) (x23 : Sl) (I_ : Int → Heap → Prop) (M_ : Int → Heap → Nat) (x24 : Int) (H5 : Heap) : Prop :=
  iteB (decide (x24 < (x23.n : Int))) (
  ∃ x25 : Sl, rd H5 ((⟨H.size, 0, none⟩ : Addr).add 10) = some (.slice x25.p x25.n x25.c) ∧ (
  CallsH Try.prog n_pciconf_validBar #[.slice x25.p x25.n x25.c, .int .i64 x24] H5 (fun v1 H6 =>
  ∃ x26 : Bool, v1 = .bool x26 ∧ (
  iteB (!x26) (
  R (.bool false) H6) (
  I_ (IntKind.i64.wrap (x24 + (1 : Int))) H6 ∧ M_ (IntKind.i64.wrap (x24 + (1 : Int))) H6 < M_ x24 H5))))) (
  R (.bool true) H5)

def F_pciconf_Valid_k2 (R : Value → Heap → Prop) (H : Heap) (H3 : Heap) : Prop :=
  ∃ x20 : Sl, rd H3 ((⟨H.size, 0, none⟩ : Addr).add 10) = some (.slice x20.p x20.n x20.c) ∧ (
  ∃ x21 : Bool, rd H3 ((⟨H.size, 0, none⟩ : Addr).add 4) = some (.bool x21) ∧ (
  CallsH Try.prog n_pciconf_registers #[.bool x21] H3 (fun v H4 =>
  ∃ x22 : Int, v = .int .i64 x22 ∧ (
  Keeps H3 H4 [(((⟨H.size, 0, none⟩ : Addr).add 10), 1)] ∧ (
  iteB (decide ((x20.n : Int) > x22)) (
  R (.bool false) H4) (
  ∃ x23 : Sl, rd H4 ((⟨H.size, 0, none⟩ : Addr).add 10) = some (.slice x23.p x23.n x23.c) ∧ (
  ∃ I_ : Int → Heap → Prop, ∃ M_ : Int → Heap → Nat, I_ (0 : Int) H4 ∧ (∀ x24 : Int, ∀ H5 : Heap, I_ x24 H5 → F_pciconf_Valid_r1 R H x23 I_ M_ x24 H5))))))))

def F_pciconf_Valid_k3 (R : Value → Heap → Prop) (H : Heap) (H2 : Heap) : Prop :=
  ∃ J_1 : Heap → Prop, (
  ∃ x17 : Bool, rd H2 ((⟨H.size, 0, none⟩ : Addr).add 4) = some (.bool x17) ∧ (
  iteB (!x17) (
  ∃ x18 : Bool, rd H2 ((⟨H.size, 0, none⟩ : Addr).add 5) = some (.bool x18) ∧ (
  iteB x18 (
  R (.bool false) H2) (
  ∃ x19 : Bool, rd H2 ((⟨H.size, 0, none⟩ : Addr).add 6) = some (.bool x19) ∧ (
  iteB x19 (
  R (.bool false) H2) (
  J_1 H2))))) (
  J_1 H2))) ∧ (∀ H3 : Heap, J_1 H3 → F_pciconf_Valid_k2 R H H3)

def F_pciconf_Valid (R : Value → Heap → Prop) (f_0 : Int) (f_1 : Int) (f_2 : Int) (f_3 : Int) (f_4 : Bool) (f_5 : Bool) (f_6 : Bool) (f_7 : Int) (f_8 : Int) (f_9 : Int) (f_10 : Sl) (H : Heap) : Prop :=
  letH (H.push (.cells #[.int .i64 f_0, .int .i64 f_1, .int .i64 f_2, .int .i64 f_3, .bool f_4, .bool f_5, .bool f_6, .int .i64 f_7, .int .i64 f_8, .int .i64 f_9, .slice f_10.p f_10.n f_10.c] t_api_Function (0, 0))) (fun H1 : Heap =>
  ∃ x : Int, rd H1 ((⟨H.size, 0, none⟩ : Addr).add 2) = some (.int .i64 x) ∧ (
  iteB (decide (x < (1 : Int))) (
  R (.bool false) H1) (
  ∃ x1 : Int, rd H1 ((⟨H.size, 0, none⟩ : Addr).add 2) = some (.int .i64 x1) ∧ (
  iteB (decide (x1 > (65534 : Int))) (
  R (.bool false) H1) (
  ∃ x2 : Int, rd H1 ((⟨H.size, 0, none⟩ : Addr).add 3) = some (.int .i64 x2) ∧ (
  iteB (decide (x2 < (0 : Int))) (
  R (.bool false) H1) (
  ∃ x3 : Int, rd H1 ((⟨H.size, 0, none⟩ : Addr).add 3) = some (.int .i64 x3) ∧ (
  iteB (decide (x3 > (65535 : Int))) (
  R (.bool false) H1) (
  ∃ x4 : Int, rd H1 ((⟨H.size, 0, none⟩ : Addr).add 1) = some (.int .i64 x4) ∧ (
  iteB (decide (x4 < (0 : Int))) (
  R (.bool false) H1) (
  ∃ x5 : Int, rd H1 ((⟨H.size, 0, none⟩ : Addr).add 1) = some (.int .i64 x5) ∧ (
  iteB (decide (x5 > (31 : Int))) (
  R (.bool false) H1) (
  ∃ x6 : Int, rd H1 ((⟨H.size, 0, none⟩ : Addr).add 8) = some (.int .i64 x6) ∧ (
  iteB (decide (x6 < (0 : Int))) (
  R (.bool false) H1) (
  ∃ x7 : Int, rd H1 ((⟨H.size, 0, none⟩ : Addr).add 8) = some (.int .i64 x7) ∧ (
  iteB (decide (x7 > (4 : Int))) (
  R (.bool false) H1) (
  ∃ x8 : Int, rd H1 ((⟨H.size, 0, none⟩ : Addr).add 9) = some (.int .i64 x8) ∧ (
  iteB (decide (x8 < (0 : Int))) (
  R (.bool false) H1) (
  ∃ x9 : Int, rd H1 ((⟨H.size, 0, none⟩ : Addr).add 9) = some (.int .i64 x9) ∧ (
  iteB (decide (x9 > (32 : Int))) (
  R (.bool false) H1) (
  ∃ x10 : Int, rd H1 ((⟨H.size, 0, none⟩ : Addr).add 9) = some (.int .i64 x10) ∧ (
  ∃ x11 : Int, rd H1 ((⟨H.size, 0, none⟩ : Addr).add 9) = some (.int .i64 x11) ∧ (
  iteB ((bitsAnd .i64 x10 (IntKind.i64.wrap (x11 - (1 : Int)))) != (0 : Int)) (
  R (.bool false) H1) (
  ∃ J_ : Heap → Prop, (
  ∃ x12 : Int, rd H1 ((⟨H.size, 0, none⟩ : Addr).add 7) = some (.int .i64 x12) ∧ (
  iteB (decide (x12 < (0 : Int))) (
  R (.bool false) H1) (
  ∃ x13 : Int, rd H1 ((⟨H.size, 0, none⟩ : Addr).add 7) = some (.int .i64 x13) ∧ (
  iteB (decide (x13 > (32 : Int))) (
  R (.bool false) H1) (
  ∃ x14 : Int, rd H1 ((⟨H.size, 0, none⟩ : Addr).add 7) = some (.int .i64 x14) ∧ (
  iteB (decide (x14 > (0 : Int))) (
  ∃ x15 : Bool, rd H1 ((⟨H.size, 0, none⟩ : Addr).add 4) = some (.bool x15) ∧ (
  iteB x15 (
  ∃ x16 : Bool, rd H1 ((⟨H.size, 0, none⟩ : Addr).add 6) = some (.bool x16) ∧ (
  iteB (!x16) (
  R (.bool false) H1) (
  J_ H1))) (
  R (.bool false) H1))) (
  J_ H1))))))) ∧ (∀ H2 : Heap, J_ H2 → F_pciconf_Valid_k3 R H H2)))))))))))))))))))))))))

theorem F_pciconf_Valid_eq (R : Value → Heap → Prop) (f_0 : Int) (f_1 : Int) (f_2 : Int) (f_3 : Int) (f_4 : Bool) (f_5 : Bool) (f_6 : Bool) (f_7 : Int) (f_8 : Int) (f_9 : Int) (f_10 : Sl) (H : Heap) : wpF Try.prog Try.f47 [(100, .int .i64 0)] [(9, [], [1]), (11, [], [1])] [(14, [100], [1, 99])] [20] [.agg #[.int .i64 f_0, .int .i64 f_1, .int .i64 f_2, .int .i64 f_3, .bool f_4, .bool f_5, .bool f_6, .int .i64 f_7, .int .i64 f_8, .int .i64 f_9, .slice f_10.p f_10.n f_10.c]] H R = F_pciconf_Valid R f_0 f_1 f_2 f_3 f_4 f_5 f_6 f_7 f_8 f_9 f_10 H := by kernel_rfl

theorem F_pciconf_Valid_ok {R : Value → Heap → Prop} (f_0 : Int) (f_1 : Int) (f_2 : Int) (f_3 : Int) (f_4 : Bool) (f_5 : Bool) (f_6 : Bool) (f_7 : Int) (f_8 : Int) (f_9 : Int) (f_10 : Sl) {H : Heap} (h : F_pciconf_Valid R f_0 f_1 f_2 f_3 f_4 f_5 f_6 f_7 f_8 f_9 f_10 H) : CallsH Try.prog n_pciconf_Valid #[.agg #[.int .i64 f_0, .int .i64 f_1, .int .i64 f_2, .int .i64 f_3, .bool f_4, .bool f_5, .bool f_6, .int .i64 f_7, .int .i64 f_8, .int .i64 f_9, .slice f_10.p f_10.n f_10.c]] H R :=
  wpF_ok Try.func47 (F_pciconf_Valid_eq R f_0 f_1 f_2 f_3 f_4 f_5 f_6 f_7 f_8 f_9 f_10 H) h

/-! ### 48: slices.Clone[[]platformfw/api.Bar,platformfw/api.Bar] -/

def F_slices_Clone_sl_api_Bar_api_Bar (R : Value → Heap → Prop) (s : Sl) (H : Heap) : Prop :=
  iteB s.p.isNone (
  R (.slice none 0 0) H) (
  letH (H.push (.cells #[] t_api_Bar (0, 0))) (fun H1 : Heap =>
  runH Try.prog (Builtin.append_ #[t_sl_api_Bar, t_sl_api_Bar] t_sl_api_Bar #[.slice (some (⟨H.size, 0, none⟩ : Addr)) 0 0, .slice s.p s.n s.c]) H1 (fun v H2 =>
  ∃ x : Sl, v = .slice x.p x.n x.c ∧ (
  R (.slice x.p x.n x.c) H2))))

theorem F_slices_Clone_sl_api_Bar_api_Bar_eq (R : Value → Heap → Prop) (s : Sl) (H : Heap) : wpF Try.prog Try.f48 [] [] [] [20] [.slice s.p s.n s.c] H R = F_slices_Clone_sl_api_Bar_api_Bar R s H := by kernel_rfl

theorem F_slices_Clone_sl_api_Bar_api_Bar_ok {R : Value → Heap → Prop} (s : Sl) {H : Heap} (h : F_slices_Clone_sl_api_Bar_api_Bar R s H) : CallsH Try.prog n_slices_Clone_sl_api_Bar_api_Bar #[.slice s.p s.n s.c] H R :=
  wpF_ok Try.func48 (F_slices_Clone_sl_api_Bar_api_Bar_eq R s H) h

/-! ### 49: (*platformfw/hotplug.Slot).enter -/

def F_hotplug_Slot_enter (R : Value → Heap → Prop) (s : Addr) (state : Int) (actions : Sl) (H : Heap) : Prop :=
  okRow H s 1 ∧ (
  letH (wrs H s [.int .i64 state]) (fun H1 : Heap =>
  iteB (state != (3 : Int)) (
  okRow H1 (s.add 2) 1 ∧ (
  letH (wrs H1 (s.add 2) [.int .u64 (0 : Int)]) (fun H2 : Heap =>
  R (.tuple #[.slice actions.p actions.n actions.c, .int .i64 (0 : Int)]) H2))) (
  R (.tuple #[.slice actions.p actions.n actions.c, .int .i64 (0 : Int)]) H1)))

theorem F_hotplug_Slot_enter_eq (R : Value → Heap → Prop) (s : Addr) (state : Int) (actions : Sl) (H : Heap) : wpF Try.prog Try.f49 [] [] [] [20] [.pointer (some s), .int .i64 state, .slice actions.p actions.n actions.c] H R = F_hotplug_Slot_enter R s state actions H := by kernel_rfl

theorem F_hotplug_Slot_enter_ok {R : Value → Heap → Prop} (s : Addr) (state : Int) (actions : Sl) {H : Heap} (h : F_hotplug_Slot_enter R s state actions H) : CallsH Try.prog n_hotplug_Slot_enter #[.pointer (some s), .int .i64 state, .slice actions.p actions.n actions.c] H R :=
  wpF_ok Try.func49 (F_hotplug_Slot_enter_eq R s state actions H) h

/-! ### 50: platformfw/hotplug.saturatingSum -/

def F_hotplug_saturatingSum (R : Value → Heap → Prop) (a : Int) (b : Int) (H : Heap) : Prop :=
  iteB (decide (a > (IntKind.u64.wrap ((18446744073709551615 : Int) - b)))) (
  R (.int .u64 (18446744073709551615 : Int)) H) (
  letV (IntKind.u64.wrap (a + b)) (fun x : Int =>
  R (.int .u64 x) H))

theorem F_hotplug_saturatingSum_eq (R : Value → Heap → Prop) (a : Int) (b : Int) (H : Heap) : wpF Try.prog Try.f50 [] [] [] [20] [.int .u64 a, .int .u64 b] H R = F_hotplug_saturatingSum R a b H := by kernel_rfl

theorem F_hotplug_saturatingSum_ok {R : Value → Heap → Prop} (a : Int) (b : Int) {H : Heap} (h : F_hotplug_saturatingSum R a b H) : CallsH Try.prog n_hotplug_saturatingSum #[.int .u64 a, .int .u64 b] H R :=
  wpF_ok Try.func50 (F_hotplug_saturatingSum_eq R a b H) h

/-! ### 51: platformfw/platformfwref18.Registers -/

def F_ref18_Registers (R : Value → Heap → Prop) (f_0 : Int) (f_1 : Int) (f_2 : Int) (f_3 : Int) (f_4 : Bool) (f_5 : Bool) (f_6 : Bool) (f_7 : Int) (f_8 : Int) (f_9 : Int) (f_10 : Sl) (H : Heap) : Prop :=
  letH (H.push (.cells #[.int .i64 f_0, .int .i64 f_1, .int .i64 f_2, .int .i64 f_3, .bool f_4, .bool f_5, .bool f_6, .int .i64 f_7, .int .i64 f_8, .int .i64 f_9, .slice f_10.p f_10.n f_10.c] t_api_Function (0, 0))) (fun H1 : Heap =>
  ∃ x : Bool, rd H1 ((⟨H.size, 0, none⟩ : Addr).add 4) = some (.bool x) ∧ (
  iteB x (
  R (.int .i64 (2 : Int)) H1) (
  R (.int .i64 (6 : Int)) H1)))

theorem F_ref18_Registers_eq (R : Value → Heap → Prop) (f_0 : Int) (f_1 : Int) (f_2 : Int) (f_3 : Int) (f_4 : Bool) (f_5 : Bool) (f_6 : Bool) (f_7 : Int) (f_8 : Int) (f_9 : Int) (f_10 : Sl) (H : Heap) : wpF Try.prog Try.f51 [] [] [] [20] [.agg #[.int .i64 f_0, .int .i64 f_1, .int .i64 f_2, .int .i64 f_3, .bool f_4, .bool f_5, .bool f_6, .int .i64 f_7, .int .i64 f_8, .int .i64 f_9, .slice f_10.p f_10.n f_10.c]] H R = F_ref18_Registers R f_0 f_1 f_2 f_3 f_4 f_5 f_6 f_7 f_8 f_9 f_10 H := by kernel_rfl

theorem F_ref18_Registers_ok {R : Value → Heap → Prop} (f_0 : Int) (f_1 : Int) (f_2 : Int) (f_3 : Int) (f_4 : Bool) (f_5 : Bool) (f_6 : Bool) (f_7 : Int) (f_8 : Int) (f_9 : Int) (f_10 : Sl) {H : Heap} (h : F_ref18_Registers R f_0 f_1 f_2 f_3 f_4 f_5 f_6 f_7 f_8 f_9 f_10 H) : CallsH Try.prog n_ref18_Registers #[.agg #[.int .i64 f_0, .int .i64 f_1, .int .i64 f_2, .int .i64 f_3, .bool f_4, .bool f_5, .bool f_6, .int .i64 f_7, .int .i64 f_8, .int .i64 f_9, .slice f_10.p f_10.n f_10.c]] H R :=
  wpF_ok Try.func51 (F_ref18_Registers_eq R f_0 f_1 f_2 f_3 f_4 f_5 f_6 f_7 f_8 f_9 f_10 H) h

/-! ### 52: platformfw/platformfwref21.ValidRanges -/

def F_ref21_ValidRanges_r1 (R : Value → Heap → Prop) (l : Sl) (I_ : Int → Heap → Prop) (M_ : Int → Heap → Nat) (i : Int) (H1 : Heap) : Prop :=
  iteB (decide (i < (l.n : Int))) (
  0 ≤ i ∧ i < (l.n : Int) ∧ (unSome l.p (fun a =>
  ∃ x : Int, rd H1 ((a.add (i.toNat * 2)).add 1) = some (.int .u64 x) ∧ (
  iteB (decide (x < (1 : Int))) (
  R (.bool false) H1) (
  0 ≤ i ∧ i < (l.n : Int) ∧ (unSome l.p (fun a1 =>
  ∃ x1 : Int, rd H1 ((a1.add (i.toNat * 2)).add 1) = some (.int .u64 x1) ∧ (
  iteB (decide (x1 > (4503599627370496 : Int))) (
  R (.bool false) H1) (
  0 ≤ i ∧ i < (l.n : Int) ∧ (unSome l.p (fun a2 =>
  ∃ x2 : Int, rd H1 (a2.add (i.toNat * 2)) = some (.int .u64 x2) ∧ (
  0 ≤ i ∧ i < (l.n : Int) ∧ (unSome l.p (fun a3 =>
  ∃ x3 : Int, rd H1 ((a3.add (i.toNat * 2)).add 1) = some (.int .u64 x3) ∧ (
  iteB (decide (x2 > (IntKind.u64.wrap ((4503599627370496 : Int) - x3)))) (
  R (.bool false) H1) (
  letV (IntKind.i64.wrap (i + (1 : Int))) (fun i1 : Int =>
  I_ i1 H1 ∧ M_ i1 H1 < M_ i H1))))))))))))))))) (
  R (.bool true) H1)

def F_ref21_ValidRanges (R : Value → Heap → Prop) (l : Sl) (H : Heap) : Prop :=
  iteB (decide ((l.n : Int) > (1024 : Int))) (
  R (.bool false) H) (
  ∃ I_ : Int → Heap → Prop, ∃ M_ : Int → Heap → Nat, I_ (0 : Int) H ∧ (∀ i : Int, ∀ H1 : Heap, I_ i H1 → F_ref21_ValidRanges_r1 R l I_ M_ i H1))

theorem F_ref21_ValidRanges_eq (R : Value → Heap → Prop) (l : Sl) (H : Heap) : wpF Try.prog Try.f52 [(3, .int .i64 0)] [] [(4, [3], [0])] [20] [.slice l.p l.n l.c] H R = F_ref21_ValidRanges R l H := by kernel_rfl

theorem F_ref21_ValidRanges_ok {R : Value → Heap → Prop} (l : Sl) {H : Heap} (h : F_ref21_ValidRanges R l H) : CallsH Try.prog n_ref21_ValidRanges #[.slice l.p l.n l.c] H R :=
  wpF_ok Try.func52 (F_ref21_ValidRanges_eq R l H) h

/-! ### 53: platformfw/platformfwref18.bar -/

def F_ref18_bar (R : Value → Heap → Prop) (f_0 : Int) (f_1 : Int) (f_2 : Int) (f_3 : Int) (f_4 : Bool) (f_5 : Bool) (f_6 : Bool) (f_7 : Int) (f_8 : Int) (f_9 : Int) (f_10 : Sl) (i : Int) (H : Heap) : Prop :=
  letH (H.push (.cells #[.int .i64 f_0, .int .i64 f_1, .int .i64 f_2, .int .i64 f_3, .bool f_4, .bool f_5, .bool f_6, .int .i64 f_7, .int .i64 f_8, .int .i64 f_9, .slice f_10.p f_10.n f_10.c] t_api_Function (0, 0))) (fun H1 : Heap =>
  letH (H1.push (.cells #[.int .i64 (0 : Int), .int .i64 (0 : Int)] t_api_Bar (0, 0))) (fun H2 : Heap =>
  iteB (decide (i < (0 : Int))) (
  okRow H2 (⟨H1.size, 0, none⟩ : Addr) 2 ∧ (
  letH (wrs H2 (⟨H1.size, 0, none⟩ : Addr) [.int .i64 (0 : Int), .int .i64 (0 : Int)]) (fun H3 : Heap =>
  ∃ r : Int, rd H3 (⟨H1.size, 0, none⟩ : Addr) = some (.int .i64 r) ∧ ∃ r1 : Int, rd H3 ((⟨H1.size, 0, none⟩ : Addr).add 1) = some (.int .i64 r1) ∧ (
  R (.agg #[.int .i64 r, .int .i64 r1]) H3)))) (
  ∃ x : Sl, rd H2 ((⟨H.size, 0, none⟩ : Addr).add 10) = some (.slice x.p x.n x.c) ∧ (
  iteB (decide (i ≥ (x.n : Int))) (
  okRow H2 (⟨H1.size, 0, none⟩ : Addr) 2 ∧ (
  letH (wrs H2 (⟨H1.size, 0, none⟩ : Addr) [.int .i64 (0 : Int), .int .i64 (0 : Int)]) (fun H4 : Heap =>
  ∃ r2 : Int, rd H4 (⟨H1.size, 0, none⟩ : Addr) = some (.int .i64 r2) ∧ ∃ r3 : Int, rd H4 ((⟨H1.size, 0, none⟩ : Addr).add 1) = some (.int .i64 r3) ∧ (
  R (.agg #[.int .i64 r2, .int .i64 r3]) H4)))) (
  ∃ x1 : Sl, rd H2 ((⟨H.size, 0, none⟩ : Addr).add 10) = some (.slice x1.p x1.n x1.c) ∧ (
  0 ≤ i ∧ i < (x1.n : Int) ∧ (unSome x1.p (fun a =>
  ∃ x2 : Int, rd H2 (a.add (i.toNat * 2)) = some (.int .i64 x2) ∧ ∃ x3 : Int, rd H2 ((a.add (i.toNat * 2)).add 1) = some (.int .i64 x3) ∧ (
  okRow H2 (⟨H1.size, 0, none⟩ : Addr) 2 ∧ (
  letH (wrs H2 (⟨H1.size, 0, none⟩ : Addr) [.int .i64 x2, .int .i64 x3]) (fun H5 : Heap =>
  ∃ r4 : Int, rd H5 (⟨H1.size, 0, none⟩ : Addr) = some (.int .i64 r4) ∧ ∃ r5 : Int, rd H5 ((⟨H1.size, 0, none⟩ : Addr).add 1) = some (.int .i64 r5) ∧ (
  R (.agg #[.int .i64 r4, .int .i64 r5]) H5))))))))))))

theorem F_ref18_bar_eq (R : Value → Heap → Prop) (f_0 : Int) (f_1 : Int) (f_2 : Int) (f_3 : Int) (f_4 : Bool) (f_5 : Bool) (f_6 : Bool) (f_7 : Int) (f_8 : Int) (f_9 : Int) (f_10 : Sl) (i : Int) (H : Heap) : wpF Try.prog Try.f53 [] [] [] [20] [.agg #[.int .i64 f_0, .int .i64 f_1, .int .i64 f_2, .int .i64 f_3, .bool f_4, .bool f_5, .bool f_6, .int .i64 f_7, .int .i64 f_8, .int .i64 f_9, .slice f_10.p f_10.n f_10.c], .int .i64 i] H R = F_ref18_bar R f_0 f_1 f_2 f_3 f_4 f_5 f_6 f_7 f_8 f_9 f_10 i H := by kernel_rfl

theorem F_ref18_bar_ok {R : Value → Heap → Prop} (f_0 : Int) (f_1 : Int) (f_2 : Int) (f_3 : Int) (f_4 : Bool) (f_5 : Bool) (f_6 : Bool) (f_7 : Int) (f_8 : Int) (f_9 : Int) (f_10 : Sl) (i : Int) {H : Heap} (h : F_ref18_bar R f_0 f_1 f_2 f_3 f_4 f_5 f_6 f_7 f_8 f_9 f_10 i H) : CallsH Try.prog n_ref18_bar #[.agg #[.int .i64 f_0, .int .i64 f_1, .int .i64 f_2, .int .i64 f_3, .bool f_4, .bool f_5, .bool f_6, .int .i64 f_7, .int .i64 f_8, .int .i64 f_9, .slice f_10.p f_10.n f_10.c], .int .i64 i] H R :=
  wpF_ok Try.func53 (F_ref18_bar_eq R f_0 f_1 f_2 f_3 f_4 f_5 f_6 f_7 f_8 f_9 f_10 i H) h

/-! ### 54: platformfw/platformfwref18.above -/

def F_ref18_above_r1 (R : Value → Heap → Prop) (l : Sl) (I_ : Int → Heap → Prop) (M_ : Int → Heap → Nat) (i2 : Int) (H1 : Heap) : Prop :=
  iteB (decide (i2 ≥ (0 : Int))) (
  0 ≤ i2 ∧ i2 < (l.n : Int) ∧ (unSome l.p (fun a1 =>
  ∃ x : Bool, rd H1 ((a1.add (i2.toNat * 11)).add 5) = some (.bool x) ∧ (
  iteB (!x) (
  R (.bool false) H1) (
  0 ≤ i2 ∧ i2 < (l.n : Int) ∧ (unSome l.p (fun a2 =>
  ∃ i3 : Int, rd H1 (a2.add (i2.toNat * 11)) = some (.int .i64 i3) ∧ (
  I_ i3 H1 ∧ M_ i3 H1 < M_ i2 H1)))))))) (
  R (.bool true) H1)

def F_ref18_above (R : Value → Heap → Prop) (l : Sl) (i : Int) (H : Heap) : Prop :=
  0 ≤ i ∧ i < (l.n : Int) ∧ (unSome l.p (fun a =>
  ∃ i1 : Int, rd H (a.add (i.toNat * 11)) = some (.int .i64 i1) ∧ (
  ∃ I_ : Int → Heap → Prop, ∃ M_ : Int → Heap → Nat, I_ i1 H ∧ (∀ i2 : Int, ∀ H1 : Heap, I_ i2 H1 → F_ref18_above_r1 R l I_ M_ i2 H1))))

theorem F_ref18_above_eq (R : Value → Heap → Prop) (l : Sl) (i : Int) (H : Heap) : wpF Try.prog Try.f54 [(1, .int .i64 0)] [] [(2, [1], [0])] [20] [.slice l.p l.n l.c, .int .i64 i] H R = F_ref18_above R l i H := by kernel_rfl

theorem F_ref18_above_ok {R : Value → Heap → Prop} (l : Sl) (i : Int) {H : Heap} (h : F_ref18_above R l i H) : CallsH Try.prog n_ref18_above #[.slice l.p l.n l.c, .int .i64 i] H R :=
  wpF_ok Try.func54 (F_ref18_above_eq R l i H) h

/-! ### 55: platformfw/platformfwref18.WindowSize -/

def F_ref18_WindowSize_k1 (hotplug : Bool) (w : Int) (J_2 : Int → Heap → Prop) (x3 : Bool) (H4 : Heap) : Prop :=
  iteB x3 (
  letV (if (12 : Int) > w then (12 : Int) else w) (fun w1 : Int =>
  J_2 w1 H4)) (
  iteB hotplug (
  letV (if (22 : Int) > w then (22 : Int) else w) (fun w2 : Int =>
  J_2 w2 H4)) (
  J_2 w H4))

def F_ref18_WindowSize_r2 (R : Value → Heap → Prop) (sum : Int) (I_1 : Int → Heap → Prop) (M_1 : Int → Heap → Nat) (w4 : Int) (H6 : Heap) : Prop :=
  0 ≤ (IntKind.u64.wrap w4) ∧ (
  iteB (decide ((IntKind.u64.wrap ((1 : Int) * 2 ^ (min (IntKind.u64.wrap w4).toNat IntKind.u64.bits))) < sum)) (
  letV (IntKind.i64.wrap (w4 + (1 : Int))) (fun w5 : Int =>
  I_1 w5 H6 ∧ M_1 w5 H6 < M_1 w4 H6)) (
  R (.tuple #[.int .i64 w4, .bool true]) H6))

def F_ref18_WindowSize_k3 (R : Value → Heap → Prop) (sum : Int) (w3 : Int) (H5 : Heap) : Prop :=
  ∃ I_1 : Int → Heap → Prop, ∃ M_1 : Int → Heap → Nat, I_1 w3 H5 ∧ (∀ w4 : Int, ∀ H6 : Heap, I_1 w4 H6 → F_ref18_WindowSize_r2 R sum I_1 M_1 w4 H6)

def F_ref18_WindowSize_k4 (R : Value → Heap → Prop) (classv : Int) (hotplug : Bool) (sum : Int) (w : Int) (H3 : Heap) : Prop :=
  ∃ J_2 : Int → Heap → Prop, (
  ∃ J_3 : Bool → Heap → Prop, (
  iteB hotplug (
  J_3 (classv == (0 : Int)) H3) (
  J_3 false H3)) ∧ (∀ x3 : Bool, ∀ H4 : Heap, J_3 x3 H4 → F_ref18_WindowSize_k1 hotplug w J_2 x3 H4)) ∧ (∀ w3 : Int, ∀ H5 : Heap, J_2 w3 H5 → F_ref18_WindowSize_k3 R sum w3 H5)

def F_ref18_WindowSize_r5 (R : Value → Heap → Prop) (sizes : Sl) (classv : Int) (hotplug : Bool) (I_ : Int → Int → Heap → Prop) (M_ : Int → Int → Heap → Nat) (sum : Int) (i : Int) (H2 : Heap) : Prop :=
  iteB (decide (i < (sizes.n : Int))) (
  0 ≤ i ∧ i < (sizes.n : Int) ∧ (unSome sizes.p (fun a =>
  ∃ x : Int, rd H2 (a.add (i.toNat * 1)) = some (.int .i64 x) ∧ (
  iteB (decide (x < (0 : Int))) (
  R (.tuple #[.int .i64 (0 : Int), .bool false]) H2) (
  0 ≤ i ∧ i < (sizes.n : Int) ∧ (unSome sizes.p (fun a1 =>
  ∃ x1 : Int, rd H2 (a1.add (i.toNat * 1)) = some (.int .i64 x1) ∧ (
  iteB (decide (x1 > (44 : Int))) (
  R (.tuple #[.int .i64 (0 : Int), .bool false]) H2) (
  0 ≤ i ∧ i < (sizes.n : Int) ∧ (unSome sizes.p (fun a2 =>
  ∃ x2 : Int, rd H2 (a2.add (i.toNat * 1)) = some (.int .i64 x2) ∧ (
  0 ≤ (IntKind.u64.wrap x2) ∧ (
  letV (IntKind.u64.wrap (sum + (IntKind.u64.wrap ((1 : Int) * 2 ^ (min (IntKind.u64.wrap x2).toNat IntKind.u64.bits))))) (fun sum1 : Int =>
  letV (IntKind.i64.wrap (i + (1 : Int))) (fun i1 : Int =>
  I_ sum1 i1 H2 ∧ M_ sum1 i1 H2 < M_ sum i H2))))))))))))))) (
  ∃ J_1 : Int → Heap → Prop, (
  iteB (classv == (0 : Int)) (
  J_1 (12 : Int) H2) (
  J_1 (20 : Int) H2)) ∧ (∀ w : Int, ∀ H3 : Heap, J_1 w H3 → F_ref18_WindowSize_k4 R classv hotplug sum w H3))

def F_ref18_WindowSize_k6 (R : Value → Heap → Prop) (sizes : Sl) (classv : Int) (hotplug : Bool) (H1 : Heap) : Prop :=
  ∃ I_ : Int → Int → Heap → Prop, ∃ M_ : Int → Int → Heap → Nat, I_ (0 : Int) (0 : Int) H1 ∧ (∀ sum : Int, ∀ i : Int, ∀ H2 : Heap, I_ sum i H2 → F_ref18_WindowSize_r5 R sizes classv hotplug I_ M_ sum i H2)

def F_ref18_WindowSize (R : Value → Heap → Prop) (sizes : Sl) (classv : Int) (hotplug : Bool) (H : Heap) : Prop :=
  ∃ J_ : Heap → Prop, (
  iteB (decide (classv < (0 : Int))) (
  R (.tuple #[.int .i64 (0 : Int), .bool false]) H) (
  iteB (decide (classv ≥ (3 : Int))) (
  R (.tuple #[.int .i64 (0 : Int), .bool false]) H) (
  iteB (decide ((sizes.n : Int) > (1024 : Int))) (
  R (.tuple #[.int .i64 (0 : Int), .bool false]) H) (
  iteB ((sizes.n : Int) == (0 : Int)) (
  iteB (!hotplug) (
  R (.tuple #[.int .i64 (0 : Int), .bool false]) H) (
  J_ H)) (
  J_ H))))) ∧ (∀ H1 : Heap, J_ H1 → F_ref18_WindowSize_k6 R sizes classv hotplug H1)

theorem F_ref18_WindowSize_eq (R : Value → Heap → Prop) (sizes : Sl) (classv : Int) (hotplug : Bool) (H : Heap) : wpF Try.prog Try.f55 [(8, .int .u64 0), (9, .int .i64 0), (10, .int .i64 0), (63, .bool false)] [(3, [], [0, 1, 2]), (13, [10], [1, 2, 8]), (17, [10], [8]), (14, [63], [2, 8, 10])] [(5, [8, 9], [0, 1, 2]), (17, [10], [8])] [20] [.slice sizes.p sizes.n sizes.c, .int .i64 classv, .bool hotplug] H R = F_ref18_WindowSize R sizes classv hotplug H := by kernel_rfl

theorem F_ref18_WindowSize_ok {R : Value → Heap → Prop} (sizes : Sl) (classv : Int) (hotplug : Bool) {H : Heap} (h : F_ref18_WindowSize R sizes classv hotplug H) : CallsH Try.prog n_ref18_WindowSize #[.slice sizes.p sizes.n sizes.c, .int .i64 classv, .bool hotplug] H R :=
  wpF_ok Try.func55 (F_ref18_WindowSize_eq R sizes classv hotplug H) h

/-! ### 56: platformfw/platformfwref21.items -/

def F_ref21_items_r1 (R : Value → Heap → Prop) (sizes : Sl) (I_ : Int → Heap → Prop) (M_ : Int → Heap → Nat) (i : Int) (H1 : Heap) : Prop :=
  iteB (decide (i < (sizes.n : Int))) (
  0 ≤ i ∧ i < (sizes.n : Int) ∧ (unSome sizes.p (fun a =>
  ∃ x : Int, rd H1 (a.add (i.toNat * 1)) = some (.int .i64 x) ∧ (
  iteB (decide (x < (0 : Int))) (
  R (.bool false) H1) (
  0 ≤ i ∧ i < (sizes.n : Int) ∧ (unSome sizes.p (fun a1 =>
  ∃ x1 : Int, rd H1 (a1.add (i.toNat * 1)) = some (.int .i64 x1) ∧ (
  iteB (decide (x1 > (44 : Int))) (
  R (.bool false) H1) (
  letV (IntKind.i64.wrap (i + (1 : Int))) (fun i1 : Int =>
  I_ i1 H1 ∧ M_ i1 H1 < M_ i H1)))))))))) (
  R (.bool true) H1)

def F_ref21_items (R : Value → Heap → Prop) (sizes : Sl) (H : Heap) : Prop :=
  iteB (decide ((sizes.n : Int) > (1024 : Int))) (
  R (.bool false) H) (
  ∃ I_ : Int → Heap → Prop, ∃ M_ : Int → Heap → Nat, I_ (0 : Int) H ∧ (∀ i : Int, ∀ H1 : Heap, I_ i H1 → F_ref21_items_r1 R sizes I_ M_ i H1))

theorem F_ref21_items_eq (R : Value → Heap → Prop) (sizes : Sl) (H : Heap) : wpF Try.prog Try.f56 [(3, .int .i64 0)] [] [(4, [3], [0])] [20] [.slice sizes.p sizes.n sizes.c] H R = F_ref21_items R sizes H := by kernel_rfl

theorem F_ref21_items_ok {R : Value → Heap → Prop} (sizes : Sl) {H : Heap} (h : F_ref21_items R sizes H) : CallsH Try.prog n_ref21_items #[.slice sizes.p sizes.n sizes.c] H R :=
  wpF_ok Try.func56 (F_ref21_items_eq R sizes H) h

/-! ### 57: platformfw/platformfwref21.merge -/

def F_ref21_merge_k1 (I_ : Sl → Sl → Heap → Prop) (M_ : Sl → Sl → Heap → Nat) (out : Sl) (left1 : Sl) (H2 : Heap) (H3 : Heap) (left2 : Sl) (n : Int) (x8 : Bool) (H8 : Heap) : Prop :=
  iteB x8 (
  0 ≤ n ∧ n < (out.n : Int) ∧ (unSome out.p (fun a5 =>
  ∃ x9 : Int, rd H8 ((a5.add (n.toNat * 2)).add 1) = some (.int .u64 x9) ∧ (
  ∃ x10 : Int, rd H8 (⟨H3.size, 0, none⟩ : Addr) = some (.int .u64 x10) ∧ (
  ∃ x11 : Int, rd H8 ((⟨H3.size, 0, none⟩ : Addr).add 1) = some (.int .u64 x11) ∧ (
  0 ≤ n ∧ n < (out.n : Int) ∧ (unSome out.p (fun a6 =>
  ∃ x12 : Int, rd H8 (a6.add (n.toNat * 2)) = some (.int .u64 x12) ∧ (
  0 ≤ n ∧ n < (out.n : Int) ∧ (unSome out.p (fun a7 =>
  okRow H8 ((a7.add (n.toNat * 2)).add 1) 1 ∧ (
  letH (wrs H8 ((a7.add (n.toNat * 2)).add 1) [.int .u64 (if (IntKind.u64.wrap ((IntKind.u64.wrap (x10 + x11)) - x12)) > x9 then (IntKind.u64.wrap ((IntKind.u64.wrap (x10 + x11)) - x12)) else x9)]) (fun H9 : Heap =>
  I_ out left2 H9 ∧ M_ out left2 H9 < M_ out left1 H2))))))))))))) (
  ∃ x13 : Int, rd H8 (⟨H3.size, 0, none⟩ : Addr) = some (.int .u64 x13) ∧ ∃ x14 : Int, rd H8 ((⟨H3.size, 0, none⟩ : Addr).add 1) = some (.int .u64 x14) ∧ (
  letH (H8.push (.cells #[.int .u64 x13, .int .u64 x14] t_api_Range (0, 0))) (fun H10 : Heap =>
  runH Try.prog (Builtin.append_ #[t_sl_api_Range, t_sl_api_Range] t_sl_api_Range #[.slice out.p out.n out.c, .slice (some (⟨H8.size, 0, none⟩ : Addr)) 1 1]) H10 (fun v3 H11 =>
  ∃ out1 : Sl, v3 = .slice out1.p out1.n out1.c ∧ (
  I_ out1 left2 H11 ∧ M_ out1 left2 H11 < M_ out left1 H2)))))

def F_ref21_merge_r2 (I_ : Sl → Sl → Heap → Prop) (M_ : Sl → Sl → Heap → Nat) (out : Sl) (left1 : Sl) (H2 : Heap) (I_1 : Int → Int → Heap → Prop) (M_1 : Int → Int → Heap → Nat) (k : Int) (i : Int) (H3 : Heap) : Prop :=
  iteB (decide (i < (left1.n : Int))) (
  0 ≤ i ∧ i < (left1.n : Int) ∧ (unSome left1.p (fun a =>
  ∃ x : Int, rd H3 (a.add (i.toNat * 2)) = some (.int .u64 x) ∧ (
  0 ≤ k ∧ k < (left1.n : Int) ∧ (unSome left1.p (fun a1 =>
  ∃ x1 : Int, rd H3 (a1.add (k.toNat * 2)) = some (.int .u64 x1) ∧ (
  iteB (decide (x < x1)) (
  letV (IntKind.i64.wrap (i + (1 : Int))) (fun i1 : Int =>
  I_1 i i1 H3 ∧ M_1 i i1 H3 < M_1 k i H3)) (
  letV (IntKind.i64.wrap (i + (1 : Int))) (fun i2 : Int =>
  I_1 k i2 H3 ∧ M_1 k i2 H3 < M_1 k i H3))))))))) (
  0 ≤ k ∧ k < (left1.n : Int) ∧ (unSome left1.p (fun a2 =>
  ∃ x2 : Int, rd H3 (a2.add (k.toNat * 2)) = some (.int .u64 x2) ∧ ∃ x3 : Int, rd H3 ((a2.add (k.toNat * 2)).add 1) = some (.int .u64 x3) ∧ (
  letH (H3.push (.cells #[.int .u64 (0 : Int), .int .u64 (0 : Int)] t_api_Range (0, 0))) (fun H4 : Heap =>
  okRow H4 (⟨H3.size, 0, none⟩ : Addr) 2 ∧ (
  letH (wrs H4 (⟨H3.size, 0, none⟩ : Addr) [.int .u64 x2, .int .u64 x3]) (fun H5 : Heap =>
  0 ≤ k ∧ k ≤ (left1.c : Int) ∧ (
  0 ≤ (IntKind.i64.wrap (k + (1 : Int))) ∧ (IntKind.i64.wrap (k + (1 : Int))) ≤ (left1.n : Int) ∧ (
  runH Try.prog (Builtin.append_ #[t_sl_api_Range, t_sl_api_Range] t_sl_api_Range #[.slice none 0 0, .slice (slP left1.p left1.c 0 2) (k.toNat - 0) (left1.c - 0)]) H5 (fun v1 H6 =>
  ∃ x4 : Sl, v1 = .slice x4.p x4.n x4.c ∧ (
  runH Try.prog (Builtin.append_ #[t_sl_api_Range, t_sl_api_Range] t_sl_api_Range #[.slice x4.p x4.n x4.c, .slice (slP left1.p left1.c ((IntKind.i64.wrap (k + (1 : Int))).toNat) 2) (left1.n - (IntKind.i64.wrap (k + (1 : Int))).toNat) (left1.c - (IntKind.i64.wrap (k + (1 : Int))).toNat)]) H6 (fun v2 H7 =>
  ∃ left2 : Sl, v2 = .slice left2.p left2.n left2.c ∧ (
  letV (IntKind.i64.wrap ((out.n : Int) - (1 : Int))) (fun n : Int =>
  ∃ J_ : Bool → Heap → Prop, (
  iteB (decide (n ≥ (0 : Int))) (
  ∃ x5 : Int, rd H7 (⟨H3.size, 0, none⟩ : Addr) = some (.int .u64 x5) ∧ (
  0 ≤ n ∧ n < (out.n : Int) ∧ (unSome out.p (fun a3 =>
  ∃ x6 : Int, rd H7 (a3.add (n.toNat * 2)) = some (.int .u64 x6) ∧ (
  0 ≤ n ∧ n < (out.n : Int) ∧ (unSome out.p (fun a4 =>
  ∃ x7 : Int, rd H7 ((a4.add (n.toNat * 2)).add 1) = some (.int .u64 x7) ∧ (
  J_ (decide (x5 ≤ (IntKind.u64.wrap (x6 + x7)))) H7)))))))) (
  J_ false H7)) ∧ (∀ x8 : Bool, ∀ H8 : Heap, J_ x8 H8 → F_ref21_merge_k1 I_ M_ out left1 H2 H3 left2 n x8 H8)))))))))))))))

def F_ref21_merge_r3 (R : Value → Heap → Prop) (I_ : Sl → Sl → Heap → Prop) (M_ : Sl → Sl → Heap → Nat) (out : Sl) (left1 : Sl) (H2 : Heap) : Prop :=
  iteB (decide ((left1.n : Int) > (0 : Int))) (
  ∃ I_1 : Int → Int → Heap → Prop, ∃ M_1 : Int → Int → Heap → Nat, I_1 (0 : Int) (1 : Int) H2 ∧ (∀ k : Int, ∀ i : Int, ∀ H3 : Heap, I_1 k i H3 → F_ref21_merge_r2 I_ M_ out left1 H2 I_1 M_1 k i H3)) (
  R (.slice out.p out.n out.c) H2)

def F_ref21_merge (R : Value → Heap → Prop) (l : Sl) (H : Heap) : Prop :=
  runH Try.prog (Builtin.append_ #[t_sl_api_Range, t_sl_api_Range] t_sl_api_Range #[.slice none 0 0, .slice l.p l.n l.c]) H (fun v H1 =>
  ∃ left : Sl, v = .slice left.p left.n left.c ∧ (
  ∃ I_ : Sl → Sl → Heap → Prop, ∃ M_ : Sl → Sl → Heap → Nat, I_ (Sl.mk none 0 0) left H1 ∧ (∀ out : Sl, ∀ left1 : Sl, ∀ H2 : Heap, I_ out left1 H2 → F_ref21_merge_r3 R I_ M_ out left1 H2)))

theorem F_ref21_merge_eq (R : Value → Heap → Prop) (l : Sl) (H : Heap) : wpF Try.prog Try.f57 [(3, .slice none 0 0), (4, .slice none 0 0), (5, .int .i64 0), (6, .int .i64 0), (65, .bool false)] [(14, [65], [3, 4, 7, 8])] [(3, [3, 4], []), (6, [5, 6], [3, 4])] [20] [.slice l.p l.n l.c] H R = F_ref21_merge R l H := by kernel_rfl

theorem F_ref21_merge_ok {R : Value → Heap → Prop} (l : Sl) {H : Heap} (h : F_ref21_merge R l H) : CallsH Try.prog n_ref21_merge #[.slice l.p l.n l.c] H R :=
  wpF_ok Try.func57 (F_ref21_merge_eq R l H) h

/-! ### 58: platformfw/platformfwref21.up -/

def F_ref21_up (R : Value → Heap → Prop) (a : Int) (k : Int) (H : Heap) : Prop :=
  0 ≤ (IntKind.u64.wrap k) ∧ (
  0 ≤ (IntKind.u64.wrap k) ∧ (
  0 ≤ (IntKind.u64.wrap k) ∧ (
  letV (IntKind.u64.wrap (((IntKind.u64.wrap ((IntKind.u64.wrap (a + (IntKind.u64.wrap ((1 : Int) * 2 ^ (min (IntKind.u64.wrap k).toNat IntKind.u64.bits))))) - (1 : Int))).fdiv (2 ^ (min (IntKind.u64.wrap k).toNat IntKind.u64.bits))) * 2 ^ (min (IntKind.u64.wrap k).toNat IntKind.u64.bits))) (fun x : Int =>
  R (.int .u64 x) H))))

theorem F_ref21_up_eq (R : Value → Heap → Prop) (a : Int) (k : Int) (H : Heap) : wpF Try.prog Try.f58 [] [] [] [20] [.int .u64 a, .int .i64 k] H R = F_ref21_up R a k H := by kernel_rfl

theorem F_ref21_up_ok {R : Value → Heap → Prop} (a : Int) (k : Int) {H : Heap} (h : F_ref21_up R a k H) : CallsH Try.prog n_ref21_up #[.int .u64 a, .int .i64 k] H R :=
  wpF_ok Try.func58 (F_ref21_up_eq R a k H) h

/-! ### 59: platformfw/platformfwref21.refusal -/

def F_ref21_refusal_r1 (R : Value → Heap → Prop) (H : Heap) (free : Sl) (sizes : Sl) (I_ : Int → Heap → Prop) (M_ : Int → Heap → Nat) (k : Int) (H2 : Heap) : Prop :=
  iteB (decide (k ≥ (0 : Int))) (
  CallsH Try.prog n_ref21_demand #[.slice sizes.p sizes.n sizes.c, .int .i64 k] H2 (fun v H3 =>
  ∃ n : Int, v = .int .u64 n ∧ (
  CallsH Try.prog n_ref21_Blocks #[.slice free.p free.n free.c, .int .i64 k] H3 (fun v1 H4 =>
  ∃ b : Int, v1 = .int .u64 b ∧ (
  0 ≤ (IntKind.u64.wrap k) ∧ (
  iteB (decide (n > (IntKind.u64.wrap (b * 2 ^ (min (IntKind.u64.wrap k).toNat IntKind.u64.bits))))) (
  okRow H4 (⟨H.size, 0, none⟩ : Addr) 4 ∧ (
  letH (wrs H4 (⟨H.size, 0, none⟩ : Addr) [.int .i64 (0 : Int), .int .i64 k, .int .u64 n, .int .u64 b]) (fun H5 : Heap =>
  ∃ r : Int, rd H5 (⟨H.size, 0, none⟩ : Addr) = some (.int .i64 r) ∧ ∃ r1 : Int, rd H5 ((⟨H.size, 0, none⟩ : Addr).add 1) = some (.int .i64 r1) ∧ ∃ r2 : Int, rd H5 ((⟨H.size, 0, none⟩ : Addr).add 2) = some (.int .u64 r2) ∧ ∃ r3 : Int, rd H5 ((⟨H.size, 0, none⟩ : Addr).add 3) = some (.int .u64 r3) ∧ (
  R (.agg #[.int .i64 r, .int .i64 r1, .int .u64 r2, .int .u64 r3]) H5)))) (
  letV (IntKind.i64.wrap (k - (1 : Int))) (fun k1 : Int =>
  I_ k1 H4 ∧ M_ k1 H4 < M_ k H2)))))))) (
  okRow H2 (⟨H.size, 0, none⟩ : Addr) 4 ∧ (
  letH (wrs H2 (⟨H.size, 0, none⟩ : Addr) [.int .i64 (0 : Int), .int .i64 (0 : Int), .int .u64 (0 : Int), .int .u64 (0 : Int)]) (fun H6 : Heap =>
  ∃ r4 : Int, rd H6 (⟨H.size, 0, none⟩ : Addr) = some (.int .i64 r4) ∧ ∃ r5 : Int, rd H6 ((⟨H.size, 0, none⟩ : Addr).add 1) = some (.int .i64 r5) ∧ ∃ r6 : Int, rd H6 ((⟨H.size, 0, none⟩ : Addr).add 2) = some (.int .u64 r6) ∧ ∃ r7 : Int, rd H6 ((⟨H.size, 0, none⟩ : Addr).add 3) = some (.int .u64 r7) ∧ (
  R (.agg #[.int .i64 r4, .int .i64 r5, .int .u64 r6, .int .u64 r7]) H6))))

def F_ref21_refusal (R : Value → Heap → Prop) (free : Sl) (sizes : Sl) (H : Heap) : Prop :=
  letH (H.push (.cells #[.int .i64 (0 : Int), .int .i64 (0 : Int), .int .u64 (0 : Int), .int .u64 (0 : Int)] t_api_Certificate (0, 0))) (fun H1 : Heap =>
  ∃ I_ : Int → Heap → Prop, ∃ M_ : Int → Heap → Nat, I_ (44 : Int) H1 ∧ (∀ k : Int, ∀ H2 : Heap, I_ k H2 → F_ref21_refusal_r1 R H free sizes I_ M_ k H2))

theorem F_ref21_refusal_eq (R : Value → Heap → Prop) (free : Sl) (sizes : Sl) (H : Heap) : wpF Try.prog Try.f59 [(5, .int .i64 0)] [] [(2, [5], [0, 1, 4])] [20] [.slice free.p free.n free.c, .slice sizes.p sizes.n sizes.c] H R = F_ref21_refusal R free sizes H := by kernel_rfl

theorem F_ref21_refusal_ok {R : Value → Heap → Prop} (free : Sl) (sizes : Sl) {H : Heap} (h : F_ref21_refusal R free sizes H) : CallsH Try.prog n_ref21_refusal #[.slice free.p free.n free.c, .slice sizes.p sizes.n sizes.c] H R :=
  wpF_ok Try.func59 (F_ref21_refusal_eq R free sizes H) h

/-! ### 60: platformfw/platformfwref21.remove -/

def F_ref21_remove_k1 (I_ : Sl → Int → Heap → Prop) (M_ : Sl → Int → Heap → Nat) (out : Sl) (i : Int) (H2 : Heap) (endv : Int) (stop : Int) (out3 : Sl) (H10 : Heap) : Prop :=
  iteB (decide (stop < endv)) (
  letH (H10.push (.cells #[.int .u64 stop, .int .u64 (IntKind.u64.wrap (endv - stop))] t_api_Range (0, 0))) (fun H11 : Heap =>
  runH Try.prog (Builtin.append_ #[t_sl_api_Range, t_sl_api_Range] t_sl_api_Range #[.slice out3.p out3.n out3.c, .slice (some (⟨H10.size, 0, none⟩ : Addr)) 1 1]) H11 (fun v2 H12 =>
  ∃ out4 : Sl, v2 = .slice out4.p out4.n out4.c ∧ (
  letV (IntKind.i64.wrap (i + (1 : Int))) (fun i2 : Int =>
  I_ out4 i2 H12 ∧ M_ out4 i2 H12 < M_ out i H2))))) (
  letV (IntKind.i64.wrap (i + (1 : Int))) (fun i3 : Int =>
  I_ out3 i3 H10 ∧ M_ out3 i3 H10 < M_ out i H2))

def F_ref21_remove_k2 (H : Heap) (I_ : Sl → Int → Heap → Prop) (M_ : Sl → Int → Heap → Nat) (out : Sl) (i : Int) (H2 : Heap) (endv : Int) (stop : Int) (x8 : Bool) (H5 : Heap) : Prop :=
  iteB x8 (
  ∃ x9 : Int, rd H5 (⟨H2.size, 0, none⟩ : Addr) = some (.int .u64 x9) ∧ ∃ x10 : Int, rd H5 ((⟨H2.size, 0, none⟩ : Addr).add 1) = some (.int .u64 x10) ∧ (
  letH (H5.push (.cells #[.int .u64 x9, .int .u64 x10] t_api_Range (0, 0))) (fun H6 : Heap =>
  runH Try.prog (Builtin.append_ #[t_sl_api_Range, t_sl_api_Range] t_sl_api_Range #[.slice out.p out.n out.c, .slice (some (⟨H5.size, 0, none⟩ : Addr)) 1 1]) H6 (fun v H7 =>
  ∃ out1 : Sl, v = .slice out1.p out1.n out1.c ∧ (
  letV (IntKind.i64.wrap (i + (1 : Int))) (fun i1 : Int =>
  I_ out1 i1 H7 ∧ M_ out1 i1 H7 < M_ out i H2)))))) (
  ∃ J_1 : Sl → Heap → Prop, (
  ∃ x11 : Int, rd H5 (⟨H2.size, 0, none⟩ : Addr) = some (.int .u64 x11) ∧ (
  ∃ x12 : Int, rd H5 (⟨H.size, 0, none⟩ : Addr) = some (.int .u64 x12) ∧ (
  iteB (decide (x11 < x12)) (
  ∃ x13 : Int, rd H5 (⟨H2.size, 0, none⟩ : Addr) = some (.int .u64 x13) ∧ (
  ∃ x14 : Int, rd H5 (⟨H.size, 0, none⟩ : Addr) = some (.int .u64 x14) ∧ (
  ∃ x15 : Int, rd H5 (⟨H2.size, 0, none⟩ : Addr) = some (.int .u64 x15) ∧ (
  letH (H5.push (.cells #[.int .u64 x13, .int .u64 (IntKind.u64.wrap (x14 - x15))] t_api_Range (0, 0))) (fun H8 : Heap =>
  runH Try.prog (Builtin.append_ #[t_sl_api_Range, t_sl_api_Range] t_sl_api_Range #[.slice out.p out.n out.c, .slice (some (⟨H5.size, 0, none⟩ : Addr)) 1 1]) H8 (fun v1 H9 =>
  ∃ out2 : Sl, v1 = .slice out2.p out2.n out2.c ∧ (
  J_1 out2 H9))))))) (
  J_1 out H5)))) ∧ (∀ out3 : Sl, ∀ H10 : Heap, J_1 out3 H10 → F_ref21_remove_k1 I_ M_ out i H2 endv stop out3 H10))

def F_ref21_remove_r3 (R : Value → Heap → Prop) (H : Heap) (free : Sl) (I_ : Sl → Int → Heap → Prop) (M_ : Sl → Int → Heap → Nat) (out : Sl) (i : Int) (H2 : Heap) : Prop :=
  iteB (decide (i < (free.n : Int))) (
  0 ≤ i ∧ i < (free.n : Int) ∧ (unSome free.p (fun a =>
  ∃ x : Int, rd H2 (a.add (i.toNat * 2)) = some (.int .u64 x) ∧ ∃ x1 : Int, rd H2 ((a.add (i.toNat * 2)).add 1) = some (.int .u64 x1) ∧ (
  letH (H2.push (.cells #[.int .u64 (0 : Int), .int .u64 (0 : Int)] t_api_Range (0, 0))) (fun H3 : Heap =>
  okRow H3 (⟨H2.size, 0, none⟩ : Addr) 2 ∧ (
  letH (wrs H3 (⟨H2.size, 0, none⟩ : Addr) [.int .u64 x, .int .u64 x1]) (fun H4 : Heap =>
  ∃ x2 : Int, rd H4 (⟨H2.size, 0, none⟩ : Addr) = some (.int .u64 x2) ∧ (
  ∃ x3 : Int, rd H4 ((⟨H2.size, 0, none⟩ : Addr).add 1) = some (.int .u64 x3) ∧ (
  ∃ x4 : Int, rd H4 (⟨H.size, 0, none⟩ : Addr) = some (.int .u64 x4) ∧ (
  ∃ x5 : Int, rd H4 ((⟨H.size, 0, none⟩ : Addr).add 1) = some (.int .u64 x5) ∧ (
  letV (IntKind.u64.wrap (x2 + x3)) (fun endv : Int =>
  letV (IntKind.u64.wrap (x4 + x5)) (fun stop : Int =>
  ∃ J_ : Bool → Heap → Prop, (
  ∃ x6 : Int, rd H4 (⟨H.size, 0, none⟩ : Addr) = some (.int .u64 x6) ∧ (
  iteB (decide (x6 ≥ endv)) (
  J_ true H4) (
  ∃ x7 : Int, rd H4 (⟨H2.size, 0, none⟩ : Addr) = some (.int .u64 x7) ∧ (
  J_ (decide (stop ≤ x7)) H4)))) ∧ (∀ x8 : Bool, ∀ H5 : Heap, J_ x8 H5 → F_ref21_remove_k2 H I_ M_ out i H2 endv stop x8 H5)))))))))))))) (
  R (.slice out.p out.n out.c) H2)

def F_ref21_remove (R : Value → Heap → Prop) (free : Sl) (x_0 : Int) (x_1 : Int) (H : Heap) : Prop :=
  letH (H.push (.cells #[.int .u64 x_0, .int .u64 x_1] t_api_Range (0, 0))) (fun H1 : Heap =>
  ∃ I_ : Sl → Int → Heap → Prop, ∃ M_ : Sl → Int → Heap → Nat, I_ (Sl.mk none 0 0) (0 : Int) H1 ∧ (∀ out : Sl, ∀ i : Int, ∀ H2 : Heap, I_ out i H2 → F_ref21_remove_r3 R H free I_ M_ out i H2))

theorem F_ref21_remove_eq (R : Value → Heap → Prop) (free : Sl) (x_0 : Int) (x_1 : Int) (H : Heap) : wpF Try.prog Try.f60 [(5, .slice none 0 0), (6, .int .i64 0), (39, .bool false)] [(8, [39], [0, 3, 5, 6, 7, 8, 9]), (11, [5], [0, 3, 6, 8, 9])] [(3, [5, 6], [0, 3])] [20] [.slice free.p free.n free.c, .agg #[.int .u64 x_0, .int .u64 x_1]] H R = F_ref21_remove R free x_0 x_1 H := by kernel_rfl

theorem F_ref21_remove_ok {R : Value → Heap → Prop} (free : Sl) (x_0 : Int) (x_1 : Int) {H : Heap} (h : F_ref21_remove R free x_0 x_1 H) : CallsH Try.prog n_ref21_remove #[.slice free.p free.n free.c, .agg #[.int .u64 x_0, .int .u64 x_1]] H R :=
  wpF_ok Try.func60 (F_ref21_remove_eq R free x_0 x_1 H) h

/-! ### 61: platformfw/pciconf.registers -/

def F_pciconf_registers (R : Value → Heap → Prop) (bridge : Bool) (H : Heap) : Prop :=
  iteB bridge (
  R (.int .i64 (2 : Int)) H) (
  R (.int .i64 (6 : Int)) H)

theorem F_pciconf_registers_eq (R : Value → Heap → Prop) (bridge : Bool) (H : Heap) : wpF Try.prog Try.f61 [] [] [] [20] [.bool bridge] H R = F_pciconf_registers R bridge H := by kernel_rfl

theorem F_pciconf_registers_ok {R : Value → Heap → Prop} (bridge : Bool) {H : Heap} (h : F_pciconf_registers R bridge H) : CallsH Try.prog n_pciconf_registers #[.bool bridge] H R :=
  wpF_ok Try.func61 (F_pciconf_registers_eq R bridge H) h

/-! ### 62: platformfw/pciconf.validBar -/

def F_pciconf_validBar_k1 (R : Value → Heap → Prop) (l : Sl) (i : Int) (size : Int) (x1 : Bool) (H1 : Heap) : Prop :=
  iteB x1 (
  iteB (decide (size ≥ (4 : Int))) (
  iteB (decide (size ≤ (40 : Int))) (
  iteB (decide ((IntKind.i64.wrap (i + (1 : Int))) < (l.n : Int))) (
  0 ≤ (IntKind.i64.wrap (i + (1 : Int))) ∧ (IntKind.i64.wrap (i + (1 : Int))) < (l.n : Int) ∧ (unSome l.p (fun a2 =>
  ∃ x2 : Int, rd H1 (a2.add ((IntKind.i64.wrap (i + (1 : Int))).toNat * 2)) = some (.int .i64 x2) ∧ (
  R (.bool (x2 == (0 : Int))) H1)))) (
  R (.bool false) H1)) (
  R (.bool false) H1)) (
  R (.bool false) H1)) (
  R (.bool false) H1)

def F_pciconf_validBar (R : Value → Heap → Prop) (l : Sl) (i : Int) (H : Heap) : Prop :=
  0 ≤ i ∧ i < (l.n : Int) ∧ (unSome l.p (fun a =>
  ∃ size : Int, rd H ((a.add (i.toNat * 2)).add 1) = some (.int .i64 size) ∧ (
  0 ≤ i ∧ i < (l.n : Int) ∧ (unSome l.p (fun a1 =>
  ∃ x : Int, rd H (a1.add (i.toNat * 2)) = some (.int .i64 x) ∧ (
  iteB (x == (0 : Int)) (
  R (.bool (size == (0 : Int))) H) (
  iteB (x == (1 : Int)) (
  iteB (decide (size ≥ (2 : Int))) (
  R (.bool (decide (size ≤ (8 : Int)))) H) (
  R (.bool false) H)) (
  iteB (x == (2 : Int)) (
  iteB (decide (size ≥ (4 : Int))) (
  R (.bool (decide (size ≤ (31 : Int)))) H) (
  R (.bool false) H)) (
  ∃ J_ : Bool → Heap → Prop, (
  iteB (x == (3 : Int)) (
  J_ true H) (
  J_ (x == (4 : Int)) H)) ∧ (∀ x1 : Bool, ∀ H1 : Heap, J_ x1 H1 → F_pciconf_validBar_k1 R l i size x1 H1))))))))))

theorem F_pciconf_validBar_eq (R : Value → Heap → Prop) (l : Sl) (i : Int) (H : Heap) : wpF Try.prog Try.f62 [(36, .bool false)] [(11, [36], [0, 1, 5])] [] [20] [.slice l.p l.n l.c, .int .i64 i] H R = F_pciconf_validBar R l i H := by kernel_rfl

theorem F_pciconf_validBar_ok {R : Value → Heap → Prop} (l : Sl) (i : Int) {H : Heap} (h : F_pciconf_validBar R l i H) : CallsH Try.prog n_pciconf_validBar #[.slice l.p l.n l.c, .int .i64 i] H R :=
  wpF_ok Try.func62 (F_pciconf_validBar_eq R l i H) h

/-! ### 63: platformfw/platformfwref21.demand -/

def F_ref21_demand_r1 (R : Value → Heap → Prop) (sizes : Sl) (k : Int) (I_ : Int → Int → Heap → Prop) (M_ : Int → Int → Heap → Nat) (n : Int) (i : Int) (H1 : Heap) : Prop :=
  iteB (decide (i < (sizes.n : Int))) (
  0 ≤ i ∧ i < (sizes.n : Int) ∧ (unSome sizes.p (fun a =>
  ∃ x : Int, rd H1 (a.add (i.toNat * 1)) = some (.int .i64 x) ∧ (
  iteB (decide (x ≥ k)) (
  0 ≤ i ∧ i < (sizes.n : Int) ∧ (unSome sizes.p (fun a1 =>
  ∃ x1 : Int, rd H1 (a1.add (i.toNat * 1)) = some (.int .i64 x1) ∧ (
  0 ≤ (IntKind.u64.wrap x1) ∧ (
  letV (IntKind.u64.wrap (n + (IntKind.u64.wrap ((1 : Int) * 2 ^ (min (IntKind.u64.wrap x1).toNat IntKind.u64.bits))))) (fun n1 : Int =>
  letV (IntKind.i64.wrap (i + (1 : Int))) (fun i1 : Int =>
  I_ n1 i1 H1 ∧ M_ n1 i1 H1 < M_ n i H1))))))) (
  letV (IntKind.i64.wrap (i + (1 : Int))) (fun i2 : Int =>
  I_ n i2 H1 ∧ M_ n i2 H1 < M_ n i H1)))))) (
  R (.int .u64 n) H1)

def F_ref21_demand (R : Value → Heap → Prop) (sizes : Sl) (k : Int) (H : Heap) : Prop :=
  ∃ I_ : Int → Int → Heap → Prop, ∃ M_ : Int → Int → Heap → Nat, I_ (0 : Int) (0 : Int) H ∧ (∀ n : Int, ∀ i : Int, ∀ H1 : Heap, I_ n i H1 → F_ref21_demand_r1 R sizes k I_ M_ n i H1)

theorem F_ref21_demand_eq (R : Value → Heap → Prop) (sizes : Sl) (k : Int) (H : Heap) : wpF Try.prog Try.f63 [(5, .int .u64 0), (6, .int .i64 0)] [] [(3, [5, 6], [0, 1])] [20] [.slice sizes.p sizes.n sizes.c, .int .i64 k] H R = F_ref21_demand R sizes k H := by kernel_rfl

theorem F_ref21_demand_ok {R : Value → Heap → Prop} (sizes : Sl) (k : Int) {H : Heap} (h : F_ref21_demand R sizes k H) : CallsH Try.prog n_ref21_demand #[.slice sizes.p sizes.n sizes.c, .int .i64 k] H R :=
  wpF_ok Try.func63 (F_ref21_demand_eq R sizes k H) h

/-! ### 64: platformfw/platformfwref21.Blocks -/

def F_ref21_Blocks_r1 (R : Value → Heap → Prop) (k : Int) (l : Sl) (I_ : Int → Int → Heap → Prop) (M_ : Int → Int → Heap → Nat) (n : Int) (i : Int) (H3 : Heap) : Prop :=
  iteB (decide (i < (l.n : Int))) (
  0 ≤ i ∧ i < (l.n : Int) ∧ (unSome l.p (fun a =>
  ∃ x1 : Int, rd H3 (a.add (i.toNat * 2)) = some (.int .u64 x1) ∧ (
  0 ≤ i ∧ i < (l.n : Int) ∧ (unSome l.p (fun a1 =>
  ∃ x2 : Int, rd H3 (a1.add (i.toNat * 2)) = some (.int .u64 x2) ∧ (
  0 ≤ i ∧ i < (l.n : Int) ∧ (unSome l.p (fun a2 =>
  ∃ x3 : Int, rd H3 ((a2.add (i.toNat * 2)).add 1) = some (.int .u64 x3) ∧ (
  CallsH Try.prog n_ref21_up #[.int .u64 x1, .int .i64 k] H3 (fun v2 H4 =>
  ∃ atv : Int, v2 = .int .u64 atv ∧ (
  Keeps H3 H4 [((a1.add (i.toNat * 2)), 1), (((a2.add (i.toNat * 2)).add 1), 1)] ∧ (
  letV (IntKind.u64.wrap (x2 + x3)) (fun endv : Int =>
  iteB (decide (atv < endv)) (
  0 ≤ (IntKind.u64.wrap k) ∧ (
  letV (IntKind.u64.wrap (n + ((IntKind.u64.wrap (endv - atv)).fdiv (2 ^ (min (IntKind.u64.wrap k).toNat IntKind.u64.bits))))) (fun n1 : Int =>
  letV (IntKind.i64.wrap (i + (1 : Int))) (fun i1 : Int =>
  I_ n1 i1 H4 ∧ M_ n1 i1 H4 < M_ n i H3)))) (
  letV (IntKind.i64.wrap (i + (1 : Int))) (fun i2 : Int =>
  I_ n i2 H4 ∧ M_ n i2 H4 < M_ n i H3)))))))))))))))) (
  R (.int .u64 n) H3)

def F_ref21_Blocks (R : Value → Heap → Prop) (free : Sl) (k : Int) (H : Heap) : Prop :=
  iteB (decide (k < (0 : Int))) (
  R (.int .u64 (0 : Int)) H) (
  iteB (decide (k > (52 : Int))) (
  R (.int .u64 (0 : Int)) H) (
  CallsH Try.prog n_ref21_ValidRanges #[.slice free.p free.n free.c] H (fun v H1 =>
  ∃ x : Bool, v = .bool x ∧ (
  iteB (!x) (
  R (.int .u64 (0 : Int)) H1) (
  CallsH Try.prog n_ref21_merge #[.slice free.p free.n free.c] H1 (fun v1 H2 =>
  ∃ l : Sl, v1 = .slice l.p l.n l.c ∧ (
  ∃ I_ : Int → Int → Heap → Prop, ∃ M_ : Int → Int → Heap → Nat, I_ (0 : Int) (0 : Int) H2 ∧ (∀ n : Int, ∀ i : Int, ∀ H3 : Heap, I_ n i H3 → F_ref21_Blocks_r1 R k l I_ M_ n i H3))))))))

theorem F_ref21_Blocks_eq (R : Value → Heap → Prop) (free : Sl) (k : Int) (H : Heap) : wpF Try.prog Try.f64 [(5, .int .u64 0), (7, .int .i64 0)] [] [(6, [5, 7], [1, 6])] [20] [.slice free.p free.n free.c, .int .i64 k] H R = F_ref21_Blocks R free k H := by kernel_rfl

theorem F_ref21_Blocks_ok {R : Value → Heap → Prop} (free : Sl) (k : Int) {H : Heap} (h : F_ref21_Blocks R free k H) : CallsH Try.prog n_ref21_Blocks #[.slice free.p free.n free.c, .int .i64 k] H R :=
  wpF_ok Try.func64 (F_ref21_Blocks_eq R free k H) h

end Go.Proofs.Ytnhhncjflnlfaaa
end

section
/-
  The engine, part 3: small laws for the proofs over the shallow readings.
-/
namespace Go.Eng

theorem iteB_intro {c : Bool} {A B : Prop} (h1 : c = true → A) (h2 : c = false → B) : iteB c A B := by
  cases c
  · exact h2 rfl
  · exact h1 rfl
theorem iteB_true {A B : Prop} : iteB true A B = A := rfl
theorem iteB_false {A B : Prop} : iteB false A B = B := rfl
theorem iteB_pos {c : Bool} {A B : Prop} (h : c = true) (hA : A) : iteB c A B := by subst h; exact hA
theorem iteB_neg {c : Bool} {A B : Prop} (h : c = false) (hB : B) : iteB c A B := by subst h; exact hB
theorem unSome_some {a : Addr} {K : Addr → Prop} : unSome (some a) K = K a := rfl
theorem unSome_mk {p : Option Addr} {a : Addr} {K : Addr → Prop} (h : p = some a) (hK : K a) : unSome p K := by subst h; exact hK
theorem letV_mk {x : Int} {k : Int → Prop} (y : Int) (h : x = y) (hk : k y) : letV x k := by subst h; exact hk
theorem letH_mk {x : Heap} {k : Heap → Prop} (h : ∀ y, y = x → k y) : letH x k := h x rfl

theorem add_mk (b o n : Nat) : (⟨b, o, none⟩ : Addr).add n = ⟨b, o + n, none⟩ := by
  unfold Addr.add
  split
  · rename_i h; subst h; rfl
  · rfl

theorem rd_mk {H : Heap} {b o : Nat} {c : Array Value} {e : TypeId} {f : Nat × Nat} (h : H[b]? = some (.cells c e f)) : rd H ⟨b, o, none⟩ = c[o]? := by
  simp [rd, h]

theorem rd_congr {H H' : Heap} {a : Addr} (h : H'[a.block]? = H[a.block]?) : rd H' a = rd H a := by simp [rd, h]

theorem okRow_mk {H : Heap} {b o n : Nat} {c : Array Value} {e : TypeId} (h : H[b]? = some (.cells c e (0, 0))) (hl : o + n ≤ c.size) : okRow H ⟨b, o, none⟩ n :=
  ⟨c, e, h, rfl, hl⟩

theorem wrs_size (H : Heap) (a : Addr) (vs : List Value) : (wrs H a vs).size = H.size := by simp [wrs]

theorem wrs_get {H : Heap} {b o : Nat} {s : Option Nat} {c : Array Value} {e : TypeId} {f : Nat × Nat} {vs : List Value} (h : H[b]? = some (.cells c e f)) :
    (wrs H ⟨b, o, s⟩ vs)[b]? = some (.cells (splice c o vs) e f) := by
  unfold wrs
  exact modify_get h

theorem wrs_ne {H : Heap} {a : Addr} {vs : List Value} {k : Nat} (h : k ≠ a.block) : (wrs H a vs)[k]? = H[k]? := by
  unfold wrs
  rw [Array.getElem?_modify, if_neg (fun e => h e.symm)]

theorem push_lt {H : Heap} {o : Obj} {k : Nat} (h : k < H.size) : (H.push o)[k]? = H[k]? := by
  rw [Array.getElem?_push, if_neg (by omega)]

theorem push_new (H : Heap) (o : Obj) : (H.push o)[H.size]? = some o := by simp

theorem get_lt {H : Heap} {b : Nat} {o : Obj} (h : H[b]? = some o) : b < H.size := by
  rcases Nat.lt_or_ge b H.size with h' | h'
  · exact h'
  · rw [Array.getElem?_eq_none h'] at h; cases h

/-- Only block 'b' of what was there may have changed. -/
structure Upd (b : Nat) (H H' : Heap) : Prop where
  size : H.size ≤ H'.size
  get : ∀ k, k < H.size → k ≠ b → H'[k]? = H[k]?

theorem Upd.refl (b : Nat) (H : Heap) : Upd b H H := ⟨Nat.le_refl _, fun _ _ _ => rfl⟩
theorem Upd.trans {b : Nat} {A B C : Heap} (h : Upd b A B) (k : Upd b B C) : Upd b A C :=
  ⟨Nat.le_trans h.size k.size, fun i hi hn => (k.get i (Nat.lt_of_lt_of_le hi h.size) hn).trans (h.get i hi hn)⟩
theorem Ext.upd {b : Nat} {H H' : Heap} (h : Ext H H') : Upd b H H' := ⟨h.size, fun k hk _ => h.get k hk⟩
theorem Upd.wrs {H : Heap} {a : Addr} {vs : List Value} : Upd a.block H (wrs H a vs) :=
  ⟨by rw [wrs_size]; exact Nat.le_refl _, fun _ _ hn => wrs_ne hn⟩
/-- What was there before block 'b' was made is as it was. -/
theorem Upd.ext {b : Nat} {A B C : Heap} (h : Ext A B) (k : Upd b B C) (hb : A.size ≤ b) : Ext A C :=
  ⟨Nat.le_trans h.size k.size, fun i hi => (k.get i (Nat.lt_of_lt_of_le hi h.size) (by omega)).trans (h.get i hi)⟩

/-- The cells from 'p' on hold 'vs'. -/
def Row (H : Heap) (p : Option Addr) (vs : List Value) : Prop :=
  vs = [] ∨ ∃ a, p = some a ∧ ∀ i v, vs[i]? = some v → rd H (a.add i) = some v

theorem Row.nil (H : Heap) (p : Option Addr) : Row H p [] := .inl rfl

theorem Row.get {H : Heap} {p : Option Addr} {vs : List Value} (h : Row H p vs) {i : Nat} {v : Value} (hi : vs[i]? = some v) :
    ∃ a, p = some a ∧ rd H (a.add i) = some v := by
  rcases h with rfl | ⟨a, rfl, hr⟩
  · simp at hi
  · exact ⟨a, rfl, hr i v hi⟩

theorem Row.ext {H H' : Heap} {p : Option Addr} {vs : List Value} (h : Row H p vs) (he : Ext H H') : Row H' p vs := by
  rcases h with rfl | ⟨a, rfl, hr⟩
  · exact .inl rfl
  · exact .inr ⟨a, rfl, fun i v hv => he.rd (hr i v hv)⟩

theorem add_block (a : Addr) (n : Nat) : (a.add n).block = a.block := by
  unfold Addr.add
  split <;> rfl

/-- The block of a slice. -/
def onBlock (p : Option Addr) (b : Nat) : Prop := ∃ a, p = some a ∧ a.block = b

theorem Row.upd {H H' : Heap} {p : Option Addr} {vs : List Value} {b : Nat} (h : Row H p vs) (he : Upd b H H') (hn : ¬ onBlock p b) : Row H' p vs := by
  rcases h with rfl | ⟨a, rfl, hr⟩
  · exact .inl rfl
  · refine .inr ⟨a, rfl, fun i v hv => ?_⟩
    have h1 := hr i v hv
    have hl := rd_lt h1
    rw [add_block] at hl
    rw [rd_congr (H := H), h1]
    rw [add_block]
    exact he.get _ hl (fun e => hn ⟨a, rfl, e⟩)

/-- A slice that reads as these numbers. -/
structure IsI (k : IntKind) (H : Heap) (s : Sl) (l : List Int) : Prop where
  len : s.n = l.length
  row : Row H s.p (l.map (.int k))

theorem IsI.nil (k : IntKind) (H : Heap) : IsI k H ⟨none, 0, 0⟩ [] := ⟨rfl, .inl rfl⟩
theorem IsI.ext {k : IntKind} {H H' : Heap} {s : Sl} {l : List Int} (h : IsI k H s l) (he : Ext H H') : IsI k H' s l := ⟨h.len, h.row.ext he⟩
theorem IsI.get {k : IntKind} {H : Heap} {s : Sl} {l : List Int} (h : IsI k H s l) {i : Nat} (hi : i < l.length) :
    ∃ a, s.p = some a ∧ rd H (a.add (i * 1)) = some (.int k l[i]) := by
  have : (l.map (Value.int k))[i]? = some (.int k l[i]) := by simp [hi]
  obtain ⟨a, h1, h2⟩ := h.row.get this
  exact ⟨a, h1, by rw [Nat.mul_one]; exact h2⟩

theorem Row.mk_blk {H : Heap} {b o : Nat} {c : Array Value} {e : TypeId} {f : Nat × Nat} {vs : List Value} (h : H[b]? = some (.cells c e f))
    (hv : ∀ i v, vs[i]? = some v → c[o + i]? = some v) : Row H (some ⟨b, o, none⟩) vs :=
  .inr ⟨_, rfl, fun i v hi => by rw [add_mk, rd_mk h]; exact hv i v hi⟩

theorem IsI.upd {k : IntKind} {H H' : Heap} {s : Sl} {l : List Int} {b : Nat} (h : IsI k H s l) (he : Upd b H H') (hn : ¬ onBlock s.p b) : IsI k H' s l := ⟨h.len, h.row.upd he hn⟩

/-- The slice lies in a block from 'n' on (or is nil). -/
def NewP (n : Nat) (p : Option Addr) : Prop := ∀ a, p = some a → n ≤ a.block
theorem NewP.none (n : Nat) : NewP n none := fun a h => by cases h
theorem NewP.off {n b : Nat} {p : Option Addr} (h : NewP n p) (hb : b < n) : ¬ onBlock p b := fun ⟨a, h1, h2⟩ => by have := h a h1; omega
theorem NewP.mono {n m : Nat} {p : Option Addr} (h : NewP n p) (hm : m ≤ n) : NewP m p := fun a ha => Nat.le_trans hm (h a ha)
theorem NewP.some {n : Nat} {a : Addr} (h : n ≤ a.block) : NewP n (some a) := fun x hx => by cases hx; exact h

/-- A slice literal. -/
theorem IsI.lit {k : IntKind} {H : Heap} {b n c : Nat} {e : TypeId} {f : Nat × Nat} {l : List Int} (h : H[b]? = some (.cells (l.map (Value.int k)).toArray e f)) (hn : n = l.length) :
    IsI k H ⟨some ⟨b, 0, none⟩, n, c⟩ l :=
  ⟨hn, Row.mk_blk h (fun i v hi => by simpa using hi)⟩

theorem below_of {w w' : World} (hs : Same w w') (he : Ext w.heap w'.heap) : RowKit.Below w.heap.size w w' :=
  ⟨hs.os, hs.tape, hs.output, he.size, he.get⟩

/-- From the engine's call to the model's. -/
theorem calls_true {P : Program} {f : FuncId} {args : Array Value} {w : World}
    (h : CallsH P f args w.heap (fun v H' => v = .bool true ∧ Ext w.heap H')) :
    Calls P f args w fun e w' => e = .returned (.bool true) ∧ RowKit.Below w.heap.size w w' :=
  (h w rfl).mono fun _ _ ⟨_, he, hs, hv, hx⟩ => ⟨by rw [he, hv], below_of hs hx⟩

theorem i64_in {n : Int} (h : -9223372036854775808 ≤ n ∧ n ≤ 9223372036854775807) : IntKind.i64.wrap n = n := IntWalk.i64_in n h
theorem u64_in {n : Int} (h : 0 ≤ n ∧ n ≤ 18446744073709551615) : IntKind.u64.wrap n = n := IntWalk.u64_in n h
theorem u64_wrap (n : Int) : IntKind.u64.wrap n = n % 18446744073709551616 := by
  simp [IntKind.wrap, IntKind.bits, IntKind.signed]
theorem u64_nonneg (n : Int) : 0 ≤ IntKind.u64.wrap n := by rw [u64_wrap]; omega
theorem u64_lt (n : Int) : IntKind.u64.wrap n < 18446744073709551616 := by rw [u64_wrap]; omega

end Go.Eng
end

section
/-
  The engine, part 4: blocks, slices of plain data, local variables, append and make, for the proofs over the shallow readings.
-/
namespace Go.Eng

/-- Block 'b' holds the cells 'vs'. -/
def Blk (H : Heap) (b : Nat) (e : TypeId) (vs : List Value) : Prop := H[b]? = some (.cells vs.toArray e (0, 0))

theorem Blk.lt {H : Heap} {b : Nat} {e : TypeId} {vs : List Value} (h : Blk H b e vs) : b < H.size := get_lt h
theorem Blk.rd {H : Heap} {b i : Nat} {e : TypeId} {vs : List Value} {v : Value} (h : Blk H b e vs) (hi : vs[i]? = some v) : Eng.rd H ((⟨b, 0, none⟩ : Addr).add i) = some v := by
  rw [add_mk, rd_mk h]; simpa using hi
theorem Blk.rd0 {H : Heap} {b : Nat} {e : TypeId} {vs : List Value} {v : Value} (h : Blk H b e vs) (hi : vs[0]? = some v) : Eng.rd H ⟨b, 0, none⟩ = some v := by
  rw [rd_mk h]; simpa using hi
theorem Blk.ext {H H' : Heap} {b : Nat} {e : TypeId} {vs : List Value} (h : Blk H b e vs) (he : Ext H H') : Blk H' b e vs := by
  unfold Blk; rw [he.get _ h.lt]; exact h

def spl (vs : List Value) : Nat → List Value → List Value
  | _, [] => vs
  | i, w :: ws => spl (vs.set i w) (i + 1) ws

theorem splice_toArray (vs : List Value) : ∀ (ws : List Value) (i : Nat), splice vs.toArray i ws = (spl vs i ws).toArray := by
  intro ws
  induction ws generalizing vs with
  | nil => intro i; rfl
  | cons w ws ih => intro i; simp only [splice, spl]; rw [← ih]; simp

theorem spl_length (vs : List Value) : ∀ (ws : List Value) (i : Nat), (spl vs i ws).length = vs.length := by
  intro ws
  induction ws generalizing vs with
  | nil => intro i; rfl
  | cons w ws ih => intro i; simp only [spl]; rw [ih]; simp

theorem Blk.wr {H : Heap} {b o : Nat} {e : TypeId} {vs ws : List Value} (h : Blk H b e vs) : Blk (wrs H ⟨b, o, none⟩ ws) b e (spl vs o ws) := by
  unfold Blk; rw [wrs_get h, splice_toArray]
theorem Blk.wr_ne {H : Heap} {b : Nat} {a : Addr} {e : TypeId} {vs ws : List Value} (h : Blk H b e vs) (hn : b ≠ a.block) : Blk (wrs H a ws) b e vs := by
  unfold Blk; rw [wrs_ne hn]; exact h
theorem Blk.wr1 {H : Heap} {b i : Nat} {e : TypeId} {vs : List Value} {w : Value} (h : Blk H b e vs) : Blk (wrs H ((⟨b, 0, none⟩ : Addr).add i) [w]) b e (vs.set i w) := by
  rw [add_mk]
  have := h.wr (o := 0 + i) (ws := [w])
  simpa [spl] using this
theorem Blk.ok {H : Heap} {b i n : Nat} {e : TypeId} {vs : List Value} (h : Blk H b e vs) (hl : i + n ≤ vs.length) : okRow H ((⟨b, 0, none⟩ : Addr).add i) n := by
  rw [add_mk]; exact okRow_mk h (by simpa using hl)
theorem Blk.ok0 {H : Heap} {b n : Nat} {e : TypeId} {vs : List Value} (h : Blk H b e vs) (hl : n ≤ vs.length) : okRow H ⟨b, 0, none⟩ n := okRow_mk h (by simpa using hl)
theorem Blk.new (H : Heap) (e : TypeId) (vs : List Value) : Blk (H.push (.cells vs.toArray e (0, 0))) H.size e vs := push_new _ _

/-- Only the blocks of 'S' among those that were there may have changed. -/
structure Mods (S : List Nat) (H H' : Heap) : Prop where
  size : H.size ≤ H'.size
  get : ∀ k, k < H.size → k ∉ S → H'[k]? = H[k]?

theorem Mods.refl (S : List Nat) (H : Heap) : Mods S H H := ⟨Nat.le_refl _, fun _ _ _ => rfl⟩
theorem Mods.trans {S : List Nat} {A B C : Heap} (h : Mods S A B) (k : Mods S B C) : Mods S A C :=
  ⟨Nat.le_trans h.size k.size, fun i hi hn => (k.get i (Nat.lt_of_lt_of_le hi h.size) hn).trans (h.get i hi hn)⟩
theorem Mods.mono {S T : List Nat} {A B : Heap} (h : Mods S A B) (hs : ∀ x, x ∈ S → x ∈ T) : Mods T A B := ⟨h.size, fun k hk hn => h.get k hk (fun e => hn (hs k e))⟩
theorem Ext.mods {S : List Nat} {H H' : Heap} (h : Ext H H') : Mods S H H' := ⟨h.size, fun k hk _ => h.get k hk⟩
theorem Mods.wrs {S : List Nat} {H : Heap} {a : Addr} {vs : List Value} (ha : a.block ∈ S) : Mods S H (wrs H a vs) :=
  ⟨by rw [wrs_size]; exact Nat.le_refl _, fun k _ hn => wrs_ne (fun e => hn (e ▸ ha))⟩
/-- What was there before the blocks of 'S' were made is as it was. -/
theorem Mods.ext {S : List Nat} {A B C : Heap} (h : Ext A B) (k : Mods S B C) (hb : ∀ x ∈ S, A.size ≤ x) : Ext A C :=
  ⟨Nat.le_trans h.size k.size, fun i hi => (k.get i (Nat.lt_of_lt_of_le hi h.size) (fun e => by have := hb i e; omega)).trans (h.get i hi)⟩
theorem Mods.to_ext {H H' : Heap} (h : Mods [] H H') : Ext H H' := ⟨h.size, fun k hk => h.get k hk (by simp)⟩
theorem Blk.mods {S : List Nat} {H H' : Heap} {b : Nat} {e : TypeId} {vs : List Value} (h : Blk H b e vs) (hm : Mods S H H') (hb : b ∉ S) : Blk H' b e vs := by
  unfold Blk; rw [hm.get _ h.lt hb]; exact h
theorem Mods.rd {S : List Nat} {H H' : Heap} (hm : Mods S H H') {a : Addr} {v : Value} (h : Eng.rd H a = some v) (hb : a.block ∉ S) : Eng.rd H' a = some v := by
  rw [rd_congr (H := H) (hm.get _ (rd_lt h) hb)]; exact h

/-- A local variable of a struct's or array's kind: made, then filled. -/
theorem local_mk {H : Heap} {e : TypeId} {zs : Array Value} {vs : List Value} {n : Nat} {K : Heap → Prop} (hz : zs.size = vs.length) (hn : n = vs.length)
    (h : ∀ H', Ext H H' → H'.size = H.size + 1 → Blk H' H.size e vs → K H') :
    letH (H.push (.cells zs e (0, 0))) (fun H1 => okRow H1 (⟨H.size, 0, none⟩ : Addr) n ∧ letH (wrs H1 (⟨H.size, 0, none⟩ : Addr) vs) (fun H2 => K H2)) := by
  refine letH_mk ?_
  rintro H1 rfl
  have hb : (H.push (.cells zs e (0, 0)))[H.size]? = some (.cells zs e (0, 0)) := push_new _ _
  refine ⟨okRow_mk hb (by omega), letH_mk ?_⟩
  rintro H2 rfl
  refine h _ ?_ (by rw [wrs_size]; simp) ?_
  · exact Upd.ext (Ext.push H _) (Upd.wrs (a := ⟨H.size, 0, none⟩)) (Nat.le_refl _)
  · unfold Blk
    rw [wrs_get hb]
    have key : ∀ (ws : List Value) (c : Array Value) (i : Nat), i + ws.length = c.size → splice c i ws = (c.toList.take i ++ ws).toArray := by
      intro ws
      induction ws with
      | nil => intro c i hi; simp at hi; simp [splice, hi]; rw [List.take_of_length_le (by simp)]
      | cons w ws ih =>
        intro c i hi
        simp only [List.length_cons] at hi
        simp only [splice]
        rw [ih _ _ (by simp; omega)]
        congr 1
        simp only [Array.toList_setIfInBounds]
        rw [List.take_succ_eq_append_getElem (by simp; omega)]
        simp [List.take_set_of_le]
    rw [key vs zs 0 (by omega)]
    simp

/-! ### slices of plain data -/

/-- A slice whose elements, 'sz' cells each, read as 'l'. -/
structure IsS {α : Type} (sz : Nat) (enc : α → List Value) (H : Heap) (s : Sl) (l : List α) : Prop where
  len : s.n = l.length
  row : l = [] ∨ ∃ a, s.p = some a ∧ ∀ i x, l[i]? = some x → ∀ j v, (enc x)[j]? = some v → rd H ((a.add (i * sz)).add j) = some v

section
variable {α : Type} {sz : Nat} {enc : α → List Value} {H H' : Heap} {s : Sl} {l : List α}

theorem IsS.nil (sz : Nat) (enc : α → List Value) (H : Heap) : IsS sz enc H ⟨none, 0, 0⟩ [] := ⟨rfl, .inl rfl⟩

theorem IsS.get (h : IsS sz enc H s l) {i : Nat} {x : α} (hi : l[i]? = some x) : ∃ a, s.p = some a ∧ ∀ j v, (enc x)[j]? = some v → rd H ((a.add (i * sz)).add j) = some v := by
  rcases h.row with rfl | ⟨a, hp, hr⟩
  · simp at hi
  · exact ⟨a, hp, fun j v hv => hr i x hi j v hv⟩

theorem IsS.ext (h : IsS sz enc H s l) (he : Ext H H') : IsS sz enc H' s l := by
  refine ⟨h.len, ?_⟩
  rcases h.row with rfl | ⟨a, hp, hr⟩
  · exact .inl rfl
  · exact .inr ⟨a, hp, fun i x hi j v hv => he.rd (hr i x hi j v hv)⟩

theorem IsS.mods {S : List Nat} (h : IsS sz enc H s l) (he : Mods S H H') (hn : ∀ a, s.p = some a → a.block ∉ S) : IsS sz enc H' s l := by
  refine ⟨h.len, ?_⟩
  rcases h.row with rfl | ⟨a, hp, hr⟩
  · exact .inl rfl
  · refine .inr ⟨a, hp, fun i x hi j v hv => he.rd (hr i x hi j v hv) ?_⟩
    rw [add_block, add_block]
    exact hn a hp

end

theorem flat_get {α : Type} {sz : Nat} {enc : α → List Value} (he : ∀ x, (enc x).length = sz) : ∀ (l : List α) (i : Nat) (x : α), l[i]? = some x → ∀ j v, (enc x)[j]? = some v →
    (l.flatMap enc)[i * sz + j]? = some v := by
  intro l
  induction l with
  | nil => intro i x h; simp at h
  | cons y l ih =>
    intro i x hi j v hv
    have hj : j < sz := by
      rw [← he x]
      rcases Nat.lt_or_ge j (enc x).length with h | h
      · exact h
      · rw [List.getElem?_eq_none h] at hv; cases hv
    rw [List.flatMap_cons]
    cases i with
    | zero =>
      simp at hi
      subst hi
      rw [List.getElem?_append_left (by rw [he]; omega)]
      simpa using hv
    | succ i =>
      rw [List.getElem?_append_right (by rw [he, Nat.succ_mul]; omega), he]
      have := ih i x (by simpa using hi) j v hv
      rw [show (i + 1) * sz + j - sz = i * sz + j by rw [Nat.succ_mul]; omega]
      exact this

/-- A slice that starts a block of its own. -/
theorem IsS.of_blk {α : Type} {sz : Nat} {enc : α → List Value} (he : ∀ x, (enc x).length = sz) {H : Heap} {b n c : Nat} {e : TypeId} {vs : List Value} {l : List α} (h : Blk H b e vs)
    (hn : n = l.length) (hv : ∀ (i : Nat) (v : Value), (l.flatMap enc)[i]? = some v → vs[i]? = some v) : IsS sz enc H ⟨some ⟨b, 0, none⟩, n, c⟩ l := by
  refine ⟨hn, .inr ⟨_, rfl, fun i x hi j v hx => ?_⟩⟩
  rw [add_mk, add_mk, rd_mk h]
  have := hv _ _ (flat_get he l i x hi j v hx)
  simpa [Nat.add_assoc] using this

/-! ### numbers -/

def encI (k : IntKind) (n : Int) : List Value := [.int k n]

abbrev Ints (k : IntKind) (H : Heap) (s : Sl) (l : List Int) : Prop := IsS 1 (encI k) H s l

theorem Ints.at {k : IntKind} {H : Heap} {s : Sl} {l : List Int} (h : Ints k H s l) {x : Int} (h0 : 0 ≤ x) (h1 : x < l.length) :
    ∃ a, s.p = some a ∧ rd H (a.add (x.toNat * 1)) = some (.int k (l.getD x.toNat 0)) := by
  have hx : x.toNat < l.length := by omega
  obtain ⟨a, hp, hr⟩ := h.get (i := x.toNat) (x := l.getD x.toNat 0) (by simp [hx])
  exact ⟨a, hp, hr 0 _ rfl⟩

theorem flatMap_encI (k : IntKind) (l : List Int) : l.flatMap (encI k) = l.map (Value.int k) := by
  induction l with
  | nil => rfl
  | cons x l ih => simp [encI, ih]

theorem Ints.of_blk {k : IntKind} {H : Heap} {b n c : Nat} {e : TypeId} {l : List Int} (h : Blk H b e (l.map (Value.int k))) (hn : n = l.length) : Ints k H ⟨some ⟨b, 0, none⟩, n, c⟩ l :=
  IsS.of_blk (sz := 1) (enc := encI k) (fun _ => rfl) h hn (fun i v hv => by rw [flatMap_encI] at hv; exact hv)

theorem zeroRow_int (k : IntKind) (n : Nat) : zeroRow (.int k 0) n = ((List.replicate n (0 : Int)).map (Value.int k)).toArray := by
  unfold zeroRow
  apply Array.ext
  · simp [Value.cells]
  · intro i h1 h2
    simp [Value.cells, Nat.mod_one]

/-! ### tables -/

def tab {α : Type} (n : Nat) (f : Nat → α) : List α := (List.range n).map f
def upd {α : Type} (f : Nat → α) (k : Nat) (v : α) : Nat → α := fun i => if i = k then v else f i

section
variable {α : Type} {n : Nat} {f g : Nat → α}

theorem tab_length (n : Nat) (f : Nat → α) : (tab n f).length = n := by simp [tab]
theorem tab_get {k : Nat} (h : k < n) : (tab n f)[k]? = some (f k) := by simp [tab, h]
theorem tab_getD {k : Nat} (d : α) (h : k < n) : (tab n f).getD k d = f k := by simp [tab, h]
theorem tab_congr (h : ∀ i, i < n → f i = g i) : tab n f = tab n g := by
  unfold tab
  exact List.map_congr_left (fun i hi => h i (by simpa using hi))
theorem tab_set {k : Nat} {v : α} (h : k < n) : (tab n f).set k v = tab n (upd f k v) := by
  apply List.ext_getElem?
  intro i
  rw [List.getElem?_set]
  by_cases e : k = i
  · subst e; simp [h, tab, upd]
  · simp only [e, if_false]
    by_cases hi : i < n
    · rw [tab_get hi, tab_get hi]
      have e' : ¬ i = k := fun x => e x.symm
      simp [upd, e']
    · rw [List.getElem?_eq_none (by rw [tab_length]; omega), List.getElem?_eq_none (by rw [tab_length]; omega)]
theorem tab_of (l : List α) (d : α) : tab l.length (fun i => l.getD i d) = l := by
  apply List.ext_getElem?
  intro i
  by_cases hi : i < l.length
  · rw [tab_get hi]; simp [hi]
  · rw [List.getElem?_eq_none (by rw [tab_length]; omega), List.getElem?_eq_none (by omega)]
theorem tab_map {β : Type} (h : α → β) : (tab n f).map h = tab n (fun i => h (f i)) := by simp [tab, Function.comp_def]
theorem tab_replicate (n : Nat) (x : α) : List.replicate n x = tab n (fun _ => x) := by
  apply List.ext_getElem?
  intro i
  by_cases hi : i < n
  · rw [tab_get hi]; simp [hi]
  · rw [List.getElem?_eq_none (by simp; omega), List.getElem?_eq_none (by rw [tab_length]; omega)]
theorem upd_same {k : Nat} {v : α} : upd f k v k = v := by simp [upd]
theorem upd_ne {k i : Nat} {v : α} (h : i ≠ k) : upd f k v i = f i := by simp [upd, h]
end

/-- A block that begins with these numbers. -/
def IBlk (k : IntKind) (H : Heap) (b : Nat) (e : TypeId) (n : Nat) (f : Nat → Int) : Prop := ∃ extra, Blk H b e ((tab n f).map (Value.int k) ++ extra)

section
variable {k : IntKind} {H H' : Heap} {b n : Nat} {e : TypeId} {f g : Nat → Int}

theorem IBlk.lt (h : IBlk k H b e n f) : b < H.size := by obtain ⟨x, h⟩ := h; exact h.lt
theorem IBlk.ext (h : IBlk k H b e n f) (he : Ext H H') : IBlk k H' b e n f := by obtain ⟨x, h⟩ := h; exact ⟨x, h.ext he⟩
theorem IBlk.mods {S : List Nat} (h : IBlk k H b e n f) (he : Mods S H H') (hb : b ∉ S) : IBlk k H' b e n f := by obtain ⟨x, h⟩ := h; exact ⟨x, h.mods he hb⟩
theorem IBlk.congr (h : IBlk k H b e n f) (hg : ∀ i, i < n → f i = g i) : IBlk k H b e n g := by obtain ⟨x, h⟩ := h; rw [tab_congr hg] at h; exact ⟨x, h⟩
theorem IBlk.rd (h : IBlk k H b e n f) {i : Nat} (hi : i < n) : Eng.rd H ((⟨b, 0, none⟩ : Addr).add (i * 1)) = some (.int k (f i)) := by
  obtain ⟨x, h⟩ := h
  refine h.rd ?_
  rw [Nat.mul_one, List.getElem?_append_left (by simpa [tab_length] using hi), List.getElem?_map, tab_get hi]
  rfl
theorem IBlk.ok (h : IBlk k H b e n f) {i : Nat} (hi : i < n) : okRow H ((⟨b, 0, none⟩ : Addr).add (i * 1)) 1 := by
  obtain ⟨x, h⟩ := h
  refine h.ok ?_
  simp [tab_length]; omega
theorem IBlk.wr (h : IBlk k H b e n f) {i : Nat} (hi : i < n) (v : Int) : IBlk k (wrs H ((⟨b, 0, none⟩ : Addr).add (i * 1)) [.int k v]) b e n (upd f i v) := by
  obtain ⟨x, h⟩ := h
  refine ⟨x, ?_⟩
  have := h.wr1 (i := i * 1) (w := .int k v)
  rw [Nat.mul_one] at this ⊢
  rw [List.set_append_left _ _ (by simpa [tab_length] using hi), ← List.map_set, tab_set hi] at this
  exact this
theorem IBlk.ints (h : IBlk k H b e n f) (c : Nat) : Ints k H ⟨some ⟨b, 0, none⟩, n, c⟩ (tab n f) := by
  obtain ⟨x, h⟩ := h
  refine IsS.of_blk (sz := 1) (enc := encI k) (fun _ => rfl) h (tab_length _ _).symm (fun i v hv => ?_)
  rw [flatMap_encI] at hv
  have hl : i < ((tab n f).map (Value.int k)).length := by
    rcases Nat.lt_or_ge i ((tab n f).map (Value.int k)).length with h' | h'
    · exact h'
    · rw [List.getElem?_eq_none h'] at hv; cases hv
  rw [List.getElem?_append_left hl]
  exact hv
theorem IBlk.zero (H : Heap) (e : TypeId) (n : Nat) : IBlk k (H.push (.cells (zeroRow (.int k 0) n) e (0, 0))) H.size e n (fun _ => 0) := by
  refine ⟨[], ?_⟩
  rw [zeroRow_int, tab_replicate, List.append_nil]
  exact Blk.new _ _ _
theorem mods_wr_add {S : List Nat} {i : Nat} {vs : List Value} (hb : b ∈ S) : Mods S H (wrs H ((⟨b, 0, none⟩ : Addr).add i) vs) := by
  rw [add_mk]; exact Mods.wrs hb
end

theorem add_add (b o m n : Nat) : ((⟨b, o, none⟩ : Addr).add m).add n = (⟨b, o, none⟩ : Addr).add (m + n) := by
  rw [add_mk, add_mk, add_mk, Nat.add_assoc]

/-- A block that begins with these cells. -/
def VB (H : Heap) (b : Nat) (e : TypeId) (n : Nat) (f : Nat → Value) : Prop := ∃ extra, Blk H b e (tab n f ++ extra)

section
variable {H H' : Heap} {b n : Nat} {e : TypeId} {f g : Nat → Value}

theorem VB.lt (h : VB H b e n f) : b < H.size := by obtain ⟨x, h⟩ := h; exact h.lt
theorem VB.ext (h : VB H b e n f) (he : Ext H H') : VB H' b e n f := by obtain ⟨x, h⟩ := h; exact ⟨x, h.ext he⟩
theorem VB.mods {S : List Nat} (h : VB H b e n f) (he : Mods S H H') (hb : b ∉ S) : VB H' b e n f := by obtain ⟨x, h⟩ := h; exact ⟨x, h.mods he hb⟩
theorem VB.congr (h : VB H b e n f) (hg : ∀ i, i < n → f i = g i) : VB H b e n g := by obtain ⟨x, h⟩ := h; rw [tab_congr hg] at h; exact ⟨x, h⟩
theorem VB.rd (h : VB H b e n f) {i : Nat} (hi : i < n) : Eng.rd H ((⟨b, 0, none⟩ : Addr).add i) = some (f i) := by
  obtain ⟨x, h⟩ := h
  refine h.rd ?_
  rw [List.getElem?_append_left (by simpa [tab_length] using hi), tab_get hi]
theorem VB.ok (h : VB H b e n f) {i m : Nat} (hi : i + m ≤ n) : okRow H ((⟨b, 0, none⟩ : Addr).add i) m := by
  obtain ⟨x, h⟩ := h
  refine h.ok ?_
  simp [tab_length]; omega
theorem VB.wr (h : VB H b e n f) {i : Nat} (hi : i < n) (v : Value) : VB (wrs H ((⟨b, 0, none⟩ : Addr).add i) [v]) b e n (upd f i v) := by
  obtain ⟨x, h⟩ := h
  refine ⟨x, ?_⟩
  have := h.wr1 (i := i) (w := v)
  rw [List.set_append_left _ _ (by simpa [tab_length] using hi), tab_set hi] at this
  exact this
end

/-! ### appending -/

def wOf (H : Heap) : World := { (default : World) with heap := H }

/-- The slice is nil, or starts a block from 'lo' on of which its first cells are 'xs'; what lies behind them is free. -/
def Own (lo : Nat) (e : TypeId) (sz : Nat) (H : Heap) (s : Sl) (xs : List Value) : Prop := (wOf H).ownsRow lo e sz (.slice s.p s.n s.c) s.n xs

theorem Own.nil (lo : Nat) (e : TypeId) (sz : Nat) (H : Heap) : Own lo e sz H ⟨none, 0, 0⟩ [] := World.ownsRow_nil _ _ _ _

theorem Own.cases {lo : Nat} {e : TypeId} {sz : Nat} {H : Heap} {s : Sl} {xs : List Value} (h : Own lo e sz H s xs) :
    xs.length = s.n * sz ∧ ((s = ⟨none, 0, 0⟩ ∧ xs = []) ∨ ∃ g cur, s.p = some ⟨g, 0, none⟩ ∧ lo ≤ g ∧ H[g]? = some (.cells cur e (0, 0)) ∧ s.n ≤ s.c ∧ cur.size = s.c * sz ∧ cur.toList.take (s.n * sz) = xs) := by
  obtain ⟨p, n, c⟩ := s
  obtain ⟨h1, h2⟩ := h
  refine ⟨h1, ?_⟩
  rcases h2 with ⟨h3, h4⟩ | ⟨g, cap, cur, h3, h4, h5, h6, h7, h8, h9⟩
  · simp only [Value.slice.injEq] at h3
    obtain ⟨rfl, rfl, rfl⟩ := h3
    simp only [Nat.zero_mul] at h1
    exact .inl ⟨rfl, List.eq_nil_of_length_eq_zero h1⟩
  · simp only [Value.slice.injEq] at h3
    obtain ⟨rfl, _, rfl⟩ := h3
    exact .inr ⟨g, cur, rfl, h4, h5, h6, h8, h9⟩

theorem Own.ext {lo : Nat} {e : TypeId} {sz : Nat} {H H' : Heap} {s : Sl} {xs : List Value} (h : Own lo e sz H s xs) (he : Ext H H') : Own lo e sz H' s xs := by
  refine World.ownsRow.kept (w := wOf H) (w' := wOf H') (row := none) h ⟨rfl, rfl, rfl, he.size, fun k hk _ => he.get k hk⟩ ?_
  cases hv : Value.ownBlock (.slice s.p s.n s.c) <;> simp

theorem Own.mods {lo : Nat} {e : TypeId} {sz : Nat} {H H' : Heap} {s : Sl} {xs : List Value} {S : List Nat} (h : Own lo e sz H s xs) (he : Mods S H H') (hn : ∀ a, s.p = some a → a.block ∉ S) : Own lo e sz H' s xs := by
  obtain ⟨p, n, c⟩ := s
  obtain ⟨h1, h2⟩ := h
  refine ⟨h1, ?_⟩
  rcases h2 with h3 | ⟨g, cap, cur, h3, h4, h5, h6⟩
  · exact .inl h3
  · refine .inr ⟨g, cap, cur, h3, h4, ?_, h6⟩
    simp only [Value.slice.injEq] at h3
    show H'[g]? = _
    rw [he.get g (get_lt (H := H) h5) (hn _ h3.1)]
    exact h5

theorem Own.new {lo : Nat} {e : TypeId} {sz : Nat} {H : Heap} {s : Sl} {xs : List Value} (h : Own lo e sz H s xs) : NewP lo s.p := by
  rcases h.cases.2 with ⟨rfl, _⟩ | ⟨g, cur, hp, hg, _⟩
  · exact NewP.none _
  · intro a ha; rw [hp] at ha; cases ha; exact hg

theorem Own.lt {lo : Nat} {e : TypeId} {sz : Nat} {H : Heap} {s : Sl} {xs : List Value} (h : Own lo e sz H s xs) : ∀ a, s.p = some a → a.block < H.size := by
  intro a ha
  rcases h.cases.2 with ⟨rfl, _⟩ | ⟨g, cur, hp, _, hb, _⟩
  · cases ha
  · rw [hp] at ha; cases ha; exact get_lt hb

theorem Own.isS {α : Type} {enc : α → List Value} {sz lo : Nat} {e : TypeId} {H : Heap} {s : Sl} {l : List α} (he : ∀ x, (enc x).length = sz) (hsz : 0 < sz) (h : Own lo e sz H s (l.flatMap enc)) : IsS sz enc H s l := by
  obtain ⟨hlen, hc⟩ := h.cases
  have hfl : (l.flatMap enc).length = l.length * sz := by
    clear hlen hc h
    induction l with
    | nil => simp
    | cons x l ih => rw [List.flatMap_cons, List.length_append, he, ih, List.length_cons, Nat.succ_mul]; omega
  have hn : s.n = l.length := by
    rw [hfl] at hlen
    exact (Nat.eq_of_mul_eq_mul_right hsz hlen).symm
  rcases hc with ⟨rfl, hx⟩ | ⟨g, cur, hp, _, hb, _, hsz', htake⟩
  · refine ⟨hn, .inl ?_⟩
    exact List.eq_nil_of_length_eq_zero hn.symm
  · refine ⟨hn, .inr ⟨_, hp, fun i x hi j v hv => ?_⟩⟩
    rw [add_mk, add_mk, rd_mk hb]
    have := flat_get he l i x hi j v hv
    rw [← htake, List.getElem?_take] at this
    split at this
    · simpa using this
    · cases this

/-- 'append' to a slice of one's own. -/
theorem append_own {P : Program} {t ty e : TypeId} {i : TypeInfo} {z : Value} {sz bytes lo : Nat} {H : Heap} {s src : Sl} {xs news : List Value} {ad : Addr}
    (ht : P.underlying t = some (.slice e)) (hi : P.info? e = some i) (hz : i.zero = some z) (hsize : i.size = sz) (hby : i.bytes = bytes) (hzs : z.cells.size = sz) (hsz : 0 < sz)
    (h : Own lo e sz H s xs) (hp : src.p = some ad) (hl : news.length = src.n * sz) (hnews : ∀ j u, news[j]? = some u → rd H (ad.add j) = some u) (h1 : ∀ u ∈ news, oneC u = true)
    (h63 : s.n + src.n ≤ maxLen) (hbytes : (s.n + src.n) * bytes ≤ 140737488355328) (hlo : lo ≤ H.size) {K : Value → Heap → Prop}
    (hK : ∀ (s' : Sl) (H' : Heap), Own lo e sz H' s' (xs ++ news) → s'.n = s.n + src.n → (H.size ≤ H'.size ∧ ∀ k, k < H.size → (∀ a, s.p = some a → a.block ≠ k) → H'[k]? = H[k]?) → K (.slice s'.p s'.n s'.c) H') :
    runH P (Builtin.append_ #[t, t] ty #[.slice s.p s.n s.c, .slice src.p src.n src.c]) H K := by
  intro w hw
  subst hw
  have hown : w.ownsRow lo e sz (.slice s.p s.n s.c) s.n xs := h
  have h1' : ∀ u ∈ news, u.oneCell' = true := by
    intro u hu
    have := h1 u hu
    cases u <;> simp_all [oneC, Value.oneCell']
  obtain ⟨v', w', hr, ho, hg, _⟩ := run_append_own (P := P) w lo t ty e i z sz bytes ht hi hz hsize hby hzs hsz _ s.n xs hown ad src.n src.c news hl hnews h1' h63 hbytes hlo
  rw [hp]
  refine ⟨v', w', hr, ⟨hg.tape, hg.os, hg.output⟩, ?_⟩
  obtain ⟨s', hv'⟩ : ∃ s' : Sl, v' = .slice s'.p s'.n s'.c := by
    rcases ho.2 with ⟨hv, _⟩ | ⟨g, cap, cur, hv, _⟩
    · exact ⟨⟨none, 0, 0⟩, hv⟩
    · exact ⟨⟨_, _, _⟩, hv⟩
  subst hv'
  have hn' : s'.n = s.n + src.n := by
    rcases ho.2 with ⟨hv, h0⟩ | ⟨g, cap, cur, hv, _⟩
    · simp only [Value.slice.injEq] at hv
      omega
    · simp only [Value.slice.injEq] at hv
      exact hv.2.1
  refine hK s' w'.heap ?_ hn' ⟨hg.size, fun k hk hne => hg.block k hk ?_⟩
  · have ho2 : (wOf w'.heap).ownsRow lo e sz (.slice s'.p s'.n s'.c) (s.n + src.n) (xs ++ news) := ho
    rw [← hn'] at ho2
    exact ho2
  · intro e2
    cases hp2 : s.p with
    | none => rw [hp2] at e2; simp [Value.ownBlock] at e2
    | some a => rw [hp2] at e2; simp [Value.ownBlock] at e2; exact hne a hp2 e2.symm

theorem add_add' (a : Addr) (m n : Nat) : (a.add m).add n = a.add (m + n) := by
  unfold Addr.add
  by_cases h1 : m = 0
  · subst h1; simp
  · by_cases h2 : n = 0
    · subst h2; simp
    · have : m + n ≠ 0 := by omega
      simp [h1, h2, Nat.add_assoc]

theorem flat_inv {α : Type} {sz : Nat} {enc : α → List Value} (he : ∀ x, (enc x).length = sz) : ∀ (l : List α) (q : Nat) (v : Value), (l.flatMap enc)[q]? = some v →
    ∃ i x j, q = i * sz + j ∧ l[i]? = some x ∧ (enc x)[j]? = some v := by
  intro l
  induction l with
  | nil => intro q v h; simp at h
  | cons y l ih =>
    intro q v h
    rw [List.flatMap_cons] at h
    by_cases hq : q < (enc y).length
    · rw [List.getElem?_append_left hq] at h
      exact ⟨0, y, q, by simp, by simp, h⟩
    · rw [List.getElem?_append_right (by omega)] at h
      obtain ⟨i, x, j, h1, h2, h3⟩ := ih _ v h
      refine ⟨i + 1, x, j, ?_, by simpa using h2, h3⟩
      rw [he] at h1 hq
      rw [Nat.succ_mul]
      omega

theorem flat_len {α : Type} {sz : Nat} {enc : α → List Value} (he : ∀ x, (enc x).length = sz) (l : List α) : (l.flatMap enc).length = l.length * sz := by
  induction l with
  | nil => simp
  | cons x l ih => rw [List.flatMap_cons, List.length_append, he, ih, List.length_cons, Nat.succ_mul]; omega

theorem IsS.flat {α : Type} {sz : Nat} {enc : α → List Value} {H : Heap} {s : Sl} {l : List α} (he : ∀ x, (enc x).length = sz) (h : IsS sz enc H s l) {a : Addr} (hp : s.p = some a) :
    ∀ j u, (l.flatMap enc)[j]? = some u → rd H (a.add j) = some u := by
  intro q u hu
  obtain ⟨i, x, j, rfl, h2, h3⟩ := flat_inv he l q u hu
  obtain ⟨a', hp', hr⟩ := h.get h2
  rw [hp] at hp'
  cases hp'
  rw [← add_add']
  exact hr j u h3

theorem info_ex {P : Program} {t : TypeId} {z : Value} {sz bytes : Nat} (h : (P.info? t).map (fun i => (i.zero, i.size, i.bytes)) = some (some z, sz, bytes)) :
    ∃ i, P.info? t = some i ∧ i.zero = some z ∧ i.size = sz ∧ i.bytes = bytes := by
  cases hi : P.info? t with
  | none => rw [hi] at h; cases h
  | some i =>
    rw [hi] at h
    simp only [Option.map_some, Option.some.injEq, Prod.mk.injEq] at h
    exact ⟨i, rfl, h⟩

/-- slices.Clone -/
theorem clone_vc {α : Type} {P : Program} {st e : TypeId} {z : Value} {sz bytes : Nat} {enc : α → List Value} {H : Heap} {s : Sl} {l : List α} {R : Value → Heap → Prop}
    (ht : P.underlying st = some (.slice e)) (hi : (P.info? e).map (fun i => (i.zero, i.size, i.bytes)) = some (some z, sz, bytes)) (hzs : z.cells.size = sz) (hsz : 0 < sz) (he : ∀ x, (enc x).length = sz)
    (hone : ∀ x, ∀ u ∈ enc x, oneC u = true) (h : IsS sz enc H s l) (hn : s.n ≤ maxLen) (hb : s.n * bytes ≤ 140737488355328)
    (hR : ∀ (s' : Sl) (H' : Heap), Own H.size e sz H' s' (l.flatMap enc) → IsS sz enc H' s' l → Ext H H' → R (.slice s'.p s'.n s'.c) H') :
    iteB s.p.isNone (R (.slice none 0 0) H) (letH (H.push (.cells #[] e (0, 0))) (fun H1 =>
      runH P (Builtin.append_ #[st, st] st #[.slice (some (⟨H.size, 0, none⟩ : Addr)) 0 0, .slice s.p s.n s.c]) H1 (fun v H2 => ∃ x : Sl, v = .slice x.p x.n x.c ∧ R (.slice x.p x.n x.c) H2))) := by
  obtain ⟨i, hi1, hi2, hi3, hi4⟩ := info_ex hi
  refine iteB_intro (fun c => ?_) (fun c => letH_mk ?_)
  · have hp : s.p = none := by simpa using c
    have hl : l = [] := by
      rcases h.row with hl | ⟨a, ha, _⟩
      · exact hl
      · rw [hp] at ha; cases ha
    subst hl
    exact hR ⟨none, 0, 0⟩ H (Own.nil _ _ _ _) (IsS.nil _ _ _) (.refl _)
  · rintro H1 rfl
    obtain ⟨a, hp⟩ : ∃ a, s.p = some a := by
      cases hp : s.p with
      | none => rw [hp] at c; cases c
      | some a => exact ⟨a, rfl⟩
    have he1 := Ext.push H (.cells #[] e (0, 0))
    have h1 := h.ext he1
    refine append_own (s := ⟨some ⟨H.size, 0, none⟩, 0, 0⟩) (src := s) (xs := []) (news := l.flatMap enc) (ad := a) ht hi1 hi2 hi3 hi4 hzs hsz ?_ hp (by rw [flat_len he, h.len]) (h1.flat he hp)
      (fun u hu => ?_) (by simpa using hn) (by simpa using hb) (lo := H.size) (by simp) ?_
    · refine ⟨by simp, .inr ⟨H.size, 0, #[], rfl, Nat.le_refl _, push_new _ _, Nat.le_refl _, by simp [maxLen], by simp, by simp⟩⟩
    · obtain ⟨x, _, hx⟩ := List.mem_flatMap.1 hu
      exact hone x u hx
    · intro s' H' ho hn' hg
      rw [List.nil_append] at ho
      refine ⟨s', rfl, hR s' H' ho (ho.isS he hsz) ⟨?_, fun k hk => ?_⟩⟩
      · have := hg.1; simp at this; omega
      · rw [hg.2 k (by simp; omega) (fun a' ha' => by cases ha'; simp; omega), push_lt hk]

/-! ### blocks of rows -/

theorem set_mid {A B C : List Value} {j : Nat} {v : Value} (hj : j < B.length) : (A ++ B ++ C).set (A.length + j) v = A ++ B.set j v ++ C := by
  rw [List.append_assoc, List.set_append_right _ _ (by omega), List.append_assoc]
  congr 1
  rw [show A.length + j - A.length = j by omega, List.set_append_left _ _ hj]

theorem spl_mid (A C : List Value) : ∀ (ws B : List Value), ws.length = B.length → spl (A ++ B ++ C) A.length ws = A ++ ws ++ C := by
  intro ws
  induction ws generalizing A with
  | nil =>
    intro B hB
    have : B = [] := List.eq_nil_of_length_eq_zero (by simpa using hB.symm)
    subst this
    rfl
  | cons w ws ih =>
    intro B hB
    cases B with
    | nil => simp at hB
    | cons x B =>
      have h1 := set_mid (A := A) (B := x :: B) (C := C) (j := 0) (v := w) (by simp)
      simp only [Nat.add_zero, List.set_cons_zero] at h1
      simp only [spl]
      rw [h1]
      have h2 := ih (A ++ [w]) B (by simpa using hB)
      simp only [List.append_assoc, List.cons_append, List.nil_append, List.length_append, List.length_cons, List.length_nil, Nat.zero_add] at h2 ⊢
      exact h2

section
variable {α : Type} {sz : Nat} {enc : α → List Value} {H H' : Heap} {b : Nat} {e : TypeId} {l : List α}

/-- A block whose rows read as 'l'. -/
def RB (H : Heap) (b : Nat) (e : TypeId) (sz : Nat) (enc : α → List Value) (l : List α) : Prop := (∀ x, (enc x).length = sz) ∧ ∃ extra, Blk H b e (l.flatMap enc ++ extra)

theorem RB.lt (h : RB H b e sz enc l) : b < H.size := by obtain ⟨_, x, h⟩ := h; exact h.lt
theorem RB.ext (h : RB H b e sz enc l) (he : Ext H H') : RB H' b e sz enc l := by obtain ⟨g, x, h⟩ := h; exact ⟨g, x, h.ext he⟩
theorem RB.mods {S : List Nat} (h : RB H b e sz enc l) (he : Mods S H H') (hb : b ∉ S) : RB H' b e sz enc l := by obtain ⟨g, x, h⟩ := h; exact ⟨g, x, h.mods he hb⟩

theorem flat_split {i : Nat} {x : α} (hi : l[i]? = some x) : l.flatMap enc = (l.take i).flatMap enc ++ enc x ++ (l.drop (i + 1)).flatMap enc := by
  obtain ⟨hlt, rfl⟩ := List.getElem?_eq_some_iff.1 hi
  have e : l = l.take i ++ l[i] :: l.drop (i + 1) := by rw [← List.drop_eq_getElem_cons hlt, List.take_append_drop]
  have e2 := congrArg (List.flatMap enc) e
  rw [List.flatMap_append, List.flatMap_cons] at e2
  rw [List.append_assoc]
  exact e2

theorem flat_split_set {i : Nat} {y : α} (hi : i < l.length) : (l.set i y).flatMap enc = (l.take i).flatMap enc ++ enc y ++ (l.drop (i + 1)).flatMap enc := by
  rw [List.set_eq_take_append_cons_drop, if_pos hi]
  simp

theorem flat_take_len (he : ∀ x, (enc x).length = sz) {i : Nat} (hi : i < l.length) : ((l.take i).flatMap enc).length = i * sz := by
  rw [flat_len he]
  simp
  rw [Nat.min_eq_left (by omega)]

theorem RB.rd (h : RB H b e sz enc l) {i j : Nat} {x : α} {v : Value} (hi : l[i]? = some x) (hj : (enc x)[j]? = some v) : Eng.rd H (((⟨b, 0, none⟩ : Addr).add (i * sz)).add j) = some v := by
  obtain ⟨g, ex, h⟩ := h
  rw [add_add]
  refine h.rd ?_
  have := flat_get g l i x hi j v hj
  have hl : i * sz + j < (l.flatMap enc).length := (List.getElem?_eq_some_iff.1 this).1
  rw [List.getElem?_append_left hl]
  exact this

theorem RB.rd0 (h : RB H b e sz enc l) {i : Nat} {x : α} {v : Value} (hi : l[i]? = some x) (hj : (enc x)[0]? = some v) : Eng.rd H ((⟨b, 0, none⟩ : Addr).add (i * sz)) = some v := by
  have := h.rd hi hj
  rw [add_add] at this
  exact this

theorem RB.ok (h : RB H b e sz enc l) {i j m : Nat} (hi : i < l.length) (hj : j + m ≤ sz) : okRow H (((⟨b, 0, none⟩ : Addr).add (i * sz)).add j) m := by
  obtain ⟨g, ex, h⟩ := h
  rw [add_add]
  refine h.ok ?_
  have h1 : (i + 1) * sz ≤ l.length * sz := Nat.mul_le_mul_right _ hi
  rw [Nat.add_mul] at h1
  rw [List.length_append, flat_len g]
  omega

theorem RB.ok0 (h : RB H b e sz enc l) {i m : Nat} (hi : i < l.length) (hj : m ≤ sz) : okRow H ((⟨b, 0, none⟩ : Addr).add (i * sz)) m := by
  have := h.ok (j := 0) (m := m) hi (by omega)
  rw [add_add] at this
  exact this

theorem RB.wr (h : RB H b e sz enc l) {i j : Nat} {x y : α} {v : Value} (hi : l[i]? = some x) (hj : j < sz) (hy : (enc x).set j v = enc y) :
    RB (wrs H (((⟨b, 0, none⟩ : Addr).add (i * sz)).add j) [v]) b e sz enc (l.set i y) := by
  obtain ⟨g, ex, h⟩ := h
  have hlt := (List.getElem?_eq_some_iff.1 hi).1
  refine ⟨g, ex, ?_⟩
  rw [add_add]
  have h2 := h.wr1 (i := i * sz + j) (w := v)
  have e1 : (l.flatMap enc ++ ex).set (i * sz + j) v = (l.set i y).flatMap enc ++ ex := by
    rw [flat_split (enc := enc) hi, flat_split_set hlt, List.append_assoc _ _ ex, List.append_assoc _ _ ex, ← flat_take_len g hlt, set_mid (by rw [g]; exact hj), hy]
  rw [e1] at h2
  exact h2

theorem RB.wr0 (h : RB H b e sz enc l) {i : Nat} {x y : α} {v : Value} (hi : l[i]? = some x) (hj : 0 < sz) (hy : (enc x).set 0 v = enc y) :
    RB (wrs H ((⟨b, 0, none⟩ : Addr).add (i * sz)) [v]) b e sz enc (l.set i y) := by
  have := h.wr (j := 0) hi hj hy
  rw [add_add] at this
  exact this

theorem RB.wrRow (h : RB H b e sz enc l) {i : Nat} (y : α) (hi : i < l.length) : RB (wrs H ((⟨b, 0, none⟩ : Addr).add (i * sz)) (enc y)) b e sz enc (l.set i y) := by
  obtain ⟨g, ex, h⟩ := h
  refine ⟨g, ex, ?_⟩
  have hx : l[i]? = some l[i] := by simp [hi]
  rw [add_mk]
  have h2 := h.wr (o := 0 + i * sz) (ws := enc y)
  have e1 : spl (l.flatMap enc ++ ex) (0 + i * sz) (enc y) = (l.set i y).flatMap enc ++ ex := by
    rw [flat_split (enc := enc) hx, flat_split_set hi, List.append_assoc _ _ ex, List.append_assoc _ _ ex, Nat.zero_add, ← flat_take_len g hi, spl_mid _ _ _ _ (by rw [g, g])]
  rw [e1] at h2
  exact h2

theorem RB.isS (h : RB H b e sz enc l) (n c : Nat) (hn : n = l.length) : IsS sz enc H ⟨some ⟨b, 0, none⟩, n, c⟩ l :=
  ⟨hn, .inr ⟨_, rfl, fun _ _ hi _ _ hj => h.rd hi hj⟩⟩

theorem RB.zero (H : Heap) (e : TypeId) (he : ∀ x, (enc x).length = sz) (n : Nat) (z : Value) (x : α) (hz : z.cells.toList = enc x) :
    RB (H.push (.cells (zeroRow z n) e (0, 0))) H.size e sz enc (List.replicate n x) := by
  refine ⟨he, [], ?_⟩
  have : zeroRow z n = ((List.replicate n x).flatMap enc ++ []).toArray := by
    rw [List.append_nil]
    apply Array.toList_inj.1
    have hs : z.cells.size = sz := by rw [← he x, ← hz]; simp
    unfold zeroRow
    rw [hs]
    simp only [Array.toList_map, Array.toList_range]
    refine List.ext_getElem? (fun q => ?_)
    have hlen := flat_len he (List.replicate n x)
    rw [List.length_replicate] at hlen
    by_cases hq : q < n * sz
    · have hsz : 0 < sz := by
        rcases Nat.eq_zero_or_pos sz with h0 | h0
        · rw [h0] at hq; omega
        · exact h0
      have hm : q % sz < sz := Nat.mod_lt _ hsz
      have hd : q / sz < n := by
        rw [Nat.div_lt_iff_lt_mul hsz]
        exact hq
      have hv : (enc x)[q % sz]? = some z.cells[q % sz]! := by
        rw [← hz]
        simp [hs, hm]
      have h2 := flat_get he (List.replicate n x) (q / sz) x (by simp [hd]) (q % sz) _ hv
      rw [Nat.mul_comm, Nat.div_add_mod] at h2
      rw [h2]
      simp [hq]
    · rw [List.getElem?_eq_none (by simpa using hq), List.getElem?_eq_none (by omega)]
  rw [this]
  exact Blk.new _ _ _

end

def blkOf : Option Addr → List Nat
  | none => []
  | some a => [a.block]

/-- 'append' of one row to a slice of one's own. -/
theorem append_row {α : Type} {P : Program} {st e : TypeId} {z : Value} {sz bytes lo : Nat} {enc : α → List Value} {H : Heap} {s : Sl} {l : List α} (x : α) {K : Sl → Heap → Prop}
    (ht : P.underlying st = some (.slice e)) (hi : (P.info? e).map (fun i => (i.zero, i.size, i.bytes)) = some (some z, sz, bytes)) (hzs : z.cells.size = sz) (hsz : 0 < sz) (he : ∀ x, (enc x).length = sz)
    (hone : ∀ x, ∀ u ∈ enc x, oneC u = true) (h : Own lo e sz H s (l.flatMap enc)) (hn : s.n + 1 ≤ maxLen) (hb : (s.n + 1) * bytes ≤ 140737488355328) (hlo : lo ≤ H.size)
    (hK : ∀ (s' : Sl) (H' : Heap), Own lo e sz H' s' ((l ++ [x]).flatMap enc) → s'.n = s.n + 1 → Mods (blkOf s.p) H H' → K s' H') :
    letH (H.push (.cells (enc x).toArray e (0, 0))) (fun H1 => runH P (Builtin.append_ #[st, st] st #[.slice s.p s.n s.c, .slice (some (⟨H.size, 0, none⟩ : Addr)) 1 1]) H1 (fun v H2 => ∃ y : Sl, v = .slice y.p y.n y.c ∧ K y H2)) := by
  obtain ⟨i, hi1, hi2, hi3, hi4⟩ := info_ex hi
  refine letH_mk ?_
  rintro H1 rfl
  have hnew : Blk (H.push (.cells (enc x).toArray e (0, 0))) H.size e (enc x) := Blk.new _ _ _
  refine append_own (src := ⟨some ⟨H.size, 0, none⟩, 1, 1⟩) (news := enc x) ht hi1 hi2 hi3 hi4 hzs hsz (h.ext (Ext.push _ _)) rfl (by simp [he]) (fun j u hu => hnew.rd hu) (hone x) hn hb (by simp; omega) ?_
  intro s' H' ho hn' hg
  refine ⟨s', rfl, hK s' H' ?_ hn' ⟨?_, fun k hk hkn => ?_⟩⟩
  · simpa using ho
  · have := hg.1; simp at this; omega
  · rw [hg.2 k (by simp; omega) (fun a ha e => hkn (by rw [ha]; simp [blkOf, e])), push_lt hk]

theorem append_rowE {α : Type} {P : Program} {st e : TypeId} {z : Value} {sz bytes lo : Nat} {enc : α → List Value} {H : Heap} {s : Sl} {l : List α} (x : α) {K : Sl → Heap → Prop}
    (ht : P.underlying st = some (.slice e)) (hi : (P.info? e).map (fun i => (i.zero, i.size, i.bytes)) = some (some z, sz, bytes)) (hzs : z.cells.size = sz) (hsz : 0 < sz) (he : ∀ x, (enc x).length = sz)
    (hone : ∀ x, ∀ u ∈ enc x, oneC u = true) (h : Own lo e sz H s (l.flatMap enc)) (hn : s.n + 1 ≤ maxLen) (hb : (s.n + 1) * bytes ≤ 140737488355328) (hlo : lo ≤ H.size)
    (hK : ∀ (s' : Sl) (H' : Heap), Own lo e sz H' s' ((l ++ [x]).flatMap enc) → s'.n = s.n + 1 → Mods (blkOf s.p) H H' → K s' H') :
    letH (H.push (.cells (enc x).toArray e (0, 0))) (fun H1 => Ext H H1 ∧ runH P (Builtin.append_ #[st, st] st #[.slice s.p s.n s.c, .slice (some (⟨H.size, 0, none⟩ : Addr)) 1 1]) H1 (fun v H2 => ∃ y : Sl, v = .slice y.p y.n y.c ∧ K y H2)) :=
  ⟨Ext.push _ _, append_row x ht hi hzs hsz he hone h hn hb hlo hK⟩

end Go.Eng
end

section
/-
  The engine, part 6: loops that count, elements at a natural index, whole numbers.
-/
namespace Go.Eng

theorem IsS.atN {α : Type} {sz : Nat} {enc : α → List Value} {H : Heap} {s : Sl} {l : List α} (h : IsS sz enc H s l) (d : α) {k : Nat} (hk : k < l.length) :
    ∃ a, s.p = some a ∧ ∀ j v, (enc (l.getD k d))[j]? = some v → rd H ((a.add ((k : Int).toNat * sz)).add j) = some v := by
  obtain ⟨a, hp, hr⟩ := h.get (i := k) (x := l.getD k d) (by simp [hk])
  exact ⟨a, hp, by simpa using hr⟩

theorem Ints.atN {k : IntKind} {H : Heap} {s : Sl} {l : List Int} (h : Ints k H s l) {i : Nat} (hi : i < l.length) :
    ∃ a, s.p = some a ∧ rd H (a.add ((i : Int).toNat * 1)) = some (.int k (l.getD i 0)) := by
  obtain ⟨a, hp, hr⟩ := IsS.atN h 0 hi
  exact ⟨a, hp, hr 0 _ rfl⟩

theorem i64_succ {k : Nat} (h : k < 9223372036854775807) : IntKind.i64.wrap ((k : Int) + 1) = ((k + 1 : Nat) : Int) := by
  rw [i64_in (by omega)]; simp

/-- 'I' of a counting loop. -/
def CI (n : Nat) (Inv : Nat → Heap → Prop) (x : Int) (H : Heap) : Prop := ∃ k : Nat, x = k ∧ k ≤ n ∧ Inv k H
def CI2 {α : Type} (n : Nat) (Inv : Nat → α → Heap → Prop) (s : α) (x : Int) (H : Heap) : Prop := ∃ k : Nat, x = k ∧ k ≤ n ∧ Inv k s H
def CI2' {α : Type} (n : Nat) (Inv : Nat → α → Heap → Prop) (x : Int) (s : α) (H : Heap) : Prop := ∃ k : Nat, x = k ∧ k ≤ n ∧ Inv k s H
def CI3 {α β : Type} (n : Nat) (Inv : Nat → α → β → Heap → Prop) (s : α) (t : β) (x : Int) (H : Heap) : Prop := ∃ k : Nat, x = k ∧ k ≤ n ∧ Inv k s t H
def CI3' {α β : Type} (n : Nat) (Inv : Nat → α → β → Heap → Prop) (s : α) (x : Int) (t : β) (H : Heap) : Prop := ∃ k : Nat, x = k ∧ k ≤ n ∧ Inv k s t H
def CI4 {α β γ : Type} (n : Nat) (Inv : Nat → α → β → γ → Heap → Prop) (s : α) (t : β) (u : γ) (x : Int) (H : Heap) : Prop := ∃ k : Nat, x = k ∧ k ≤ n ∧ Inv k s t u H
def CM (n : Nat) (x : Int) (_ : Heap) : Nat := n - x.toNat
def CM2 {α : Type} (n : Nat) (_ : α) (x : Int) (_ : Heap) : Nat := n - x.toNat
def CM2' {α : Type} (n : Nat) (x : Int) (_ : α) (_ : Heap) : Nat := n - x.toNat
def CM3 {α β : Type} (n : Nat) (_ : α) (_ : β) (x : Int) (_ : Heap) : Nat := n - x.toNat
def CM3' {α β : Type} (n : Nat) (_ : α) (x : Int) (_ : β) (_ : Heap) : Nat := n - x.toNat
def CM4 {α β γ : Type} (n : Nat) (_ : α) (_ : β) (_ : γ) (x : Int) (_ : Heap) : Nat := n - x.toNat

section
variable {α β γ : Type} {H : Heap}

theorem loop1 {Rd : (Int → Heap → Prop) → (Int → Heap → Nat) → Int → Heap → Prop} (n : Nat) (Inv : Nat → Heap → Prop) (h0 : Inv 0 H)
    (hr : ∀ (k : Nat) (H' : Heap), k ≤ n → Inv k H' → Rd (CI n Inv) (CM n) k H') : ∃ I : Int → Heap → Prop, ∃ M : Int → Heap → Nat, I 0 H ∧ (∀ x : Int, ∀ H' : Heap, I x H' → Rd I M x H') :=
  ⟨CI n Inv, CM n, ⟨0, rfl, Nat.zero_le _, h0⟩, by rintro x H' ⟨k, rfl, hk, hi⟩; exact hr k H' hk hi⟩

theorem loop2 {Rd : (α → Int → Heap → Prop) → (α → Int → Heap → Nat) → α → Int → Heap → Prop} {s0 : α} (n : Nat) (Inv : Nat → α → Heap → Prop) (h0 : Inv 0 s0 H)
    (hr : ∀ (k : Nat) (s : α) (H' : Heap), k ≤ n → Inv k s H' → Rd (CI2 n Inv) (CM2 n) s k H') : ∃ I : α → Int → Heap → Prop, ∃ M : α → Int → Heap → Nat, I s0 0 H ∧ (∀ s : α, ∀ x : Int, ∀ H' : Heap, I s x H' → Rd I M s x H') :=
  ⟨CI2 n Inv, CM2 n, ⟨0, rfl, Nat.zero_le _, h0⟩, by rintro s x H' ⟨k, rfl, hk, hi⟩; exact hr k s H' hk hi⟩

theorem loop2' {Rd : (Int → α → Heap → Prop) → (Int → α → Heap → Nat) → Int → α → Heap → Prop} {s0 : α} (n : Nat) (Inv : Nat → α → Heap → Prop) (h0 : Inv 0 s0 H)
    (hr : ∀ (k : Nat) (s : α) (H' : Heap), k ≤ n → Inv k s H' → Rd (CI2' n Inv) (CM2' n) k s H') : ∃ I : Int → α → Heap → Prop, ∃ M : Int → α → Heap → Nat, I 0 s0 H ∧ (∀ x : Int, ∀ s : α, ∀ H' : Heap, I x s H' → Rd I M x s H') :=
  ⟨CI2' n Inv, CM2' n, ⟨0, rfl, Nat.zero_le _, h0⟩, by rintro x s H' ⟨k, rfl, hk, hi⟩; exact hr k s H' hk hi⟩

theorem loop3 {Rd : (α → β → Int → Heap → Prop) → (α → β → Int → Heap → Nat) → α → β → Int → Heap → Prop} {s0 : α} {t0 : β} (n : Nat) (Inv : Nat → α → β → Heap → Prop) (h0 : Inv 0 s0 t0 H)
    (hr : ∀ (k : Nat) (s : α) (t : β) (H' : Heap), k ≤ n → Inv k s t H' → Rd (CI3 n Inv) (CM3 n) s t k H') : ∃ I : α → β → Int → Heap → Prop, ∃ M : α → β → Int → Heap → Nat, I s0 t0 0 H ∧ (∀ s : α, ∀ t : β, ∀ x : Int, ∀ H' : Heap, I s t x H' → Rd I M s t x H') :=
  ⟨CI3 n Inv, CM3 n, ⟨0, rfl, Nat.zero_le _, h0⟩, by rintro s t x H' ⟨k, rfl, hk, hi⟩; exact hr k s t H' hk hi⟩

theorem loop3' {Rd : (α → Int → β → Heap → Prop) → (α → Int → β → Heap → Nat) → α → Int → β → Heap → Prop} {s0 : α} {t0 : β} (n : Nat) (Inv : Nat → α → β → Heap → Prop) (h0 : Inv 0 s0 t0 H)
    (hr : ∀ (k : Nat) (s : α) (t : β) (H' : Heap), k ≤ n → Inv k s t H' → Rd (CI3' n Inv) (CM3' n) s k t H') : ∃ I : α → Int → β → Heap → Prop, ∃ M : α → Int → β → Heap → Nat, I s0 0 t0 H ∧ (∀ s : α, ∀ x : Int, ∀ t : β, ∀ H' : Heap, I s x t H' → Rd I M s x t H') :=
  ⟨CI3' n Inv, CM3' n, ⟨0, rfl, Nat.zero_le _, h0⟩, by rintro s x t H' ⟨k, rfl, hk, hi⟩; exact hr k s t H' hk hi⟩

theorem loop4 {Rd : (α → β → γ → Int → Heap → Prop) → (α → β → γ → Int → Heap → Nat) → α → β → γ → Int → Heap → Prop} {s0 : α} {t0 : β} {u0 : γ} (n : Nat) (Inv : Nat → α → β → γ → Heap → Prop) (h0 : Inv 0 s0 t0 u0 H)
    (hr : ∀ (k : Nat) (s : α) (t : β) (u : γ) (H' : Heap), k ≤ n → Inv k s t u H' → Rd (CI4 n Inv) (CM4 n) s t u k H') : ∃ I : α → β → γ → Int → Heap → Prop, ∃ M : α → β → γ → Int → Heap → Nat, I s0 t0 u0 0 H ∧ (∀ s : α, ∀ t : β, ∀ u : γ, ∀ x : Int, ∀ H' : Heap, I s t u x H' → Rd I M s t u x H') :=
  ⟨CI4 n Inv, CM4 n, ⟨0, rfl, Nat.zero_le _, h0⟩, by rintro s t u x H' ⟨k, rfl, hk, hi⟩; exact hr k s t u H' hk hi⟩

variable {n k : Nat} {H' H'' : Heap}

theorem ci_lt (hk : k < n) : n - (((k + 1 : Nat) : Int)).toNat < n - ((k : Nat) : Int).toNat := by simp only [Int.toNat_natCast]; omega

theorem next1 {Inv : Nat → Heap → Prop} (hk : k < n) (hn : n ≤ 9223372036854775807) (h : Inv (k + 1) H') :
    CI n Inv (IntKind.i64.wrap ((k : Int) + 1)) H' ∧ CM n (IntKind.i64.wrap ((k : Int) + 1)) H' < CM n (k : Int) H'' := by
  rw [i64_succ (by omega)]; exact ⟨⟨k + 1, rfl, by omega, h⟩, ci_lt hk⟩
theorem next2 {Inv : Nat → α → Heap → Prop} {s s' : α} (hk : k < n) (hn : n ≤ 9223372036854775807) (h : Inv (k + 1) s' H') :
    CI2 n Inv s' (IntKind.i64.wrap ((k : Int) + 1)) H' ∧ CM2 n s' (IntKind.i64.wrap ((k : Int) + 1)) H' < CM2 n s (k : Int) H'' := by
  rw [i64_succ (by omega)]; exact ⟨⟨k + 1, rfl, by omega, h⟩, ci_lt hk⟩
theorem next2' {Inv : Nat → α → Heap → Prop} {s s' : α} (hk : k < n) (hn : n ≤ 9223372036854775807) (h : Inv (k + 1) s' H') :
    CI2' n Inv (IntKind.i64.wrap ((k : Int) + 1)) s' H' ∧ CM2' n (IntKind.i64.wrap ((k : Int) + 1)) s' H' < CM2' n (k : Int) s H'' := by
  rw [i64_succ (by omega)]; exact ⟨⟨k + 1, rfl, by omega, h⟩, ci_lt hk⟩
theorem next3 {Inv : Nat → α → β → Heap → Prop} {s s' : α} {t t' : β} (hk : k < n) (hn : n ≤ 9223372036854775807) (h : Inv (k + 1) s' t' H') :
    CI3 n Inv s' t' (IntKind.i64.wrap ((k : Int) + 1)) H' ∧ CM3 n s' t' (IntKind.i64.wrap ((k : Int) + 1)) H' < CM3 n s t (k : Int) H'' := by
  rw [i64_succ (by omega)]; exact ⟨⟨k + 1, rfl, by omega, h⟩, ci_lt hk⟩
theorem next3' {Inv : Nat → α → β → Heap → Prop} {s s' : α} {t t' : β} (hk : k < n) (hn : n ≤ 9223372036854775807) (h : Inv (k + 1) s' t' H') :
    CI3' n Inv s' (IntKind.i64.wrap ((k : Int) + 1)) t' H' ∧ CM3' n s' (IntKind.i64.wrap ((k : Int) + 1)) t' H' < CM3' n s (k : Int) t H'' := by
  rw [i64_succ (by omega)]; exact ⟨⟨k + 1, rfl, by omega, h⟩, ci_lt hk⟩
theorem next4 {Inv : Nat → α → β → γ → Heap → Prop} {s s' : α} {t t' : β} {u u' : γ} (hk : k < n) (hn : n ≤ 9223372036854775807) (h : Inv (k + 1) s' t' u' H') :
    CI4 n Inv s' t' u' (IntKind.i64.wrap ((k : Int) + 1)) H' ∧ CM4 n s' t' u' (IntKind.i64.wrap ((k : Int) + 1)) H' < CM4 n s t u (k : Int) H'' := by
  rw [i64_succ (by omega)]; exact ⟨⟨k + 1, rfl, by omega, h⟩, ci_lt hk⟩

end

/-- A local of a struct's kind, as one block. -/
theorem push_mk {e : TypeId} {vs : List Value} {K : Heap → Prop} {H : Heap} (h : ∀ H', Ext H H' → H'.size = H.size + 1 → Blk H' H.size e vs → K H') :
    letH (H.push (.cells vs.toArray e (0, 0))) K :=
  letH_mk (by rintro H1 rfl; exact h _ (Ext.push _ _) (by simp) (Blk.new _ _ _))

theorem iteB_lt {x y : Int} {A B : Prop} (h1 : x < y → A) (h2 : ¬ x < y → B) : iteB (decide (x < y)) A B :=
  iteB_intro (fun c => h1 (by simpa using c)) (fun c => h2 (by simpa using c))
theorem iteB_dec {p : Prop} [Decidable p] {A B : Prop} (h1 : p → A) (h2 : ¬ p → B) : iteB (decide p) A B :=
  iteB_intro (fun c => h1 (by simpa using c)) (fun c => h2 (by simpa using c))
theorem iteB_beq {x y : Int} {A B : Prop} (h1 : x = y → A) (h2 : x ≠ y → B) : iteB (x == y) A B :=
  iteB_intro (fun c => h1 (by simpa using c)) (fun c => h2 (by simpa using c))
theorem iteB_bne {x y : Int} {A B : Prop} (h1 : x ≠ y → A) (h2 : x = y → B) : iteB (x != y) A B :=
  iteB_intro (fun c => h1 (by simpa using c)) (fun c => h2 (by simpa using c))
theorem iteB_not {b : Bool} {A B : Prop} (h1 : b = false → A) (h2 : b = true → B) : iteB (!b) A B :=
  iteB_intro (fun c => h1 (by simpa using c)) (fun c => h2 (by simpa using c))

/-- A slice of one's own, as a block of rows. -/
theorem Own.rb {α : Type} {enc : α → List Value} {sz lo : Nat} {e : TypeId} {H : Heap} {s : Sl} {l : List α} (he : ∀ x, (enc x).length = sz) (hsz : 0 < sz) (h : Own lo e sz H s (l.flatMap enc)) :
    s.n = l.length ∧ ((l = [] ∧ s = ⟨none, 0, 0⟩) ∨ ∃ g, s.p = some ⟨g, 0, none⟩ ∧ lo ≤ g ∧ RB H g e sz enc l) := by
  obtain ⟨h1, h2⟩ := h.cases
  have hn : s.n = l.length := by
    rw [flat_len he] at h1
    exact (Nat.eq_of_mul_eq_mul_right hsz h1).symm
  refine ⟨hn, ?_⟩
  rcases h2 with ⟨rfl, hx⟩ | ⟨g, cur, hp, hg, hb, hc, hs, ht⟩
  · exact .inl ⟨List.eq_nil_of_length_eq_zero hn.symm, rfl⟩
  · refine .inr ⟨g, hp, hg, he, cur.toList.drop (s.n * sz), ?_⟩
    unfold Blk
    rw [hb, ← ht, List.take_append_drop]

theorem Own.of_blk {lo g n : Nat} {e : TypeId} {sz : Nat} {H : Heap} {xs : List Value} (h : Blk H g e xs) (hl : xs.length = n * sz) (hg : lo ≤ g) (hn : n ≤ maxLen) : Own lo e sz H ⟨some ⟨g, 0, none⟩, n, n⟩ xs :=
  ⟨hl, .inr ⟨g, n, xs.toArray, rfl, hg, h, Nat.le_refl _, hn, by simpa using hl, by simp [← hl]⟩⟩

theorem i64_pred {k : Nat} (h : 1 ≤ k) (h2 : k ≤ 9223372036854775807) : IntKind.i64.wrap ((k : Int) - 1) = ((k - 1 : Nat) : Int) := by
  rw [i64_in (by omega)]; omega

/-! ### reading by 'simp only': the facts 'rd H a = some ..' and these -/
theorem ex_int {k : IntKind} {a : Int} {K : Int → Prop} : (∃ x : Int, some (Value.int k a) = some (Value.int k x) ∧ K x) ↔ K a := by simp
theorem ex_bool {a : Bool} {K : Bool → Prop} : (∃ x : Bool, some (Value.bool a) = some (Value.bool x) ∧ K x) ↔ K a := by simp
theorem ex_slice {p : Option Addr} {n c : Nat} {K : Sl → Prop} : (∃ x : Sl, some (Value.slice p n c) = some (Value.slice x.p x.n x.c) ∧ K x) ↔ K ⟨p, n, c⟩ := by
  constructor
  · rintro ⟨⟨p', n', c'⟩, h, hK⟩
    simp only [Option.some.injEq, Value.slice.injEq] at h
    obtain ⟨rfl, rfl, rfl⟩ := h
    exact hK
  · intro h; exact ⟨_, rfl, h⟩
theorem ex_ptr {p : Option Addr} {K : Option Addr → Prop} : (∃ x : Option Addr, some (Value.pointer p) = some (Value.pointer x) ∧ K x) ↔ K p := by simp

theorem Keeps.wrs {H : Heap} {a : Addr} {vs : List Value} {l : List (Addr × Nat)} (h : ∀ p ∈ l, p.1.block ≠ a.block) : Keeps H (wrs H a vs) l := by
  intro p hp j v _ hr
  rw [rd_congr (H := H)]
  · exact hr
  · refine wrs_ne ?_
    rw [add_block]
    exact h p hp
theorem Mods.keeps {S : List Nat} {H H' : Heap} (h : Mods S H H') {l : List (Addr × Nat)} (hn : ∀ p ∈ l, p.1.block ∉ S) : Keeps H H' l := by
  intro p hp j v _ hr
  exact h.rd hr (by rw [add_block]; exact hn p hp)

/-- Answers a truth value (a number); nothing that was there has changed. -/
def BoolP (b : Bool) (H : Heap) (v : Value) (H' : Heap) : Prop := v = .bool b ∧ Ext H H'
def NumP (k : IntKind) (n : Int) (H : Heap) (v : Value) (H' : Heap) : Prop := v = .int k n ∧ Ext H H'

theorem CallsH.mono' {P : Program} {f : FuncId} {args : Array Value} {H : Heap} {R S : Value → Heap → Prop} (h : CallsH P f args H R) (hm : ∀ v H', R v H' → S v H') : CallsH P f args H S :=
  h.mono hm

end Go.Eng
end
