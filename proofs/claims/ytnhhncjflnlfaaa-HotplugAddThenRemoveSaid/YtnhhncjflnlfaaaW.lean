/-
  The shallow readings of this seat's functions, written by a program (gen.py); the kernel holds each against the loaded program.
-/
import Derived.Test.YtnhhncjflnlfaaaProg
import Derived.Test.YtnhhncjflnlfaaaW1
namespace Go.Proofs.Ytnhhncjflnlfaaa
open Go.Eng

/-! ### 47: platformfw/pciconf.Valid -/

def F_pciconf_Valid_r1 (R : Value → Heap → Prop) (H : Heap) (x23 : Sl) (I_ : Int → Heap → Prop) (M_ : Int → Heap → Nat) (x24 : Int) (H5 : Heap) : Prop :=
  iteB (decide (x24 < (x23.n : Int))) (
  ∃ x25 : Sl, rd H5 ((⟨H.size, 0, none⟩ : Addr).add 10) = some (.slice x25.p x25.n x25.c) ∧ (
  CallsH Try.prog n_pciconf_validBar #[.slice x25.p x25.n x25.c, .int .i64 x24] H5 (fun v1 H6 =>
  ∃ x26 : Bool, v1 = .bool x26 ∧ (
  iteB (!x26) (
  R (.bool false) H6) (
  I_ (IntKind.i64.wrap (x24 + (1 : Int))) H6 ∧ M_ (IntKind.i64.wrap (x24 + (1 : Int))) H6 < M_ x24 H5))))) (
  R (.bool true) H5)

def F_pciconf_Valid_k2 (R : Value → Heap → Prop) (H : Heap) (H3 : Heap) : Prop :=
  ∃ x20 : Sl, rd H3 ((⟨H.size, 0, none⟩ : Addr).add 10) = some (.slice x20.p x20.n x20.c) ∧ (
  ∃ x21 : Bool, rd H3 ((⟨H.size, 0, none⟩ : Addr).add 4) = some (.bool x21) ∧ (
  CallsH Try.prog n_pciconf_registers #[.bool x21] H3 (fun v H4 =>
  ∃ x22 : Int, v = .int .i64 x22 ∧ (
  Keeps H3 H4 [(((⟨H.size, 0, none⟩ : Addr).add 10), 1)] ∧ (
  iteB (decide ((x20.n : Int) > x22)) (
  R (.bool false) H4) (
  ∃ x23 : Sl, rd H4 ((⟨H.size, 0, none⟩ : Addr).add 10) = some (.slice x23.p x23.n x23.c) ∧ (
  ∃ I_ : Int → Heap → Prop, ∃ M_ : Int → Heap → Nat, I_ (0 : Int) H4 ∧ (∀ x24 : Int, ∀ H5 : Heap, I_ x24 H5 → F_pciconf_Valid_r1 R H x23 I_ M_ x24 H5))))))))

def F_pciconf_Valid_k3 (R : Value → Heap → Prop) (H : Heap) (H2 : Heap) : Prop :=
  ∃ J_1 : Heap → Prop, (
  ∃ x17 : Bool, rd H2 ((⟨H.size, 0, none⟩ : Addr).add 4) = some (.bool x17) ∧ (
  iteB (!x17) (
  ∃ x18 : Bool, rd H2 ((⟨H.size, 0, none⟩ : Addr).add 5) = some (.bool x18) ∧ (
  iteB x18 (
  R (.bool false) H2) (
  ∃ x19 : Bool, rd H2 ((⟨H.size, 0, none⟩ : Addr).add 6) = some (.bool x19) ∧ (
  iteB x19 (
  R (.bool false) H2) (
  J_1 H2))))) (
  J_1 H2))) ∧ (∀ H3 : Heap, J_1 H3 → F_pciconf_Valid_k2 R H H3)

def F_pciconf_Valid (R : Value → Heap → Prop) (f_0 : Int) (f_1 : Int) (f_2 : Int) (f_3 : Int) (f_4 : Bool) (f_5 : Bool) (f_6 : Bool) (f_7 : Int) (f_8 : Int) (f_9 : Int) (f_10 : Sl) (H : Heap) : Prop :=
  letH (H.push (.cells #[.int .i64 f_0, .int .i64 f_1, .int .i64 f_2, .int .i64 f_3, .bool f_4, .bool f_5, .bool f_6, .int .i64 f_7, .int .i64 f_8, .int .i64 f_9, .slice f_10.p f_10.n f_10.c] t_api_Function (0, 0))) (fun H1 : Heap =>
  ∃ x : Int, rd H1 ((⟨H.size, 0, none⟩ : Addr).add 2) = some (.int .i64 x) ∧ (
  iteB (decide (x < (1 : Int))) (
  R (.bool false) H1) (
  ∃ x1 : Int, rd H1 ((⟨H.size, 0, none⟩ : Addr).add 2) = some (.int .i64 x1) ∧ (
  iteB (decide (x1 > (65534 : Int))) (
  R (.bool false) H1) (
  ∃ x2 : Int, rd H1 ((⟨H.size, 0, none⟩ : Addr).add 3) = some (.int .i64 x2) ∧ (
  iteB (decide (x2 < (0 : Int))) (
  R (.bool false) H1) (
  ∃ x3 : Int, rd H1 ((⟨H.size, 0, none⟩ : Addr).add 3) = some (.int .i64 x3) ∧ (
  iteB (decide (x3 > (65535 : Int))) (
  R (.bool false) H1) (
  ∃ x4 : Int, rd H1 ((⟨H.size, 0, none⟩ : Addr).add 1) = some (.int .i64 x4) ∧ (
  iteB (decide (x4 < (0 : Int))) (
  R (.bool false) H1) (
  ∃ x5 : Int, rd H1 ((⟨H.size, 0, none⟩ : Addr).add 1) = some (.int .i64 x5) ∧ (
  iteB (decide (x5 > (31 : Int))) (
  R (.bool false) H1) (
  ∃ x6 : Int, rd H1 ((⟨H.size, 0, none⟩ : Addr).add 8) = some (.int .i64 x6) ∧ (
  iteB (decide (x6 < (0 : Int))) (
  R (.bool false) H1) (
  ∃ x7 : Int, rd H1 ((⟨H.size, 0, none⟩ : Addr).add 8) = some (.int .i64 x7) ∧ (
  iteB (decide (x7 > (4 : Int))) (
  R (.bool false) H1) (
  ∃ x8 : Int, rd H1 ((⟨H.size, 0, none⟩ : Addr).add 9) = some (.int .i64 x8) ∧ (
  iteB (decide (x8 < (0 : Int))) (
  R (.bool false) H1) (
  ∃ x9 : Int, rd H1 ((⟨H.size, 0, none⟩ : Addr).add 9) = some (.int .i64 x9) ∧ (
  iteB (decide (x9 > (32 : Int))) (
  R (.bool false) H1) (
  ∃ x10 : Int, rd H1 ((⟨H.size, 0, none⟩ : Addr).add 9) = some (.int .i64 x10) ∧ (
  ∃ x11 : Int, rd H1 ((⟨H.size, 0, none⟩ : Addr).add 9) = some (.int .i64 x11) ∧ (
  iteB ((bitsAnd .i64 x10 (IntKind.i64.wrap (x11 - (1 : Int)))) != (0 : Int)) (
  R (.bool false) H1) (
  ∃ J_ : Heap → Prop, (
  ∃ x12 : Int, rd H1 ((⟨H.size, 0, none⟩ : Addr).add 7) = some (.int .i64 x12) ∧ (
  iteB (decide (x12 < (0 : Int))) (
  R (.bool false) H1) (
  ∃ x13 : Int, rd H1 ((⟨H.size, 0, none⟩ : Addr).add 7) = some (.int .i64 x13) ∧ (
  iteB (decide (x13 > (32 : Int))) (
  R (.bool false) H1) (
  ∃ x14 : Int, rd H1 ((⟨H.size, 0, none⟩ : Addr).add 7) = some (.int .i64 x14) ∧ (
  iteB (decide (x14 > (0 : Int))) (
  ∃ x15 : Bool, rd H1 ((⟨H.size, 0, none⟩ : Addr).add 4) = some (.bool x15) ∧ (
  iteB x15 (
  ∃ x16 : Bool, rd H1 ((⟨H.size, 0, none⟩ : Addr).add 6) = some (.bool x16) ∧ (
  iteB (!x16) (
  R (.bool false) H1) (
  J_ H1))) (
  R (.bool false) H1))) (
  J_ H1))))))) ∧ (∀ H2 : Heap, J_ H2 → F_pciconf_Valid_k3 R H H2)))))))))))))))))))))))))

theorem F_pciconf_Valid_eq (R : Value → Heap → Prop) (f_0 : Int) (f_1 : Int) (f_2 : Int) (f_3 : Int) (f_4 : Bool) (f_5 : Bool) (f_6 : Bool) (f_7 : Int) (f_8 : Int) (f_9 : Int) (f_10 : Sl) (H : Heap) : wpF Try.prog Try.f47 [(100, .int .i64 0)] [(9, [], [1]), (11, [], [1])] [(14, [100], [1, 99])] [20] [.agg #[.int .i64 f_0, .int .i64 f_1, .int .i64 f_2, .int .i64 f_3, .bool f_4, .bool f_5, .bool f_6, .int .i64 f_7, .int .i64 f_8, .int .i64 f_9, .slice f_10.p f_10.n f_10.c]] H R = F_pciconf_Valid R f_0 f_1 f_2 f_3 f_4 f_5 f_6 f_7 f_8 f_9 f_10 H := by kernel_rfl

theorem F_pciconf_Valid_ok {R : Value → Heap → Prop} (f_0 : Int) (f_1 : Int) (f_2 : Int) (f_3 : Int) (f_4 : Bool) (f_5 : Bool) (f_6 : Bool) (f_7 : Int) (f_8 : Int) (f_9 : Int) (f_10 : Sl) {H : Heap} (h : F_pciconf_Valid R f_0 f_1 f_2 f_3 f_4 f_5 f_6 f_7 f_8 f_9 f_10 H) : CallsH Try.prog n_pciconf_Valid #[.agg #[.int .i64 f_0, .int .i64 f_1, .int .i64 f_2, .int .i64 f_3, .bool f_4, .bool f_5, .bool f_6, .int .i64 f_7, .int .i64 f_8, .int .i64 f_9, .slice f_10.p f_10.n f_10.c]] H R :=
  wpF_ok Try.func47 (F_pciconf_Valid_eq R f_0 f_1 f_2 f_3 f_4 f_5 f_6 f_7 f_8 f_9 f_10 H) h

/-! ### 48: slices.Clone[[]platformfw/api.Bar,platformfw/api.Bar] -/

def F_slices_Clone_sl_api_Bar_api_Bar (R : Value → Heap → Prop) (s : Sl) (H : Heap) : Prop :=
  iteB s.p.isNone (
  R (.slice none 0 0) H) (
  letH (H.push (.cells #[] t_api_Bar (0, 0))) (fun H1 : Heap =>
  runH Try.prog (Builtin.append_ #[t_sl_api_Bar, t_sl_api_Bar] t_sl_api_Bar #[.slice (some (⟨H.size, 0, none⟩ : Addr)) 0 0, .slice s.p s.n s.c]) H1 (fun v H2 =>
  ∃ x : Sl, v = .slice x.p x.n x.c ∧ (
  R (.slice x.p x.n x.c) H2))))

theorem F_slices_Clone_sl_api_Bar_api_Bar_eq (R : Value → Heap → Prop) (s : Sl) (H : Heap) : wpF Try.prog Try.f48 [] [] [] [20] [.slice s.p s.n s.c] H R = F_slices_Clone_sl_api_Bar_api_Bar R s H := by kernel_rfl

theorem F_slices_Clone_sl_api_Bar_api_Bar_ok {R : Value → Heap → Prop} (s : Sl) {H : Heap} (h : F_slices_Clone_sl_api_Bar_api_Bar R s H) : CallsH Try.prog n_slices_Clone_sl_api_Bar_api_Bar #[.slice s.p s.n s.c] H R :=
  wpF_ok Try.func48 (F_slices_Clone_sl_api_Bar_api_Bar_eq R s H) h

/-! ### 49: (*platformfw/hotplug.Slot).enter -/

def F_hotplug_Slot_enter (R : Value → Heap → Prop) (s : Addr) (state : Int) (actions : Sl) (H : Heap) : Prop :=
  okRow H s 1 ∧ (
  letH (wrs H s [.int .i64 state]) (fun H1 : Heap =>
  iteB (state != (3 : Int)) (
  okRow H1 (s.add 2) 1 ∧ (
  letH (wrs H1 (s.add 2) [.int .u64 (0 : Int)]) (fun H2 : Heap =>
  R (.tuple #[.slice actions.p actions.n actions.c, .int .i64 (0 : Int)]) H2))) (
  R (.tuple #[.slice actions.p actions.n actions.c, .int .i64 (0 : Int)]) H1)))

theorem F_hotplug_Slot_enter_eq (R : Value → Heap → Prop) (s : Addr) (state : Int) (actions : Sl) (H : Heap) : wpF Try.prog Try.f49 [] [] [] [20] [.pointer (some s), .int .i64 state, .slice actions.p actions.n actions.c] H R = F_hotplug_Slot_enter R s state actions H := by kernel_rfl

theorem F_hotplug_Slot_enter_ok {R : Value → Heap → Prop} (s : Addr) (state : Int) (actions : Sl) {H : Heap} (h : F_hotplug_Slot_enter R s state actions H) : CallsH Try.prog n_hotplug_Slot_enter #[.pointer (some s), .int .i64 state, .slice actions.p actions.n actions.c] H R :=
  wpF_ok Try.func49 (F_hotplug_Slot_enter_eq R s state actions H) h

/-! ### 50: platformfw/hotplug.saturatingSum -/

def F_hotplug_saturatingSum (R : Value → Heap → Prop) (a : Int) (b : Int) (H : Heap) : Prop :=
  iteB (decide (a > (IntKind.u64.wrap ((18446744073709551615 : Int) - b)))) (
  R (.int .u64 (18446744073709551615 : Int)) H) (
  letV (IntKind.u64.wrap (a + b)) (fun x : Int =>
  R (.int .u64 x) H))

theorem F_hotplug_saturatingSum_eq (R : Value → Heap → Prop) (a : Int) (b : Int) (H : Heap) : wpF Try.prog Try.f50 [] [] [] [20] [.int .u64 a, .int .u64 b] H R = F_hotplug_saturatingSum R a b H := by kernel_rfl

theorem F_hotplug_saturatingSum_ok {R : Value → Heap → Prop} (a : Int) (b : Int) {H : Heap} (h : F_hotplug_saturatingSum R a b H) : CallsH Try.prog n_hotplug_saturatingSum #[.int .u64 a, .int .u64 b] H R :=
  wpF_ok Try.func50 (F_hotplug_saturatingSum_eq R a b H) h

/-! ### 51: platformfw/platformfwref18.Registers -/

def F_ref18_Registers (R : Value → Heap → Prop) (f_0 : Int) (f_1 : Int) (f_2 : Int) (f_3 : Int) (f_4 : Bool) (f_5 : Bool) (f_6 : Bool) (f_7 : Int) (f_8 : Int) (f_9 : Int) (f_10 : Sl) (H : Heap) : Prop :=
  letH (H.push (.cells #[.int .i64 f_0, .int .i64 f_1, .int .i64 f_2, .int .i64 f_3, .bool f_4, .bool f_5, .bool f_6, .int .i64 f_7, .int .i64 f_8, .int .i64 f_9, .slice f_10.p f_10.n f_10.c] t_api_Function (0, 0))) (fun H1 : Heap =>
  ∃ x : Bool, rd H1 ((⟨H.size, 0, none⟩ : Addr).add 4) = some (.bool x) ∧ (
  iteB x (
  R (.int .i64 (2 : Int)) H1) (
  R (.int .i64 (6 : Int)) H1)))

theorem F_ref18_Registers_eq (R : Value → Heap → Prop) (f_0 : Int) (f_1 : Int) (f_2 : Int) (f_3 : Int) (f_4 : Bool) (f_5 : Bool) (f_6 : Bool) (f_7 : Int) (f_8 : Int) (f_9 : Int) (f_10 : Sl) (H : Heap) : wpF Try.prog Try.f51 [] [] [] [20] [.agg #[.int .i64 f_0, .int .i64 f_1, .int .i64 f_2, .int .i64 f_3, .bool f_4, .bool f_5, .bool f_6, .int .i64 f_7, .int .i64 f_8, .int .i64 f_9, .slice f_10.p f_10.n f_10.c]] H R = F_ref18_Registers R f_0 f_1 f_2 f_3 f_4 f_5 f_6 f_7 f_8 f_9 f_10 H := by kernel_rfl

theorem F_ref18_Registers_ok {R : Value → Heap → Prop} (f_0 : Int) (f_1 : Int) (f_2 : Int) (f_3 : Int) (f_4 : Bool) (f_5 : Bool) (f_6 : Bool) (f_7 : Int) (f_8 : Int) (f_9 : Int) (f_10 : Sl) {H : Heap} (h : F_ref18_Registers R f_0 f_1 f_2 f_3 f_4 f_5 f_6 f_7 f_8 f_9 f_10 H) : CallsH Try.prog n_ref18_Registers #[.agg #[.int .i64 f_0, .int .i64 f_1, .int .i64 f_2, .int .i64 f_3, .bool f_4, .bool f_5, .bool f_6, .int .i64 f_7, .int .i64 f_8, .int .i64 f_9, .slice f_10.p f_10.n f_10.c]] H R :=
  wpF_ok Try.func51 (F_ref18_Registers_eq R f_0 f_1 f_2 f_3 f_4 f_5 f_6 f_7 f_8 f_9 f_10 H) h

/-! ### 52: platformfw/platformfwref21.ValidRanges -/

def F_ref21_ValidRanges_r1 (R : Value → Heap → Prop) (l : Sl) (I_ : Int → Heap → Prop) (M_ : Int → Heap → Nat) (i : Int) (H1 : Heap) : Prop :=
  iteB (decide (i < (l.n : Int))) (
  0 ≤ i ∧ i < (l.n : Int) ∧ (unSome l.p (fun a =>
  ∃ x : Int, rd H1 ((a.add (i.toNat * 2)).add 1) = some (.int .u64 x) ∧ (
  iteB (decide (x < (1 : Int))) (
  R (.bool false) H1) (
  0 ≤ i ∧ i < (l.n : Int) ∧ (unSome l.p (fun a1 =>
  ∃ x1 : Int, rd H1 ((a1.add (i.toNat * 2)).add 1) = some (.int .u64 x1) ∧ (
  iteB (decide (x1 > (4503599627370496 : Int))) (
  R (.bool false) H1) (
  0 ≤ i ∧ i < (l.n : Int) ∧ (unSome l.p (fun a2 =>
  ∃ x2 : Int, rd H1 (a2.add (i.toNat * 2)) = some (.int .u64 x2) ∧ (
  0 ≤ i ∧ i < (l.n : Int) ∧ (unSome l.p (fun a3 =>
  ∃ x3 : Int, rd H1 ((a3.add (i.toNat * 2)).add 1) = some (.int .u64 x3) ∧ (
  iteB (decide (x2 > (IntKind.u64.wrap ((4503599627370496 : Int) - x3)))) (
  R (.bool false) H1) (
  letV (IntKind.i64.wrap (i + (1 : Int))) (fun i1 : Int =>
  I_ i1 H1 ∧ M_ i1 H1 < M_ i H1))))))))))))))))) (
  R (.bool true) H1)

def F_ref21_ValidRanges (R : Value → Heap → Prop) (l : Sl) (H : Heap) : Prop :=
  iteB (decide ((l.n : Int) > (1024 : Int))) (
  R (.bool false) H) (
  ∃ I_ : Int → Heap → Prop, ∃ M_ : Int → Heap → Nat, I_ (0 : Int) H ∧ (∀ i : Int, ∀ H1 : Heap, I_ i H1 → F_ref21_ValidRanges_r1 R l I_ M_ i H1))

theorem F_ref21_ValidRanges_eq (R : Value → Heap → Prop) (l : Sl) (H : Heap) : wpF Try.prog Try.f52 [(3, .int .i64 0)] [] [(4, [3], [0])] [20] [.slice l.p l.n l.c] H R = F_ref21_ValidRanges R l H := by kernel_rfl

theorem F_ref21_ValidRanges_ok {R : Value → Heap → Prop} (l : Sl) {H : Heap} (h : F_ref21_ValidRanges R l H) : CallsH Try.prog n_ref21_ValidRanges #[.slice l.p l.n l.c] H R :=
  wpF_ok Try.func52 (F_ref21_ValidRanges_eq R l H) h

/-! ### 53: platformfw/platformfwref18.bar -/

def F_ref18_bar (R : Value → Heap → Prop) (f_0 : Int) (f_1 : Int) (f_2 : Int) (f_3 : Int) (f_4 : Bool) (f_5 : Bool) (f_6 : Bool) (f_7 : Int) (f_8 : Int) (f_9 : Int) (f_10 : Sl) (i : Int) (H : Heap) : Prop :=
  letH (H.push (.cells #[.int .i64 f_0, .int .i64 f_1, .int .i64 f_2, .int .i64 f_3, .bool f_4, .bool f_5, .bool f_6, .int .i64 f_7, .int .i64 f_8, .int .i64 f_9, .slice f_10.p f_10.n f_10.c] t_api_Function (0, 0))) (fun H1 : Heap =>
  letH (H1.push (.cells #[.int .i64 (0 : Int), .int .i64 (0 : Int)] t_api_Bar (0, 0))) (fun H2 : Heap =>
  iteB (decide (i < (0 : Int))) (
  okRow H2 (⟨H1.size, 0, none⟩ : Addr) 2 ∧ (
  letH (wrs H2 (⟨H1.size, 0, none⟩ : Addr) [.int .i64 (0 : Int), .int .i64 (0 : Int)]) (fun H3 : Heap =>
  ∃ r : Int, rd H3 (⟨H1.size, 0, none⟩ : Addr) = some (.int .i64 r) ∧ ∃ r1 : Int, rd H3 ((⟨H1.size, 0, none⟩ : Addr).add 1) = some (.int .i64 r1) ∧ (
  R (.agg #[.int .i64 r, .int .i64 r1]) H3)))) (
  ∃ x : Sl, rd H2 ((⟨H.size, 0, none⟩ : Addr).add 10) = some (.slice x.p x.n x.c) ∧ (
  iteB (decide (i ≥ (x.n : Int))) (
  okRow H2 (⟨H1.size, 0, none⟩ : Addr) 2 ∧ (
  letH (wrs H2 (⟨H1.size, 0, none⟩ : Addr) [.int .i64 (0 : Int), .int .i64 (0 : Int)]) (fun H4 : Heap =>
  ∃ r2 : Int, rd H4 (⟨H1.size, 0, none⟩ : Addr) = some (.int .i64 r2) ∧ ∃ r3 : Int, rd H4 ((⟨H1.size, 0, none⟩ : Addr).add 1) = some (.int .i64 r3) ∧ (
  R (.agg #[.int .i64 r2, .int .i64 r3]) H4)))) (
  ∃ x1 : Sl, rd H2 ((⟨H.size, 0, none⟩ : Addr).add 10) = some (.slice x1.p x1.n x1.c) ∧ (
  0 ≤ i ∧ i < (x1.n : Int) ∧ (unSome x1.p (fun a =>
  ∃ x2 : Int, rd H2 (a.add (i.toNat * 2)) = some (.int .i64 x2) ∧ ∃ x3 : Int, rd H2 ((a.add (i.toNat * 2)).add 1) = some (.int .i64 x3) ∧ (
  okRow H2 (⟨H1.size, 0, none⟩ : Addr) 2 ∧ (
  letH (wrs H2 (⟨H1.size, 0, none⟩ : Addr) [.int .i64 x2, .int .i64 x3]) (fun H5 : Heap =>
  ∃ r4 : Int, rd H5 (⟨H1.size, 0, none⟩ : Addr) = some (.int .i64 r4) ∧ ∃ r5 : Int, rd H5 ((⟨H1.size, 0, none⟩ : Addr).add 1) = some (.int .i64 r5) ∧ (
  R (.agg #[.int .i64 r4, .int .i64 r5]) H5))))))))))))

theorem F_ref18_bar_eq (R : Value → Heap → Prop) (f_0 : Int) (f_1 : Int) (f_2 : Int) (f_3 : Int) (f_4 : Bool) (f_5 : Bool) (f_6 : Bool) (f_7 : Int) (f_8 : Int) (f_9 : Int) (f_10 : Sl) (i : Int) (H : Heap) : wpF Try.prog Try.f53 [] [] [] [20] [.agg #[.int .i64 f_0, .int .i64 f_1, .int .i64 f_2, .int .i64 f_3, .bool f_4, .bool f_5, .bool f_6, .int .i64 f_7, .int .i64 f_8, .int .i64 f_9, .slice f_10.p f_10.n f_10.c], .int .i64 i] H R = F_ref18_bar R f_0 f_1 f_2 f_3 f_4 f_5 f_6 f_7 f_8 f_9 f_10 i H := by kernel_rfl

theorem F_ref18_bar_ok {R : Value → Heap → Prop} (f_0 : Int) (f_1 : Int) (f_2 : Int) (f_3 : Int) (f_4 : Bool) (f_5 : Bool) (f_6 : Bool) (f_7 : Int) (f_8 : Int) (f_9 : Int) (f_10 : Sl) (i : Int) {H : Heap} (h : F_ref18_bar R f_0 f_1 f_2 f_3 f_4 f_5 f_6 f_7 f_8 f_9 f_10 i H) : CallsH Try.prog n_ref18_bar #[.agg #[.int .i64 f_0, .int .i64 f_1, .int .i64 f_2, .int .i64 f_3, .bool f_4, .bool f_5, .bool f_6, .int .i64 f_7, .int .i64 f_8, .int .i64 f_9, .slice f_10.p f_10.n f_10.c], .int .i64 i] H R :=
  wpF_ok Try.func53 (F_ref18_bar_eq R f_0 f_1 f_2 f_3 f_4 f_5 f_6 f_7 f_8 f_9 f_10 i H) h

/-! ### 54: platformfw/platformfwref18.above -/

def F_ref18_above_r1 (R : Value → Heap → Prop) (l : Sl) (I_ : Int → Heap → Prop) (M_ : Int → Heap → Nat) (i2 : Int) (H1 : Heap) : Prop :=
  iteB (decide (i2 ≥ (0 : Int))) (
  0 ≤ i2 ∧ i2 < (l.n : Int) ∧ (unSome l.p (fun a1 =>
  ∃ x : Bool, rd H1 ((a1.add (i2.toNat * 11)).add 5) = some (.bool x) ∧ (
  iteB (!x) (
  R (.bool false) H1) (
  0 ≤ i2 ∧ i2 < (l.n : Int) ∧ (unSome l.p (fun a2 =>
  ∃ i3 : Int, rd H1 (a2.add (i2.toNat * 11)) = some (.int .i64 i3) ∧ (
  I_ i3 H1 ∧ M_ i3 H1 < M_ i2 H1)))))))) (
  R (.bool true) H1)

def F_ref18_above (R : Value → Heap → Prop) (l : Sl) (i : Int) (H : Heap) : Prop :=
  0 ≤ i ∧ i < (l.n : Int) ∧ (unSome l.p (fun a =>
  ∃ i1 : Int, rd H (a.add (i.toNat * 11)) = some (.int .i64 i1) ∧ (
  ∃ I_ : Int → Heap → Prop, ∃ M_ : Int → Heap → Nat, I_ i1 H ∧ (∀ i2 : Int, ∀ H1 : Heap, I_ i2 H1 → F_ref18_above_r1 R l I_ M_ i2 H1))))

theorem F_ref18_above_eq (R : Value → Heap → Prop) (l : Sl) (i : Int) (H : Heap) : wpF Try.prog Try.f54 [(1, .int .i64 0)] [] [(2, [1], [0])] [20] [.slice l.p l.n l.c, .int .i64 i] H R = F_ref18_above R l i H := by kernel_rfl

theorem F_ref18_above_ok {R : Value → Heap → Prop} (l : Sl) (i : Int) {H : Heap} (h : F_ref18_above R l i H) : CallsH Try.prog n_ref18_above #[.slice l.p l.n l.c, .int .i64 i] H R :=
  wpF_ok Try.func54 (F_ref18_above_eq R l i H) h

/-! ### 55: platformfw/platformfwref18.WindowSize -/

def F_ref18_WindowSize_k1 (hotplug : Bool) (w : Int) (J_2 : Int → Heap → Prop) (x3 : Bool) (H4 : Heap) : Prop :=
  iteB x3 (
  letV (if (12 : Int) > w then (12 : Int) else w) (fun w1 : Int =>
  J_2 w1 H4)) (
  iteB hotplug (
  letV (if (22 : Int) > w then (22 : Int) else w) (fun w2 : Int =>
  J_2 w2 H4)) (
  J_2 w H4))

def F_ref18_WindowSize_r2 (R : Value → Heap → Prop) (sum : Int) (I_1 : Int → Heap → Prop) (M_1 : Int → Heap → Nat) (w4 : Int) (H6 : Heap) : Prop :=
  0 ≤ (IntKind.u64.wrap w4) ∧ (
  iteB (decide ((IntKind.u64.wrap ((1 : Int) * 2 ^ (min (IntKind.u64.wrap w4).toNat IntKind.u64.bits))) < sum)) (
  letV (IntKind.i64.wrap (w4 + (1 : Int))) (fun w5 : Int =>
  I_1 w5 H6 ∧ M_1 w5 H6 < M_1 w4 H6)) (
  R (.tuple #[.int .i64 w4, .bool true]) H6))

def F_ref18_WindowSize_k3 (R : Value → Heap → Prop) (sum : Int) (w3 : Int) (H5 : Heap) : Prop :=
  ∃ I_1 : Int → Heap → Prop, ∃ M_1 : Int → Heap → Nat, I_1 w3 H5 ∧ (∀ w4 : Int, ∀ H6 : Heap, I_1 w4 H6 → F_ref18_WindowSize_r2 R sum I_1 M_1 w4 H6)

def F_ref18_WindowSize_k4 (R : Value → Heap → Prop) (classv : Int) (hotplug : Bool) (sum : Int) (w : Int) (H3 : Heap) : Prop :=
  ∃ J_2 : Int → Heap → Prop, (
  ∃ J_3 : Bool → Heap → Prop, (
  iteB hotplug (
  J_3 (classv == (0 : Int)) H3) (
  J_3 false H3)) ∧ (∀ x3 : Bool, ∀ H4 : Heap, J_3 x3 H4 → F_ref18_WindowSize_k1 hotplug w J_2 x3 H4)) ∧ (∀ w3 : Int, ∀ H5 : Heap, J_2 w3 H5 → F_ref18_WindowSize_k3 R sum w3 H5)

def F_ref18_WindowSize_r5 (R : Value → Heap → Prop) (sizes : Sl) (classv : Int) (hotplug : Bool) (I_ : Int → Int → Heap → Prop) (M_ : Int → Int → Heap → Nat) (sum : Int) (i : Int) (H2 : Heap) : Prop :=
  iteB (decide (i < (sizes.n : Int))) (
  0 ≤ i ∧ i < (sizes.n : Int) ∧ (unSome sizes.p (fun a =>
  ∃ x : Int, rd H2 (a.add (i.toNat * 1)) = some (.int .i64 x) ∧ (
  iteB (decide (x < (0 : Int))) (
  R (.tuple #[.int .i64 (0 : Int), .bool false]) H2) (
  0 ≤ i ∧ i < (sizes.n : Int) ∧ (unSome sizes.p (fun a1 =>
  ∃ x1 : Int, rd H2 (a1.add (i.toNat * 1)) = some (.int .i64 x1) ∧ (
  iteB (decide (x1 > (44 : Int))) (
  R (.tuple #[.int .i64 (0 : Int), .bool false]) H2) (
  0 ≤ i ∧ i < (sizes.n : Int) ∧ (unSome sizes.p (fun a2 =>
  ∃ x2 : Int, rd H2 (a2.add (i.toNat * 1)) = some (.int .i64 x2) ∧ (
  0 ≤ (IntKind.u64.wrap x2) ∧ (
  letV (IntKind.u64.wrap (sum + (IntKind.u64.wrap ((1 : Int) * 2 ^ (min (IntKind.u64.wrap x2).toNat IntKind.u64.bits))))) (fun sum1 : Int =>
  letV (IntKind.i64.wrap (i + (1 : Int))) (fun i1 : Int =>
  I_ sum1 i1 H2 ∧ M_ sum1 i1 H2 < M_ sum i H2))))))))))))))) (
  ∃ J_1 : Int → Heap → Prop, (
  iteB (classv == (0 : Int)) (
  J_1 (12 : Int) H2) (
  J_1 (20 : Int) H2)) ∧ (∀ w : Int, ∀ H3 : Heap, J_1 w H3 → F_ref18_WindowSize_k4 R classv hotplug sum w H3))

def F_ref18_WindowSize_k6 (R : Value → Heap → Prop) (sizes : Sl) (classv : Int) (hotplug : Bool) (H1 : Heap) : Prop :=
  ∃ I_ : Int → Int → Heap → Prop, ∃ M_ : Int → Int → Heap → Nat, I_ (0 : Int) (0 : Int) H1 ∧ (∀ sum : Int, ∀ i : Int, ∀ H2 : Heap, I_ sum i H2 → F_ref18_WindowSize_r5 R sizes classv hotplug I_ M_ sum i H2)

def F_ref18_WindowSize (R : Value → Heap → Prop) (sizes : Sl) (classv : Int) (hotplug : Bool) (H : Heap) : Prop :=
  ∃ J_ : Heap → Prop, (
  iteB (decide (classv < (0 : Int))) (
  R (.tuple #[.int .i64 (0 : Int), .bool false]) H) (
  iteB (decide (classv ≥ (3 : Int))) (
  R (.tuple #[.int .i64 (0 : Int), .bool false]) H) (
  iteB (decide ((sizes.n : Int) > (1024 : Int))) (
  R (.tuple #[.int .i64 (0 : Int), .bool false]) H) (
  iteB ((sizes.n : Int) == (0 : Int)) (
  iteB (!hotplug) (
  R (.tuple #[.int .i64 (0 : Int), .bool false]) H) (
  J_ H)) (
  J_ H))))) ∧ (∀ H1 : Heap, J_ H1 → F_ref18_WindowSize_k6 R sizes classv hotplug H1)

theorem F_ref18_WindowSize_eq (R : Value → Heap → Prop) (sizes : Sl) (classv : Int) (hotplug : Bool) (H : Heap) : wpF Try.prog Try.f55 [(8, .int .u64 0), (9, .int .i64 0), (10, .int .i64 0), (63, .bool false)] [(3, [], [0, 1, 2]), (13, [10], [1, 2, 8]), (17, [10], [8]), (14, [63], [2, 8, 10])] [(5, [8, 9], [0, 1, 2]), (17, [10], [8])] [20] [.slice sizes.p sizes.n sizes.c, .int .i64 classv, .bool hotplug] H R = F_ref18_WindowSize R sizes classv hotplug H := by kernel_rfl

theorem F_ref18_WindowSize_ok {R : Value → Heap → Prop} (sizes : Sl) (classv : Int) (hotplug : Bool) {H : Heap} (h : F_ref18_WindowSize R sizes classv hotplug H) : CallsH Try.prog n_ref18_WindowSize #[.slice sizes.p sizes.n sizes.c, .int .i64 classv, .bool hotplug] H R :=
  wpF_ok Try.func55 (F_ref18_WindowSize_eq R sizes classv hotplug H) h

/-! ### 56: platformfw/platformfwref21.items -/

def F_ref21_items_r1 (R : Value → Heap → Prop) (sizes : Sl) (I_ : Int → Heap → Prop) (M_ : Int → Heap → Nat) (i : Int) (H1 : Heap) : Prop :=
  iteB (decide (i < (sizes.n : Int))) (
  0 ≤ i ∧ i < (sizes.n : Int) ∧ (unSome sizes.p (fun a =>
  ∃ x : Int, rd H1 (a.add (i.toNat * 1)) = some (.int .i64 x) ∧ (
  iteB (decide (x < (0 : Int))) (
  R (.bool false) H1) (
  0 ≤ i ∧ i < (sizes.n : Int) ∧ (unSome sizes.p (fun a1 =>
  ∃ x1 : Int, rd H1 (a1.add (i.toNat * 1)) = some (.int .i64 x1) ∧ (
  iteB (decide (x1 > (44 : Int))) (
  R (.bool false) H1) (
  letV (IntKind.i64.wrap (i + (1 : Int))) (fun i1 : Int =>
  I_ i1 H1 ∧ M_ i1 H1 < M_ i H1)))))))))) (
  R (.bool true) H1)

def F_ref21_items (R : Value → Heap → Prop) (sizes : Sl) (H : Heap) : Prop :=
  iteB (decide ((sizes.n : Int) > (1024 : Int))) (
  R (.bool false) H) (
  ∃ I_ : Int → Heap → Prop, ∃ M_ : Int → Heap → Nat, I_ (0 : Int) H ∧ (∀ i : Int, ∀ H1 : Heap, I_ i H1 → F_ref21_items_r1 R sizes I_ M_ i H1))

theorem F_ref21_items_eq (R : Value → Heap → Prop) (sizes : Sl) (H : Heap) : wpF Try.prog Try.f56 [(3, .int .i64 0)] [] [(4, [3], [0])] [20] [.slice sizes.p sizes.n sizes.c] H R = F_ref21_items R sizes H := by kernel_rfl

theorem F_ref21_items_ok {R : Value → Heap → Prop} (sizes : Sl) {H : Heap} (h : F_ref21_items R sizes H) : CallsH Try.prog n_ref21_items #[.slice sizes.p sizes.n sizes.c] H R :=
  wpF_ok Try.func56 (F_ref21_items_eq R sizes H) h

/-! ### 57: platformfw/platformfwref21.merge -/

def F_ref21_merge_k1 (I_ : Sl → Sl → Heap → Prop) (M_ : Sl → Sl → Heap → Nat) (out : Sl) (left1 : Sl) (H2 : Heap) (H3 : Heap) (left2 : Sl) (n : Int) (x8 : Bool) (H8 : Heap) : Prop :=
  iteB x8 (
  0 ≤ n ∧ n < (out.n : Int) ∧ (unSome out.p (fun a5 =>
  ∃ x9 : Int, rd H8 ((a5.add (n.toNat * 2)).add 1) = some (.int .u64 x9) ∧ (
  ∃ x10 : Int, rd H8 (⟨H3.size, 0, none⟩ : Addr) = some (.int .u64 x10) ∧ (
  ∃ x11 : Int, rd H8 ((⟨H3.size, 0, none⟩ : Addr).add 1) = some (.int .u64 x11) ∧ (
  0 ≤ n ∧ n < (out.n : Int) ∧ (unSome out.p (fun a6 =>
  ∃ x12 : Int, rd H8 (a6.add (n.toNat * 2)) = some (.int .u64 x12) ∧ (
  0 ≤ n ∧ n < (out.n : Int) ∧ (unSome out.p (fun a7 =>
  okRow H8 ((a7.add (n.toNat * 2)).add 1) 1 ∧ (
  letH (wrs H8 ((a7.add (n.toNat * 2)).add 1) [.int .u64 (if (IntKind.u64.wrap ((IntKind.u64.wrap (x10 + x11)) - x12)) > x9 then (IntKind.u64.wrap ((IntKind.u64.wrap (x10 + x11)) - x12)) else x9)]) (fun H9 : Heap =>
  I_ out left2 H9 ∧ M_ out left2 H9 < M_ out left1 H2))))))))))))) (
  ∃ x13 : Int, rd H8 (⟨H3.size, 0, none⟩ : Addr) = some (.int .u64 x13) ∧ ∃ x14 : Int, rd H8 ((⟨H3.size, 0, none⟩ : Addr).add 1) = some (.int .u64 x14) ∧ (
  letH (H8.push (.cells #[.int .u64 x13, .int .u64 x14] t_api_Range (0, 0))) (fun H10 : Heap =>
  runH Try.prog (Builtin.append_ #[t_sl_api_Range, t_sl_api_Range] t_sl_api_Range #[.slice out.p out.n out.c, .slice (some (⟨H8.size, 0, none⟩ : Addr)) 1 1]) H10 (fun v3 H11 =>
  ∃ out1 : Sl, v3 = .slice out1.p out1.n out1.c ∧ (
  I_ out1 left2 H11 ∧ M_ out1 left2 H11 < M_ out left1 H2)))))

def F_ref21_merge_r2 (I_ : Sl → Sl → Heap → Prop) (M_ : Sl → Sl → Heap → Nat) (out : Sl) (left1 : Sl) (H2 : Heap) (I_1 : Int → Int → Heap → Prop) (M_1 : Int → Int → Heap → Nat) (k : Int) (i : Int) (H3 : Heap) : Prop :=
  iteB (decide (i < (left1.n : Int))) (
  0 ≤ i ∧ i < (left1.n : Int) ∧ (unSome left1.p (fun a =>
  ∃ x : Int, rd H3 (a.add (i.toNat * 2)) = some (.int .u64 x) ∧ (
  0 ≤ k ∧ k < (left1.n : Int) ∧ (unSome left1.p (fun a1 =>
  ∃ x1 : Int, rd H3 (a1.add (k.toNat * 2)) = some (.int .u64 x1) ∧ (
  iteB (decide (x < x1)) (
  letV (IntKind.i64.wrap (i + (1 : Int))) (fun i1 : Int =>
  I_1 i i1 H3 ∧ M_1 i i1 H3 < M_1 k i H3)) (
  letV (IntKind.i64.wrap (i + (1 : Int))) (fun i2 : Int =>
  I_1 k i2 H3 ∧ M_1 k i2 H3 < M_1 k i H3))))))))) (
  0 ≤ k ∧ k < (left1.n : Int) ∧ (unSome left1.p (fun a2 =>
  ∃ x2 : Int, rd H3 (a2.add (k.toNat * 2)) = some (.int .u64 x2) ∧ ∃ x3 : Int, rd H3 ((a2.add (k.toNat * 2)).add 1) = some (.int .u64 x3) ∧ (
  letH (H3.push (.cells #[.int .u64 (0 : Int), .int .u64 (0 : Int)] t_api_Range (0, 0))) (fun H4 : Heap =>
  okRow H4 (⟨H3.size, 0, none⟩ : Addr) 2 ∧ (
  letH (wrs H4 (⟨H3.size, 0, none⟩ : Addr) [.int .u64 x2, .int .u64 x3]) (fun H5 : Heap =>
  0 ≤ k ∧ k ≤ (left1.c : Int) ∧ (
  0 ≤ (IntKind.i64.wrap (k + (1 : Int))) ∧ (IntKind.i64.wrap (k + (1 : Int))) ≤ (left1.n : Int) ∧ (
  runH Try.prog (Builtin.append_ #[t_sl_api_Range, t_sl_api_Range] t_sl_api_Range #[.slice none 0 0, .slice (slP left1.p left1.c 0 2) (k.toNat - 0) (left1.c - 0)]) H5 (fun v1 H6 =>
  ∃ x4 : Sl, v1 = .slice x4.p x4.n x4.c ∧ (
  runH Try.prog (Builtin.append_ #[t_sl_api_Range, t_sl_api_Range] t_sl_api_Range #[.slice x4.p x4.n x4.c, .slice (slP left1.p left1.c ((IntKind.i64.wrap (k + (1 : Int))).toNat) 2) (left1.n - (IntKind.i64.wrap (k + (1 : Int))).toNat) (left1.c - (IntKind.i64.wrap (k + (1 : Int))).toNat)]) H6 (fun v2 H7 =>
  ∃ left2 : Sl, v2 = .slice left2.p left2.n left2.c ∧ (
  letV (IntKind.i64.wrap ((out.n : Int) - (1 : Int))) (fun n : Int =>
  ∃ J_ : Bool → Heap → Prop, (
  iteB (decide (n ≥ (0 : Int))) (
  ∃ x5 : Int, rd H7 (⟨H3.size, 0, none⟩ : Addr) = some (.int .u64 x5) ∧ (
  0 ≤ n ∧ n < (out.n : Int) ∧ (unSome out.p (fun a3 =>
  ∃ x6 : Int, rd H7 (a3.add (n.toNat * 2)) = some (.int .u64 x6) ∧ (
  0 ≤ n ∧ n < (out.n : Int) ∧ (unSome out.p (fun a4 =>
  ∃ x7 : Int, rd H7 ((a4.add (n.toNat * 2)).add 1) = some (.int .u64 x7) ∧ (
  J_ (decide (x5 ≤ (IntKind.u64.wrap (x6 + x7)))) H7)))))))) (
  J_ false H7)) ∧ (∀ x8 : Bool, ∀ H8 : Heap, J_ x8 H8 → F_ref21_merge_k1 I_ M_ out left1 H2 H3 left2 n x8 H8)))))))))))))))

def F_ref21_merge_r3 (R : Value → Heap → Prop) (I_ : Sl → Sl → Heap → Prop) (M_ : Sl → Sl → Heap → Nat) (out : Sl) (left1 : Sl) (H2 : Heap) : Prop :=
  iteB (decide ((left1.n : Int) > (0 : Int))) (
  ∃ I_1 : Int → Int → Heap → Prop, ∃ M_1 : Int → Int → Heap → Nat, I_1 (0 : Int) (1 : Int) H2 ∧ (∀ k : Int, ∀ i : Int, ∀ H3 : Heap, I_1 k i H3 → F_ref21_merge_r2 I_ M_ out left1 H2 I_1 M_1 k i H3)) (
  R (.slice out.p out.n out.c) H2)

def F_ref21_merge (R : Value → Heap → Prop) (l : Sl) (H : Heap) : Prop :=
  runH Try.prog (Builtin.append_ #[t_sl_api_Range, t_sl_api_Range] t_sl_api_Range #[.slice none 0 0, .slice l.p l.n l.c]) H (fun v H1 =>
  ∃ left : Sl, v = .slice left.p left.n left.c ∧ (
  ∃ I_ : Sl → Sl → Heap → Prop, ∃ M_ : Sl → Sl → Heap → Nat, I_ (Sl.mk none 0 0) left H1 ∧ (∀ out : Sl, ∀ left1 : Sl, ∀ H2 : Heap, I_ out left1 H2 → F_ref21_merge_r3 R I_ M_ out left1 H2)))

theorem F_ref21_merge_eq (R : Value → Heap → Prop) (l : Sl) (H : Heap) : wpF Try.prog Try.f57 [(3, .slice none 0 0), (4, .slice none 0 0), (5, .int .i64 0), (6, .int .i64 0), (65, .bool false)] [(14, [65], [3, 4, 7, 8])] [(3, [3, 4], []), (6, [5, 6], [3, 4])] [20] [.slice l.p l.n l.c] H R = F_ref21_merge R l H := by kernel_rfl

theorem F_ref21_merge_ok {R : Value → Heap → Prop} (l : Sl) {H : Heap} (h : F_ref21_merge R l H) : CallsH Try.prog n_ref21_merge #[.slice l.p l.n l.c] H R :=
  wpF_ok Try.func57 (F_ref21_merge_eq R l H) h

/-! ### 58: platformfw/platformfwref21.up -/

def F_ref21_up (R : Value → Heap → Prop) (a : Int) (k : Int) (H : Heap) : Prop :=
  0 ≤ (IntKind.u64.wrap k) ∧ (
  0 ≤ (IntKind.u64.wrap k) ∧ (
  0 ≤ (IntKind.u64.wrap k) ∧ (
  letV (IntKind.u64.wrap (((IntKind.u64.wrap ((IntKind.u64.wrap (a + (IntKind.u64.wrap ((1 : Int) * 2 ^ (min (IntKind.u64.wrap k).toNat IntKind.u64.bits))))) - (1 : Int))).fdiv (2 ^ (min (IntKind.u64.wrap k).toNat IntKind.u64.bits))) * 2 ^ (min (IntKind.u64.wrap k).toNat IntKind.u64.bits))) (fun x : Int =>
  R (.int .u64 x) H))))

theorem F_ref21_up_eq (R : Value → Heap → Prop) (a : Int) (k : Int) (H : Heap) : wpF Try.prog Try.f58 [] [] [] [20] [.int .u64 a, .int .i64 k] H R = F_ref21_up R a k H := by kernel_rfl

theorem F_ref21_up_ok {R : Value → Heap → Prop} (a : Int) (k : Int) {H : Heap} (h : F_ref21_up R a k H) : CallsH Try.prog n_ref21_up #[.int .u64 a, .int .i64 k] H R :=
  wpF_ok Try.func58 (F_ref21_up_eq R a k H) h

/-! ### 59: platformfw/platformfwref21.refusal -/

def F_ref21_refusal_r1 (R : Value → Heap → Prop) (H : Heap) (free : Sl) (sizes : Sl) (I_ : Int → Heap → Prop) (M_ : Int → Heap → Nat) (k : Int) (H2 : Heap) : Prop :=
  iteB (decide (k ≥ (0 : Int))) (
  CallsH Try.prog n_ref21_demand #[.slice sizes.p sizes.n sizes.c, .int .i64 k] H2 (fun v H3 =>
  ∃ n : Int, v = .int .u64 n ∧ (
  CallsH Try.prog n_ref21_Blocks #[.slice free.p free.n free.c, .int .i64 k] H3 (fun v1 H4 =>
  ∃ b : Int, v1 = .int .u64 b ∧ (
  0 ≤ (IntKind.u64.wrap k) ∧ (
  iteB (decide (n > (IntKind.u64.wrap (b * 2 ^ (min (IntKind.u64.wrap k).toNat IntKind.u64.bits))))) (
  okRow H4 (⟨H.size, 0, none⟩ : Addr) 4 ∧ (
  letH (wrs H4 (⟨H.size, 0, none⟩ : Addr) [.int .i64 (0 : Int), .int .i64 k, .int .u64 n, .int .u64 b]) (fun H5 : Heap =>
  ∃ r : Int, rd H5 (⟨H.size, 0, none⟩ : Addr) = some (.int .i64 r) ∧ ∃ r1 : Int, rd H5 ((⟨H.size, 0, none⟩ : Addr).add 1) = some (.int .i64 r1) ∧ ∃ r2 : Int, rd H5 ((⟨H.size, 0, none⟩ : Addr).add 2) = some (.int .u64 r2) ∧ ∃ r3 : Int, rd H5 ((⟨H.size, 0, none⟩ : Addr).add 3) = some (.int .u64 r3) ∧ (
  R (.agg #[.int .i64 r, .int .i64 r1, .int .u64 r2, .int .u64 r3]) H5)))) (
  letV (IntKind.i64.wrap (k - (1 : Int))) (fun k1 : Int =>
  I_ k1 H4 ∧ M_ k1 H4 < M_ k H2)))))))) (
  okRow H2 (⟨H.size, 0, none⟩ : Addr) 4 ∧ (
  letH (wrs H2 (⟨H.size, 0, none⟩ : Addr) [.int .i64 (0 : Int), .int .i64 (0 : Int), .int .u64 (0 : Int), .int .u64 (0 : Int)]) (fun H6 : Heap =>
  ∃ r4 : Int, rd H6 (⟨H.size, 0, none⟩ : Addr) = some (.int .i64 r4) ∧ ∃ r5 : Int, rd H6 ((⟨H.size, 0, none⟩ : Addr).add 1) = some (.int .i64 r5) ∧ ∃ r6 : Int, rd H6 ((⟨H.size, 0, none⟩ : Addr).add 2) = some (.int .u64 r6) ∧ ∃ r7 : Int, rd H6 ((⟨H.size, 0, none⟩ : Addr).add 3) = some (.int .u64 r7) ∧ (
  R (.agg #[.int .i64 r4, .int .i64 r5, .int .u64 r6, .int .u64 r7]) H6))))

def F_ref21_refusal (R : Value → Heap → Prop) (free : Sl) (sizes : Sl) (H : Heap) : Prop :=
  letH (H.push (.cells #[.int .i64 (0 : Int), .int .i64 (0 : Int), .int .u64 (0 : Int), .int .u64 (0 : Int)] t_api_Certificate (0, 0))) (fun H1 : Heap =>
  ∃ I_ : Int → Heap → Prop, ∃ M_ : Int → Heap → Nat, I_ (44 : Int) H1 ∧ (∀ k : Int, ∀ H2 : Heap, I_ k H2 → F_ref21_refusal_r1 R H free sizes I_ M_ k H2))

theorem F_ref21_refusal_eq (R : Value → Heap → Prop) (free : Sl) (sizes : Sl) (H : Heap) : wpF Try.prog Try.f59 [(5, .int .i64 0)] [] [(2, [5], [0, 1, 4])] [20] [.slice free.p free.n free.c, .slice sizes.p sizes.n sizes.c] H R = F_ref21_refusal R free sizes H := by kernel_rfl

theorem F_ref21_refusal_ok {R : Value → Heap → Prop} (free : Sl) (sizes : Sl) {H : Heap} (h : F_ref21_refusal R free sizes H) : CallsH Try.prog n_ref21_refusal #[.slice free.p free.n free.c, .slice sizes.p sizes.n sizes.c] H R :=
  wpF_ok Try.func59 (F_ref21_refusal_eq R free sizes H) h

/-! ### 60: platformfw/platformfwref21.remove -/

def F_ref21_remove_k1 (I_ : Sl → Int → Heap → Prop) (M_ : Sl → Int → Heap → Nat) (out : Sl) (i : Int) (H2 : Heap) (endv : Int) (stop : Int) (out3 : Sl) (H10 : Heap) : Prop :=
  iteB (decide (stop < endv)) (
  letH (H10.push (.cells #[.int .u64 stop, .int .u64 (IntKind.u64.wrap (endv - stop))] t_api_Range (0, 0))) (fun H11 : Heap =>
  runH Try.prog (Builtin.append_ #[t_sl_api_Range, t_sl_api_Range] t_sl_api_Range #[.slice out3.p out3.n out3.c, .slice (some (⟨H10.size, 0, none⟩ : Addr)) 1 1]) H11 (fun v2 H12 =>
  ∃ out4 : Sl, v2 = .slice out4.p out4.n out4.c ∧ (
  letV (IntKind.i64.wrap (i + (1 : Int))) (fun i2 : Int =>
  I_ out4 i2 H12 ∧ M_ out4 i2 H12 < M_ out i H2))))) (
  letV (IntKind.i64.wrap (i + (1 : Int))) (fun i3 : Int =>
  I_ out3 i3 H10 ∧ M_ out3 i3 H10 < M_ out i H2))

def F_ref21_remove_k2 (H : Heap) (I_ : Sl → Int → Heap → Prop) (M_ : Sl → Int → Heap → Nat) (out : Sl) (i : Int) (H2 : Heap) (endv : Int) (stop : Int) (x8 : Bool) (H5 : Heap) : Prop :=
  iteB x8 (
  ∃ x9 : Int, rd H5 (⟨H2.size, 0, none⟩ : Addr) = some (.int .u64 x9) ∧ ∃ x10 : Int, rd H5 ((⟨H2.size, 0, none⟩ : Addr).add 1) = some (.int .u64 x10) ∧ (
  letH (H5.push (.cells #[.int .u64 x9, .int .u64 x10] t_api_Range (0, 0))) (fun H6 : Heap =>
  runH Try.prog (Builtin.append_ #[t_sl_api_Range, t_sl_api_Range] t_sl_api_Range #[.slice out.p out.n out.c, .slice (some (⟨H5.size, 0, none⟩ : Addr)) 1 1]) H6 (fun v H7 =>
  ∃ out1 : Sl, v = .slice out1.p out1.n out1.c ∧ (
  letV (IntKind.i64.wrap (i + (1 : Int))) (fun i1 : Int =>
  I_ out1 i1 H7 ∧ M_ out1 i1 H7 < M_ out i H2)))))) (
  ∃ J_1 : Sl → Heap → Prop, (
  ∃ x11 : Int, rd H5 (⟨H2.size, 0, none⟩ : Addr) = some (.int .u64 x11) ∧ (
  ∃ x12 : Int, rd H5 (⟨H.size, 0, none⟩ : Addr) = some (.int .u64 x12) ∧ (
  iteB (decide (x11 < x12)) (
  ∃ x13 : Int, rd H5 (⟨H2.size, 0, none⟩ : Addr) = some (.int .u64 x13) ∧ (
  ∃ x14 : Int, rd H5 (⟨H.size, 0, none⟩ : Addr) = some (.int .u64 x14) ∧ (
  ∃ x15 : Int, rd H5 (⟨H2.size, 0, none⟩ : Addr) = some (.int .u64 x15) ∧ (
  letH (H5.push (.cells #[.int .u64 x13, .int .u64 (IntKind.u64.wrap (x14 - x15))] t_api_Range (0, 0))) (fun H8 : Heap =>
  runH Try.prog (Builtin.append_ #[t_sl_api_Range, t_sl_api_Range] t_sl_api_Range #[.slice out.p out.n out.c, .slice (some (⟨H5.size, 0, none⟩ : Addr)) 1 1]) H8 (fun v1 H9 =>
  ∃ out2 : Sl, v1 = .slice out2.p out2.n out2.c ∧ (
  J_1 out2 H9))))))) (
  J_1 out H5)))) ∧ (∀ out3 : Sl, ∀ H10 : Heap, J_1 out3 H10 → F_ref21_remove_k1 I_ M_ out i H2 endv stop out3 H10))

def F_ref21_remove_r3 (R : Value → Heap → Prop) (H : Heap) (free : Sl) (I_ : Sl → Int → Heap → Prop) (M_ : Sl → Int → Heap → Nat) (out : Sl) (i : Int) (H2 : Heap) : Prop :=
  iteB (decide (i < (free.n : Int))) (
  0 ≤ i ∧ i < (free.n : Int) ∧ (unSome free.p (fun a =>
  ∃ x : Int, rd H2 (a.add (i.toNat * 2)) = some (.int .u64 x) ∧ ∃ x1 : Int, rd H2 ((a.add (i.toNat * 2)).add 1) = some (.int .u64 x1) ∧ (
  letH (H2.push (.cells #[.int .u64 (0 : Int), .int .u64 (0 : Int)] t_api_Range (0, 0))) (fun H3 : Heap =>
  okRow H3 (⟨H2.size, 0, none⟩ : Addr) 2 ∧ (
  letH (wrs H3 (⟨H2.size, 0, none⟩ : Addr) [.int .u64 x, .int .u64 x1]) (fun H4 : Heap =>
  ∃ x2 : Int, rd H4 (⟨H2.size, 0, none⟩ : Addr) = some (.int .u64 x2) ∧ (
  ∃ x3 : Int, rd H4 ((⟨H2.size, 0, none⟩ : Addr).add 1) = some (.int .u64 x3) ∧ (
  ∃ x4 : Int, rd H4 (⟨H.size, 0, none⟩ : Addr) = some (.int .u64 x4) ∧ (
  ∃ x5 : Int, rd H4 ((⟨H.size, 0, none⟩ : Addr).add 1) = some (.int .u64 x5) ∧ (
  letV (IntKind.u64.wrap (x2 + x3)) (fun endv : Int =>
  letV (IntKind.u64.wrap (x4 + x5)) (fun stop : Int =>
  ∃ J_ : Bool → Heap → Prop, (
  ∃ x6 : Int, rd H4 (⟨H.size, 0, none⟩ : Addr) = some (.int .u64 x6) ∧ (
  iteB (decide (x6 ≥ endv)) (
  J_ true H4) (
  ∃ x7 : Int, rd H4 (⟨H2.size, 0, none⟩ : Addr) = some (.int .u64 x7) ∧ (
  J_ (decide (stop ≤ x7)) H4)))) ∧ (∀ x8 : Bool, ∀ H5 : Heap, J_ x8 H5 → F_ref21_remove_k2 H I_ M_ out i H2 endv stop x8 H5)))))))))))))) (
  R (.slice out.p out.n out.c) H2)

def F_ref21_remove (R : Value → Heap → Prop) (free : Sl) (x_0 : Int) (x_1 : Int) (H : Heap) : Prop :=
  letH (H.push (.cells #[.int .u64 x_0, .int .u64 x_1] t_api_Range (0, 0))) (fun H1 : Heap =>
  ∃ I_ : Sl → Int → Heap → Prop, ∃ M_ : Sl → Int → Heap → Nat, I_ (Sl.mk none 0 0) (0 : Int) H1 ∧ (∀ out : Sl, ∀ i : Int, ∀ H2 : Heap, I_ out i H2 → F_ref21_remove_r3 R H free I_ M_ out i H2))

theorem F_ref21_remove_eq (R : Value → Heap → Prop) (free : Sl) (x_0 : Int) (x_1 : Int) (H : Heap) : wpF Try.prog Try.f60 [(5, .slice none 0 0), (6, .int .i64 0), (39, .bool false)] [(8, [39], [0, 3, 5, 6, 7, 8, 9]), (11, [5], [0, 3, 6, 8, 9])] [(3, [5, 6], [0, 3])] [20] [.slice free.p free.n free.c, .agg #[.int .u64 x_0, .int .u64 x_1]] H R = F_ref21_remove R free x_0 x_1 H := by kernel_rfl

theorem F_ref21_remove_ok {R : Value → Heap → Prop} (free : Sl) (x_0 : Int) (x_1 : Int) {H : Heap} (h : F_ref21_remove R free x_0 x_1 H) : CallsH Try.prog n_ref21_remove #[.slice free.p free.n free.c, .agg #[.int .u64 x_0, .int .u64 x_1]] H R :=
  wpF_ok Try.func60 (F_ref21_remove_eq R free x_0 x_1 H) h

/-! ### 61: platformfw/pciconf.registers -/

def F_pciconf_registers (R : Value → Heap → Prop) (bridge : Bool) (H : Heap) : Prop :=
  iteB bridge (
  R (.int .i64 (2 : Int)) H) (
  R (.int .i64 (6 : Int)) H)

theorem F_pciconf_registers_eq (R : Value → Heap → Prop) (bridge : Bool) (H : Heap) : wpF Try.prog Try.f61 [] [] [] [20] [.bool bridge] H R = F_pciconf_registers R bridge H := by kernel_rfl

theorem F_pciconf_registers_ok {R : Value → Heap → Prop} (bridge : Bool) {H : Heap} (h : F_pciconf_registers R bridge H) : CallsH Try.prog n_pciconf_registers #[.bool bridge] H R :=
  wpF_ok Try.func61 (F_pciconf_registers_eq R bridge H) h

/-! ### 62: platformfw/pciconf.validBar -/

def F_pciconf_validBar_k1 (R : Value → Heap → Prop) (l : Sl) (i : Int) (size : Int) (x1 : Bool) (H1 : Heap) : Prop :=
  iteB x1 (
  iteB (decide (size ≥ (4 : Int))) (
  iteB (decide (size ≤ (40 : Int))) (
  iteB (decide ((IntKind.i64.wrap (i + (1 : Int))) < (l.n : Int))) (
  0 ≤ (IntKind.i64.wrap (i + (1 : Int))) ∧ (IntKind.i64.wrap (i + (1 : Int))) < (l.n : Int) ∧ (unSome l.p (fun a2 =>
  ∃ x2 : Int, rd H1 (a2.add ((IntKind.i64.wrap (i + (1 : Int))).toNat * 2)) = some (.int .i64 x2) ∧ (
  R (.bool (x2 == (0 : Int))) H1)))) (
  R (.bool false) H1)) (
  R (.bool false) H1)) (
  R (.bool false) H1)) (
  R (.bool false) H1)

def F_pciconf_validBar (R : Value → Heap → Prop) (l : Sl) (i : Int) (H : Heap) : Prop :=
  0 ≤ i ∧ i < (l.n : Int) ∧ (unSome l.p (fun a =>
  ∃ size : Int, rd H ((a.add (i.toNat * 2)).add 1) = some (.int .i64 size) ∧ (
  0 ≤ i ∧ i < (l.n : Int) ∧ (unSome l.p (fun a1 =>
  ∃ x : Int, rd H (a1.add (i.toNat * 2)) = some (.int .i64 x) ∧ (
  iteB (x == (0 : Int)) (
  R (.bool (size == (0 : Int))) H) (
  iteB (x == (1 : Int)) (
  iteB (decide (size ≥ (2 : Int))) (
  R (.bool (decide (size ≤ (8 : Int)))) H) (
  R (.bool false) H)) (
  iteB (x == (2 : Int)) (
  iteB (decide (size ≥ (4 : Int))) (
  R (.bool (decide (size ≤ (31 : Int)))) H) (
  R (.bool false) H)) (
  ∃ J_ : Bool → Heap → Prop, (
  iteB (x == (3 : Int)) (
  J_ true H) (
  J_ (x == (4 : Int)) H)) ∧ (∀ x1 : Bool, ∀ H1 : Heap, J_ x1 H1 → F_pciconf_validBar_k1 R l i size x1 H1))))))))))

theorem F_pciconf_validBar_eq (R : Value → Heap → Prop) (l : Sl) (i : Int) (H : Heap) : wpF Try.prog Try.f62 [(36, .bool false)] [(11, [36], [0, 1, 5])] [] [20] [.slice l.p l.n l.c, .int .i64 i] H R = F_pciconf_validBar R l i H := by kernel_rfl

theorem F_pciconf_validBar_ok {R : Value → Heap → Prop} (l : Sl) (i : Int) {H : Heap} (h : F_pciconf_validBar R l i H) : CallsH Try.prog n_pciconf_validBar #[.slice l.p l.n l.c, .int .i64 i] H R :=
  wpF_ok Try.func62 (F_pciconf_validBar_eq R l i H) h

/-! ### 63: platformfw/platformfwref21.demand -/

def F_ref21_demand_r1 (R : Value → Heap → Prop) (sizes : Sl) (k : Int) (I_ : Int → Int → Heap → Prop) (M_ : Int → Int → Heap → Nat) (n : Int) (i : Int) (H1 : Heap) : Prop :=
  iteB (decide (i < (sizes.n : Int))) (
  0 ≤ i ∧ i < (sizes.n : Int) ∧ (unSome sizes.p (fun a =>
  ∃ x : Int, rd H1 (a.add (i.toNat * 1)) = some (.int .i64 x) ∧ (
  iteB (decide (x ≥ k)) (
  0 ≤ i ∧ i < (sizes.n : Int) ∧ (unSome sizes.p (fun a1 =>
  ∃ x1 : Int, rd H1 (a1.add (i.toNat * 1)) = some (.int .i64 x1) ∧ (
  0 ≤ (IntKind.u64.wrap x1) ∧ (
  letV (IntKind.u64.wrap (n + (IntKind.u64.wrap ((1 : Int) * 2 ^ (min (IntKind.u64.wrap x1).toNat IntKind.u64.bits))))) (fun n1 : Int =>
  letV (IntKind.i64.wrap (i + (1 : Int))) (fun i1 : Int =>
  I_ n1 i1 H1 ∧ M_ n1 i1 H1 < M_ n i H1))))))) (
  letV (IntKind.i64.wrap (i + (1 : Int))) (fun i2 : Int =>
  I_ n i2 H1 ∧ M_ n i2 H1 < M_ n i H1)))))) (
  R (.int .u64 n) H1)

def F_ref21_demand (R : Value → Heap → Prop) (sizes : Sl) (k : Int) (H : Heap) : Prop :=
  ∃ I_ : Int → Int → Heap → Prop, ∃ M_ : Int → Int → Heap → Nat, I_ (0 : Int) (0 : Int) H ∧ (∀ n : Int, ∀ i : Int, ∀ H1 : Heap, I_ n i H1 → F_ref21_demand_r1 R sizes k I_ M_ n i H1)

theorem F_ref21_demand_eq (R : Value → Heap → Prop) (sizes : Sl) (k : Int) (H : Heap) : wpF Try.prog Try.f63 [(5, .int .u64 0), (6, .int .i64 0)] [] [(3, [5, 6], [0, 1])] [20] [.slice sizes.p sizes.n sizes.c, .int .i64 k] H R = F_ref21_demand R sizes k H := by kernel_rfl

theorem F_ref21_demand_ok {R : Value → Heap → Prop} (sizes : Sl) (k : Int) {H : Heap} (h : F_ref21_demand R sizes k H) : CallsH Try.prog n_ref21_demand #[.slice sizes.p sizes.n sizes.c, .int .i64 k] H R :=
  wpF_ok Try.func63 (F_ref21_demand_eq R sizes k H) h

/-! ### 64: platformfw/platformfwref21.Blocks -/

def F_ref21_Blocks_r1 (R : Value → Heap → Prop) (k : Int) (l : Sl) (I_ : Int → Int → Heap → Prop) (M_ : Int → Int → Heap → Nat) (n : Int) (i : Int) (H3 : Heap) : Prop :=
  iteB (decide (i < (l.n : Int))) (
  0 ≤ i ∧ i < (l.n : Int) ∧ (unSome l.p (fun a =>
  ∃ x1 : Int, rd H3 (a.add (i.toNat * 2)) = some (.int .u64 x1) ∧ (
  0 ≤ i ∧ i < (l.n : Int) ∧ (unSome l.p (fun a1 =>
  ∃ x2 : Int, rd H3 (a1.add (i.toNat * 2)) = some (.int .u64 x2) ∧ (
  0 ≤ i ∧ i < (l.n : Int) ∧ (unSome l.p (fun a2 =>
  ∃ x3 : Int, rd H3 ((a2.add (i.toNat * 2)).add 1) = some (.int .u64 x3) ∧ (
  CallsH Try.prog n_ref21_up #[.int .u64 x1, .int .i64 k] H3 (fun v2 H4 =>
  ∃ atv : Int, v2 = .int .u64 atv ∧ (
  Keeps H3 H4 [((a1.add (i.toNat * 2)), 1), (((a2.add (i.toNat * 2)).add 1), 1)] ∧ (
  letV (IntKind.u64.wrap (x2 + x3)) (fun endv : Int =>
  iteB (decide (atv < endv)) (
  0 ≤ (IntKind.u64.wrap k) ∧ (
  letV (IntKind.u64.wrap (n + ((IntKind.u64.wrap (endv - atv)).fdiv (2 ^ (min (IntKind.u64.wrap k).toNat IntKind.u64.bits))))) (fun n1 : Int =>
  letV (IntKind.i64.wrap (i + (1 : Int))) (fun i1 : Int =>
  I_ n1 i1 H4 ∧ M_ n1 i1 H4 < M_ n i H3)))) (
  letV (IntKind.i64.wrap (i + (1 : Int))) (fun i2 : Int =>
  I_ n i2 H4 ∧ M_ n i2 H4 < M_ n i H3)))))))))))))))) (
  R (.int .u64 n) H3)

def F_ref21_Blocks (R : Value → Heap → Prop) (free : Sl) (k : Int) (H : Heap) : Prop :=
  iteB (decide (k < (0 : Int))) (
  R (.int .u64 (0 : Int)) H) (
  iteB (decide (k > (52 : Int))) (
  R (.int .u64 (0 : Int)) H) (
  CallsH Try.prog n_ref21_ValidRanges #[.slice free.p free.n free.c] H (fun v H1 =>
  ∃ x : Bool, v = .bool x ∧ (
  iteB (!x) (
  R (.int .u64 (0 : Int)) H1) (
  CallsH Try.prog n_ref21_merge #[.slice free.p free.n free.c] H1 (fun v1 H2 =>
  ∃ l : Sl, v1 = .slice l.p l.n l.c ∧ (
  ∃ I_ : Int → Int → Heap → Prop, ∃ M_ : Int → Int → Heap → Nat, I_ (0 : Int) (0 : Int) H2 ∧ (∀ n : Int, ∀ i : Int, ∀ H3 : Heap, I_ n i H3 → F_ref21_Blocks_r1 R k l I_ M_ n i H3))))))))

theorem F_ref21_Blocks_eq (R : Value → Heap → Prop) (free : Sl) (k : Int) (H : Heap) : wpF Try.prog Try.f64 [(5, .int .u64 0), (7, .int .i64 0)] [] [(6, [5, 7], [1, 6])] [20] [.slice free.p free.n free.c, .int .i64 k] H R = F_ref21_Blocks R free k H := by kernel_rfl

theorem F_ref21_Blocks_ok {R : Value → Heap → Prop} (free : Sl) (k : Int) {H : Heap} (h : F_ref21_Blocks R free k H) : CallsH Try.prog n_ref21_Blocks #[.slice free.p free.n free.c, .int .i64 k] H R :=
  wpF_ok Try.func64 (F_ref21_Blocks_eq R free k H) h

end Go.Proofs.Ytnhhncjflnlfaaa
