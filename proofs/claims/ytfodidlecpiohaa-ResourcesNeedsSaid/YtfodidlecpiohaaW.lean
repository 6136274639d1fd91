/-
  The shallow readings of this seat's functions, written by a program (gen.py); the kernel holds each against the loaded program.
-/
import Derived.Test.YtfodidlecpiohaaProg
import Derived.Test.YtfodidlecpiohaaEngS
namespace Go.Proofs.Ytfodidlecpiohaa
open Go.Eng
abbrev n_law20_ResourcesWindowSize : FuncId := 3
abbrev n_law20_ResourcesEveryRegister : FuncId := 4
abbrev n_law20_ResourcesPrefetchable : FuncId := 5
abbrev n_law20_ResourcesClasses : FuncId := 6
abbrev n_law20_ResourcesNeeds : FuncId := 7
abbrev n_law20_ResourcesWindowsCover : FuncId := 8
abbrev n_resources_WindowSize : FuncId := 9
abbrev n_ref18_WindowSize : FuncId := 10
abbrev n_help_Mod : FuncId := 11
abbrev n_law20_awake : FuncId := 12
abbrev n_gen_Topology : FuncId := 13
abbrev n_resources_Needs : FuncId := 14
abbrev n_resources_Class : FuncId := 15
abbrev n_ref18_Class : FuncId := 16
abbrev n_ref18_Needs : FuncId := 17
abbrev n_help_Equal_api_Need : FuncId := 18
abbrev n_resources_Below : FuncId := 19
abbrev n_ref18_NeedsBelow : FuncId := 20
abbrev n_math_bits_Len64 : FuncId := 21
abbrev n_gen_bars : FuncId := 22
abbrev n_enumerate_Valid : FuncId := 23
abbrev n_resources_registers : FuncId := 24
abbrev n_resources_windows : FuncId := 25
abbrev n_resources_largest : FuncId := 26
abbrev n_resources_classOf : FuncId := 27
abbrev n_ref18_Valid : FuncId := 28
abbrev n_ref18_bar : FuncId := 29
abbrev n_ref18_above : FuncId := 30
abbrev n_ref18_window : FuncId := 31
abbrev n_pciconf_Valid : FuncId := 32
abbrev n_resources_prefAbove : FuncId := 33
abbrev n_ref18_ValidFunction : FuncId := 34
abbrev n_pciconf_registers : FuncId := 35
abbrev n_pciconf_validBar : FuncId := 36
abbrev n_ref18_Registers : FuncId := 37
abbrev t_int64 : TypeId := 2
abbrev t_int : TypeId := 3
abbrev t_bool : TypeId := 4
abbrev t_uint8 : TypeId := 5
abbrev t_abi_BoundsErrorCode : TypeId := 6
abbrev t_runtime_boundsError : TypeId := 8
abbrev t_string : TypeId := 9
abbrev t_runtime_errorString : TypeId := 10
abbrev t_runtime_plainError : TypeId := 11
abbrev t_uintptr : TypeId := 12
abbrev t_runtime_errorAddressString : TypeId := 14
abbrev t_p_runtime_TypeAssertionError : TypeId := 15
abbrev t_p_runtime_PanicNilError : TypeId := 16
abbrev t_p_abi_Type : TypeId := 17
abbrev t_maps_unhashableTypeError : TypeId := 19
abbrev t_int32 : TypeId := 21
abbrev t_sl_int : TypeId := 22
abbrev t_sl_api_Function : TypeId := 28
abbrev t_sl_api_Need : TypeId := 30
abbrev t_api_Errno : TypeId := 31
abbrev t_sl_api_Bar : TypeId := 34
abbrev t_api_Function : TypeId := 36
abbrev t_api_Bar : TypeId := 38
abbrev t_api_Need : TypeId := 40
abbrev t_uint64 : TypeId := 47
abbrev t_uint : TypeId := 48
abbrev t_map_2_int_bool : TypeId := 50
abbrev t_2_int : TypeId := 51
abbrev t_sl_sl_api_Need : TypeId := 53
abbrev t_sl__3_sl_int : TypeId := 54
abbrev t_3_sl_int : TypeId := 57
abbrev t_3_int : TypeId := 63
abbrev t_map_enumerate_place_bool : TypeId := 64
abbrev t_enumerate_place : TypeId := 67
abbrev t_runtime_TypeAssertionError : TypeId := 73
abbrev t_0_p_runtime_PanicNilError : TypeId := 74
abbrev t_runtime_PanicNilError : TypeId := 76
abbrev t_uint32 : TypeId := 78
abbrev t_abi_TFlag : TypeId := 79
abbrev t_abi_Kind : TypeId := 80
abbrev t_p_uint8 : TypeId := 82
abbrev t_abi_NameOff : TypeId := 83
abbrev t_abi_TypeOff : TypeId := 84
abbrev t_abi_Type : TypeId := 86
abbrev t_unsafe_Pointer : TypeId := 87
def cstr_0 : ByteArray := ⟨#[0, 1, 2, 2, 3, 3, 3, 3, 4, 4, 4, 4, 4, 4, 4, 4, 5, 5, 5, 5, 5, 5, 5, 5, 5, 5, 5, 5, 5, 5, 5, 5, 6, 6, 6, 6, 6, 6, 6, 6, 6, 6, 6, 6, 6, 6, 6, 6, 6, 6, 6, 6, 6, 6, 6, 6, 6, 6, 6, 6, 6, 6, 6, 6, 7, 7, 7, 7, 7, 7, 7, 7, 7, 7, 7, 7, 7, 7, 7, 7, 7, 7, 7, 7, 7, 7, 7, 7, 7, 7, 7, 7, 7, 7, 7, 7, 7, 7, 7, 7, 7, 7, 7, 7, 7, 7, 7, 7, 7, 7, 7, 7, 7, 7, 7, 7, 7, 7, 7, 7, 7, 7, 7, 7, 7, 7, 7, 7, 8, 8, 8, 8, 8, 8, 8, 8, 8, 8, 8, 8, 8, 8, 8, 8, 8, 8, 8, 8, 8, 8, 8, 8, 8, 8, 8, 8, 8, 8, 8, 8, 8, 8, 8, 8, 8, 8, 8, 8, 8, 8, 8, 8, 8, 8, 8, 8, 8, 8, 8, 8, 8, 8, 8, 8, 8, 8, 8, 8, 8, 8, 8, 8, 8, 8, 8, 8, 8, 8, 8, 8, 8, 8, 8, 8, 8, 8, 8, 8, 8, 8, 8, 8, 8, 8, 8, 8, 8, 8, 8, 8, 8, 8, 8, 8, 8, 8, 8, 8, 8, 8, 8, 8, 8, 8, 8, 8, 8, 8, 8, 8, 8, 8, 8, 8, 8, 8, 8, 8, 8, 8, 8, 8, 8, 8, 8, 8]⟩

/-! ### 3: platformfw/platformfwlaw20.ResourcesWindowSize -/

def F_law20_ResourcesWindowSize_r1 (l1 : Sl) (J_ : Sl → Heap → Prop) (I_1 : Sl → Int → Heap → Prop) (M_1 : Sl → Int → Heap → Nat) (m : Sl) (i : Int) (H4 : Heap) : Prop :=
  iteB (decide (i < (l1.n : Int))) (
  iteB (decide (i < (40 : Int))) (
  0 ≤ i ∧ i < (l1.n : Int) ∧ (unSome l1.p (fun a =>
  ∃ x4 : Int, rd H4 (a.add (i.toNat * 1)) = some (.int .i64 x4) ∧ (
  CallsH Try.prog n_help_Mod #[.int .i64 x4, .int .i64 (46 : Int)] H4 (fun v2 H5 =>
  ∃ x5 : Int, v2 = .int .i64 x5 ∧ (
  letH (H5.push (.cells #[.int .i64 x5] t_int (0, 0))) (fun H6 : Heap =>
  runH Try.prog (Builtin.append_ #[t_sl_int, t_sl_int] t_sl_int #[.slice m.p m.n m.c, .slice (some (⟨H5.size, 0, none⟩ : Addr)) 1 1]) H6 (fun v3 H7 =>
  ∃ m1 : Sl, v3 = .slice m1.p m1.n m1.c ∧ (
  letV (IntKind.i64.wrap (i + (1 : Int))) (fun i1 : Int =>
  I_1 m1 i1 H7 ∧ M_1 m1 i1 H7 < M_1 m i H4)))))))))) (
  J_ m H4)) (
  J_ m H4)

def F_law20_ResourcesWindowSize_k2 (I_ : Sl → Int → Int → Heap → Prop) (M_ : Sl → Int → Int → Heap → Nat) (l1 : Sl) (classv1 : Int) (n : Int) (H1 : Heap) (m2 : Sl) (H8 : Heap) : Prop :=
  CallsH Try.prog n_help_Mod #[.int .i64 classv1, .int .i64 (4 : Int)] H8 (fun v4 H9 =>
  ∃ classv2 : Int, v4 = .int .i64 classv2 ∧ (
  letV (IntKind.i64.wrap (n + (1 : Int))) (fun n1 : Int =>
  I_ m2 classv2 n1 H9 ∧ M_ m2 classv2 n1 H9 < M_ l1 classv1 n H1)))

def F_law20_ResourcesWindowSize_r3 (R : Value → Heap → Prop) (hotplug : Bool) (I_ : Sl → Int → Int → Heap → Prop) (M_ : Sl → Int → Int → Heap → Nat) (l1 : Sl) (classv1 : Int) (n : Int) (H1 : Heap) : Prop :=
  iteB (decide (n < (2 : Int))) (
  CallsH Try.prog n_resources_WindowSize #[.slice l1.p l1.n l1.c, .int .i64 classv1, .bool hotplug] H1 (fun v H2 =>
  ∃ x : Int, ∃ x1 : Bool, v = .tuple #[.int .i64 x, .bool x1] ∧ (
  CallsH Try.prog n_ref18_WindowSize #[.slice l1.p l1.n l1.c, .int .i64 classv1, .bool hotplug] H2 (fun v1 H3 =>
  ∃ x2 : Int, ∃ x3 : Bool, v1 = .tuple #[.int .i64 x2, .bool x3] ∧ (
  iteB (x != x2) (
  R (.bool false) H3) (
  iteB (!(x1 == x3)) (
  R (.bool false) H3) (
  ∃ J_ : Sl → Heap → Prop, (
  ∃ I_1 : Sl → Int → Heap → Prop, ∃ M_1 : Sl → Int → Heap → Nat, I_1 (Sl.mk none 0 0) (0 : Int) H3 ∧ (∀ m : Sl, ∀ i : Int, ∀ H4 : Heap, I_1 m i H4 → F_law20_ResourcesWindowSize_r1 l1 J_ I_1 M_1 m i H4)) ∧ (∀ m2 : Sl, ∀ H8 : Heap, J_ m2 H8 → F_law20_ResourcesWindowSize_k2 I_ M_ l1 classv1 n H1 m2 H8)))))))) (
  CallsH Try.prog n_law20_awake #[] H1 (fun v5 H10 =>
  ∃ x6 : Bool, v5 = .bool x6 ∧ (
  R (.bool x6) H10)))

def F_law20_ResourcesWindowSize (R : Value → Heap → Prop) (l : Sl) (classv : Int) (hotplug : Bool) (H : Heap) : Prop :=
  ∃ I_ : Sl → Int → Int → Heap → Prop, ∃ M_ : Sl → Int → Int → Heap → Nat, I_ l classv (0 : Int) H ∧ (∀ l1 : Sl, ∀ classv1 : Int, ∀ n : Int, ∀ H1 : Heap, I_ l1 classv1 n H1 → F_law20_ResourcesWindowSize_r3 R hotplug I_ M_ l1 classv1 n H1)

theorem F_law20_ResourcesWindowSize_eq (R : Value → Heap → Prop) (l : Sl) (classv : Int) (hotplug : Bool) (H : Heap) : wpF Try.prog Try.f3 [(0, .slice none 0 0), (1, .int .i64 0), (7, .int .i64 0), (12, .slice none 0 0), (13, .int .i64 0)] [(13, [12], [1, 2, 7])] [(2, [0, 1, 7], [2]), (10, [12, 13], [0, 1, 2, 7])] [11] [.slice l.p l.n l.c, .int .i64 classv, .bool hotplug] H R = F_law20_ResourcesWindowSize R l classv hotplug H := by kernel_rfl

theorem F_law20_ResourcesWindowSize_ok {R : Value → Heap → Prop} (l : Sl) (classv : Int) (hotplug : Bool) {H : Heap} (h : F_law20_ResourcesWindowSize R l classv hotplug H) : CallsH Try.prog n_law20_ResourcesWindowSize #[.slice l.p l.n l.c, .int .i64 classv, .bool hotplug] H R :=
  wpF_ok Try.func3 (F_law20_ResourcesWindowSize_eq R l classv hotplug H) h

/-! ### 4: platformfw/platformfwlaw20.ResourcesEveryRegister -/

def F_law20_ResourcesEveryRegister_r1 (x : Sl) (I_ : Int → Int → Heap → Prop) (M_ : Int → Int → Heap → Nat) (k : Int) (i : Int) (H6 : Heap) (I_2 : Int → Heap → Prop) (M_2 : Int → Heap → Nat) (k3 : Int) (H8 : Heap) : Prop :=
  iteB (decide (k3 < (x.n : Int))) (
  0 ≤ k3 ∧ k3 < (x.n : Int) ∧ (unSome x.p (fun a8 =>
  ∃ x13 : Int, rd H8 (a8.add (k3.toNat * 4)) = some (.int .i64 x13) ∧ (
  iteB (x13 == i) (
  0 ≤ k3 ∧ k3 < (x.n : Int) ∧ (unSome x.p (fun a9 =>
  ∃ x14 : Int, rd H8 ((a9.add (k3.toNat * 4)).add 1) = some (.int .i64 x14) ∧ (
  iteB (decide (x14 < (0 : Int))) (
  letV (IntKind.i64.wrap (k3 + (1 : Int))) (fun k4 : Int =>
  I_2 k4 H8 ∧ M_2 k4 H8 < M_2 k3 H8)) (
  letV (IntKind.i64.wrap (i + (1 : Int))) (fun i1 : Int =>
  I_ k3 i1 H8 ∧ M_ k3 i1 H8 < M_ k i H6)))))) (
  letV (IntKind.i64.wrap (i + (1 : Int))) (fun i2 : Int =>
  I_ k3 i2 H8 ∧ M_ k3 i2 H8 < M_ k i H6)))))) (
  letV (IntKind.i64.wrap (i + (1 : Int))) (fun i3 : Int =>
  I_ k3 i3 H8 ∧ M_ k3 i3 H8 < M_ k i H6))

def F_law20_ResourcesEveryRegister_r2 (R : Value → Heap → Prop) (t : Sl) (x : Sl) (I_ : Int → Int → Heap → Prop) (M_ : Int → Int → Heap → Nat) (k : Int) (i : Int) (H6 : Heap) (I_1 : Int → Int → Heap → Prop) (M_1 : Int → Int → Heap → Nat) (k1 : Int) (j : Int) (H7 : Heap) : Prop :=
  0 ≤ i ∧ i < (t.n : Int) ∧ (unSome t.p (fun a =>
  ∃ x5 : Sl, rd H7 ((a.add (i.toNat * 11)).add 10) = some (.slice x5.p x5.n x5.c) ∧ (
  iteB (decide (j < (x5.n : Int))) (
  0 ≤ i ∧ i < (t.n : Int) ∧ (unSome t.p (fun a1 =>
  ∃ x6 : Sl, rd H7 ((a1.add (i.toNat * 11)).add 10) = some (.slice x6.p x6.n x6.c) ∧ (
  0 ≤ j ∧ j < (x6.n : Int) ∧ (unSome x6.p (fun a2 =>
  ∃ x7 : Int, rd H7 (a2.add (j.toNat * 2)) = some (.int .i64 x7) ∧ (
  iteB (x7 == (0 : Int)) (
  letV (IntKind.i64.wrap (j + (1 : Int))) (fun j1 : Int =>
  I_1 k1 j1 H7 ∧ M_1 k1 j1 H7 < M_1 k1 j H7)) (
  iteB (decide (k1 ≥ (x.n : Int))) (
  R (.bool false) H7) (
  0 ≤ k1 ∧ k1 < (x.n : Int) ∧ (unSome x.p (fun a3 =>
  ∃ x8 : Int, rd H7 (a3.add (k1.toNat * 4)) = some (.int .i64 x8) ∧ (
  iteB (x8 != i) (
  R (.bool false) H7) (
  0 ≤ k1 ∧ k1 < (x.n : Int) ∧ (unSome x.p (fun a4 =>
  ∃ x9 : Int, rd H7 ((a4.add (k1.toNat * 4)).add 1) = some (.int .i64 x9) ∧ (
  iteB (x9 != j) (
  R (.bool false) H7) (
  0 ≤ k1 ∧ k1 < (x.n : Int) ∧ (unSome x.p (fun a5 =>
  ∃ x10 : Int, rd H7 ((a5.add (k1.toNat * 4)).add 3) = some (.int .i64 x10) ∧ (
  0 ≤ i ∧ i < (t.n : Int) ∧ (unSome t.p (fun a6 =>
  ∃ x11 : Sl, rd H7 ((a6.add (i.toNat * 11)).add 10) = some (.slice x11.p x11.n x11.c) ∧ (
  0 ≤ j ∧ j < (x11.n : Int) ∧ (unSome x11.p (fun a7 =>
  ∃ x12 : Int, rd H7 ((a7.add (j.toNat * 2)).add 1) = some (.int .i64 x12) ∧ (
  iteB (x10 != x12) (
  R (.bool false) H7) (
  letV (IntKind.i64.wrap (k1 + (1 : Int))) (fun k2 : Int =>
  letV (IntKind.i64.wrap (j + (1 : Int))) (fun j2 : Int =>
  I_1 k2 j2 H7 ∧ M_1 k2 j2 H7 < M_1 k1 j H7))))))))))))))))))))))))))))) (
  ∃ I_2 : Int → Heap → Prop, ∃ M_2 : Int → Heap → Nat, I_2 k1 H7 ∧ (∀ k3 : Int, ∀ H8 : Heap, I_2 k3 H8 → F_law20_ResourcesEveryRegister_r1 x I_ M_ k i H6 I_2 M_2 k3 H8)))))

def F_law20_ResourcesEveryRegister_r3 (R : Value → Heap → Prop) (t : Sl) (x : Sl) (I_ : Int → Int → Heap → Prop) (M_ : Int → Int → Heap → Nat) (k : Int) (i : Int) (H6 : Heap) : Prop :=
  iteB (decide (i < (t.n : Int))) (
  ∃ I_1 : Int → Int → Heap → Prop, ∃ M_1 : Int → Int → Heap → Nat, I_1 k (0 : Int) H6 ∧ (∀ k1 : Int, ∀ j : Int, ∀ H7 : Heap, I_1 k1 j H7 → F_law20_ResourcesEveryRegister_r2 R t x I_ M_ k i H6 I_1 M_1 k1 j H7)) (
  R (.bool (k == (x.n : Int))) H6)

def F_law20_ResourcesEveryRegister_k4 (R : Value → Heap → Prop) (t : Sl) (x : Sl) (x1 : Int) (x3 : Bool) (H4 : Heap) : Prop :=
  iteB x3 (
  iteB (x1 == (11 : Int)) (
  CallsH Try.prog n_law20_awake #[] H4 (fun v3 H5 =>
  ∃ x4 : Bool, v3 = .bool x4 ∧ (
  R (.bool x4) H5))) (
  R (.bool false) H4)) (
  ∃ I_ : Int → Int → Heap → Prop, ∃ M_ : Int → Int → Heap → Nat, I_ (0 : Int) (0 : Int) H4 ∧ (∀ k : Int, ∀ i : Int, ∀ H6 : Heap, I_ k i H6 → F_law20_ResourcesEveryRegister_r3 R t x I_ M_ k i H6))

def F_law20_ResourcesEveryRegister (R : Value → Heap → Prop) (l : Sl) (high : Bool) (H : Heap) : Prop :=
  CallsH Try.prog n_gen_Topology #[.slice l.p l.n l.c, .int .i64 (30 : Int)] H (fun v H1 =>
  ∃ t : Sl, v = .slice t.p t.n t.c ∧ (
  CallsH Try.prog n_resources_Needs #[.slice t.p t.n t.c, .bool high] H1 (fun v1 H2 =>
  ∃ x : Sl, ∃ x1 : Int, v1 = .tuple #[.slice x.p x.n x.c, .int .i64 x1] ∧ (
  ∃ J_ : Bool → Heap → Prop, (
  CallsH Try.prog n_law20_awake #[] H2 (fun v2 H3 =>
  ∃ x2 : Bool, v2 = .bool x2 ∧ (
  iteB (!x2) (
  J_ true H3) (
  J_ (x1 != (0 : Int)) H3)))) ∧ (∀ x3 : Bool, ∀ H4 : Heap, J_ x3 H4 → F_law20_ResourcesEveryRegister_k4 R t x x1 x3 H4)))))

theorem F_law20_ResourcesEveryRegister_eq (R : Value → Heap → Prop) (l : Sl) (high : Bool) (H : Heap) : wpF Try.prog Try.f4 [(8, .int .i64 0), (9, .int .i64 0), (10, .int .i64 0), (24, .bool false)] [(4, [24], [5, 6, 7])] [(7, [8, 9], [5, 6]), (10, [8, 10], [5, 6, 9]), (16, [8], [5, 6, 9])] [11] [.slice l.p l.n l.c, .bool high] H R = F_law20_ResourcesEveryRegister R l high H := by kernel_rfl

theorem F_law20_ResourcesEveryRegister_ok {R : Value → Heap → Prop} (l : Sl) (high : Bool) {H : Heap} (h : F_law20_ResourcesEveryRegister R l high H) : CallsH Try.prog n_law20_ResourcesEveryRegister #[.slice l.p l.n l.c, .bool high] H R :=
  wpF_ok Try.func4 (F_law20_ResourcesEveryRegister_eq R l high H) h

/-! ### 5: platformfw/platformfwlaw20.ResourcesPrefetchable -/

def F_law20_ResourcesPrefetchable_r1 (R : Value → Heap → Prop) (t : Sl) (x2 : Sl) (I_1 : Int → Heap → Prop) (M_1 : Int → Heap → Nat) (i2 : Int) (H5 : Heap) (I_2 : Int → Heap → Prop) (M_2 : Int → Heap → Nat) (p1 : Int) (H6 : Heap) : Prop :=
  iteB (decide (p1 ≥ (0 : Int))) (
  0 ≤ i2 ∧ i2 < (x2.n : Int) ∧ (unSome x2.p (fun a3 =>
  ∃ x6 : Int, rd H6 ((a3.add (i2.toNat * 4)).add 2) = some (.int .i64 x6) ∧ (
  iteB (x6 == (2 : Int)) (
  0 ≤ p1 ∧ p1 < (t.n : Int) ∧ (unSome t.p (fun a4 =>
  ∃ x7 : Bool, rd H6 ((a4.add (p1.toNat * 11)).add 5) = some (.bool x7) ∧ (
  iteB (!x7) (
  R (.bool false) H6) (
  0 ≤ p1 ∧ p1 < (t.n : Int) ∧ (unSome t.p (fun a5 =>
  ∃ p2 : Int, rd H6 (a5.add (p1.toNat * 11)) = some (.int .i64 p2) ∧ (
  I_2 p2 H6 ∧ M_2 p2 H6 < M_2 p1 H6)))))))) (
  letV (IntKind.i64.wrap (i2 + (1 : Int))) (fun i3 : Int =>
  I_1 i3 H6 ∧ M_1 i3 H6 < M_1 i2 H5)))))) (
  letV (IntKind.i64.wrap (i2 + (1 : Int))) (fun i4 : Int =>
  I_1 i4 H6 ∧ M_1 i4 H6 < M_1 i2 H5))

def F_law20_ResourcesPrefetchable_r2 (R : Value → Heap → Prop) (t : Sl) (x1 : Int) (x2 : Sl) (x3 : Int) (I_1 : Int → Heap → Prop) (M_1 : Int → Heap → Nat) (i2 : Int) (H5 : Heap) : Prop :=
  iteB (decide (i2 < (x2.n : Int))) (
  0 ≤ i2 ∧ i2 < (x2.n : Int) ∧ (unSome x2.p (fun a1 =>
  ∃ x5 : Int, rd H5 (a1.add (i2.toNat * 4)) = some (.int .i64 x5) ∧ (
  0 ≤ x5 ∧ x5 < (t.n : Int) ∧ (unSome t.p (fun a2 =>
  ∃ p : Int, rd H5 (a2.add (x5.toNat * 11)) = some (.int .i64 p) ∧ (
  ∃ I_2 : Int → Heap → Prop, ∃ M_2 : Int → Heap → Nat, I_2 p H5 ∧ (∀ p1 : Int, ∀ H6 : Heap, I_2 p1 H6 → F_law20_ResourcesPrefetchable_r1 R t x2 I_1 M_1 i2 H5 I_2 M_2 p1 H6)))))))) (
  CallsH Try.prog n_law20_awake #[] H5 (fun v3 H7 =>
  ∃ x8 : Bool, v3 = .bool x8 ∧ (
  iteB x8 (
  iteB (x1 == (0 : Int)) (
  iteB (x3 == (0 : Int)) (
  R (.bool true) H7) (
  R (.bool (x3 == (11 : Int))) H7)) (
  iteB (x1 == (11 : Int)) (
  iteB (x3 == (0 : Int)) (
  R (.bool true) H7) (
  R (.bool (x3 == (11 : Int))) H7)) (
  R (.bool false) H7))) (
  R (.bool false) H7))))

def F_law20_ResourcesPrefetchable_r3 (R : Value → Heap → Prop) (t : Sl) (x : Sl) (x1 : Int) (x2 : Sl) (x3 : Int) (I_ : Int → Heap → Prop) (M_ : Int → Heap → Nat) (i : Int) (H4 : Heap) : Prop :=
  iteB (decide (i < (x.n : Int))) (
  0 ≤ i ∧ i < (x.n : Int) ∧ (unSome x.p (fun a =>
  ∃ x4 : Int, rd H4 ((a.add (i.toNat * 4)).add 2) = some (.int .i64 x4) ∧ (
  iteB (x4 == (2 : Int)) (
  R (.bool false) H4) (
  letV (IntKind.i64.wrap (i + (1 : Int))) (fun i1 : Int =>
  I_ i1 H4 ∧ M_ i1 H4 < M_ i H4)))))) (
  ∃ I_1 : Int → Heap → Prop, ∃ M_1 : Int → Heap → Nat, I_1 (0 : Int) H4 ∧ (∀ i2 : Int, ∀ H5 : Heap, I_1 i2 H5 → F_law20_ResourcesPrefetchable_r2 R t x1 x2 x3 I_1 M_1 i2 H5))

def F_law20_ResourcesPrefetchable (R : Value → Heap → Prop) (l : Sl) (H : Heap) : Prop :=
  CallsH Try.prog n_gen_Topology #[.slice l.p l.n l.c, .int .i64 (30 : Int)] H (fun v H1 =>
  ∃ t : Sl, v = .slice t.p t.n t.c ∧ (
  CallsH Try.prog n_resources_Needs #[.slice t.p t.n t.c, .bool false] H1 (fun v1 H2 =>
  ∃ x : Sl, ∃ x1 : Int, v1 = .tuple #[.slice x.p x.n x.c, .int .i64 x1] ∧ (
  CallsH Try.prog n_resources_Needs #[.slice t.p t.n t.c, .bool true] H2 (fun v2 H3 =>
  ∃ x2 : Sl, ∃ x3 : Int, v2 = .tuple #[.slice x2.p x2.n x2.c, .int .i64 x3] ∧ (
  ∃ I_ : Int → Heap → Prop, ∃ M_ : Int → Heap → Nat, I_ (0 : Int) H3 ∧ (∀ i : Int, ∀ H4 : Heap, I_ i H4 → F_law20_ResourcesPrefetchable_r3 R t x x1 x2 x3 I_ M_ i H4)))))))

theorem F_law20_ResourcesPrefetchable_eq (R : Value → Heap → Prop) (l : Sl) (H : Heap) : wpF Try.prog Try.f5 [(8, .int .i64 0), (9, .int .i64 0), (10, .int .i64 0)] [] [(5, [8], [3, 4, 5, 6, 7]), (10, [9], [3, 5, 6, 7]), (13, [10], [3, 5, 6, 7, 9])] [11] [.slice l.p l.n l.c] H R = F_law20_ResourcesPrefetchable R l H := by kernel_rfl

theorem F_law20_ResourcesPrefetchable_ok {R : Value → Heap → Prop} (l : Sl) {H : Heap} (h : F_law20_ResourcesPrefetchable R l H) : CallsH Try.prog n_law20_ResourcesPrefetchable #[.slice l.p l.n l.c] H R :=
  wpF_ok Try.func5 (F_law20_ResourcesPrefetchable_eq R l H) h

/-! ### 6: platformfw/platformfwlaw20.ResourcesClasses -/

def F_law20_ResourcesClasses_r1 (R : Value → Heap → Prop) (high : Bool) (t : Sl) (I_ : Int → Int → Int → Heap → Prop) (M_ : Int → Int → Int → Heap → Nat) (i1 : Int) (k1 : Int) (n : Int) (H2 : Heap) : Prop :=
  iteB (decide (n < (2 : Int))) (
  CallsH Try.prog n_resources_Class #[.slice t.p t.n t.c, .bool high, .int .i64 i1, .int .i64 k1] H2 (fun v1 H3 =>
  ∃ x : Int, ∃ x1 : Bool, v1 = .tuple #[.int .i64 x, .bool x1] ∧ (
  CallsH Try.prog n_ref18_Class #[.slice t.p t.n t.c, .bool high, .int .i64 i1, .int .i64 k1] H3 (fun v2 H4 =>
  ∃ x2 : Int, ∃ x3 : Bool, v2 = .tuple #[.int .i64 x2, .bool x3] ∧ (
  iteB (x != x2) (
  R (.bool false) H4) (
  iteB (!(x1 == x3)) (
  R (.bool false) H4) (
  CallsH Try.prog n_help_Mod #[.int .i64 i1, .int .i64 (IntKind.i64.wrap ((t.n : Int) + (1 : Int)))] H4 (fun v3 H5 =>
  ∃ i2 : Int, v3 = .int .i64 i2 ∧ (
  CallsH Try.prog n_help_Mod #[.int .i64 k1, .int .i64 (7 : Int)] H5 (fun v4 H6 =>
  ∃ k2 : Int, v4 = .int .i64 k2 ∧ (
  letV (IntKind.i64.wrap (n + (1 : Int))) (fun n1 : Int =>
  I_ i2 k2 n1 H6 ∧ M_ i2 k2 n1 H6 < M_ i1 k1 n H2)))))))))))) (
  CallsH Try.prog n_law20_awake #[] H2 (fun v5 H7 =>
  ∃ x4 : Bool, v5 = .bool x4 ∧ (
  R (.bool x4) H7)))

def F_law20_ResourcesClasses (R : Value → Heap → Prop) (l : Sl) (high : Bool) (i : Int) (k : Int) (H : Heap) : Prop :=
  CallsH Try.prog n_gen_Topology #[.slice l.p l.n l.c, .int .i64 (30 : Int)] H (fun v H1 =>
  ∃ t : Sl, v = .slice t.p t.n t.c ∧ (
  ∃ I_ : Int → Int → Int → Heap → Prop, ∃ M_ : Int → Int → Int → Heap → Nat, I_ i k (0 : Int) H1 ∧ (∀ i1 : Int, ∀ k1 : Int, ∀ n : Int, ∀ H2 : Heap, I_ i1 k1 n H2 → F_law20_ResourcesClasses_r1 R high t I_ M_ i1 k1 n H2)))

theorem F_law20_ResourcesClasses_eq (R : Value → Heap → Prop) (l : Sl) (high : Bool) (i : Int) (k : Int) (H : Heap) : wpF Try.prog Try.f6 [(2, .int .i64 0), (3, .int .i64 0), (10, .int .i64 0)] [] [(3, [2, 3, 10], [1, 9])] [11] [.slice l.p l.n l.c, .bool high, .int .i64 i, .int .i64 k] H R = F_law20_ResourcesClasses R l high i k H := by kernel_rfl

theorem F_law20_ResourcesClasses_ok {R : Value → Heap → Prop} (l : Sl) (high : Bool) (i : Int) (k : Int) {H : Heap} (h : F_law20_ResourcesClasses R l high i k H) : CallsH Try.prog n_law20_ResourcesClasses #[.slice l.p l.n l.c, .bool high, .int .i64 i, .int .i64 k] H R :=
  wpF_ok Try.func6 (F_law20_ResourcesClasses_eq R l high i k H) h

/-! ### 7: platformfw/platformfwlaw20.ResourcesNeeds -/

def F_law20_ResourcesNeeds_r1 (R : Value → Heap → Prop) (t : Sl) (x8 : Sl) (I_ : Int → Heap → Prop) (M_ : Int → Heap → Nat) (p : Int) (H12 : Heap) (I_1 : Int → Heap → Prop) (M_1 : Int → Heap → Nat) (c : Int) (H13 : Heap) : Prop :=
  iteB (decide (c < (3 : Int))) (
  CallsH Try.prog n_resources_Below #[.slice t.p t.n t.c, .slice x8.p x8.n x8.c, .int .i64 p, .int .i64 c] H13 (fun v11 H14 =>
  ∃ x14 : Sl, v11 = .slice x14.p x14.n x14.c ∧ (
  CallsH Try.prog n_ref18_NeedsBelow #[.slice t.p t.n t.c, .slice x8.p x8.n x8.c, .int .i64 p, .int .i64 c] H14 (fun v12 H15 =>
  ∃ x15 : Sl, v12 = .slice x15.p x15.n x15.c ∧ (
  CallsH Try.prog n_help_Equal_api_Need #[.slice x14.p x14.n x14.c, .slice x15.p x15.n x15.c] H15 (fun v13 H16 =>
  ∃ x16 : Bool, v13 = .bool x16 ∧ (
  iteB (!x16) (
  R (.bool false) H16) (
  letV (IntKind.i64.wrap (c + (1 : Int))) (fun c1 : Int =>
  I_1 c1 H16 ∧ M_1 c1 H16 < M_1 c H13))))))))) (
  letV (IntKind.i64.wrap (p + (1 : Int))) (fun p1 : Int =>
  I_ p1 H13 ∧ M_ p1 H13 < M_ p H12))

def F_law20_ResourcesNeeds_r2 (R : Value → Heap → Prop) (t : Sl) (x8 : Sl) (I_ : Int → Heap → Prop) (M_ : Int → Heap → Nat) (p : Int) (H12 : Heap) : Prop :=
  iteB (decide (p < (t.n : Int))) (
  ∃ I_1 : Int → Heap → Prop, ∃ M_1 : Int → Heap → Nat, I_1 (0 : Int) H12 ∧ (∀ c : Int, ∀ H13 : Heap, I_1 c H13 → F_law20_ResourcesNeeds_r1 R t x8 I_ M_ p H12 I_1 M_1 c H13)) (
  R (.bool true) H12)

def F_law20_ResourcesNeeds (R : Value → Heap → Prop) (l : Sl) (high : Bool) (function : Int) (classv : Int) (H : Heap) : Prop :=
  0 ≤ (if (80 : Int) < (l.n : Int) then (80 : Int) else (l.n : Int)) ∧ (if (80 : Int) < (l.n : Int) then (80 : Int) else (l.n : Int)) ≤ (l.c : Int) ∧ (
  CallsH Try.prog n_resources_Needs #[.slice (slP l.p l.c 0 11) ((if (80 : Int) < (l.n : Int) then (80 : Int) else (l.n : Int)).toNat - 0) (l.c - 0), .bool high] H (fun v H1 =>
  ∃ x : Sl, ∃ x1 : Int, v = .tuple #[.slice x.p x.n x.c, .int .i64 x1] ∧ (
  0 ≤ (if (80 : Int) < (l.n : Int) then (80 : Int) else (l.n : Int)) ∧ (if (80 : Int) < (l.n : Int) then (80 : Int) else (l.n : Int)) ≤ (l.c : Int) ∧ (
  CallsH Try.prog n_ref18_Needs #[.slice (slP l.p l.c 0 11) ((if (80 : Int) < (l.n : Int) then (80 : Int) else (l.n : Int)).toNat - 0) (l.c - 0), .bool high] H1 (fun v1 H2 =>
  ∃ x2 : Sl, ∃ x3 : Int, v1 = .tuple #[.slice x2.p x2.n x2.c, .int .i64 x3] ∧ (
  CallsH Try.prog n_law20_awake #[] H2 (fun v2 H3 =>
  ∃ x4 : Bool, v2 = .bool x4 ∧ (
  iteB (!x4) (
  R (.bool false) H3) (
  CallsH Try.prog n_help_Equal_api_Need #[.slice x.p x.n x.c, .slice x2.p x2.n x2.c] H3 (fun v3 H4 =>
  ∃ x5 : Bool, v3 = .bool x5 ∧ (
  iteB (!x5) (
  R (.bool false) H4) (
  iteB (x1 != x3) (
  R (.bool false) H4) (
  CallsH Try.prog n_gen_Topology #[.slice l.p l.n l.c, .int .i64 (30 : Int)] H4 (fun v4 H5 =>
  ∃ t : Sl, v4 = .slice t.p t.n t.c ∧ (
  CallsH Try.prog n_resources_Needs #[.slice t.p t.n t.c, .bool high] H5 (fun v5 H6 =>
  ∃ x6 : Sl, ∃ x7 : Int, v5 = .tuple #[.slice x6.p x6.n x6.c, .int .i64 x7] ∧ (
  CallsH Try.prog n_ref18_Needs #[.slice t.p t.n t.c, .bool high] H6 (fun v6 H7 =>
  ∃ x8 : Sl, ∃ x9 : Int, v6 = .tuple #[.slice x8.p x8.n x8.c, .int .i64 x9] ∧ (
  CallsH Try.prog n_help_Equal_api_Need #[.slice x6.p x6.n x6.c, .slice x8.p x8.n x8.c] H7 (fun v7 H8 =>
  ∃ x10 : Bool, v7 = .bool x10 ∧ (
  iteB (!x10) (
  R (.bool false) H8) (
  iteB (x7 != x9) (
  R (.bool false) H8) (
  CallsH Try.prog n_resources_Below #[.slice t.p t.n t.c, .slice x8.p x8.n x8.c, .int .i64 function, .int .i64 classv] H8 (fun v8 H9 =>
  ∃ x11 : Sl, v8 = .slice x11.p x11.n x11.c ∧ (
  CallsH Try.prog n_ref18_NeedsBelow #[.slice t.p t.n t.c, .slice x8.p x8.n x8.c, .int .i64 function, .int .i64 classv] H9 (fun v9 H10 =>
  ∃ x12 : Sl, v9 = .slice x12.p x12.n x12.c ∧ (
  CallsH Try.prog n_help_Equal_api_Need #[.slice x11.p x11.n x11.c, .slice x12.p x12.n x12.c] H10 (fun v10 H11 =>
  ∃ x13 : Bool, v10 = .bool x13 ∧ (
  iteB (!x13) (
  R (.bool false) H11) (
  ∃ I_ : Int → Heap → Prop, ∃ M_ : Int → Heap → Nat, I_ (-1 : Int) H11 ∧ (∀ p : Int, ∀ H12 : Heap, I_ p H12 → F_law20_ResourcesNeeds_r2 R t x8 I_ M_ p H12)))))))))))))))))))))))))))))))

theorem F_law20_ResourcesNeeds_eq (R : Value → Heap → Prop) (l : Sl) (high : Bool) (function : Int) (classv : Int) (H : Heap) : wpF Try.prog Try.f7 [(16, .int .i64 0), (17, .int .i64 0)] [] [(11, [16], [13, 15]), (14, [17], [13, 15, 16])] [11] [.slice l.p l.n l.c, .bool high, .int .i64 function, .int .i64 classv] H R = F_law20_ResourcesNeeds R l high function classv H := by kernel_rfl

theorem F_law20_ResourcesNeeds_ok {R : Value → Heap → Prop} (l : Sl) (high : Bool) (function : Int) (classv : Int) {H : Heap} (h : F_law20_ResourcesNeeds R l high function classv H) : CallsH Try.prog n_law20_ResourcesNeeds #[.slice l.p l.n l.c, .bool high, .int .i64 function, .int .i64 classv] H R :=
  wpF_ok Try.func7 (F_law20_ResourcesNeeds_eq R l high function classv H) h

/-! ### 8: platformfw/platformfwlaw20.ResourcesWindowsCover -/

def F_law20_ResourcesWindowsCover_k1 (R : Value → Heap → Prop) (I_ : Int → Heap → Prop) (M_ : Int → Heap → Nat) (i : Int) (H6 : Heap) (sum : Int) (least : Int) (H11 : Heap) : Prop :=
  ∃ x16 : Int, rd H11 ((⟨H6.size, 0, none⟩ : Addr).add 3) = some (.int .i64 x16) ∧ (
  0 ≤ (IntKind.u64.wrap x16) ∧ (
  letV (IntKind.u64.wrap ((1 : Int) * 2 ^ (min (IntKind.u64.wrap x16).toNat IntKind.u64.bits))) (fun size : Int =>
  iteB (decide (size < sum)) (
  R (.bool false) H11) (
  iteB (decide (size < least)) (
  R (.bool false) H11) (
  iteB (decide (size ≥ (IntKind.u64.wrap ((2 : Int) * (if least > sum then least else sum))))) (
  R (.bool false) H11) (
  letV (IntKind.i64.wrap (i + (1 : Int))) (fun i2 : Int =>
  I_ i2 H11 ∧ M_ i2 H11 < M_ i H6)))))))

def F_law20_ResourcesWindowsCover_r2 (R : Value → Heap → Prop) (t : Sl) (I_ : Int → Heap → Prop) (M_ : Int → Heap → Nat) (i : Int) (H6 : Heap) (below : Sl) (I_1 : Int → Int → Heap → Prop) (M_1 : Int → Int → Heap → Nat) (sum : Int) (k : Int) (H10 : Heap) : Prop :=
  iteB (decide (k < (below.n : Int))) (
  0 ≤ k ∧ k < (below.n : Int) ∧ (unSome below.p (fun a1 =>
  ∃ x12 : Int, rd H10 ((a1.add (k.toNat * 4)).add 3) = some (.int .i64 x12) ∧ (
  0 ≤ (IntKind.u64.wrap x12) ∧ (
  letV (IntKind.u64.wrap (sum + (IntKind.u64.wrap ((1 : Int) * 2 ^ (min (IntKind.u64.wrap x12).toNat IntKind.u64.bits))))) (fun sum1 : Int =>
  letV (IntKind.i64.wrap (k + (1 : Int))) (fun k1 : Int =>
  I_1 sum1 k1 H10 ∧ M_1 sum1 k1 H10 < M_1 sum k H10))))))) (
  ∃ J_1 : Int → Heap → Prop, (
  ∃ x13 : Int, rd H10 ((⟨H6.size, 0, none⟩ : Addr).add 2) = some (.int .i64 x13) ∧ (
  iteB (x13 == (0 : Int)) (
  J_1 (4096 : Int) H10) (
  ∃ x14 : Int, rd H10 (⟨H6.size, 0, none⟩ : Addr) = some (.int .i64 x14) ∧ (
  0 ≤ x14 ∧ x14 < (t.n : Int) ∧ (unSome t.p (fun a2 =>
  ∃ x15 : Bool, rd H10 ((a2.add (x14.toNat * 11)).add 6) = some (.bool x15) ∧ (
  iteB x15 (
  J_1 (4194304 : Int) H10) (
  J_1 (1048576 : Int) H10)))))))) ∧ (∀ least : Int, ∀ H11 : Heap, J_1 least H11 → F_law20_ResourcesWindowsCover_k1 R I_ M_ i H6 sum least H11))

def F_law20_ResourcesWindowsCover_r3 (R : Value → Heap → Prop) (t : Sl) (x : Sl) (I_ : Int → Heap → Prop) (M_ : Int → Heap → Nat) (i : Int) (H6 : Heap) : Prop :=
  iteB (decide (i < (x.n : Int))) (
  0 ≤ i ∧ i < (x.n : Int) ∧ (unSome x.p (fun a =>
  ∃ x5 : Int, rd H6 (a.add (i.toNat * 4)) = some (.int .i64 x5) ∧ ∃ x6 : Int, rd H6 ((a.add (i.toNat * 4)).add 1) = some (.int .i64 x6) ∧ ∃ x7 : Int, rd H6 ((a.add (i.toNat * 4)).add 2) = some (.int .i64 x7) ∧ ∃ x8 : Int, rd H6 ((a.add (i.toNat * 4)).add 3) = some (.int .i64 x8) ∧ (
  letH (H6.push (.cells #[.int .i64 (0 : Int), .int .i64 (0 : Int), .int .i64 (0 : Int), .int .i64 (0 : Int)] t_api_Need (0, 0))) (fun H7 : Heap =>
  okRow H7 (⟨H6.size, 0, none⟩ : Addr) 4 ∧ (
  letH (wrs H7 (⟨H6.size, 0, none⟩ : Addr) [.int .i64 x5, .int .i64 x6, .int .i64 x7, .int .i64 x8]) (fun H8 : Heap =>
  ∃ x9 : Int, rd H8 ((⟨H6.size, 0, none⟩ : Addr).add 1) = some (.int .i64 x9) ∧ (
  iteB (decide (x9 ≥ (0 : Int))) (
  letV (IntKind.i64.wrap (i + (1 : Int))) (fun i1 : Int =>
  I_ i1 H8 ∧ M_ i1 H8 < M_ i H6)) (
  ∃ x10 : Int, rd H8 (⟨H6.size, 0, none⟩ : Addr) = some (.int .i64 x10) ∧ (
  ∃ x11 : Int, rd H8 ((⟨H6.size, 0, none⟩ : Addr).add 2) = some (.int .i64 x11) ∧ (
  CallsH Try.prog n_resources_Below #[.slice t.p t.n t.c, .slice x.p x.n x.c, .int .i64 x10, .int .i64 x11] H8 (fun v4 H9 =>
  ∃ below : Sl, v4 = .slice below.p below.n below.c ∧ (
  ∃ I_1 : Int → Int → Heap → Prop, ∃ M_1 : Int → Int → Heap → Nat, I_1 (0 : Int) (0 : Int) H9 ∧ (∀ sum : Int, ∀ k : Int, ∀ H10 : Heap, I_1 sum k H10 → F_law20_ResourcesWindowsCover_r2 R t I_ M_ i H6 below I_1 M_1 sum k H10)))))))))))))) (
  R (.bool true) H6)

def F_law20_ResourcesWindowsCover_k4 (R : Value → Heap → Prop) (t : Sl) (x : Sl) (x1 : Int) (x3 : Bool) (H4 : Heap) : Prop :=
  iteB x3 (
  iteB (x1 == (11 : Int)) (
  iteB ((x.n : Int) == (0 : Int)) (
  CallsH Try.prog n_law20_awake #[] H4 (fun v3 H5 =>
  ∃ x4 : Bool, v3 = .bool x4 ∧ (
  R (.bool x4) H5))) (
  R (.bool false) H4)) (
  R (.bool false) H4)) (
  ∃ I_ : Int → Heap → Prop, ∃ M_ : Int → Heap → Nat, I_ (0 : Int) H4 ∧ (∀ i : Int, ∀ H6 : Heap, I_ i H6 → F_law20_ResourcesWindowsCover_r3 R t x I_ M_ i H6))

def F_law20_ResourcesWindowsCover (R : Value → Heap → Prop) (l : Sl) (high : Bool) (H : Heap) : Prop :=
  CallsH Try.prog n_gen_Topology #[.slice l.p l.n l.c, .int .i64 (30 : Int)] H (fun v H1 =>
  ∃ t : Sl, v = .slice t.p t.n t.c ∧ (
  CallsH Try.prog n_resources_Needs #[.slice t.p t.n t.c, .bool high] H1 (fun v1 H2 =>
  ∃ x : Sl, ∃ x1 : Int, v1 = .tuple #[.slice x.p x.n x.c, .int .i64 x1] ∧ (
  ∃ J_ : Bool → Heap → Prop, (
  CallsH Try.prog n_law20_awake #[] H2 (fun v2 H3 =>
  ∃ x2 : Bool, v2 = .bool x2 ∧ (
  iteB (!x2) (
  J_ true H3) (
  J_ (x1 != (0 : Int)) H3)))) ∧ (∀ x3 : Bool, ∀ H4 : Heap, J_ x3 H4 → F_law20_ResourcesWindowsCover_k4 R t x x1 x3 H4)))))

theorem F_law20_ResourcesWindowsCover_eq (R : Value → Heap → Prop) (l : Sl) (high : Bool) (H : Heap) : wpF Try.prog Try.f8 [(8, .int .i64 0), (10, .int .u64 0), (12, .int .i64 0), (13, .int .u64 0), (28, .bool false)] [(4, [28], [5, 6, 7]), (21, [13], [5, 6, 8, 9, 10])] [(6, [8], [5, 6]), (13, [10, 12], [5, 6, 8, 9, 11])] [11] [.slice l.p l.n l.c, .bool high] H R = F_law20_ResourcesWindowsCover R l high H := by kernel_rfl

theorem F_law20_ResourcesWindowsCover_ok {R : Value → Heap → Prop} (l : Sl) (high : Bool) {H : Heap} (h : F_law20_ResourcesWindowsCover R l high H) : CallsH Try.prog n_law20_ResourcesWindowsCover #[.slice l.p l.n l.c, .bool high] H R :=
  wpF_ok Try.func8 (F_law20_ResourcesWindowsCover_eq R l high H) h

/-! ### 9: platformfw/resources.WindowSize -/

def F_resources_WindowSize_k1 (R : Value → Heap → Prop) (sum : Int) (smallest2 : Int) (H4 : Heap) : Prop :=
  iteB (decide (sum > (0 : Int))) (
  CallsH Try.prog n_math_bits_Len64 #[.int .u64 (IntKind.u64.wrap (sum - (1 : Int)))] H4 (fun v H5 =>
  ∃ x1 : Int, v = .int .i64 x1 ∧ (
  letV (if x1 > smallest2 then x1 else smallest2) (fun smallest3 : Int =>
  R (.tuple #[.int .i64 smallest3, .bool true]) H5)))) (
  R (.tuple #[.int .i64 smallest2, .bool true]) H4)

def F_resources_WindowSize_k2 (R : Value → Heap → Prop) (hotplug : Bool) (sum : Int) (smallest : Int) (spare : Int) (H3 : Heap) : Prop :=
  ∃ J_2 : Int → Heap → Prop, (
  iteB hotplug (
  letV (if spare > smallest then spare else smallest) (fun smallest1 : Int =>
  J_2 smallest1 H3)) (
  J_2 smallest H3)) ∧ (∀ smallest2 : Int, ∀ H4 : Heap, J_2 smallest2 H4 → F_resources_WindowSize_k1 R sum smallest2 H4)

def F_resources_WindowSize_r3 (R : Value → Heap → Prop) (sizes : Sl) (classv : Int) (hotplug : Bool) (I_ : Int → Int → Heap → Prop) (M_ : Int → Int → Heap → Nat) (sum : Int) (x : Int) (H2 : Heap) : Prop :=
  iteB (decide (x < (sizes.n : Int))) (
  0 ≤ x ∧ x < (sizes.n : Int) ∧ (unSome sizes.p (fun a =>
  ∃ size : Int, rd H2 (a.add (x.toNat * 1)) = some (.int .i64 size) ∧ (
  iteB (decide (size < (0 : Int))) (
  R (.tuple #[.int .i64 (0 : Int), .bool false]) H2) (
  iteB (decide (size > (44 : Int))) (
  R (.tuple #[.int .i64 (0 : Int), .bool false]) H2) (
  0 ≤ size ∧ (
  letV (IntKind.u64.wrap (sum + (IntKind.u64.wrap ((1 : Int) * 2 ^ (min size.toNat IntKind.u64.bits))))) (fun sum1 : Int =>
  I_ sum1 (IntKind.i64.wrap (x + (1 : Int))) H2 ∧ M_ sum1 (IntKind.i64.wrap (x + (1 : Int))) H2 < M_ sum x H2)))))))) (
  ∃ J_1 : Int → Int → Heap → Prop, (
  iteB (classv == (0 : Int)) (
  J_1 (12 : Int) (12 : Int) H2) (
  J_1 (20 : Int) (22 : Int) H2)) ∧ (∀ smallest : Int, ∀ spare : Int, ∀ H3 : Heap, J_1 smallest spare H3 → F_resources_WindowSize_k2 R hotplug sum smallest spare H3))

def F_resources_WindowSize_k4 (R : Value → Heap → Prop) (sizes : Sl) (classv : Int) (hotplug : Bool) (H1 : Heap) : Prop :=
  ∃ I_ : Int → Int → Heap → Prop, ∃ M_ : Int → Int → Heap → Nat, I_ (0 : Int) (0 : Int) H1 ∧ (∀ sum : Int, ∀ x : Int, ∀ H2 : Heap, I_ sum x H2 → F_resources_WindowSize_r3 R sizes classv hotplug I_ M_ sum x H2)

def F_resources_WindowSize (R : Value → Heap → Prop) (sizes : Sl) (classv : Int) (hotplug : Bool) (H : Heap) : Prop :=
  ∃ J_ : Heap → Prop, (
  iteB ((sizes.n : Int) == (0 : Int)) (
  iteB (!hotplug) (
  R (.tuple #[.int .i64 (0 : Int), .bool false]) H) (
  iteB (decide ((sizes.n : Int) > (1024 : Int))) (
  R (.tuple #[.int .i64 (0 : Int), .bool false]) H) (
  iteB (decide (classv < (0 : Int))) (
  R (.tuple #[.int .i64 (0 : Int), .bool false]) H) (
  iteB (decide (classv ≥ (3 : Int))) (
  R (.tuple #[.int .i64 (0 : Int), .bool false]) H) (
  J_ H))))) (
  iteB (decide ((sizes.n : Int) > (1024 : Int))) (
  R (.tuple #[.int .i64 (0 : Int), .bool false]) H) (
  iteB (decide (classv < (0 : Int))) (
  R (.tuple #[.int .i64 (0 : Int), .bool false]) H) (
  iteB (decide (classv ≥ (3 : Int))) (
  R (.tuple #[.int .i64 (0 : Int), .bool false]) H) (
  J_ H))))) ∧ (∀ H1 : Heap, J_ H1 → F_resources_WindowSize_k4 R sizes classv hotplug H1)

theorem F_resources_WindowSize_eq (R : Value → Heap → Prop) (sizes : Sl) (classv : Int) (hotplug : Bool) (H : Heap) : wpF Try.prog Try.f9 [(8, .int .u64 0), (11, .int .i64 0), (12, .int .i64 0), (35, .int .i64 0)] [(3, [], [0, 1, 2]), (14, [11, 12], [2, 8]), (16, [11], [8])] [(5, [8, 35], [1, 2, 33, 34])] [11] [.slice sizes.p sizes.n sizes.c, .int .i64 classv, .bool hotplug] H R = F_resources_WindowSize R sizes classv hotplug H := by kernel_rfl

theorem F_resources_WindowSize_ok {R : Value → Heap → Prop} (sizes : Sl) (classv : Int) (hotplug : Bool) {H : Heap} (h : F_resources_WindowSize R sizes classv hotplug H) : CallsH Try.prog n_resources_WindowSize #[.slice sizes.p sizes.n sizes.c, .int .i64 classv, .bool hotplug] H R :=
  wpF_ok Try.func9 (F_resources_WindowSize_eq R sizes classv hotplug H) h

/-! ### 10: platformfw/platformfwref18.WindowSize -/

def F_ref18_WindowSize_k1 (hotplug : Bool) (w : Int) (J_2 : Int → Heap → Prop) (x3 : Bool) (H4 : Heap) : Prop :=
  iteB x3 (
  letV (if (12 : Int) > w then (12 : Int) else w) (fun w1 : Int =>
  J_2 w1 H4)) (
  iteB hotplug (
  letV (if (22 : Int) > w then (22 : Int) else w) (fun w2 : Int =>
  J_2 w2 H4)) (
  J_2 w H4))

def F_ref18_WindowSize_r2 (R : Value → Heap → Prop) (sum : Int) (I_1 : Int → Heap → Prop) (M_1 : Int → Heap → Nat) (w4 : Int) (H6 : Heap) : Prop :=
  0 ≤ (IntKind.u64.wrap w4) ∧ (
  iteB (decide ((IntKind.u64.wrap ((1 : Int) * 2 ^ (min (IntKind.u64.wrap w4).toNat IntKind.u64.bits))) < sum)) (
  letV (IntKind.i64.wrap (w4 + (1 : Int))) (fun w5 : Int =>
  I_1 w5 H6 ∧ M_1 w5 H6 < M_1 w4 H6)) (
  R (.tuple #[.int .i64 w4, .bool true]) H6))

def F_ref18_WindowSize_k3 (R : Value → Heap → Prop) (sum : Int) (w3 : Int) (H5 : Heap) : Prop :=
  ∃ I_1 : Int → Heap → Prop, ∃ M_1 : Int → Heap → Nat, I_1 w3 H5 ∧ (∀ w4 : Int, ∀ H6 : Heap, I_1 w4 H6 → F_ref18_WindowSize_r2 R sum I_1 M_1 w4 H6)

def F_ref18_WindowSize_k4 (R : Value → Heap → Prop) (classv : Int) (hotplug : Bool) (sum : Int) (w : Int) (H3 : Heap) : Prop :=
  ∃ J_2 : Int → Heap → Prop, (
  ∃ J_3 : Bool → Heap → Prop, (
  iteB hotplug (
  J_3 (classv == (0 : Int)) H3) (
  J_3 false H3)) ∧ (∀ x3 : Bool, ∀ H4 : Heap, J_3 x3 H4 → F_ref18_WindowSize_k1 hotplug w J_2 x3 H4)) ∧ (∀ w3 : Int, ∀ H5 : Heap, J_2 w3 H5 → F_ref18_WindowSize_k3 R sum w3 H5)

def F_ref18_WindowSize_r5 (R : Value → Heap → Prop) (sizes : Sl) (classv : Int) (hotplug : Bool) (I_ : Int → Int → Heap → Prop) (M_ : Int → Int → Heap → Nat) (sum : Int) (i : Int) (H2 : Heap) : Prop :=
  iteB (decide (i < (sizes.n : Int))) (
  0 ≤ i ∧ i < (sizes.n : Int) ∧ (unSome sizes.p (fun a =>
  ∃ x : Int, rd H2 (a.add (i.toNat * 1)) = some (.int .i64 x) ∧ (
  iteB (decide (x < (0 : Int))) (
  R (.tuple #[.int .i64 (0 : Int), .bool false]) H2) (
  0 ≤ i ∧ i < (sizes.n : Int) ∧ (unSome sizes.p (fun a1 =>
  ∃ x1 : Int, rd H2 (a1.add (i.toNat * 1)) = some (.int .i64 x1) ∧ (
  iteB (decide (x1 > (44 : Int))) (
  R (.tuple #[.int .i64 (0 : Int), .bool false]) H2) (
  0 ≤ i ∧ i < (sizes.n : Int) ∧ (unSome sizes.p (fun a2 =>
  ∃ x2 : Int, rd H2 (a2.add (i.toNat * 1)) = some (.int .i64 x2) ∧ (
  0 ≤ (IntKind.u64.wrap x2) ∧ (
  letV (IntKind.u64.wrap (sum + (IntKind.u64.wrap ((1 : Int) * 2 ^ (min (IntKind.u64.wrap x2).toNat IntKind.u64.bits))))) (fun sum1 : Int =>
  letV (IntKind.i64.wrap (i + (1 : Int))) (fun i1 : Int =>
  I_ sum1 i1 H2 ∧ M_ sum1 i1 H2 < M_ sum i H2))))))))))))))) (
  ∃ J_1 : Int → Heap → Prop, (
  iteB (classv == (0 : Int)) (
  J_1 (12 : Int) H2) (
  J_1 (20 : Int) H2)) ∧ (∀ w : Int, ∀ H3 : Heap, J_1 w H3 → F_ref18_WindowSize_k4 R classv hotplug sum w H3))

def F_ref18_WindowSize_k6 (R : Value → Heap → Prop) (sizes : Sl) (classv : Int) (hotplug : Bool) (H1 : Heap) : Prop :=
  ∃ I_ : Int → Int → Heap → Prop, ∃ M_ : Int → Int → Heap → Nat, I_ (0 : Int) (0 : Int) H1 ∧ (∀ sum : Int, ∀ i : Int, ∀ H2 : Heap, I_ sum i H2 → F_ref18_WindowSize_r5 R sizes classv hotplug I_ M_ sum i H2)

def F_ref18_WindowSize (R : Value → Heap → Prop) (sizes : Sl) (classv : Int) (hotplug : Bool) (H : Heap) : Prop :=
  ∃ J_ : Heap → Prop, (
  iteB (decide (classv < (0 : Int))) (
  R (.tuple #[.int .i64 (0 : Int), .bool false]) H) (
  iteB (decide (classv ≥ (3 : Int))) (
  R (.tuple #[.int .i64 (0 : Int), .bool false]) H) (
  iteB (decide ((sizes.n : Int) > (1024 : Int))) (
  R (.tuple #[.int .i64 (0 : Int), .bool false]) H) (
  iteB ((sizes.n : Int) == (0 : Int)) (
  iteB (!hotplug) (
  R (.tuple #[.int .i64 (0 : Int), .bool false]) H) (
  J_ H)) (
  J_ H))))) ∧ (∀ H1 : Heap, J_ H1 → F_ref18_WindowSize_k6 R sizes classv hotplug H1)

theorem F_ref18_WindowSize_eq (R : Value → Heap → Prop) (sizes : Sl) (classv : Int) (hotplug : Bool) (H : Heap) : wpF Try.prog Try.f10 [(8, .int .u64 0), (9, .int .i64 0), (10, .int .i64 0), (63, .bool false)] [(3, [], [0, 1, 2]), (13, [10], [1, 2, 8]), (17, [10], [8]), (14, [63], [2, 8, 10])] [(5, [8, 9], [0, 1, 2]), (17, [10], [8])] [11] [.slice sizes.p sizes.n sizes.c, .int .i64 classv, .bool hotplug] H R = F_ref18_WindowSize R sizes classv hotplug H := by kernel_rfl

theorem F_ref18_WindowSize_ok {R : Value → Heap → Prop} (sizes : Sl) (classv : Int) (hotplug : Bool) {H : Heap} (h : F_ref18_WindowSize R sizes classv hotplug H) : CallsH Try.prog n_ref18_WindowSize #[.slice sizes.p sizes.n sizes.c, .int .i64 classv, .bool hotplug] H R :=
  wpF_ok Try.func10 (F_ref18_WindowSize_eq R sizes classv hotplug H) h

/-! ### 11: platformfw/platformfwhelp.Mod -/

def F_help_Mod (R : Value → Heap → Prop) (v : Int) (n : Int) (H : Heap) : Prop :=
  (IntKind.u64.wrap n) ≠ 0 ∧ (
  letV (IntKind.i64.wrap ((IntKind.u64.wrap v).tmod (IntKind.u64.wrap n))) (fun x : Int =>
  R (.int .i64 x) H))

theorem F_help_Mod_eq (R : Value → Heap → Prop) (v : Int) (n : Int) (H : Heap) : wpF Try.prog Try.f11 [] [] [] [11] [.int .i64 v, .int .i64 n] H R = F_help_Mod R v n H := by kernel_rfl

theorem F_help_Mod_ok {R : Value → Heap → Prop} (v : Int) (n : Int) {H : Heap} (h : F_help_Mod R v n H) : CallsH Try.prog n_help_Mod #[.int .i64 v, .int .i64 n] H R :=
  wpF_ok Try.func11 (F_help_Mod_eq R v n H) h

/-! ### 12: platformfw/platformfwlaw20.awake -/

def F_law20_awake (R : Value → Heap → Prop)  (H : Heap) : Prop :=
  letH (H.push (.cells #[.int .i64 (2 : Int), .int .i64 (12 : Int)] t_api_Bar (0, 0))) (fun H1 : Heap =>
  letH (H1.push (.cells #[.int .i64 (-1 : Int), .int .i64 (0 : Int), .int .i64 (1 : Int), .int .i64 (0 : Int), .bool true, .bool false, .bool false, .int .i64 (0 : Int), .int .i64 (0 : Int), .int .i64 (0 : Int), .slice none 0 0, .int .i64 (0 : Int), .int .i64 (0 : Int), .int .i64 (1 : Int), .int .i64 (0 : Int), .bool false, .bool false, .bool false, .int .i64 (0 : Int), .int .i64 (0 : Int), .int .i64 (0 : Int), .slice (some (⟨H.size, 0, none⟩ : Addr)) 1 1] t_api_Function (0, 0))) (fun H2 : Heap =>
  CallsH Try.prog n_resources_Needs #[.slice (some (⟨H1.size, 0, none⟩ : Addr)) 2 2, .bool false] H2 (fun v H3 =>
  ∃ x : Sl, ∃ x1 : Int, v = .tuple #[.slice x.p x.n x.c, .int .i64 x1] ∧ (
  letH (H3.push (.cells #[.int .i64 (20 : Int), .int .i64 (20 : Int), .int .i64 (20 : Int)] t_int (0, 0))) (fun H4 : Heap =>
  CallsH Try.prog n_resources_WindowSize #[.slice (some (⟨H3.size, 0, none⟩ : Addr)) 3 3, .int .i64 (1 : Int), .bool false] H4 (fun v1 H5 =>
  ∃ x2 : Int, ∃ x3 : Bool, v1 = .tuple #[.int .i64 x2, .bool x3] ∧ (
  iteB (x1 == (0 : Int)) (
  letH (H5.push (.cells #[.int .i64 (0 : Int), .int .i64 (-2 : Int), .int .i64 (1 : Int), .int .i64 (20 : Int), .int .i64 (1 : Int), .int .i64 (0 : Int), .int .i64 (1 : Int), .int .i64 (12 : Int)] t_api_Need (0, 0))) (fun H6 : Heap =>
  CallsH Try.prog n_help_Equal_api_Need #[.slice x.p x.n x.c, .slice (some (⟨H5.size, 0, none⟩ : Addr)) 2 2] H6 (fun v2 H7 =>
  ∃ x4 : Bool, v2 = .bool x4 ∧ (
  iteB x4 (
  iteB (x2 == (22 : Int)) (
  R (.bool x3) H7) (
  R (.bool false) H7)) (
  R (.bool false) H7))))) (
  R (.bool false) H5))))))))

theorem F_law20_awake_eq (R : Value → Heap → Prop)  (H : Heap) : wpF Try.prog Try.f12 [] [] [] [11] [] H R = F_law20_awake R  H := by kernel_rfl

theorem F_law20_awake_ok {R : Value → Heap → Prop}  {H : Heap} (h : F_law20_awake R  H) : CallsH Try.prog n_law20_awake #[] H R :=
  wpF_ok Try.func12 (F_law20_awake_eq R  H) h

/-! ### 13: platformfw/platformfwgen.Topology -/

def F_gen_Topology_k1 (out : Sl) (bridges : Sl) (J_1 : Sl → Int → Heap → Prop) (H28 : Heap) : Prop :=
  letH (H28.push (.cells #[.int .i64 (out.n : Int)] t_int (0, 0))) (fun H29 : Heap =>
  runH Try.prog (Builtin.append_ #[t_sl_int, t_sl_int] t_sl_int #[.slice bridges.p bridges.n bridges.c, .slice (some (⟨H28.size, 0, none⟩ : Addr)) 1 1]) H29 (fun v13 H30 =>
  ∃ bridges1 : Sl, v13 = .slice bridges1.p bridges1.n bridges1.c ∧ (
  J_1 bridges1 (2 : Int) H30)))

def F_gen_Topology_k2 (out : Sl) (bridges : Sl) (H3 : Heap) (g : Addr) (J_1 : Sl → Int → Heap → Prop) (H25 : Heap) : Prop :=
  ∃ J_3 : Heap → Prop, (
  ∃ x46 : Bool, rd H25 (g.add 6) = some (.bool x46) ∧ (
  iteB x46 (
  ∃ x47 : Int, rd H25 ((⟨H3.size, 0, none⟩ : Addr).add 7) = some (.int .i64 x47) ∧ (
  CallsH Try.prog n_help_Mod #[.int .i64 x47, .int .i64 (4 : Int)] H25 (fun v12 H26 =>
  ∃ x48 : Int, v12 = .int .i64 x48 ∧ (
  okRow H26 (g.add 7) 1 ∧ (
  letH (wrs H26 (g.add 7) [.int .i64 x48]) (fun H27 : Heap =>
  J_3 H27)))))) (
  J_3 H25))) ∧ (∀ H28 : Heap, J_3 H28 → F_gen_Topology_k1 out bridges J_1 H28)

def F_gen_Topology_k3 (I_ : Sl → Sl → Int → Heap → Prop) (M_ : Sl → Sl → Int → Heap → Nat) (out : Sl) (bridges : Sl) (i : Int) (H3 : Heap) (g : Addr) (bridges2 : Sl) (most2 : Int) (H31 : Heap) : Prop :=
  ∃ x49 : Sl, rd H31 ((⟨H3.size, 0, none⟩ : Addr).add 10) = some (.slice x49.p x49.n x49.c) ∧ (
  CallsH Try.prog n_gen_bars #[.slice x49.p x49.n x49.c, .int .i64 most2] H31 (fun v14 H32 =>
  ∃ x50 : Sl, v14 = .slice x50.p x50.n x50.c ∧ (
  okRow H32 (g.add 10) 1 ∧ (
  letH (wrs H32 (g.add 10) [.slice x50.p x50.n x50.c]) (fun H33 : Heap =>
  ∃ x51 : Int, rd H33 g = some (.int .i64 x51) ∧ ∃ x52 : Int, rd H33 (g.add 1) = some (.int .i64 x52) ∧ ∃ x53 : Int, rd H33 (g.add 2) = some (.int .i64 x53) ∧ ∃ x54 : Int, rd H33 (g.add 3) = some (.int .i64 x54) ∧ ∃ x55 : Bool, rd H33 (g.add 4) = some (.bool x55) ∧ ∃ x56 : Bool, rd H33 (g.add 5) = some (.bool x56) ∧ ∃ x57 : Bool, rd H33 (g.add 6) = some (.bool x57) ∧ ∃ x58 : Int, rd H33 (g.add 7) = some (.int .i64 x58) ∧ ∃ x59 : Int, rd H33 (g.add 8) = some (.int .i64 x59) ∧ ∃ x60 : Int, rd H33 (g.add 9) = some (.int .i64 x60) ∧ ∃ x61 : Sl, rd H33 (g.add 10) = some (.slice x61.p x61.n x61.c) ∧ (
  letH (H33.push (.cells #[.int .i64 x51, .int .i64 x52, .int .i64 x53, .int .i64 x54, .bool x55, .bool x56, .bool x57, .int .i64 x58, .int .i64 x59, .int .i64 x60, .slice x61.p x61.n x61.c] t_api_Function (0, 0))) (fun H34 : Heap =>
  runH Try.prog (Builtin.append_ #[t_sl_api_Function, t_sl_api_Function] t_sl_api_Function #[.slice out.p out.n out.c, .slice (some (⟨H33.size, 0, none⟩ : Addr)) 1 1]) H34 (fun v15 H35 =>
  ∃ out1 : Sl, v15 = .slice out1.p out1.n out1.c ∧ (
  letV (IntKind.i64.wrap (i + (1 : Int))) (fun i2 : Int =>
  I_ out1 bridges2 i2 H35 ∧ M_ out1 bridges2 i2 H35 < M_ out bridges i H3))))))))))

def F_gen_Topology_k4 (H : Heap) (I_ : Sl → Sl → Int → Heap → Prop) (M_ : Sl → Sl → Int → Heap → Nat) (out : Sl) (bridges : Sl) (i : Int) (H3 : Heap) (g : Addr) (H18 : Heap) : Prop :=
  ∃ x35 : Int, rd H18 g = some (.int .i64 x35) ∧ (
  ∃ x36 : Int, rd H18 (g.add 1) = some (.int .i64 x36) ∧ (
  runH Try.prog (Instr.lookup t_map_2_int_bool (.map (some H.size)) (.agg #[.int .i64 x35, .int .i64 x36]) false) H18 (fun v9 H19 =>
  ∃ x37 : Bool, v9 = .bool x37 ∧ (
  iteB x37 (
  letV (IntKind.i64.wrap (i + (1 : Int))) (fun i1 : Int =>
  I_ out bridges i1 H19 ∧ M_ out bridges i1 H19 < M_ out bridges i H3)) (
  ∃ x38 : Int, rd H19 g = some (.int .i64 x38) ∧ (
  ∃ x39 : Int, rd H19 (g.add 1) = some (.int .i64 x39) ∧ (
  runH Try.prog (Instr.mapUpdate t_map_2_int_bool (.map (some H.size)) (.agg #[.int .i64 x38, .int .i64 x39]) (.bool true)) H19 (fun _ H20 =>
  ∃ J_1 : Sl → Int → Heap → Prop, (
  ∃ x40 : Bool, rd H20 (g.add 4) = some (.bool x40) ∧ (
  iteB x40 (
  ∃ J_2 : Heap → Prop, (
  ∃ x41 : Int, rd H20 ((⟨H3.size, 0, none⟩ : Addr).add 3) = some (.int .i64 x41) ∧ (
  CallsP Try.prog n_help_Mod #[.int .i64 x41, .int .i64 (3 : Int)] (fun v10 =>
  ∃ x42 : Int, v10 = .int .i64 x42 ∧ (
  ∃ x43 : Bool, rd H20 ((⟨H3.size, 0, none⟩ : Addr).add 6) = some (.bool x43) ∧ (
  iteB x43 (
  okRow H20 (g.add 5) 1 ∧ (
  letH (wrs H20 (g.add 5) [.bool (decide (x42 > (0 : Int)))]) (fun H21 : Heap =>
  okRow H21 (g.add 6) 1 ∧ (
  letH (wrs H21 (g.add 6) [.bool true]) (fun H22 : Heap =>
  J_2 H22))))) (
  ∃ x44 : Int, rd H20 ((⟨H3.size, 0, none⟩ : Addr).add 3) = some (.int .i64 x44) ∧ (
  CallsP Try.prog n_help_Mod #[.int .i64 x44, .int .i64 (4 : Int)] (fun v11 =>
  ∃ x45 : Int, v11 = .int .i64 x45 ∧ (
  okRow H20 (g.add 5) 1 ∧ (
  letH (wrs H20 (g.add 5) [.bool (decide (x42 > (0 : Int)))]) (fun H23 : Heap =>
  okRow H23 (g.add 6) 1 ∧ (
  letH (wrs H23 (g.add 6) [.bool (x45 == (0 : Int))]) (fun H24 : Heap =>
  J_2 H24))))))))))))) ∧ (∀ H25 : Heap, J_2 H25 → F_gen_Topology_k2 out bridges H3 g J_1 H25)) (
  J_1 bridges (6 : Int) H20))) ∧ (∀ bridges2 : Sl, ∀ most2 : Int, ∀ H31 : Heap, J_1 bridges2 most2 H31 → F_gen_Topology_k3 I_ M_ out bridges i H3 g bridges2 most2 H31)))))))))

def F_gen_Topology_r5 (R : Value → Heap → Prop) (H : Heap) (l : Sl) (most : Int) (I_ : Sl → Sl → Int → Heap → Prop) (M_ : Sl → Sl → Int → Heap → Nat) (out : Sl) (bridges : Sl) (i : Int) (H3 : Heap) : Prop :=
  iteB (decide (i < (l.n : Int))) (
  iteB (decide ((out.n : Int) < most)) (
  0 ≤ i ∧ i < (l.n : Int) ∧ (unSome l.p (fun a =>
  ∃ x : Int, rd H3 (a.add (i.toNat * 11)) = some (.int .i64 x) ∧ ∃ x1 : Int, rd H3 ((a.add (i.toNat * 11)).add 1) = some (.int .i64 x1) ∧ ∃ x2 : Int, rd H3 ((a.add (i.toNat * 11)).add 2) = some (.int .i64 x2) ∧ ∃ x3 : Int, rd H3 ((a.add (i.toNat * 11)).add 3) = some (.int .i64 x3) ∧ ∃ x4 : Bool, rd H3 ((a.add (i.toNat * 11)).add 4) = some (.bool x4) ∧ ∃ x5 : Bool, rd H3 ((a.add (i.toNat * 11)).add 5) = some (.bool x5) ∧ ∃ x6 : Bool, rd H3 ((a.add (i.toNat * 11)).add 6) = some (.bool x6) ∧ ∃ x7 : Int, rd H3 ((a.add (i.toNat * 11)).add 7) = some (.int .i64 x7) ∧ ∃ x8 : Int, rd H3 ((a.add (i.toNat * 11)).add 8) = some (.int .i64 x8) ∧ ∃ x9 : Int, rd H3 ((a.add (i.toNat * 11)).add 9) = some (.int .i64 x9) ∧ ∃ x10 : Sl, rd H3 ((a.add (i.toNat * 11)).add 10) = some (.slice x10.p x10.n x10.c) ∧ (
  letH (H3.push (.cells #[.int .i64 (0 : Int), .int .i64 (0 : Int), .int .i64 (0 : Int), .int .i64 (0 : Int), .bool false, .bool false, .bool false, .int .i64 (0 : Int), .int .i64 (0 : Int), .int .i64 (0 : Int), .slice none 0 0] t_api_Function (0, 0))) (fun H4 : Heap =>
  okRow H4 (⟨H3.size, 0, none⟩ : Addr) 11 ∧ (
  letH (wrs H4 (⟨H3.size, 0, none⟩ : Addr) [.int .i64 x, .int .i64 x1, .int .i64 x2, .int .i64 x3, .bool x4, .bool x5, .bool x6, .int .i64 x7, .int .i64 x8, .int .i64 x9, .slice x10.p x10.n x10.c]) (fun H5 : Heap =>
  ∃ J_ : Addr → Heap → Prop, (
  ∃ x11 : Int, rd H5 (⟨H3.size, 0, none⟩ : Addr) = some (.int .i64 x11) ∧ (
  CallsP Try.prog n_help_Mod #[.int .i64 x11, .int .i64 (bridges.n : Int)] (fun v =>
  ∃ x12 : Int, v = .int .i64 x12 ∧ (
  0 ≤ x12 ∧ x12 < (bridges.n : Int) ∧ (unSome bridges.p (fun a1 =>
  ∃ x13 : Int, rd H5 (a1.add (x12.toNat * 1)) = some (.int .i64 x13) ∧ (
  ∃ x14 : Int, rd H5 ((⟨H3.size, 0, none⟩ : Addr).add 1) = some (.int .i64 x14) ∧ (
  CallsP Try.prog n_help_Mod #[.int .i64 x14, .int .i64 (8 : Int)] (fun v1 =>
  ∃ x15 : Int, v1 = .int .i64 x15 ∧ (
  ∃ x16 : Int, rd H5 ((⟨H3.size, 0, none⟩ : Addr).add 2) = some (.int .i64 x16) ∧ (
  CallsP Try.prog n_help_Mod #[.int .i64 x16, .int .i64 (9 : Int)] (fun v2 =>
  ∃ x17 : Int, v2 = .int .i64 x17 ∧ (
  ∃ x18 : Int, rd H5 ((⟨H3.size, 0, none⟩ : Addr).add 3) = some (.int .i64 x18) ∧ (
  CallsP Try.prog n_help_Mod #[.int .i64 x18, .int .i64 (9 : Int)] (fun v3 =>
  ∃ x19 : Int, v3 = .int .i64 x19 ∧ (
  ∃ x20 : Bool, rd H5 ((⟨H3.size, 0, none⟩ : Addr).add 4) = some (.bool x20) ∧ (
  iteB x20 (
  ∃ x21 : Int, rd H5 ((⟨H3.size, 0, none⟩ : Addr).add 8) = some (.int .i64 x21) ∧ (
  CallsP Try.prog n_help_Mod #[.int .i64 x21, .int .i64 (5 : Int)] (fun v4 =>
  ∃ x22 : Int, v4 = .int .i64 x22 ∧ (
  ∃ x23 : Int, rd H5 ((⟨H3.size, 0, none⟩ : Addr).add 9) = some (.int .i64 x23) ∧ (
  CallsP Try.prog n_help_Mod #[.int .i64 x23, .int .i64 (6 : Int)] (fun v5 =>
  ∃ x24 : Int, v5 = .int .i64 x24 ∧ (
  (
  letH (H5.push (.cells #[.int .i64 (0 : Int), .int .i64 (1 : Int), .int .i64 (2 : Int), .int .i64 (4 : Int), .int .i64 (16 : Int), .int .i64 (32 : Int)] t_int (0, 0))) (fun H6 : Heap =>
  Keeps H5 H6 [((⟨H3.size, 0, none⟩ : Addr), 1), ((a1.add (x12.toNat * 1)), 1), (((⟨H3.size, 0, none⟩ : Addr).add 1), 1), (((⟨H3.size, 0, none⟩ : Addr).add 2), 1), (((⟨H3.size, 0, none⟩ : Addr).add 3), 1), (((⟨H3.size, 0, none⟩ : Addr).add 4), 1), (((⟨H3.size, 0, none⟩ : Addr).add 8), 1), (((⟨H3.size, 0, none⟩ : Addr).add 9), 1)] ∧ (
  0 ≤ x24 ∧ x24 < (6 : Int) ∧ (∃ x25 : Int, rd H6 ((⟨H5.size, 0, none⟩ : Addr).add (x24.toNat * 1)) = some (.int .i64 x25) ∧ (
  letH (H6.push (.cells #[.int .i64 (0 : Int), .int .i64 (0 : Int), .int .i64 (0 : Int), .int .i64 (0 : Int), .bool false, .bool false, .bool false, .int .i64 (0 : Int), .int .i64 (0 : Int), .int .i64 (0 : Int), .slice none 0 0] t_api_Function (0, 0))) (fun H7 : Heap =>
  Keeps H6 H7 [((⟨H3.size, 0, none⟩ : Addr), 1), ((a1.add (x12.toNat * 1)), 1), (((⟨H3.size, 0, none⟩ : Addr).add 1), 1), (((⟨H3.size, 0, none⟩ : Addr).add 2), 1), (((⟨H3.size, 0, none⟩ : Addr).add 3), 1), (((⟨H3.size, 0, none⟩ : Addr).add 4), 1), (((⟨H3.size, 0, none⟩ : Addr).add 8), 1), (((⟨H3.size, 0, none⟩ : Addr).add 9), 1), (((⟨H5.size, 0, none⟩ : Addr).add (x24.toNat * 1)), 1)] ∧ (
  okRow H7 (⟨H6.size, 0, none⟩ : Addr) 11 ∧ (
  letH (wrs H7 (⟨H6.size, 0, none⟩ : Addr) [.int .i64 x13, .int .i64 x15, .int .i64 (IntKind.i64.wrap ((1 : Int) + x17)), .int .i64 x19, .bool true, .bool false, .bool false, .int .i64 (0 : Int), .int .i64 x22, .int .i64 x25, .slice none 0 0]) (fun H8 : Heap =>
  J_ (⟨H6.size, 0, none⟩ : Addr) H8))))))))) ∧ (
  letH (H5.push (.cells #[.int .i64 (0 : Int), .int .i64 (0 : Int), .int .i64 (0 : Int), .int .i64 (0 : Int), .bool false, .bool false, .bool false, .int .i64 (0 : Int), .int .i64 (0 : Int), .int .i64 (0 : Int), .slice none 0 0] t_api_Function (0, 0))) (fun H9 : Heap =>
  Keeps H5 H9 [((⟨H3.size, 0, none⟩ : Addr), 1), ((a1.add (x12.toNat * 1)), 1), (((⟨H3.size, 0, none⟩ : Addr).add 1), 1), (((⟨H3.size, 0, none⟩ : Addr).add 2), 1), (((⟨H3.size, 0, none⟩ : Addr).add 3), 1), (((⟨H3.size, 0, none⟩ : Addr).add 4), 1), (((⟨H3.size, 0, none⟩ : Addr).add 8), 1), (((⟨H3.size, 0, none⟩ : Addr).add 9), 1)] ∧ (
  letH (H9.push (.cells #[.int .i64 (0 : Int), .int .i64 (1 : Int), .int .i64 (2 : Int), .int .i64 (4 : Int), .int .i64 (16 : Int), .int .i64 (32 : Int)] t_int (0, 0))) (fun H10 : Heap =>
  Keeps H9 H10 [((⟨H3.size, 0, none⟩ : Addr), 1), ((a1.add (x12.toNat * 1)), 1), (((⟨H3.size, 0, none⟩ : Addr).add 1), 1), (((⟨H3.size, 0, none⟩ : Addr).add 2), 1), (((⟨H3.size, 0, none⟩ : Addr).add 3), 1), (((⟨H3.size, 0, none⟩ : Addr).add 4), 1), (((⟨H3.size, 0, none⟩ : Addr).add 8), 1), (((⟨H3.size, 0, none⟩ : Addr).add 9), 1)] ∧ (
  0 ≤ x24 ∧ x24 < (6 : Int) ∧ (∃ x26 : Int, rd H10 ((⟨H9.size, 0, none⟩ : Addr).add (x24.toNat * 1)) = some (.int .i64 x26) ∧ (
  okRow H10 (⟨H5.size, 0, none⟩ : Addr) 11 ∧ (
  letH (wrs H10 (⟨H5.size, 0, none⟩ : Addr) [.int .i64 x13, .int .i64 x15, .int .i64 (IntKind.i64.wrap ((1 : Int) + x17)), .int .i64 x19, .bool true, .bool false, .bool false, .int .i64 (0 : Int), .int .i64 x22, .int .i64 x26, .slice none 0 0]) (fun H11 : Heap =>
  J_ (⟨H5.size, 0, none⟩ : Addr) H11)))))))))))))))) (
  ∃ x27 : Int, rd H5 ((⟨H3.size, 0, none⟩ : Addr).add 2) = some (.int .i64 x27) ∧ (
  CallsP Try.prog n_help_Mod #[.int .i64 x27, .int .i64 (3 : Int)] (fun v6 =>
  ∃ x28 : Int, v6 = .int .i64 x28 ∧ (
  ∃ x29 : Int, rd H5 ((⟨H3.size, 0, none⟩ : Addr).add 8) = some (.int .i64 x29) ∧ (
  CallsP Try.prog n_help_Mod #[.int .i64 x29, .int .i64 (5 : Int)] (fun v7 =>
  ∃ x30 : Int, v7 = .int .i64 x30 ∧ (
  ∃ x31 : Int, rd H5 ((⟨H3.size, 0, none⟩ : Addr).add 9) = some (.int .i64 x31) ∧ (
  CallsP Try.prog n_help_Mod #[.int .i64 x31, .int .i64 (6 : Int)] (fun v8 =>
  ∃ x32 : Int, v8 = .int .i64 x32 ∧ (
  (
  letH (H5.push (.cells #[.int .i64 (0 : Int), .int .i64 (1 : Int), .int .i64 (2 : Int), .int .i64 (4 : Int), .int .i64 (16 : Int), .int .i64 (32 : Int)] t_int (0, 0))) (fun H12 : Heap =>
  Keeps H5 H12 [((⟨H3.size, 0, none⟩ : Addr), 1), ((a1.add (x12.toNat * 1)), 1), (((⟨H3.size, 0, none⟩ : Addr).add 1), 1), (((⟨H3.size, 0, none⟩ : Addr).add 2), 1), (((⟨H3.size, 0, none⟩ : Addr).add 3), 1), (((⟨H3.size, 0, none⟩ : Addr).add 4), 1), (((⟨H3.size, 0, none⟩ : Addr).add 2), 1), (((⟨H3.size, 0, none⟩ : Addr).add 8), 1), (((⟨H3.size, 0, none⟩ : Addr).add 9), 1)] ∧ (
  0 ≤ x32 ∧ x32 < (6 : Int) ∧ (∃ x33 : Int, rd H12 ((⟨H5.size, 0, none⟩ : Addr).add (x32.toNat * 1)) = some (.int .i64 x33) ∧ (
  letH (H12.push (.cells #[.int .i64 (0 : Int), .int .i64 (0 : Int), .int .i64 (0 : Int), .int .i64 (0 : Int), .bool false, .bool false, .bool false, .int .i64 (0 : Int), .int .i64 (0 : Int), .int .i64 (0 : Int), .slice none 0 0] t_api_Function (0, 0))) (fun H13 : Heap =>
  Keeps H12 H13 [((⟨H3.size, 0, none⟩ : Addr), 1), ((a1.add (x12.toNat * 1)), 1), (((⟨H3.size, 0, none⟩ : Addr).add 1), 1), (((⟨H3.size, 0, none⟩ : Addr).add 2), 1), (((⟨H3.size, 0, none⟩ : Addr).add 3), 1), (((⟨H3.size, 0, none⟩ : Addr).add 4), 1), (((⟨H3.size, 0, none⟩ : Addr).add 2), 1), (((⟨H3.size, 0, none⟩ : Addr).add 8), 1), (((⟨H3.size, 0, none⟩ : Addr).add 9), 1), (((⟨H5.size, 0, none⟩ : Addr).add (x32.toNat * 1)), 1)] ∧ (
  okRow H13 (⟨H12.size, 0, none⟩ : Addr) 11 ∧ (
  letH (wrs H13 (⟨H12.size, 0, none⟩ : Addr) [.int .i64 x13, .int .i64 x15, .int .i64 (IntKind.i64.wrap ((1 : Int) + x17)), .int .i64 x19, .bool (x28 == (0 : Int)), .bool false, .bool false, .int .i64 (0 : Int), .int .i64 x30, .int .i64 x33, .slice none 0 0]) (fun H14 : Heap =>
  J_ (⟨H12.size, 0, none⟩ : Addr) H14))))))))) ∧ (
  letH (H5.push (.cells #[.int .i64 (0 : Int), .int .i64 (0 : Int), .int .i64 (0 : Int), .int .i64 (0 : Int), .bool false, .bool false, .bool false, .int .i64 (0 : Int), .int .i64 (0 : Int), .int .i64 (0 : Int), .slice none 0 0] t_api_Function (0, 0))) (fun H15 : Heap =>
  Keeps H5 H15 [((⟨H3.size, 0, none⟩ : Addr), 1), ((a1.add (x12.toNat * 1)), 1), (((⟨H3.size, 0, none⟩ : Addr).add 1), 1), (((⟨H3.size, 0, none⟩ : Addr).add 2), 1), (((⟨H3.size, 0, none⟩ : Addr).add 3), 1), (((⟨H3.size, 0, none⟩ : Addr).add 4), 1), (((⟨H3.size, 0, none⟩ : Addr).add 2), 1), (((⟨H3.size, 0, none⟩ : Addr).add 8), 1), (((⟨H3.size, 0, none⟩ : Addr).add 9), 1)] ∧ (
  letH (H15.push (.cells #[.int .i64 (0 : Int), .int .i64 (1 : Int), .int .i64 (2 : Int), .int .i64 (4 : Int), .int .i64 (16 : Int), .int .i64 (32 : Int)] t_int (0, 0))) (fun H16 : Heap =>
  Keeps H15 H16 [((⟨H3.size, 0, none⟩ : Addr), 1), ((a1.add (x12.toNat * 1)), 1), (((⟨H3.size, 0, none⟩ : Addr).add 1), 1), (((⟨H3.size, 0, none⟩ : Addr).add 2), 1), (((⟨H3.size, 0, none⟩ : Addr).add 3), 1), (((⟨H3.size, 0, none⟩ : Addr).add 4), 1), (((⟨H3.size, 0, none⟩ : Addr).add 2), 1), (((⟨H3.size, 0, none⟩ : Addr).add 8), 1), (((⟨H3.size, 0, none⟩ : Addr).add 9), 1)] ∧ (
  0 ≤ x32 ∧ x32 < (6 : Int) ∧ (∃ x34 : Int, rd H16 ((⟨H15.size, 0, none⟩ : Addr).add (x32.toNat * 1)) = some (.int .i64 x34) ∧ (
  okRow H16 (⟨H5.size, 0, none⟩ : Addr) 11 ∧ (
  letH (wrs H16 (⟨H5.size, 0, none⟩ : Addr) [.int .i64 x13, .int .i64 x15, .int .i64 (IntKind.i64.wrap ((1 : Int) + x17)), .int .i64 x19, .bool (x28 == (0 : Int)), .bool false, .bool false, .int .i64 (0 : Int), .int .i64 x30, .int .i64 x34, .slice none 0 0]) (fun H17 : Heap =>
  J_ (⟨H5.size, 0, none⟩ : Addr) H17)))))))))))))))))))))))))))))))))))) ∧ (∀ g : Addr, ∀ H18 : Heap, J_ g H18 → F_gen_Topology_k4 H I_ M_ out bridges i H3 g H18)))))))) (
  R (.slice out.p out.n out.c) H3)) (
  R (.slice out.p out.n out.c) H3)

def F_gen_Topology (R : Value → Heap → Prop) (l : Sl) (most : Int) (H : Heap) : Prop :=
  letH (H.push (.map #[] 0)) (fun H1 : Heap =>
  letH (H1.push (.cells #[.int .i64 (-1 : Int)] t_int (0, 0))) (fun H2 : Heap =>
  ∃ I_ : Sl → Sl → Int → Heap → Prop, ∃ M_ : Sl → Sl → Int → Heap → Nat, I_ (Sl.mk none 0 0) (Sl.mk (some (⟨H1.size, 0, none⟩ : Addr)) 1 1) (0 : Int) H2 ∧ (∀ out : Sl, ∀ bridges : Sl, ∀ i : Int, ∀ H3 : Heap, I_ out bridges i H3 → F_gen_Topology_r5 R H l most I_ M_ out bridges i H3)))

theorem F_gen_Topology_eq (R : Value → Heap → Prop) (l : Sl) (most : Int) (H : Heap) : wpF Try.prog Try.f13 [(5, .slice none 0 0), (7, .slice none 0 0), (8, .int .i64 0), (10, .pointer (some ⟨0, 0, none⟩)), (11, .int .i64 0)] [(9, [10], [0, 1, 5, 6, 7, 8, 9]), (18, [7, 11], [0, 1, 5, 6, 8, 9, 10]), (15, [], [0, 1, 5, 6, 7, 8, 9, 10, 11]), (17, [], [0, 1, 5, 6, 7, 8, 9, 10, 11])] [(5, [5, 7, 8], [0, 1, 6])] [11] [.slice l.p l.n l.c, .int .i64 most] H R = F_gen_Topology R l most H := by kernel_rfl

theorem F_gen_Topology_ok {R : Value → Heap → Prop} (l : Sl) (most : Int) {H : Heap} (h : F_gen_Topology R l most H) : CallsH Try.prog n_gen_Topology #[.slice l.p l.n l.c, .int .i64 most] H R :=
  wpF_ok Try.func13 (F_gen_Topology_eq R l most H) h

/-! ### 14: platformfw/resources.Needs -/

def F_resources_Needs_r1 (R : Value → Heap → Prop) (l : Sl) (H2 : Heap) (I_ : Int → Heap → Prop) (M_ : Int → Heap → Nat) (i1 : Int) (H4 : Heap) (x7 : Sl) (I_1 : Int → Heap → Prop) (M_1 : Int → Heap → Nat) (x8 : Int) (H9 : Heap) : Prop :=
  iteB (decide (x8 < (x7.n : Int))) (
  0 ≤ x8 ∧ x8 < (x7.n : Int) ∧ (unSome x7.p (fun a =>
  ∃ x9 : Int, rd H9 (a.add (x8.toNat * 4)) = some (.int .i64 x9) ∧ ∃ x10 : Int, rd H9 ((a.add (x8.toNat * 4)).add 1) = some (.int .i64 x10) ∧ ∃ x11 : Int, rd H9 ((a.add (x8.toNat * 4)).add 2) = some (.int .i64 x11) ∧ ∃ x12 : Int, rd H9 ((a.add (x8.toNat * 4)).add 3) = some (.int .i64 x12) ∧ (
  letH (H9.push (.cells #[.int .i64 (0 : Int), .int .i64 (0 : Int), .int .i64 (0 : Int), .int .i64 (0 : Int)] t_api_Need (0, 0))) (fun H10 : Heap =>
  okRow H10 (⟨H9.size, 0, none⟩ : Addr) 4 ∧ (
  letH (wrs H10 (⟨H9.size, 0, none⟩ : Addr) [.int .i64 x9, .int .i64 x10, .int .i64 x11, .int .i64 x12]) (fun H11 : Heap =>
  ∃ x13 : Int, rd H11 ((⟨H9.size, 0, none⟩ : Addr).add 3) = some (.int .i64 x13) ∧ (
  ∃ x14 : Int, rd H11 ((⟨H9.size, 0, none⟩ : Addr).add 2) = some (.int .i64 x14) ∧ (
  CallsH Try.prog n_resources_largest #[.int .i64 x14] H11 (fun v4 H12 =>
  ∃ x15 : Int, v4 = .int .i64 x15 ∧ (
  Keeps H11 H12 [(((⟨H9.size, 0, none⟩ : Addr).add 3), 1)] ∧ (
  iteB (decide (x13 > x15)) (
  R (.tuple #[.slice none 0 0, .int .i64 (11 : Int)]) H12) (
  0 ≤ i1 ∧ i1 < (l.n : Int) ∧ (unSome l.p (fun a1 =>
  ∃ parent : Int, rd H12 (a1.add (i1.toNat * 11)) = some (.int .i64 parent) ∧ (
  iteB (decide (parent ≥ (0 : Int))) (
  ∃ x16 : Int, rd H12 ((⟨H9.size, 0, none⟩ : Addr).add 2) = some (.int .i64 x16) ∧ (
  ∃ x17 : Int, rd H12 ((⟨H9.size, 0, none⟩ : Addr).add 2) = some (.int .i64 x17) ∧ (
  0 ≤ parent ∧ parent < ((l.n : Int).toNat : Int) ∧ (0 ≤ x17 ∧ x17 < ((3 : Nat) : Int) ∧ (∃ x18 : Sl, rd H12 (((⟨H2.size, 0, none⟩ : Addr).add (parent.toNat * 3)).add (x17.toNat * 1)) = some (.slice x18.p x18.n x18.c) ∧ (
  ∃ x19 : Int, rd H12 ((⟨H9.size, 0, none⟩ : Addr).add 3) = some (.int .i64 x19) ∧ (
  0 ≤ parent ∧ parent < ((l.n : Int).toNat : Int) ∧ (letH (H12.push (.cells #[.int .i64 x19] t_int (0, 0))) (fun H13 : Heap =>
  Keeps H12 H13 [(((⟨H9.size, 0, none⟩ : Addr).add 2), 1), (((⟨H9.size, 0, none⟩ : Addr).add 2), 1), ((((⟨H2.size, 0, none⟩ : Addr).add (parent.toNat * 3)).add (x17.toNat * 1)), 1)] ∧ (
  runH Try.prog (Builtin.append_ #[t_sl_int, t_sl_int] t_sl_int #[.slice x18.p x18.n x18.c, .slice (some (⟨H12.size, 0, none⟩ : Addr)) 1 1]) H13 (fun v5 H14 =>
  ∃ x20 : Sl, v5 = .slice x20.p x20.n x20.c ∧ (
  Keeps H13 H14 [(((⟨H9.size, 0, none⟩ : Addr).add 2), 1)] ∧ (
  0 ≤ x16 ∧ x16 < ((3 : Nat) : Int) ∧ (okRow H14 (((⟨H2.size, 0, none⟩ : Addr).add (parent.toNat * 3)).add (x16.toNat * 1)) 1 ∧ (
  letH (wrs H14 (((⟨H2.size, 0, none⟩ : Addr).add (parent.toNat * 3)).add (x16.toNat * 1)) [.slice x20.p x20.n x20.c]) (fun H15 : Heap =>
  I_1 (IntKind.i64.wrap (x8 + (1 : Int))) H15 ∧ M_1 (IntKind.i64.wrap (x8 + (1 : Int))) H15 < M_1 x8 H9)))))))))))))))) (
  I_1 (IntKind.i64.wrap (x8 + (1 : Int))) H12 ∧ M_1 (IntKind.i64.wrap (x8 + (1 : Int))) H12 < M_1 x8 H9))))))))))))))))) (
  letV (IntKind.i64.wrap (i1 - (1 : Int))) (fun i2 : Int =>
  I_ i2 H9 ∧ M_ i2 H9 < M_ i1 H4))

def F_resources_Needs_r2 (R : Value → Heap → Prop) (l : Sl) (H1 : Heap) (I_2 : Sl → Int → Heap → Prop) (M_2 : Sl → Int → Heap → Nat) (needs : Sl) (x21 : Int) (H16 : Heap) : Prop :=
  iteB (decide (x21 < ((l.n : Int).toNat : Int))) (
  0 ≤ x21 ∧ x21 < ((l.n : Int).toNat : Int) ∧ (∃ part : Sl, rd H16 ((⟨H1.size, 0, none⟩ : Addr).add (x21.toNat * 1)) = some (.slice part.p part.n part.c) ∧ (
  runH Try.prog (Builtin.append_ #[t_sl_api_Need, t_sl_api_Need] t_sl_api_Need #[.slice needs.p needs.n needs.c, .slice part.p part.n part.c]) H16 (fun v6 H17 =>
  ∃ needs1 : Sl, v6 = .slice needs1.p needs1.n needs1.c ∧ (
  I_2 needs1 (IntKind.i64.wrap (x21 + (1 : Int))) H17 ∧ M_2 needs1 (IntKind.i64.wrap (x21 + (1 : Int))) H17 < M_2 needs x21 H16))))) (
  R (.tuple #[.slice needs.p needs.n needs.c, .int .i64 (0 : Int)]) H16)

def F_resources_Needs_r3 (R : Value → Heap → Prop) (l : Sl) (high : Bool) (H1 : Heap) (H2 : Heap) (I_ : Int → Heap → Prop) (M_ : Int → Heap → Nat) (i1 : Int) (H4 : Heap) : Prop :=
  iteB (decide (i1 ≥ (0 : Int))) (
  0 ≤ i1 ∧ i1 < ((l.n : Int).toNat : Int) ∧ (∃ x1 : Sl, rd H4 ((⟨H2.size, 0, none⟩ : Addr).add (i1.toNat * 3)) = some (.slice x1.p x1.n x1.c) ∧ ∃ x2 : Sl, rd H4 (((⟨H2.size, 0, none⟩ : Addr).add (i1.toNat * 3)).add 1) = some (.slice x2.p x2.n x2.c) ∧ ∃ x3 : Sl, rd H4 (((⟨H2.size, 0, none⟩ : Addr).add (i1.toNat * 3)).add 2) = some (.slice x3.p x3.n x3.c) ∧ (
  CallsH Try.prog n_resources_registers #[.slice l.p l.n l.c, .bool high, .int .i64 i1] H4 (fun v1 H5 =>
  ∃ x4 : Sl, v1 = .slice x4.p x4.n x4.c ∧ (
  Keeps H4 H5 [(((⟨H2.size, 0, none⟩ : Addr).add (i1.toNat * 3)), 3)] ∧ (
  CallsH Try.prog n_resources_windows #[.slice l.p l.n l.c, .bool high, .int .i64 i1, .agg #[.slice x1.p x1.n x1.c, .slice x2.p x2.n x2.c, .slice x3.p x3.n x3.c]] H5 (fun v2 H6 =>
  ∃ x5 : Sl, v2 = .slice x5.p x5.n x5.c ∧ (
  runH Try.prog (Builtin.append_ #[t_sl_api_Need, t_sl_api_Need] t_sl_api_Need #[.slice x4.p x4.n x4.c, .slice x5.p x5.n x5.c]) H6 (fun v3 H7 =>
  ∃ x6 : Sl, v3 = .slice x6.p x6.n x6.c ∧ (
  0 ≤ i1 ∧ i1 < ((l.n : Int).toNat : Int) ∧ (okRow H7 ((⟨H1.size, 0, none⟩ : Addr).add (i1.toNat * 1)) 1 ∧ (
  letH (wrs H7 ((⟨H1.size, 0, none⟩ : Addr).add (i1.toNat * 1)) [.slice x6.p x6.n x6.c]) (fun H8 : Heap =>
  0 ≤ i1 ∧ i1 < ((l.n : Int).toNat : Int) ∧ (∃ x7 : Sl, rd H8 ((⟨H1.size, 0, none⟩ : Addr).add (i1.toNat * 1)) = some (.slice x7.p x7.n x7.c) ∧ (
  ∃ I_1 : Int → Heap → Prop, ∃ M_1 : Int → Heap → Nat, I_1 (0 : Int) H8 ∧ (∀ x8 : Int, ∀ H9 : Heap, I_1 x8 H9 → F_resources_Needs_r1 R l H2 I_ M_ i1 H4 x7 I_1 M_1 x8 H9)))))))))))))))) (
  ∃ I_2 : Sl → Int → Heap → Prop, ∃ M_2 : Sl → Int → Heap → Nat, I_2 (Sl.mk none 0 0) (0 : Int) H4 ∧ (∀ needs : Sl, ∀ x21 : Int, ∀ H16 : Heap, I_2 needs x21 H16 → F_resources_Needs_r2 R l H1 I_2 M_2 needs x21 H16))

def F_resources_Needs (R : Value → Heap → Prop) (l : Sl) (high : Bool) (H : Heap) : Prop :=
  CallsH Try.prog n_enumerate_Valid #[.slice l.p l.n l.c] H (fun v H1 =>
  ∃ x : Bool, v = .bool x ∧ (
  iteB (!x) (
  R (.tuple #[.slice none 0 0, .int .i64 (1 : Int)]) H1) (
  0 ≤ (l.n : Int) ∧ (l.n : Int) ≤ (l.n : Int) ∧ (l.n : Int) * ((24 : Nat) : Int) ≤ 281474976710656 ∧ (
  letH (H1.push (.cells (zeroRow (.slice none 0 0) (l.n : Int).toNat) t_sl_api_Need (0, 0))) (fun H2 : Heap =>
  0 ≤ (l.n : Int) ∧ (l.n : Int) ≤ (l.n : Int) ∧ (l.n : Int) * ((72 : Nat) : Int) ≤ 281474976710656 ∧ (
  letH (H2.push (.cells (zeroRow (.agg #[.slice none 0 0, .slice none 0 0, .slice none 0 0]) (l.n : Int).toNat) t_3_sl_int (0, 0))) (fun H3 : Heap =>
  letV (IntKind.i64.wrap ((l.n : Int) - (1 : Int))) (fun i : Int =>
  ∃ I_ : Int → Heap → Prop, ∃ M_ : Int → Heap → Nat, I_ i H3 ∧ (∀ i1 : Int, ∀ H4 : Heap, I_ i1 H4 → F_resources_Needs_r3 R l high H1 H2 I_ M_ i1 H4)))))))))

theorem F_resources_Needs_eq (R : Value → Heap → Prop) (l : Sl) (high : Bool) (H : Heap) : wpF Try.prog Try.f14 [(8, .int .i64 0), (12, .slice none 0 0), (52, .int .i64 0), (89, .int .i64 0)] [] [(6, [8], [0, 1, 6, 7]), (10, [52], [0, 1, 6, 7, 8, 50, 51]), (20, [12, 89], [87, 88])] [11] [.slice l.p l.n l.c, .bool high] H R = F_resources_Needs R l high H := by kernel_rfl

theorem F_resources_Needs_ok {R : Value → Heap → Prop} (l : Sl) (high : Bool) {H : Heap} (h : F_resources_Needs R l high H) : CallsH Try.prog n_resources_Needs #[.slice l.p l.n l.c, .bool high] H R :=
  wpF_ok Try.func14 (F_resources_Needs_eq R l high H) h

/-! ### 15: platformfw/resources.Class -/

def F_resources_Class (R : Value → Heap → Prop) (l : Sl) (high : Bool) (function : Int) (bar : Int) (H : Heap) : Prop :=
  CallsH Try.prog n_enumerate_Valid #[.slice l.p l.n l.c] H (fun v H1 =>
  ∃ x : Bool, v = .bool x ∧ (
  iteB (!x) (
  R (.tuple #[.int .i64 (0 : Int), .bool false]) H1) (
  iteB (decide (function < (0 : Int))) (
  R (.tuple #[.int .i64 (0 : Int), .bool false]) H1) (
  iteB (decide (function ≥ (l.n : Int))) (
  R (.tuple #[.int .i64 (0 : Int), .bool false]) H1) (
  0 ≤ function ∧ function < (l.n : Int) ∧ (unSome l.p (fun a =>
  ∃ bars : Sl, rd H1 ((a.add (function.toNat * 11)).add 10) = some (.slice bars.p bars.n bars.c) ∧ (
  iteB (decide (bar < (0 : Int))) (
  R (.tuple #[.int .i64 (0 : Int), .bool false]) H1) (
  iteB (decide (bar ≥ (bars.n : Int))) (
  R (.tuple #[.int .i64 (0 : Int), .bool false]) H1) (
  0 ≤ bar ∧ bar < (bars.n : Int) ∧ (unSome bars.p (fun a1 =>
  ∃ x1 : Int, rd H1 (a1.add (bar.toNat * 2)) = some (.int .i64 x1) ∧ (
  iteB (x1 == (0 : Int)) (
  R (.tuple #[.int .i64 (0 : Int), .bool false]) H1) (
  0 ≤ bar ∧ bar < (bars.n : Int) ∧ (unSome bars.p (fun a2 =>
  ∃ x2 : Int, rd H1 (a2.add (bar.toNat * 2)) = some (.int .i64 x2) ∧ (
  CallsH Try.prog n_resources_classOf #[.slice l.p l.n l.c, .bool high, .int .i64 function, .int .i64 x2] H1 (fun v1 H2 =>
  ∃ x3 : Int, v1 = .int .i64 x3 ∧ (
  R (.tuple #[.int .i64 x3, .bool true]) H2)))))))))))))))))))

theorem F_resources_Class_eq (R : Value → Heap → Prop) (l : Sl) (high : Bool) (function : Int) (bar : Int) (H : Heap) : wpF Try.prog Try.f15 [] [] [] [11] [.slice l.p l.n l.c, .bool high, .int .i64 function, .int .i64 bar] H R = F_resources_Class R l high function bar H := by kernel_rfl

theorem F_resources_Class_ok {R : Value → Heap → Prop} (l : Sl) (high : Bool) (function : Int) (bar : Int) {H : Heap} (h : F_resources_Class R l high function bar H) : CallsH Try.prog n_resources_Class #[.slice l.p l.n l.c, .bool high, .int .i64 function, .int .i64 bar] H R :=
  wpF_ok Try.func15 (F_resources_Class_eq R l high function bar H) h

/-! ### 16: platformfw/platformfwref18.Class -/

def F_ref18_Class (R : Value → Heap → Prop) (l : Sl) (high : Bool) (i : Int) (k : Int) (H : Heap) : Prop :=
  CallsH Try.prog n_ref18_Valid #[.slice l.p l.n l.c] H (fun v H1 =>
  ∃ x : Bool, v = .bool x ∧ (
  iteB (!x) (
  R (.tuple #[.int .i64 (0 : Int), .bool false]) H1) (
  iteB (decide (i < (0 : Int))) (
  R (.tuple #[.int .i64 (0 : Int), .bool false]) H1) (
  iteB (decide (i ≥ (l.n : Int))) (
  R (.tuple #[.int .i64 (0 : Int), .bool false]) H1) (
  0 ≤ i ∧ i < (l.n : Int) ∧ (unSome l.p (fun a =>
  ∃ x1 : Int, rd H1 (a.add (i.toNat * 11)) = some (.int .i64 x1) ∧ ∃ x2 : Int, rd H1 ((a.add (i.toNat * 11)).add 1) = some (.int .i64 x2) ∧ ∃ x3 : Int, rd H1 ((a.add (i.toNat * 11)).add 2) = some (.int .i64 x3) ∧ ∃ x4 : Int, rd H1 ((a.add (i.toNat * 11)).add 3) = some (.int .i64 x4) ∧ ∃ x5 : Bool, rd H1 ((a.add (i.toNat * 11)).add 4) = some (.bool x5) ∧ ∃ x6 : Bool, rd H1 ((a.add (i.toNat * 11)).add 5) = some (.bool x6) ∧ ∃ x7 : Bool, rd H1 ((a.add (i.toNat * 11)).add 6) = some (.bool x7) ∧ ∃ x8 : Int, rd H1 ((a.add (i.toNat * 11)).add 7) = some (.int .i64 x8) ∧ ∃ x9 : Int, rd H1 ((a.add (i.toNat * 11)).add 8) = some (.int .i64 x9) ∧ ∃ x10 : Int, rd H1 ((a.add (i.toNat * 11)).add 9) = some (.int .i64 x10) ∧ ∃ x11 : Sl, rd H1 ((a.add (i.toNat * 11)).add 10) = some (.slice x11.p x11.n x11.c) ∧ (
  CallsH Try.prog n_ref18_bar #[.agg #[.int .i64 x1, .int .i64 x2, .int .i64 x3, .int .i64 x4, .bool x5, .bool x6, .bool x7, .int .i64 x8, .int .i64 x9, .int .i64 x10, .slice x11.p x11.n x11.c], .int .i64 k] H1 (fun v1 H2 =>
  ∃ x12 : Int, ∃ x13 : Int, v1 = .agg #[.int .i64 x12, .int .i64 x13] ∧ (
  iteB (x12 == (0 : Int)) (
  R (.tuple #[.int .i64 (0 : Int), .bool false]) H2) (
  0 ≤ i ∧ i < (l.n : Int) ∧ (unSome l.p (fun a1 =>
  ∃ x14 : Int, rd H2 (a1.add (i.toNat * 11)) = some (.int .i64 x14) ∧ ∃ x15 : Int, rd H2 ((a1.add (i.toNat * 11)).add 1) = some (.int .i64 x15) ∧ ∃ x16 : Int, rd H2 ((a1.add (i.toNat * 11)).add 2) = some (.int .i64 x16) ∧ ∃ x17 : Int, rd H2 ((a1.add (i.toNat * 11)).add 3) = some (.int .i64 x17) ∧ ∃ x18 : Bool, rd H2 ((a1.add (i.toNat * 11)).add 4) = some (.bool x18) ∧ ∃ x19 : Bool, rd H2 ((a1.add (i.toNat * 11)).add 5) = some (.bool x19) ∧ ∃ x20 : Bool, rd H2 ((a1.add (i.toNat * 11)).add 6) = some (.bool x20) ∧ ∃ x21 : Int, rd H2 ((a1.add (i.toNat * 11)).add 7) = some (.int .i64 x21) ∧ ∃ x22 : Int, rd H2 ((a1.add (i.toNat * 11)).add 8) = some (.int .i64 x22) ∧ ∃ x23 : Int, rd H2 ((a1.add (i.toNat * 11)).add 9) = some (.int .i64 x23) ∧ ∃ x24 : Sl, rd H2 ((a1.add (i.toNat * 11)).add 10) = some (.slice x24.p x24.n x24.c) ∧ (
  CallsH Try.prog n_ref18_bar #[.agg #[.int .i64 x14, .int .i64 x15, .int .i64 x16, .int .i64 x17, .bool x18, .bool x19, .bool x20, .int .i64 x21, .int .i64 x22, .int .i64 x23, .slice x24.p x24.n x24.c], .int .i64 k] H2 (fun v2 H3 =>
  ∃ x25 : Int, ∃ x26 : Int, v2 = .agg #[.int .i64 x25, .int .i64 x26] ∧ (
  iteB (x25 == (1 : Int)) (
  R (.tuple #[.int .i64 (0 : Int), .bool true]) H3) (
  0 ≤ i ∧ i < (l.n : Int) ∧ (unSome l.p (fun a2 =>
  ∃ x27 : Int, rd H3 (a2.add (i.toNat * 11)) = some (.int .i64 x27) ∧ ∃ x28 : Int, rd H3 ((a2.add (i.toNat * 11)).add 1) = some (.int .i64 x28) ∧ ∃ x29 : Int, rd H3 ((a2.add (i.toNat * 11)).add 2) = some (.int .i64 x29) ∧ ∃ x30 : Int, rd H3 ((a2.add (i.toNat * 11)).add 3) = some (.int .i64 x30) ∧ ∃ x31 : Bool, rd H3 ((a2.add (i.toNat * 11)).add 4) = some (.bool x31) ∧ ∃ x32 : Bool, rd H3 ((a2.add (i.toNat * 11)).add 5) = some (.bool x32) ∧ ∃ x33 : Bool, rd H3 ((a2.add (i.toNat * 11)).add 6) = some (.bool x33) ∧ ∃ x34 : Int, rd H3 ((a2.add (i.toNat * 11)).add 7) = some (.int .i64 x34) ∧ ∃ x35 : Int, rd H3 ((a2.add (i.toNat * 11)).add 8) = some (.int .i64 x35) ∧ ∃ x36 : Int, rd H3 ((a2.add (i.toNat * 11)).add 9) = some (.int .i64 x36) ∧ ∃ x37 : Sl, rd H3 ((a2.add (i.toNat * 11)).add 10) = some (.slice x37.p x37.n x37.c) ∧ (
  CallsH Try.prog n_ref18_bar #[.agg #[.int .i64 x27, .int .i64 x28, .int .i64 x29, .int .i64 x30, .bool x31, .bool x32, .bool x33, .int .i64 x34, .int .i64 x35, .int .i64 x36, .slice x37.p x37.n x37.c], .int .i64 k] H3 (fun v3 H4 =>
  ∃ x38 : Int, ∃ x39 : Int, v3 = .agg #[.int .i64 x38, .int .i64 x39] ∧ (
  iteB (x38 == (4 : Int)) (
  iteB high (
  CallsH Try.prog n_ref18_above #[.slice l.p l.n l.c, .int .i64 i] H4 (fun v4 H5 =>
  ∃ x40 : Bool, v4 = .bool x40 ∧ (
  iteB x40 (
  R (.tuple #[.int .i64 (2 : Int), .bool true]) H5) (
  R (.tuple #[.int .i64 (1 : Int), .bool true]) H5)))) (
  R (.tuple #[.int .i64 (1 : Int), .bool true]) H4)) (
  R (.tuple #[.int .i64 (1 : Int), .bool true]) H4)))))))))))))))))))))))

theorem F_ref18_Class_eq (R : Value → Heap → Prop) (l : Sl) (high : Bool) (i : Int) (k : Int) (H : Heap) : wpF Try.prog Try.f16 [] [] [] [11] [.slice l.p l.n l.c, .bool high, .int .i64 i, .int .i64 k] H R = F_ref18_Class R l high i k H := by kernel_rfl

theorem F_ref18_Class_ok {R : Value → Heap → Prop} (l : Sl) (high : Bool) (i : Int) (k : Int) {H : Heap} (h : F_ref18_Class R l high i k H) : CallsH Try.prog n_ref18_Class #[.slice l.p l.n l.c, .bool high, .int .i64 i, .int .i64 k] H R :=
  wpF_ok Try.func16 (F_ref18_Class_eq R l high i k H) h

/-! ### 17: platformfw/platformfwref18.Needs -/

def F_ref18_Needs_r1 (l : Sl) (high : Bool) (all : Sl) (i1 : Int) (J_ : Sl → Heap → Prop) (I_2 : Sl → Int → Heap → Prop) (M_2 : Sl → Int → Heap → Nat) (own2 : Sl) (c : Int) (H7 : Heap) : Prop :=
  0 ≤ i1 ∧ i1 < (l.n : Int) ∧ (unSome l.p (fun a3 =>
  ∃ x6 : Bool, rd H7 ((a3.add (i1.toNat * 11)).add 4) = some (.bool x6) ∧ (
  iteB x6 (
  iteB (decide (c < (3 : Int))) (
  CallsH Try.prog n_ref18_window #[.slice l.p l.n l.c, .bool high, .int .i64 i1, .int .i64 c, .slice all.p all.n all.c] H7 (fun v3 H8 =>
  ∃ x7 : Int, ∃ x8 : Bool, v3 = .tuple #[.int .i64 x7, .bool x8] ∧ (
  iteB x8 (
  letH (H8.push (.cells #[.int .i64 i1, .int .i64 (IntKind.i64.wrap ((-1 : Int) - c)), .int .i64 c, .int .i64 x7] t_api_Need (0, 0))) (fun H9 : Heap =>
  runH Try.prog (Builtin.append_ #[t_sl_api_Need, t_sl_api_Need] t_sl_api_Need #[.slice own2.p own2.n own2.c, .slice (some (⟨H8.size, 0, none⟩ : Addr)) 1 1]) H9 (fun v4 H10 =>
  ∃ own3 : Sl, v4 = .slice own3.p own3.n own3.c ∧ (
  letV (IntKind.i64.wrap (c + (1 : Int))) (fun c1 : Int =>
  I_2 own3 c1 H10 ∧ M_2 own3 c1 H10 < M_2 own2 c H7))))) (
  letV (IntKind.i64.wrap (c + (1 : Int))) (fun c2 : Int =>
  I_2 own2 c2 H8 ∧ M_2 own2 c2 H8 < M_2 own2 c H7))))) (
  J_ own2 H7)) (
  J_ own2 H7))))

def F_ref18_Needs_r2 (R : Value → Heap → Prop) (I_ : Sl → Bool → Int → Heap → Prop) (M_ : Sl → Bool → Int → Heap → Nat) (all : Sl) (bad : Bool) (i1 : Int) (H2 : Heap) (own4 : Sl) (I_3 : Bool → Int → Heap → Prop) (M_3 : Bool → Int → Heap → Nat) (bad1 : Bool) (k3 : Int) (H12 : Heap) : Prop :=
  iteB (decide (k3 < (own4.n : Int))) (
  0 ≤ k3 ∧ k3 < (own4.n : Int) ∧ (unSome own4.p (fun a4 =>
  ∃ x9 : Int, rd H12 ((a4.add (k3.toNat * 4)).add 2) = some (.int .i64 x9) ∧ (
  0 ≤ x9 ∧ x9 < ((3 : Nat) : Int) ∧ (iteB (x9 == (0 : Int)) (
  iteB bad1 (
  letV (IntKind.i64.wrap (k3 + (1 : Int))) (fun k4 : Int =>
  I_3 true k4 H12 ∧ M_3 true k4 H12 < M_3 bad1 k3 H12)) (
  0 ≤ k3 ∧ k3 < (own4.n : Int) ∧ (unSome own4.p (fun a5 =>
  ∃ x10 : Int, rd H12 ((a5.add (k3.toNat * 4)).add 3) = some (.int .i64 x10) ∧ (
  letV (IntKind.i64.wrap (k3 + (1 : Int))) (fun k5 : Int =>
  I_3 (decide (x10 > (15 : Int))) k5 H12 ∧ M_3 (decide (x10 > (15 : Int))) k5 H12 < M_3 bad1 k3 H12)))))) (
  iteB (x9 == (1 : Int)) (
  iteB bad1 (
  letV (IntKind.i64.wrap (k3 + (1 : Int))) (fun k6 : Int =>
  I_3 true k6 H12 ∧ M_3 true k6 H12 < M_3 bad1 k3 H12)) (
  0 ≤ k3 ∧ k3 < (own4.n : Int) ∧ (unSome own4.p (fun a6 =>
  ∃ x11 : Int, rd H12 ((a6.add (k3.toNat * 4)).add 3) = some (.int .i64 x11) ∧ (
  letV (IntKind.i64.wrap (k3 + (1 : Int))) (fun k7 : Int =>
  I_3 (decide (x11 > (31 : Int))) k7 H12 ∧ M_3 (decide (x11 > (31 : Int))) k7 H12 < M_3 bad1 k3 H12)))))) (
  iteB (x9 == (2 : Int)) (
  iteB bad1 (
  letV (IntKind.i64.wrap (k3 + (1 : Int))) (fun k8 : Int =>
  I_3 true k8 H12 ∧ M_3 true k8 H12 < M_3 bad1 k3 H12)) (
  0 ≤ k3 ∧ k3 < (own4.n : Int) ∧ (unSome own4.p (fun a7 =>
  ∃ x12 : Int, rd H12 ((a7.add (k3.toNat * 4)).add 3) = some (.int .i64 x12) ∧ (
  letV (IntKind.i64.wrap (k3 + (1 : Int))) (fun k9 : Int =>
  I_3 (decide (x12 > (44 : Int))) k9 H12 ∧ M_3 (decide (x12 > (44 : Int))) k9 H12 < M_3 bad1 k3 H12)))))) (
  False)))))))) (
  iteB bad1 (
  R (.tuple #[.slice none 0 0, .int .i64 (11 : Int)]) H12) (
  runH Try.prog (Builtin.append_ #[t_sl_api_Need, t_sl_api_Need] t_sl_api_Need #[.slice own4.p own4.n own4.c, .slice all.p all.n all.c]) H12 (fun v5 H13 =>
  ∃ all1 : Sl, v5 = .slice all1.p all1.n all1.c ∧ (
  letV (IntKind.i64.wrap (i1 - (1 : Int))) (fun i2 : Int =>
  I_ all1 bad1 i2 H13 ∧ M_ all1 bad1 i2 H13 < M_ all bad i1 H2)))))

def F_ref18_Needs_k3 (R : Value → Heap → Prop) (I_ : Sl → Bool → Int → Heap → Prop) (M_ : Sl → Bool → Int → Heap → Nat) (all : Sl) (bad : Bool) (i1 : Int) (H2 : Heap) (own4 : Sl) (H11 : Heap) : Prop :=
  ∃ I_3 : Bool → Int → Heap → Prop, ∃ M_3 : Bool → Int → Heap → Nat, I_3 bad (0 : Int) H11 ∧ (∀ bad1 : Bool, ∀ k3 : Int, ∀ H12 : Heap, I_3 bad1 k3 H12 → F_ref18_Needs_r2 R I_ M_ all bad i1 H2 own4 I_3 M_3 bad1 k3 H12)

def F_ref18_Needs_r4 (R : Value → Heap → Prop) (l : Sl) (high : Bool) (I_ : Sl → Bool → Int → Heap → Prop) (M_ : Sl → Bool → Int → Heap → Nat) (all : Sl) (bad : Bool) (i1 : Int) (H2 : Heap) (I_1 : Sl → Int → Heap → Prop) (M_1 : Sl → Int → Heap → Nat) (own : Sl) (k : Int) (H3 : Heap) : Prop :=
  0 ≤ i1 ∧ i1 < (l.n : Int) ∧ (unSome l.p (fun a =>
  ∃ x1 : Sl, rd H3 ((a.add (i1.toNat * 11)).add 10) = some (.slice x1.p x1.n x1.c) ∧ (
  iteB (decide (k < (x1.n : Int))) (
  CallsH Try.prog n_ref18_Class #[.slice l.p l.n l.c, .bool high, .int .i64 i1, .int .i64 k] H3 (fun v1 H4 =>
  ∃ x2 : Int, ∃ x3 : Bool, v1 = .tuple #[.int .i64 x2, .bool x3] ∧ (
  iteB x3 (
  0 ≤ i1 ∧ i1 < (l.n : Int) ∧ (unSome l.p (fun a1 =>
  ∃ x4 : Sl, rd H4 ((a1.add (i1.toNat * 11)).add 10) = some (.slice x4.p x4.n x4.c) ∧ (
  0 ≤ k ∧ k < (x4.n : Int) ∧ (unSome x4.p (fun a2 =>
  ∃ x5 : Int, rd H4 ((a2.add (k.toNat * 2)).add 1) = some (.int .i64 x5) ∧ (
  letH (H4.push (.cells #[.int .i64 i1, .int .i64 k, .int .i64 x2, .int .i64 x5] t_api_Need (0, 0))) (fun H5 : Heap =>
  runH Try.prog (Builtin.append_ #[t_sl_api_Need, t_sl_api_Need] t_sl_api_Need #[.slice own.p own.n own.c, .slice (some (⟨H4.size, 0, none⟩ : Addr)) 1 1]) H5 (fun v2 H6 =>
  ∃ own1 : Sl, v2 = .slice own1.p own1.n own1.c ∧ (
  letV (IntKind.i64.wrap (k + (1 : Int))) (fun k1 : Int =>
  I_1 own1 k1 H6 ∧ M_1 own1 k1 H6 < M_1 own k H3))))))))))) (
  letV (IntKind.i64.wrap (k + (1 : Int))) (fun k2 : Int =>
  I_1 own k2 H4 ∧ M_1 own k2 H4 < M_1 own k H3))))) (
  ∃ J_ : Sl → Heap → Prop, (
  ∃ I_2 : Sl → Int → Heap → Prop, ∃ M_2 : Sl → Int → Heap → Nat, I_2 own (0 : Int) H3 ∧ (∀ own2 : Sl, ∀ c : Int, ∀ H7 : Heap, I_2 own2 c H7 → F_ref18_Needs_r1 l high all i1 J_ I_2 M_2 own2 c H7)) ∧ (∀ own4 : Sl, ∀ H11 : Heap, J_ own4 H11 → F_ref18_Needs_k3 R I_ M_ all bad i1 H2 own4 H11)))))

def F_ref18_Needs_r5 (R : Value → Heap → Prop) (l : Sl) (high : Bool) (I_ : Sl → Bool → Int → Heap → Prop) (M_ : Sl → Bool → Int → Heap → Nat) (all : Sl) (bad : Bool) (i1 : Int) (H2 : Heap) : Prop :=
  iteB (decide (i1 ≥ (0 : Int))) (
  ∃ I_1 : Sl → Int → Heap → Prop, ∃ M_1 : Sl → Int → Heap → Nat, I_1 (Sl.mk none 0 0) (0 : Int) H2 ∧ (∀ own : Sl, ∀ k : Int, ∀ H3 : Heap, I_1 own k H3 → F_ref18_Needs_r4 R l high I_ M_ all bad i1 H2 I_1 M_1 own k H3)) (
  R (.tuple #[.slice all.p all.n all.c, .int .i64 (0 : Int)]) H2)

def F_ref18_Needs (R : Value → Heap → Prop) (l : Sl) (high : Bool) (H : Heap) : Prop :=
  CallsH Try.prog n_ref18_Valid #[.slice l.p l.n l.c] H (fun v H1 =>
  ∃ x : Bool, v = .bool x ∧ (
  iteB (!x) (
  R (.tuple #[.slice none 0 0, .int .i64 (1 : Int)]) H1) (
  letV (IntKind.i64.wrap ((l.n : Int) - (1 : Int))) (fun i : Int =>
  ∃ I_ : Sl → Bool → Int → Heap → Prop, ∃ M_ : Sl → Bool → Int → Heap → Nat, I_ (Sl.mk none 0 0) false i H1 ∧ (∀ all : Sl, ∀ bad : Bool, ∀ i1 : Int, ∀ H2 : Heap, I_ all bad i1 H2 → F_ref18_Needs_r5 R l high I_ M_ all bad i1 H2)))))

theorem F_ref18_Needs_eq (R : Value → Heap → Prop) (l : Sl) (high : Bool) (H : Heap) : wpF Try.prog Try.f17 [(6, .slice none 0 0), (7, .bool false), (8, .int .i64 0), (9, .slice none 0 0), (10, .int .i64 0), (13, .int .i64 0), (16, .int .i64 0)] [(21, [9], [0, 1, 6, 7, 8])] [(6, [6, 7, 8], [0, 1]), (10, [9, 10], [0, 1, 6, 7, 8]), (16, [9, 13], [0, 1, 6, 7, 8]), (22, [7, 16], [0, 1, 6, 8, 9])] [11] [.slice l.p l.n l.c, .bool high] H R = F_ref18_Needs R l high H := by kernel_rfl

theorem F_ref18_Needs_ok {R : Value → Heap → Prop} (l : Sl) (high : Bool) {H : Heap} (h : F_ref18_Needs R l high H) : CallsH Try.prog n_ref18_Needs #[.slice l.p l.n l.c, .bool high] H R :=
  wpF_ok Try.func17 (F_ref18_Needs_eq R l high H) h

/-! ### 18: platformfw/platformfwhelp.Equal[platformfw/api.Need] -/

def F_help_Equal_api_Need_r1 (R : Value → Heap → Prop) (a : Sl) (b : Sl) (I_ : Int → Heap → Prop) (M_ : Int → Heap → Nat) (i : Int) (H1 : Heap) : Prop :=
  iteB (decide (i < (a.n : Int))) (
  0 ≤ i ∧ i < (a.n : Int) ∧ (unSome a.p (fun a1 =>
  ∃ x : Int, rd H1 (a1.add (i.toNat * 4)) = some (.int .i64 x) ∧ ∃ x1 : Int, rd H1 ((a1.add (i.toNat * 4)).add 1) = some (.int .i64 x1) ∧ ∃ x2 : Int, rd H1 ((a1.add (i.toNat * 4)).add 2) = some (.int .i64 x2) ∧ ∃ x3 : Int, rd H1 ((a1.add (i.toNat * 4)).add 3) = some (.int .i64 x3) ∧ (
  0 ≤ i ∧ i < (b.n : Int) ∧ (unSome b.p (fun a2 =>
  ∃ x4 : Int, rd H1 (a2.add (i.toNat * 4)) = some (.int .i64 x4) ∧ ∃ x5 : Int, rd H1 ((a2.add (i.toNat * 4)).add 1) = some (.int .i64 x5) ∧ ∃ x6 : Int, rd H1 ((a2.add (i.toNat * 4)).add 2) = some (.int .i64 x6) ∧ ∃ x7 : Int, rd H1 ((a2.add (i.toNat * 4)).add 3) = some (.int .i64 x7) ∧ (
  iteB (!((x == x4) && ((x1 == x5) && ((x2 == x6) && ((x3 == x7) && true))))) (
  R (.bool false) H1) (
  letV (IntKind.i64.wrap (i + (1 : Int))) (fun i1 : Int =>
  I_ i1 H1 ∧ M_ i1 H1 < M_ i H1))))))))) (
  R (.bool true) H1)

def F_help_Equal_api_Need (R : Value → Heap → Prop) (a : Sl) (b : Sl) (H : Heap) : Prop :=
  iteB ((a.n : Int) != (b.n : Int)) (
  R (.bool false) H) (
  ∃ I_ : Int → Heap → Prop, ∃ M_ : Int → Heap → Nat, I_ (0 : Int) H ∧ (∀ i : Int, ∀ H1 : Heap, I_ i H1 → F_help_Equal_api_Need_r1 R a b I_ M_ i H1))

theorem F_help_Equal_api_Need_eq (R : Value → Heap → Prop) (a : Sl) (b : Sl) (H : Heap) : wpF Try.prog Try.f18 [(5, .int .i64 0)] [] [(4, [5], [0, 1])] [11] [.slice a.p a.n a.c, .slice b.p b.n b.c] H R = F_help_Equal_api_Need R a b H := by kernel_rfl

theorem F_help_Equal_api_Need_ok {R : Value → Heap → Prop} (a : Sl) (b : Sl) {H : Heap} (h : F_help_Equal_api_Need R a b H) : CallsH Try.prog n_help_Equal_api_Need #[.slice a.p a.n a.c, .slice b.p b.n b.c] H R :=
  wpF_ok Try.func18 (F_help_Equal_api_Need_eq R a b H) h

/-! ### 19: platformfw/resources.Below -/

def F_resources_Below_r1 (R : Value → Heap → Prop) (l : Sl) (needs : Sl) (function : Int) (classv : Int) (I_ : Sl → Int → Heap → Prop) (M_ : Sl → Int → Heap → Nat) (found : Sl) (x1 : Int) (H2 : Heap) : Prop :=
  iteB (decide (x1 < (needs.n : Int))) (
  0 ≤ x1 ∧ x1 < (needs.n : Int) ∧ (unSome needs.p (fun a1 =>
  ∃ x2 : Int, rd H2 (a1.add (x1.toNat * 4)) = some (.int .i64 x2) ∧ ∃ x3 : Int, rd H2 ((a1.add (x1.toNat * 4)).add 1) = some (.int .i64 x3) ∧ ∃ x4 : Int, rd H2 ((a1.add (x1.toNat * 4)).add 2) = some (.int .i64 x4) ∧ ∃ x5 : Int, rd H2 ((a1.add (x1.toNat * 4)).add 3) = some (.int .i64 x5) ∧ (
  letH (H2.push (.cells #[.int .i64 (0 : Int), .int .i64 (0 : Int), .int .i64 (0 : Int), .int .i64 (0 : Int)] t_api_Need (0, 0))) (fun H3 : Heap =>
  okRow H3 (⟨H2.size, 0, none⟩ : Addr) 4 ∧ (
  letH (wrs H3 (⟨H2.size, 0, none⟩ : Addr) [.int .i64 x2, .int .i64 x3, .int .i64 x4, .int .i64 x5]) (fun H4 : Heap =>
  ∃ x6 : Int, rd H4 ((⟨H2.size, 0, none⟩ : Addr).add 2) = some (.int .i64 x6) ∧ (
  iteB (x6 != classv) (
  I_ found (IntKind.i64.wrap (x1 + (1 : Int))) H4 ∧ M_ found (IntKind.i64.wrap (x1 + (1 : Int))) H4 < M_ found x1 H2) (
  ∃ x7 : Int, rd H4 (⟨H2.size, 0, none⟩ : Addr) = some (.int .i64 x7) ∧ (
  iteB (decide (x7 < (0 : Int))) (
  I_ found (IntKind.i64.wrap (x1 + (1 : Int))) H4 ∧ M_ found (IntKind.i64.wrap (x1 + (1 : Int))) H4 < M_ found x1 H2) (
  ∃ x8 : Int, rd H4 (⟨H2.size, 0, none⟩ : Addr) = some (.int .i64 x8) ∧ (
  iteB (decide (x8 ≥ (l.n : Int))) (
  I_ found (IntKind.i64.wrap (x1 + (1 : Int))) H4 ∧ M_ found (IntKind.i64.wrap (x1 + (1 : Int))) H4 < M_ found x1 H2) (
  ∃ x9 : Int, rd H4 (⟨H2.size, 0, none⟩ : Addr) = some (.int .i64 x9) ∧ (
  0 ≤ x9 ∧ x9 < (l.n : Int) ∧ (unSome l.p (fun a2 =>
  ∃ x10 : Int, rd H4 (a2.add (x9.toNat * 11)) = some (.int .i64 x10) ∧ (
  iteB (x10 == function) (
  ∃ x11 : Int, rd H4 (⟨H2.size, 0, none⟩ : Addr) = some (.int .i64 x11) ∧ ∃ x12 : Int, rd H4 ((⟨H2.size, 0, none⟩ : Addr).add 1) = some (.int .i64 x12) ∧ ∃ x13 : Int, rd H4 ((⟨H2.size, 0, none⟩ : Addr).add 2) = some (.int .i64 x13) ∧ ∃ x14 : Int, rd H4 ((⟨H2.size, 0, none⟩ : Addr).add 3) = some (.int .i64 x14) ∧ (
  letH (H4.push (.cells #[.int .i64 x11, .int .i64 x12, .int .i64 x13, .int .i64 x14] t_api_Need (0, 0))) (fun H5 : Heap =>
  runH Try.prog (Builtin.append_ #[t_sl_api_Need, t_sl_api_Need] t_sl_api_Need #[.slice found.p found.n found.c, .slice (some (⟨H4.size, 0, none⟩ : Addr)) 1 1]) H5 (fun v H6 =>
  ∃ found1 : Sl, v = .slice found1.p found1.n found1.c ∧ (
  I_ found1 (IntKind.i64.wrap (x1 + (1 : Int))) H6 ∧ M_ found1 (IntKind.i64.wrap (x1 + (1 : Int))) H6 < M_ found x1 H2))))) (
  I_ found (IntKind.i64.wrap (x1 + (1 : Int))) H4 ∧ M_ found (IntKind.i64.wrap (x1 + (1 : Int))) H4 < M_ found x1 H2)))))))))))))))))) (
  R (.slice found.p found.n found.c) H2)

def F_resources_Below_k2 (R : Value → Heap → Prop) (l : Sl) (needs : Sl) (function : Int) (classv : Int) (H1 : Heap) : Prop :=
  ∃ I_ : Sl → Int → Heap → Prop, ∃ M_ : Sl → Int → Heap → Nat, I_ (Sl.mk none 0 0) (0 : Int) H1 ∧ (∀ found : Sl, ∀ x1 : Int, ∀ H2 : Heap, I_ found x1 H2 → F_resources_Below_r1 R l needs function classv I_ M_ found x1 H2)

def F_resources_Below (R : Value → Heap → Prop) (l : Sl) (needs : Sl) (function : Int) (classv : Int) (H : Heap) : Prop :=
  ∃ J_ : Heap → Prop, (
  iteB (decide (function < (-1 : Int))) (
  R (.slice none 0 0) H) (
  iteB (decide (function ≥ (l.n : Int))) (
  R (.slice none 0 0) H) (
  iteB (decide (function ≥ (0 : Int))) (
  0 ≤ function ∧ function < (l.n : Int) ∧ (unSome l.p (fun a =>
  ∃ x : Bool, rd H ((a.add (function.toNat * 11)).add 4) = some (.bool x) ∧ (
  iteB (!x) (
  R (.slice none 0 0) H) (
  J_ H))))) (
  J_ H)))) ∧ (∀ H1 : Heap, J_ H1 → F_resources_Below_k2 R l needs function classv H1)

theorem F_resources_Below_eq (R : Value → Heap → Prop) (l : Sl) (needs : Sl) (function : Int) (classv : Int) (H : Heap) : wpF Try.prog Try.f19 [(9, .slice none 0 0), (35, .int .i64 0)] [(4, [], [0, 1, 2, 3, 9])] [(5, [9, 35], [0, 2, 3, 33, 34])] [11] [.slice l.p l.n l.c, .slice needs.p needs.n needs.c, .int .i64 function, .int .i64 classv] H R = F_resources_Below R l needs function classv H := by kernel_rfl

theorem F_resources_Below_ok {R : Value → Heap → Prop} (l : Sl) (needs : Sl) (function : Int) (classv : Int) {H : Heap} (h : F_resources_Below R l needs function classv H) : CallsH Try.prog n_resources_Below #[.slice l.p l.n l.c, .slice needs.p needs.n needs.c, .int .i64 function, .int .i64 classv] H R :=
  wpF_ok Try.func19 (F_resources_Below_eq R l needs function classv H) h

/-! ### 20: platformfw/platformfwref18.NeedsBelow -/

def F_ref18_NeedsBelow_k1 (needs : Sl) (I_ : Sl → Int → Heap → Prop) (M_ : Sl → Int → Heap → Nat) (out : Sl) (k : Int) (H2 : Heap) (x3 : Bool) (H3 : Heap) : Prop :=
  iteB x3 (
  0 ≤ k ∧ k < (needs.n : Int) ∧ (unSome needs.p (fun a4 =>
  ∃ x4 : Int, rd H3 (a4.add (k.toNat * 4)) = some (.int .i64 x4) ∧ ∃ x5 : Int, rd H3 ((a4.add (k.toNat * 4)).add 1) = some (.int .i64 x5) ∧ ∃ x6 : Int, rd H3 ((a4.add (k.toNat * 4)).add 2) = some (.int .i64 x6) ∧ ∃ x7 : Int, rd H3 ((a4.add (k.toNat * 4)).add 3) = some (.int .i64 x7) ∧ (
  letH (H3.push (.cells #[.int .i64 x4, .int .i64 x5, .int .i64 x6, .int .i64 x7] t_api_Need (0, 0))) (fun H4 : Heap =>
  runH Try.prog (Builtin.append_ #[t_sl_api_Need, t_sl_api_Need] t_sl_api_Need #[.slice out.p out.n out.c, .slice (some (⟨H3.size, 0, none⟩ : Addr)) 1 1]) H4 (fun v H5 =>
  ∃ out1 : Sl, v = .slice out1.p out1.n out1.c ∧ (
  letV (IntKind.i64.wrap (k + (1 : Int))) (fun k1 : Int =>
  I_ out1 k1 H5 ∧ M_ out1 k1 H5 < M_ out k H2)))))))) (
  letV (IntKind.i64.wrap (k + (1 : Int))) (fun k2 : Int =>
  I_ out k2 H3 ∧ M_ out k2 H3 < M_ out k H2))

def F_ref18_NeedsBelow_r2 (R : Value → Heap → Prop) (l : Sl) (needs : Sl) (parent : Int) (classv : Int) (I_ : Sl → Int → Heap → Prop) (M_ : Sl → Int → Heap → Nat) (out : Sl) (k : Int) (H2 : Heap) : Prop :=
  iteB (decide (k < (needs.n : Int))) (
  0 ≤ k ∧ k < (needs.n : Int) ∧ (unSome needs.p (fun a1 =>
  ∃ f : Int, rd H2 (a1.add (k.toNat * 4)) = some (.int .i64 f) ∧ (
  ∃ J_1 : Bool → Heap → Prop, (
  0 ≤ k ∧ k < (needs.n : Int) ∧ (unSome needs.p (fun a2 =>
  ∃ x1 : Int, rd H2 ((a2.add (k.toNat * 4)).add 2) = some (.int .i64 x1) ∧ (
  iteB (x1 == classv) (
  iteB (decide (f ≥ (0 : Int))) (
  iteB (decide (f < (l.n : Int))) (
  0 ≤ f ∧ f < (l.n : Int) ∧ (unSome l.p (fun a3 =>
  ∃ x2 : Int, rd H2 (a3.add (f.toNat * 11)) = some (.int .i64 x2) ∧ (
  J_1 (x2 == parent) H2)))) (
  J_1 false H2)) (
  J_1 false H2)) (
  J_1 false H2))))) ∧ (∀ x3 : Bool, ∀ H3 : Heap, J_1 x3 H3 → F_ref18_NeedsBelow_k1 needs I_ M_ out k H2 x3 H3))))) (
  R (.slice out.p out.n out.c) H2)

def F_ref18_NeedsBelow_k3 (R : Value → Heap → Prop) (l : Sl) (needs : Sl) (parent : Int) (classv : Int) (H1 : Heap) : Prop :=
  ∃ I_ : Sl → Int → Heap → Prop, ∃ M_ : Sl → Int → Heap → Nat, I_ (Sl.mk none 0 0) (0 : Int) H1 ∧ (∀ out : Sl, ∀ k : Int, ∀ H2 : Heap, I_ out k H2 → F_ref18_NeedsBelow_r2 R l needs parent classv I_ M_ out k H2)

def F_ref18_NeedsBelow (R : Value → Heap → Prop) (l : Sl) (needs : Sl) (parent : Int) (classv : Int) (H : Heap) : Prop :=
  ∃ J_ : Heap → Prop, (
  iteB (decide (parent < (-1 : Int))) (
  R (.slice none 0 0) H) (
  iteB (decide (parent ≥ (l.n : Int))) (
  R (.slice none 0 0) H) (
  iteB (decide (parent ≥ (0 : Int))) (
  0 ≤ parent ∧ parent < (l.n : Int) ∧ (unSome l.p (fun a =>
  ∃ x : Bool, rd H ((a.add (parent.toNat * 11)).add 4) = some (.bool x) ∧ (
  iteB (!x) (
  R (.slice none 0 0) H) (
  J_ H))))) (
  J_ H)))) ∧ (∀ H1 : Heap, J_ H1 → F_ref18_NeedsBelow_k3 R l needs parent classv H1)

theorem F_ref18_NeedsBelow_eq (R : Value → Heap → Prop) (l : Sl) (needs : Sl) (parent : Int) (classv : Int) (H : Heap) : wpF Try.prog Try.f20 [(9, .slice none 0 0), (10, .int .i64 0), (68, .bool false)] [(4, [], [0, 1, 2, 3, 9]), (9, [68], [0, 1, 2, 3, 9, 10])] [(5, [9, 10], [0, 1, 2, 3])] [11] [.slice l.p l.n l.c, .slice needs.p needs.n needs.c, .int .i64 parent, .int .i64 classv] H R = F_ref18_NeedsBelow R l needs parent classv H := by kernel_rfl

theorem F_ref18_NeedsBelow_ok {R : Value → Heap → Prop} (l : Sl) (needs : Sl) (parent : Int) (classv : Int) {H : Heap} (h : F_ref18_NeedsBelow R l needs parent classv H) : CallsH Try.prog n_ref18_NeedsBelow #[.slice l.p l.n l.c, .slice needs.p needs.n needs.c, .int .i64 parent, .int .i64 classv] H R :=
  wpF_ok Try.func20 (F_ref18_NeedsBelow_eq R l needs parent classv H) h

/-! ### 21: math/bits.Len64 -/

def F_math_bits_Len64_k1 (R : Value → Heap → Prop) (x6 : Int) (n4 : Int) (H3 : Heap) : Prop :=
  0 ≤ (IntKind.u8.wrap x6) ∧ (IntKind.u8.wrap x6) < (cstr_0.size : Int) ∧ (
  letV (IntKind.i64.wrap (n4 + (IntKind.i64.wrap (cstr_0[(IntKind.u8.wrap x6).toNat]!.toNat : Int)))) (fun n5 : Int =>
  R (.int .i64 n5) H3))

def F_math_bits_Len64_k2 (R : Value → Heap → Prop) (x4 : Int) (n2 : Int) (H2 : Heap) : Prop :=
  ∃ J_2 : Int → Int → Heap → Prop, (
  iteB (decide (x4 ≥ (256 : Int))) (
  0 ≤ (8 : Int) ∧ (
  letV (x4.fdiv (2 ^ (min (8 : Int).toNat IntKind.u64.bits))) (fun x5 : Int =>
  letV (IntKind.i64.wrap (n2 + (8 : Int))) (fun n3 : Int =>
  J_2 x5 n3 H2)))) (
  J_2 x4 n2 H2)) ∧ (∀ x6 : Int, ∀ n4 : Int, ∀ H3 : Heap, J_2 x6 n4 H3 → F_math_bits_Len64_k1 R x6 n4 H3)

def F_math_bits_Len64_k3 (R : Value → Heap → Prop) (x2 : Int) (n : Int) (H1 : Heap) : Prop :=
  ∃ J_1 : Int → Int → Heap → Prop, (
  iteB (decide (x2 ≥ (65536 : Int))) (
  0 ≤ (16 : Int) ∧ (
  letV (x2.fdiv (2 ^ (min (16 : Int).toNat IntKind.u64.bits))) (fun x3 : Int =>
  letV (IntKind.i64.wrap (n + (16 : Int))) (fun n1 : Int =>
  J_1 x3 n1 H1)))) (
  J_1 x2 n H1)) ∧ (∀ x4 : Int, ∀ n2 : Int, ∀ H2 : Heap, J_1 x4 n2 H2 → F_math_bits_Len64_k2 R x4 n2 H2)

def F_math_bits_Len64 (R : Value → Heap → Prop) (x : Int) (H : Heap) : Prop :=
  ∃ J_ : Int → Int → Heap → Prop, (
  iteB (decide (x ≥ (4294967296 : Int))) (
  0 ≤ (32 : Int) ∧ (
  letV (x.fdiv (2 ^ (min (32 : Int).toNat IntKind.u64.bits))) (fun x1 : Int =>
  J_ x1 (32 : Int) H))) (
  J_ x (0 : Int) H)) ∧ (∀ x2 : Int, ∀ n : Int, ∀ H1 : Heap, J_ x2 n H1 → F_math_bits_Len64_k3 R x2 n H1)

theorem F_math_bits_Len64_eq (R : Value → Heap → Prop) (x : Int) (H : Heap) : wpF Try.prog Try.f21 [(0, .int .u64 0), (2, .int .i64 0)] [(4, [0, 2], []), (7, [0, 2], []), (10, [0, 2], [])] [] [11] [.int .u64 x] H R = F_math_bits_Len64 R x H := by kernel_rfl

theorem F_math_bits_Len64_ok {R : Value → Heap → Prop} (x : Int) {H : Heap} (h : F_math_bits_Len64 R x H) : CallsH Try.prog n_math_bits_Len64 #[.int .u64 x] H R :=
  wpF_ok Try.func21 (F_math_bits_Len64_eq R x H) h

/-! ### 22: platformfw/platformfwgen.bars -/

def F_gen_bars_k1 (n : Int) (J_ : Int → Heap → Prop) (x2 : Bool) (H2 : Heap) : Prop :=
  iteB x2 (
  letV (IntKind.i64.wrap ((8 : Int) + (n.tmod (16 : Int)))) (fun n2 : Int =>
  J_ n2 H2)) (
  letV (IntKind.i64.wrap ((30 : Int) + (n.tmod (4 : Int)))) (fun n3 : Int =>
  J_ n3 H2))

def F_gen_bars_k2 (most : Int) (I_ : Sl → Int → Heap → Prop) (M_ : Sl → Int → Heap → Nat) (out : Sl) (i : Int) (H1 : Heap) (k : Int) (n4 : Int) (H3 : Heap) : Prop :=
  iteB (decide (k < (3 : Int))) (
  letH (H3.push (.cells #[.int .i64 k, .int .i64 n4] t_api_Bar (0, 0))) (fun H4 : Heap =>
  runH Try.prog (Builtin.append_ #[t_sl_api_Bar, t_sl_api_Bar] t_sl_api_Bar #[.slice out.p out.n out.c, .slice (some (⟨H3.size, 0, none⟩ : Addr)) 1 1]) H4 (fun v2 H5 =>
  ∃ out1 : Sl, v2 = .slice out1.p out1.n out1.c ∧ (
  letV (IntKind.i64.wrap (i + (1 : Int))) (fun i1 : Int =>
  I_ out1 i1 H5 ∧ M_ out1 i1 H5 < M_ out i H1))))) (
  iteB (decide ((IntKind.i64.wrap ((out.n : Int) + (2 : Int))) ≤ most)) (
  letH (H3.push (.cells #[.int .i64 k, .int .i64 n4, .int .i64 (0 : Int), .int .i64 (0 : Int)] t_api_Bar (0, 0))) (fun H6 : Heap =>
  runH Try.prog (Builtin.append_ #[t_sl_api_Bar, t_sl_api_Bar] t_sl_api_Bar #[.slice out.p out.n out.c, .slice (some (⟨H3.size, 0, none⟩ : Addr)) 2 2]) H6 (fun v3 H7 =>
  ∃ out2 : Sl, v3 = .slice out2.p out2.n out2.c ∧ (
  letV (IntKind.i64.wrap (i + (1 : Int))) (fun i2 : Int =>
  I_ out2 i2 H7 ∧ M_ out2 i2 H7 < M_ out i H1))))) (
  letV (IntKind.i64.wrap (i + (1 : Int))) (fun i3 : Int =>
  I_ out i3 H3 ∧ M_ out i3 H3 < M_ out i H1)))

def F_gen_bars_r3 (R : Value → Heap → Prop) (l : Sl) (most : Int) (I_ : Sl → Int → Heap → Prop) (M_ : Sl → Int → Heap → Nat) (out : Sl) (i : Int) (H1 : Heap) : Prop :=
  iteB (decide (i < (l.n : Int))) (
  iteB (decide ((out.n : Int) < most)) (
  0 ≤ i ∧ i < (l.n : Int) ∧ (unSome l.p (fun a =>
  ∃ x : Int, rd H1 (a.add (i.toNat * 2)) = some (.int .i64 x) ∧ (
  CallsP Try.prog n_help_Mod #[.int .i64 x, .int .i64 (5 : Int)] (fun v =>
  ∃ k : Int, v = .int .i64 k ∧ (
  0 ≤ i ∧ i < (l.n : Int) ∧ (unSome l.p (fun a1 =>
  ∃ x1 : Int, rd H1 ((a1.add (i.toNat * 2)).add 1) = some (.int .i64 x1) ∧ (
  CallsP Try.prog n_help_Mod #[.int .i64 x1, .int .i64 (30 : Int)] (fun v1 =>
  ∃ n : Int, v1 = .int .i64 n ∧ (
  ∃ J_ : Int → Heap → Prop, (
  iteB (k == (0 : Int)) (
  J_ (0 : Int) H1) (
  iteB (k == (1 : Int)) (
  letV (IntKind.i64.wrap ((2 : Int) + (n.tmod (7 : Int)))) (fun n1 : Int =>
  J_ n1 H1)) (
  ∃ J_1 : Bool → Heap → Prop, (
  iteB (k == (2 : Int)) (
  J_1 true H1) (
  J_1 ((n.tmod (8 : Int)) != (7 : Int)) H1)) ∧ (∀ x2 : Bool, ∀ H2 : Heap, J_1 x2 H2 → F_gen_bars_k1 n J_ x2 H2)))) ∧ (∀ n4 : Int, ∀ H3 : Heap, J_ n4 H3 → F_gen_bars_k2 most I_ M_ out i H1 k n4 H3)))))))))))) (
  R (.slice out.p out.n out.c) H1)) (
  R (.slice out.p out.n out.c) H1)

def F_gen_bars (R : Value → Heap → Prop) (l : Sl) (most : Int) (H : Heap) : Prop :=
  ∃ I_ : Sl → Int → Heap → Prop, ∃ M_ : Sl → Int → Heap → Nat, I_ (Sl.mk none 0 0) (0 : Int) H ∧ (∀ out : Sl, ∀ i : Int, ∀ H1 : Heap, I_ out i H1 → F_gen_bars_r3 R l most I_ M_ out i H1)

theorem F_gen_bars_eq (R : Value → Heap → Prop) (l : Sl) (most : Int) (H : Heap) : wpF Try.prog Try.f22 [(5, .slice none 0 0), (6, .int .i64 0), (8, .int .i64 0), (45, .bool false)] [(13, [8], [0, 1, 5, 6, 7]), (12, [45], [0, 1, 5, 6, 7, 8])] [(3, [5, 6], [0, 1])] [11] [.slice l.p l.n l.c, .int .i64 most] H R = F_gen_bars R l most H := by kernel_rfl

theorem F_gen_bars_ok {R : Value → Heap → Prop} (l : Sl) (most : Int) {H : Heap} (h : F_gen_bars R l most H) : CallsH Try.prog n_gen_bars #[.slice l.p l.n l.c, .int .i64 most] H R :=
  wpF_ok Try.func22 (F_gen_bars_eq R l most H) h

/-! ### 23: platformfw/enumerate.Valid -/

def F_enumerate_Valid_k1 (R : Value → Heap → Prop) (H : Heap) (I_ : Int → Heap → Prop) (M_ : Int → Heap → Nat) (x : Int) (H2 : Heap) (H6 : Heap) : Prop :=
  ∃ x29 : Int, rd H6 (⟨H2.size, 0, none⟩ : Addr) = some (.int .i64 x29) ∧ (
  ∃ x30 : Int, rd H6 ((⟨H2.size, 0, none⟩ : Addr).add 1) = some (.int .i64 x30) ∧ (
  letH (H6.push (.cells #[.int .i64 (0 : Int), .int .i64 (0 : Int)] t_enumerate_place (0, 0))) (fun H7 : Heap =>
  okRow H7 (⟨H6.size, 0, none⟩ : Addr) 2 ∧ (
  letH (wrs H7 (⟨H6.size, 0, none⟩ : Addr) [.int .i64 x29, .int .i64 x30]) (fun H8 : Heap =>
  ∃ x31 : Int, rd H8 (⟨H6.size, 0, none⟩ : Addr) = some (.int .i64 x31) ∧ ∃ x32 : Int, rd H8 ((⟨H6.size, 0, none⟩ : Addr).add 1) = some (.int .i64 x32) ∧ (
  runH Try.prog (Instr.lookup t_map_enumerate_place_bool (.map (some H.size)) (.agg #[.int .i64 x31, .int .i64 x32]) false) H8 (fun v1 H9 =>
  ∃ x33 : Bool, v1 = .bool x33 ∧ (
  iteB x33 (
  R (.bool false) H9) (
  ∃ x34 : Int, rd H9 (⟨H6.size, 0, none⟩ : Addr) = some (.int .i64 x34) ∧ ∃ x35 : Int, rd H9 ((⟨H6.size, 0, none⟩ : Addr).add 1) = some (.int .i64 x35) ∧ (
  runH Try.prog (Instr.mapUpdate t_map_enumerate_place_bool (.map (some H.size)) (.agg #[.int .i64 x34, .int .i64 x35]) (.bool true)) H9 (fun _ H10 =>
  I_ (IntKind.i64.wrap (x + (1 : Int))) H10 ∧ M_ (IntKind.i64.wrap (x + (1 : Int))) H10 < M_ x H2)))))))))))

def F_enumerate_Valid_r2 (R : Value → Heap → Prop) (H : Heap) (l : Sl) (I_ : Int → Heap → Prop) (M_ : Int → Heap → Nat) (x : Int) (H2 : Heap) : Prop :=
  iteB (decide (x < (l.n : Int))) (
  0 ≤ x ∧ x < (l.n : Int) ∧ (unSome l.p (fun a =>
  ∃ x1 : Int, rd H2 (a.add (x.toNat * 11)) = some (.int .i64 x1) ∧ ∃ x2 : Int, rd H2 ((a.add (x.toNat * 11)).add 1) = some (.int .i64 x2) ∧ ∃ x3 : Int, rd H2 ((a.add (x.toNat * 11)).add 2) = some (.int .i64 x3) ∧ ∃ x4 : Int, rd H2 ((a.add (x.toNat * 11)).add 3) = some (.int .i64 x4) ∧ ∃ x5 : Bool, rd H2 ((a.add (x.toNat * 11)).add 4) = some (.bool x5) ∧ ∃ x6 : Bool, rd H2 ((a.add (x.toNat * 11)).add 5) = some (.bool x6) ∧ ∃ x7 : Bool, rd H2 ((a.add (x.toNat * 11)).add 6) = some (.bool x7) ∧ ∃ x8 : Int, rd H2 ((a.add (x.toNat * 11)).add 7) = some (.int .i64 x8) ∧ ∃ x9 : Int, rd H2 ((a.add (x.toNat * 11)).add 8) = some (.int .i64 x9) ∧ ∃ x10 : Int, rd H2 ((a.add (x.toNat * 11)).add 9) = some (.int .i64 x10) ∧ ∃ x11 : Sl, rd H2 ((a.add (x.toNat * 11)).add 10) = some (.slice x11.p x11.n x11.c) ∧ (
  letH (H2.push (.cells #[.int .i64 (0 : Int), .int .i64 (0 : Int), .int .i64 (0 : Int), .int .i64 (0 : Int), .bool false, .bool false, .bool false, .int .i64 (0 : Int), .int .i64 (0 : Int), .int .i64 (0 : Int), .slice none 0 0] t_api_Function (0, 0))) (fun H3 : Heap =>
  okRow H3 (⟨H2.size, 0, none⟩ : Addr) 11 ∧ (
  letH (wrs H3 (⟨H2.size, 0, none⟩ : Addr) [.int .i64 x1, .int .i64 x2, .int .i64 x3, .int .i64 x4, .bool x5, .bool x6, .bool x7, .int .i64 x8, .int .i64 x9, .int .i64 x10, .slice x11.p x11.n x11.c]) (fun H4 : Heap =>
  ∃ x12 : Int, rd H4 (⟨H2.size, 0, none⟩ : Addr) = some (.int .i64 x12) ∧ ∃ x13 : Int, rd H4 ((⟨H2.size, 0, none⟩ : Addr).add 1) = some (.int .i64 x13) ∧ ∃ x14 : Int, rd H4 ((⟨H2.size, 0, none⟩ : Addr).add 2) = some (.int .i64 x14) ∧ ∃ x15 : Int, rd H4 ((⟨H2.size, 0, none⟩ : Addr).add 3) = some (.int .i64 x15) ∧ ∃ x16 : Bool, rd H4 ((⟨H2.size, 0, none⟩ : Addr).add 4) = some (.bool x16) ∧ ∃ x17 : Bool, rd H4 ((⟨H2.size, 0, none⟩ : Addr).add 5) = some (.bool x17) ∧ ∃ x18 : Bool, rd H4 ((⟨H2.size, 0, none⟩ : Addr).add 6) = some (.bool x18) ∧ ∃ x19 : Int, rd H4 ((⟨H2.size, 0, none⟩ : Addr).add 7) = some (.int .i64 x19) ∧ ∃ x20 : Int, rd H4 ((⟨H2.size, 0, none⟩ : Addr).add 8) = some (.int .i64 x20) ∧ ∃ x21 : Int, rd H4 ((⟨H2.size, 0, none⟩ : Addr).add 9) = some (.int .i64 x21) ∧ ∃ x22 : Sl, rd H4 ((⟨H2.size, 0, none⟩ : Addr).add 10) = some (.slice x22.p x22.n x22.c) ∧ (
  CallsH Try.prog n_pciconf_Valid #[.agg #[.int .i64 x12, .int .i64 x13, .int .i64 x14, .int .i64 x15, .bool x16, .bool x17, .bool x18, .int .i64 x19, .int .i64 x20, .int .i64 x21, .slice x22.p x22.n x22.c]] H4 (fun v H5 =>
  ∃ x23 : Bool, v = .bool x23 ∧ (
  iteB (!x23) (
  R (.bool false) H5) (
  ∃ x24 : Int, rd H5 (⟨H2.size, 0, none⟩ : Addr) = some (.int .i64 x24) ∧ (
  iteB (decide (x24 < (-1 : Int))) (
  R (.bool false) H5) (
  ∃ x25 : Int, rd H5 (⟨H2.size, 0, none⟩ : Addr) = some (.int .i64 x25) ∧ (
  iteB (decide (x25 ≥ x)) (
  R (.bool false) H5) (
  ∃ J_ : Heap → Prop, (
  ∃ x26 : Int, rd H5 (⟨H2.size, 0, none⟩ : Addr) = some (.int .i64 x26) ∧ (
  iteB (decide (x26 ≥ (0 : Int))) (
  ∃ x27 : Int, rd H5 (⟨H2.size, 0, none⟩ : Addr) = some (.int .i64 x27) ∧ (
  0 ≤ x27 ∧ x27 < (l.n : Int) ∧ (unSome l.p (fun a1 =>
  ∃ x28 : Bool, rd H5 ((a1.add (x27.toNat * 11)).add 4) = some (.bool x28) ∧ (
  iteB (!x28) (
  R (.bool false) H5) (
  J_ H5)))))) (
  J_ H5))) ∧ (∀ H6 : Heap, J_ H6 → F_enumerate_Valid_k1 R H I_ M_ x H2 H6)))))))))))))))) (
  R (.bool true) H2)

def F_enumerate_Valid (R : Value → Heap → Prop) (l : Sl) (H : Heap) : Prop :=
  iteB (decide ((l.n : Int) > (64 : Int))) (
  R (.bool false) H) (
  letH (H.push (.map #[] 0)) (fun H1 : Heap =>
  ∃ I_ : Int → Heap → Prop, ∃ M_ : Int → Heap → Nat, I_ (0 : Int) H1 ∧ (∀ x : Int, ∀ H2 : Heap, I_ x H2 → F_enumerate_Valid_r2 R H l I_ M_ x H2)))

theorem F_enumerate_Valid_eq (R : Value → Heap → Prop) (l : Sl) (H : Heap) : wpF Try.prog Try.f23 [(13, .int .i64 0)] [(11, [], [0, 3, 5, 11, 12, 13])] [(5, [13], [0, 3, 11, 12])] [11] [.slice l.p l.n l.c] H R = F_enumerate_Valid R l H := by kernel_rfl

theorem F_enumerate_Valid_ok {R : Value → Heap → Prop} (l : Sl) {H : Heap} (h : F_enumerate_Valid R l H) : CallsH Try.prog n_enumerate_Valid #[.slice l.p l.n l.c] H R :=
  wpF_ok Try.func23 (F_enumerate_Valid_eq R l H) h

/-! ### 24: platformfw/resources.registers -/

def F_resources_registers_r1 (R : Value → Heap → Prop) (l : Sl) (high : Bool) (function : Int) (x : Sl) (I_ : Sl → Int → Heap → Prop) (M_ : Sl → Int → Heap → Nat) (needs : Sl) (x1 : Int) (H1 : Heap) : Prop :=
  iteB (decide (x1 < (x.n : Int))) (
  0 ≤ x1 ∧ x1 < (x.n : Int) ∧ (unSome x.p (fun a1 =>
  ∃ x2 : Int, rd H1 (a1.add (x1.toNat * 2)) = some (.int .i64 x2) ∧ ∃ x3 : Int, rd H1 ((a1.add (x1.toNat * 2)).add 1) = some (.int .i64 x3) ∧ (
  letH (H1.push (.cells #[.int .i64 (0 : Int), .int .i64 (0 : Int)] t_api_Bar (0, 0))) (fun H2 : Heap =>
  okRow H2 (⟨H1.size, 0, none⟩ : Addr) 2 ∧ (
  letH (wrs H2 (⟨H1.size, 0, none⟩ : Addr) [.int .i64 x2, .int .i64 x3]) (fun H3 : Heap =>
  ∃ x4 : Int, rd H3 (⟨H1.size, 0, none⟩ : Addr) = some (.int .i64 x4) ∧ (
  iteB (x4 == (0 : Int)) (
  I_ needs (IntKind.i64.wrap (x1 + (1 : Int))) H3 ∧ M_ needs (IntKind.i64.wrap (x1 + (1 : Int))) H3 < M_ needs x1 H1) (
  ∃ x5 : Int, rd H3 (⟨H1.size, 0, none⟩ : Addr) = some (.int .i64 x5) ∧ (
  CallsH Try.prog n_resources_classOf #[.slice l.p l.n l.c, .bool high, .int .i64 function, .int .i64 x5] H3 (fun v H4 =>
  ∃ classv : Int, v = .int .i64 classv ∧ (
  ∃ x6 : Int, rd H4 ((⟨H1.size, 0, none⟩ : Addr).add 1) = some (.int .i64 x6) ∧ (
  letH (H4.push (.cells #[.int .i64 function, .int .i64 x1, .int .i64 classv, .int .i64 x6] t_api_Need (0, 0))) (fun H5 : Heap =>
  runH Try.prog (Builtin.append_ #[t_sl_api_Need, t_sl_api_Need] t_sl_api_Need #[.slice needs.p needs.n needs.c, .slice (some (⟨H4.size, 0, none⟩ : Addr)) 1 1]) H5 (fun v1 H6 =>
  ∃ needs1 : Sl, v1 = .slice needs1.p needs1.n needs1.c ∧ (
  I_ needs1 (IntKind.i64.wrap (x1 + (1 : Int))) H6 ∧ M_ needs1 (IntKind.i64.wrap (x1 + (1 : Int))) H6 < M_ needs x1 H1)))))))))))))))) (
  R (.slice needs.p needs.n needs.c) H1)

def F_resources_registers (R : Value → Heap → Prop) (l : Sl) (high : Bool) (function : Int) (H : Heap) : Prop :=
  0 ≤ function ∧ function < (l.n : Int) ∧ (unSome l.p (fun a =>
  ∃ x : Sl, rd H ((a.add (function.toNat * 11)).add 10) = some (.slice x.p x.n x.c) ∧ (
  ∃ I_ : Sl → Int → Heap → Prop, ∃ M_ : Sl → Int → Heap → Nat, I_ (Sl.mk none 0 0) (0 : Int) H ∧ (∀ needs : Sl, ∀ x1 : Int, ∀ H1 : Heap, I_ needs x1 H1 → F_resources_registers_r1 R l high function x I_ M_ needs x1 H1))))

theorem F_resources_registers_eq (R : Value → Heap → Prop) (l : Sl) (high : Bool) (function : Int) (H : Heap) : wpF Try.prog Try.f24 [(7, .slice none 0 0), (17, .int .i64 0)] [] [(3, [7, 17], [0, 1, 2, 15, 16])] [11] [.slice l.p l.n l.c, .bool high, .int .i64 function] H R = F_resources_registers R l high function H := by kernel_rfl

theorem F_resources_registers_ok {R : Value → Heap → Prop} (l : Sl) (high : Bool) (function : Int) {H : Heap} (h : F_resources_registers R l high function H) : CallsH Try.prog n_resources_registers #[.slice l.p l.n l.c, .bool high, .int .i64 function] H R :=
  wpF_ok Try.func24 (F_resources_registers_eq R l high function H) h

/-! ### 25: platformfw/resources.windows -/

def F_resources_windows_k1 (function : Int) (H1 : Heap) (x12 : Sl) (I_ : Sl → Int → Heap → Prop) (M_ : Sl → Int → Heap → Nat) (needs : Sl) (x15 : Int) (H4 : Heap) (H6 : Heap) : Prop :=
  ∃ x18 : Bool, rd H6 ((⟨H1.size, 0, none⟩ : Addr).add 6) = some (.bool x18) ∧ (
  CallsH Try.prog n_resources_WindowSize #[.slice x12.p x12.n x12.c, .int .i64 x15, .bool x18] H6 (fun v1 H7 =>
  ∃ x19 : Int, ∃ x20 : Bool, v1 = .tuple #[.int .i64 x19, .bool x20] ∧ (
  iteB x20 (
  letH (H7.push (.cells #[.int .i64 function, .int .i64 (IntKind.i64.wrap ((-1 : Int) - x15)), .int .i64 x15, .int .i64 x19] t_api_Need (0, 0))) (fun H8 : Heap =>
  runH Try.prog (Builtin.append_ #[t_sl_api_Need, t_sl_api_Need] t_sl_api_Need #[.slice needs.p needs.n needs.c, .slice (some (⟨H7.size, 0, none⟩ : Addr)) 1 1]) H8 (fun v2 H9 =>
  ∃ needs1 : Sl, v2 = .slice needs1.p needs1.n needs1.c ∧ (
  I_ needs1 (IntKind.i64.wrap (x15 + (1 : Int))) H9 ∧ M_ needs1 (IntKind.i64.wrap (x15 + (1 : Int))) H9 < M_ needs x15 H4)))) (
  I_ needs (IntKind.i64.wrap (x15 + (1 : Int))) H7 ∧ M_ needs (IntKind.i64.wrap (x15 + (1 : Int))) H7 < M_ needs x15 H4))))

def F_resources_windows_k2 (function : Int) (H1 : Heap) (x13 : Sl) (I_ : Sl → Int → Heap → Prop) (M_ : Sl → Int → Heap → Nat) (needs : Sl) (x15 : Int) (H4 : Heap) (H11 : Heap) : Prop :=
  ∃ x23 : Bool, rd H11 ((⟨H1.size, 0, none⟩ : Addr).add 6) = some (.bool x23) ∧ (
  CallsH Try.prog n_resources_WindowSize #[.slice x13.p x13.n x13.c, .int .i64 x15, .bool x23] H11 (fun v4 H12 =>
  ∃ x24 : Int, ∃ x25 : Bool, v4 = .tuple #[.int .i64 x24, .bool x25] ∧ (
  iteB x25 (
  letH (H12.push (.cells #[.int .i64 function, .int .i64 (IntKind.i64.wrap ((-1 : Int) - x15)), .int .i64 x15, .int .i64 x24] t_api_Need (0, 0))) (fun H13 : Heap =>
  runH Try.prog (Builtin.append_ #[t_sl_api_Need, t_sl_api_Need] t_sl_api_Need #[.slice needs.p needs.n needs.c, .slice (some (⟨H12.size, 0, none⟩ : Addr)) 1 1]) H13 (fun v5 H14 =>
  ∃ needs2 : Sl, v5 = .slice needs2.p needs2.n needs2.c ∧ (
  I_ needs2 (IntKind.i64.wrap (x15 + (1 : Int))) H14 ∧ M_ needs2 (IntKind.i64.wrap (x15 + (1 : Int))) H14 < M_ needs x15 H4)))) (
  I_ needs (IntKind.i64.wrap (x15 + (1 : Int))) H12 ∧ M_ needs (IntKind.i64.wrap (x15 + (1 : Int))) H12 < M_ needs x15 H4))))

def F_resources_windows_k3 (function : Int) (H1 : Heap) (x14 : Sl) (I_ : Sl → Int → Heap → Prop) (M_ : Sl → Int → Heap → Nat) (needs : Sl) (x15 : Int) (H4 : Heap) (H16 : Heap) : Prop :=
  ∃ x28 : Bool, rd H16 ((⟨H1.size, 0, none⟩ : Addr).add 6) = some (.bool x28) ∧ (
  CallsH Try.prog n_resources_WindowSize #[.slice x14.p x14.n x14.c, .int .i64 x15, .bool x28] H16 (fun v7 H17 =>
  ∃ x29 : Int, ∃ x30 : Bool, v7 = .tuple #[.int .i64 x29, .bool x30] ∧ (
  iteB x30 (
  letH (H17.push (.cells #[.int .i64 function, .int .i64 (IntKind.i64.wrap ((-1 : Int) - x15)), .int .i64 x15, .int .i64 x29] t_api_Need (0, 0))) (fun H18 : Heap =>
  runH Try.prog (Builtin.append_ #[t_sl_api_Need, t_sl_api_Need] t_sl_api_Need #[.slice needs.p needs.n needs.c, .slice (some (⟨H17.size, 0, none⟩ : Addr)) 1 1]) H18 (fun v8 H19 =>
  ∃ needs3 : Sl, v8 = .slice needs3.p needs3.n needs3.c ∧ (
  I_ needs3 (IntKind.i64.wrap (x15 + (1 : Int))) H19 ∧ M_ needs3 (IntKind.i64.wrap (x15 + (1 : Int))) H19 < M_ needs x15 H4)))) (
  I_ needs (IntKind.i64.wrap (x15 + (1 : Int))) H17 ∧ M_ needs (IntKind.i64.wrap (x15 + (1 : Int))) H17 < M_ needs x15 H4))))

def F_resources_windows_r4 (R : Value → Heap → Prop) (l : Sl) (high : Bool) (function : Int) (H1 : Heap) (x12 : Sl) (x13 : Sl) (x14 : Sl) (I_ : Sl → Int → Heap → Prop) (M_ : Sl → Int → Heap → Nat) (needs : Sl) (x15 : Int) (H4 : Heap) : Prop :=
  iteB (decide (x15 < (3 : Int))) (
  0 ≤ x15 ∧ x15 < ((3 : Nat) : Int) ∧ (iteB (x15 == (0 : Int)) (
  ∃ J_ : Heap → Prop, (
  iteB (x15 == (2 : Int)) (
  iteB high (
  ∃ x16 : Bool, rd H4 ((⟨H1.size, 0, none⟩ : Addr).add 5) = some (.bool x16) ∧ (
  iteB x16 (
  CallsH Try.prog n_resources_prefAbove #[.slice l.p l.n l.c, .int .i64 function] H4 (fun v H5 =>
  ∃ x17 : Bool, v = .bool x17 ∧ (
  iteB (!x17) (
  I_ needs (IntKind.i64.wrap (x15 + (1 : Int))) H5 ∧ M_ needs (IntKind.i64.wrap (x15 + (1 : Int))) H5 < M_ needs x15 H4) (
  J_ H5)))) (
  I_ needs (IntKind.i64.wrap (x15 + (1 : Int))) H4 ∧ M_ needs (IntKind.i64.wrap (x15 + (1 : Int))) H4 < M_ needs x15 H4))) (
  I_ needs (IntKind.i64.wrap (x15 + (1 : Int))) H4 ∧ M_ needs (IntKind.i64.wrap (x15 + (1 : Int))) H4 < M_ needs x15 H4)) (
  J_ H4)) ∧ (∀ H6 : Heap, J_ H6 → F_resources_windows_k1 function H1 x12 I_ M_ needs x15 H4 H6)) (
  iteB (x15 == (1 : Int)) (
  ∃ J_1 : Heap → Prop, (
  iteB (x15 == (2 : Int)) (
  iteB high (
  ∃ x21 : Bool, rd H4 ((⟨H1.size, 0, none⟩ : Addr).add 5) = some (.bool x21) ∧ (
  iteB x21 (
  CallsH Try.prog n_resources_prefAbove #[.slice l.p l.n l.c, .int .i64 function] H4 (fun v3 H10 =>
  ∃ x22 : Bool, v3 = .bool x22 ∧ (
  iteB (!x22) (
  I_ needs (IntKind.i64.wrap (x15 + (1 : Int))) H10 ∧ M_ needs (IntKind.i64.wrap (x15 + (1 : Int))) H10 < M_ needs x15 H4) (
  J_1 H10)))) (
  I_ needs (IntKind.i64.wrap (x15 + (1 : Int))) H4 ∧ M_ needs (IntKind.i64.wrap (x15 + (1 : Int))) H4 < M_ needs x15 H4))) (
  I_ needs (IntKind.i64.wrap (x15 + (1 : Int))) H4 ∧ M_ needs (IntKind.i64.wrap (x15 + (1 : Int))) H4 < M_ needs x15 H4)) (
  J_1 H4)) ∧ (∀ H11 : Heap, J_1 H11 → F_resources_windows_k2 function H1 x13 I_ M_ needs x15 H4 H11)) (
  iteB (x15 == (2 : Int)) (
  ∃ J_2 : Heap → Prop, (
  iteB (x15 == (2 : Int)) (
  iteB high (
  ∃ x26 : Bool, rd H4 ((⟨H1.size, 0, none⟩ : Addr).add 5) = some (.bool x26) ∧ (
  iteB x26 (
  CallsH Try.prog n_resources_prefAbove #[.slice l.p l.n l.c, .int .i64 function] H4 (fun v6 H15 =>
  ∃ x27 : Bool, v6 = .bool x27 ∧ (
  iteB (!x27) (
  I_ needs (IntKind.i64.wrap (x15 + (1 : Int))) H15 ∧ M_ needs (IntKind.i64.wrap (x15 + (1 : Int))) H15 < M_ needs x15 H4) (
  J_2 H15)))) (
  I_ needs (IntKind.i64.wrap (x15 + (1 : Int))) H4 ∧ M_ needs (IntKind.i64.wrap (x15 + (1 : Int))) H4 < M_ needs x15 H4))) (
  I_ needs (IntKind.i64.wrap (x15 + (1 : Int))) H4 ∧ M_ needs (IntKind.i64.wrap (x15 + (1 : Int))) H4 < M_ needs x15 H4)) (
  J_2 H4)) ∧ (∀ H16 : Heap, J_2 H16 → F_resources_windows_k3 function H1 x14 I_ M_ needs x15 H4 H16)) (
  False))))) (
  R (.slice needs.p needs.n needs.c) H4)

def F_resources_windows (R : Value → Heap → Prop) (l : Sl) (high : Bool) (function : Int) (below_0 : Sl) (below_1 : Sl) (below_2 : Sl) (H : Heap) : Prop :=
  letH (H.push (.cells #[.slice below_0.p below_0.n below_0.c, .slice below_1.p below_1.n below_1.c, .slice below_2.p below_2.n below_2.c] t_3_sl_int (0, 0))) (fun H1 : Heap =>
  0 ≤ function ∧ function < (l.n : Int) ∧ (unSome l.p (fun a =>
  ∃ x : Int, rd H1 (a.add (function.toNat * 11)) = some (.int .i64 x) ∧ ∃ x1 : Int, rd H1 ((a.add (function.toNat * 11)).add 1) = some (.int .i64 x1) ∧ ∃ x2 : Int, rd H1 ((a.add (function.toNat * 11)).add 2) = some (.int .i64 x2) ∧ ∃ x3 : Int, rd H1 ((a.add (function.toNat * 11)).add 3) = some (.int .i64 x3) ∧ ∃ x4 : Bool, rd H1 ((a.add (function.toNat * 11)).add 4) = some (.bool x4) ∧ ∃ x5 : Bool, rd H1 ((a.add (function.toNat * 11)).add 5) = some (.bool x5) ∧ ∃ x6 : Bool, rd H1 ((a.add (function.toNat * 11)).add 6) = some (.bool x6) ∧ ∃ x7 : Int, rd H1 ((a.add (function.toNat * 11)).add 7) = some (.int .i64 x7) ∧ ∃ x8 : Int, rd H1 ((a.add (function.toNat * 11)).add 8) = some (.int .i64 x8) ∧ ∃ x9 : Int, rd H1 ((a.add (function.toNat * 11)).add 9) = some (.int .i64 x9) ∧ ∃ x10 : Sl, rd H1 ((a.add (function.toNat * 11)).add 10) = some (.slice x10.p x10.n x10.c) ∧ (
  letH (H1.push (.cells #[.int .i64 (0 : Int), .int .i64 (0 : Int), .int .i64 (0 : Int), .int .i64 (0 : Int), .bool false, .bool false, .bool false, .int .i64 (0 : Int), .int .i64 (0 : Int), .int .i64 (0 : Int), .slice none 0 0] t_api_Function (0, 0))) (fun H2 : Heap =>
  okRow H2 (⟨H1.size, 0, none⟩ : Addr) 11 ∧ (
  letH (wrs H2 (⟨H1.size, 0, none⟩ : Addr) [.int .i64 x, .int .i64 x1, .int .i64 x2, .int .i64 x3, .bool x4, .bool x5, .bool x6, .int .i64 x7, .int .i64 x8, .int .i64 x9, .slice x10.p x10.n x10.c]) (fun H3 : Heap =>
  ∃ x11 : Bool, rd H3 ((⟨H1.size, 0, none⟩ : Addr).add 4) = some (.bool x11) ∧ (
  iteB (!x11) (
  R (.slice none 0 0) H3) (
  ∃ x12 : Sl, rd H3 (⟨H.size, 0, none⟩ : Addr) = some (.slice x12.p x12.n x12.c) ∧ ∃ x13 : Sl, rd H3 ((⟨H.size, 0, none⟩ : Addr).add 1) = some (.slice x13.p x13.n x13.c) ∧ ∃ x14 : Sl, rd H3 ((⟨H.size, 0, none⟩ : Addr).add 2) = some (.slice x14.p x14.n x14.c) ∧ (
  ∃ I_ : Sl → Int → Heap → Prop, ∃ M_ : Sl → Int → Heap → Nat, I_ (Sl.mk none 0 0) (0 : Int) H3 ∧ (∀ needs : Sl, ∀ x15 : Int, ∀ H4 : Heap, I_ needs x15 H4 → F_resources_windows_r4 R l high function H1 x12 x13 x14 I_ M_ needs x15 H4)))))))))))

theorem F_resources_windows_eq (R : Value → Heap → Prop) (l : Sl) (high : Bool) (function : Int) (below_0 : Sl) (below_1 : Sl) (below_2 : Sl) (H : Heap) : wpF Try.prog Try.f25 [(10, .slice none 0 0), (23, .int .i64 0)] [(9, [], [0, 1, 2, 9, 10, 11, 12, 22, 23])] [(6, [10, 23], [0, 1, 2, 9, 22])] [11] [.slice l.p l.n l.c, .bool high, .int .i64 function, .agg #[.slice below_0.p below_0.n below_0.c, .slice below_1.p below_1.n below_1.c, .slice below_2.p below_2.n below_2.c]] H R = F_resources_windows R l high function below_0 below_1 below_2 H := by kernel_rfl

theorem F_resources_windows_ok {R : Value → Heap → Prop} (l : Sl) (high : Bool) (function : Int) (below_0 : Sl) (below_1 : Sl) (below_2 : Sl) {H : Heap} (h : F_resources_windows R l high function below_0 below_1 below_2 H) : CallsH Try.prog n_resources_windows #[.slice l.p l.n l.c, .bool high, .int .i64 function, .agg #[.slice below_0.p below_0.n below_0.c, .slice below_1.p below_1.n below_1.c, .slice below_2.p below_2.n below_2.c]] H R :=
  wpF_ok Try.func25 (F_resources_windows_eq R l high function below_0 below_1 below_2 H) h

/-! ### 26: platformfw/resources.largest -/

def F_resources_largest (R : Value → Heap → Prop) (classv : Int) (H : Heap) : Prop :=
  iteB (classv == (0 : Int)) (
  R (.int .i64 (15 : Int)) H) (
  iteB (classv == (1 : Int)) (
  R (.int .i64 (31 : Int)) H) (
  R (.int .i64 (44 : Int)) H))

theorem F_resources_largest_eq (R : Value → Heap → Prop) (classv : Int) (H : Heap) : wpF Try.prog Try.f26 [] [] [] [11] [.int .i64 classv] H R = F_resources_largest R classv H := by kernel_rfl

theorem F_resources_largest_ok {R : Value → Heap → Prop} (classv : Int) {H : Heap} (h : F_resources_largest R classv H) : CallsH Try.prog n_resources_largest #[.int .i64 classv] H R :=
  wpF_ok Try.func26 (F_resources_largest_eq R classv H) h

/-! ### 27: platformfw/resources.classOf -/

def F_resources_classOf (R : Value → Heap → Prop) (l : Sl) (high : Bool) (function : Int) (kind : Int) (H : Heap) : Prop :=
  iteB (kind == (1 : Int)) (
  R (.int .i64 (0 : Int)) H) (
  iteB (kind == (4 : Int)) (
  iteB high (
  CallsH Try.prog n_resources_prefAbove #[.slice l.p l.n l.c, .int .i64 function] H (fun v H1 =>
  ∃ x : Bool, v = .bool x ∧ (
  iteB x (
  R (.int .i64 (2 : Int)) H1) (
  R (.int .i64 (1 : Int)) H1)))) (
  R (.int .i64 (1 : Int)) H)) (
  R (.int .i64 (1 : Int)) H))

theorem F_resources_classOf_eq (R : Value → Heap → Prop) (l : Sl) (high : Bool) (function : Int) (kind : Int) (H : Heap) : wpF Try.prog Try.f27 [] [] [] [11] [.slice l.p l.n l.c, .bool high, .int .i64 function, .int .i64 kind] H R = F_resources_classOf R l high function kind H := by kernel_rfl

theorem F_resources_classOf_ok {R : Value → Heap → Prop} (l : Sl) (high : Bool) (function : Int) (kind : Int) {H : Heap} (h : F_resources_classOf R l high function kind H) : CallsH Try.prog n_resources_classOf #[.slice l.p l.n l.c, .bool high, .int .i64 function, .int .i64 kind] H R :=
  wpF_ok Try.func27 (F_resources_classOf_eq R l high function kind H) h

/-! ### 28: platformfw/platformfwref18.Valid -/

def F_ref18_Valid_r1 (R : Value → Heap → Prop) (l : Sl) (I_ : Int → Heap → Prop) (M_ : Int → Heap → Nat) (i : Int) (H1 : Heap) (I_1 : Int → Heap → Prop) (M_1 : Int → Heap → Nat) (k : Int) (H4 : Heap) : Prop :=
  iteB (decide (k < i)) (
  0 ≤ k ∧ k < (l.n : Int) ∧ (unSome l.p (fun a6 =>
  ∃ x17 : Int, rd H4 (a6.add (k.toNat * 11)) = some (.int .i64 x17) ∧ (
  0 ≤ i ∧ i < (l.n : Int) ∧ (unSome l.p (fun a7 =>
  ∃ x18 : Int, rd H4 (a7.add (i.toNat * 11)) = some (.int .i64 x18) ∧ (
  iteB (x17 == x18) (
  0 ≤ k ∧ k < (l.n : Int) ∧ (unSome l.p (fun a8 =>
  ∃ x19 : Int, rd H4 ((a8.add (k.toNat * 11)).add 1) = some (.int .i64 x19) ∧ (
  0 ≤ i ∧ i < (l.n : Int) ∧ (unSome l.p (fun a9 =>
  ∃ x20 : Int, rd H4 ((a9.add (i.toNat * 11)).add 1) = some (.int .i64 x20) ∧ (
  iteB (x19 == x20) (
  R (.bool false) H4) (
  letV (IntKind.i64.wrap (k + (1 : Int))) (fun k1 : Int =>
  I_1 k1 H4 ∧ M_1 k1 H4 < M_1 k H4))))))))) (
  letV (IntKind.i64.wrap (k + (1 : Int))) (fun k2 : Int =>
  I_1 k2 H4 ∧ M_1 k2 H4 < M_1 k H4))))))))) (
  letV (IntKind.i64.wrap (i + (1 : Int))) (fun i1 : Int =>
  I_ i1 H4 ∧ M_ i1 H4 < M_ i H1))

def F_ref18_Valid_k2 (R : Value → Heap → Prop) (l : Sl) (I_ : Int → Heap → Prop) (M_ : Int → Heap → Nat) (i : Int) (H1 : Heap) (H3 : Heap) : Prop :=
  ∃ I_1 : Int → Heap → Prop, ∃ M_1 : Int → Heap → Nat, I_1 (0 : Int) H3 ∧ (∀ k : Int, ∀ H4 : Heap, I_1 k H4 → F_ref18_Valid_r1 R l I_ M_ i H1 I_1 M_1 k H4)

def F_ref18_Valid_r3 (R : Value → Heap → Prop) (l : Sl) (I_ : Int → Heap → Prop) (M_ : Int → Heap → Nat) (i : Int) (H1 : Heap) : Prop :=
  iteB (decide (i < (l.n : Int))) (
  ∃ J_ : Heap → Prop, (
  0 ≤ i ∧ i < (l.n : Int) ∧ (unSome l.p (fun a =>
  ∃ x : Int, rd H1 (a.add (i.toNat * 11)) = some (.int .i64 x) ∧ ∃ x1 : Int, rd H1 ((a.add (i.toNat * 11)).add 1) = some (.int .i64 x1) ∧ ∃ x2 : Int, rd H1 ((a.add (i.toNat * 11)).add 2) = some (.int .i64 x2) ∧ ∃ x3 : Int, rd H1 ((a.add (i.toNat * 11)).add 3) = some (.int .i64 x3) ∧ ∃ x4 : Bool, rd H1 ((a.add (i.toNat * 11)).add 4) = some (.bool x4) ∧ ∃ x5 : Bool, rd H1 ((a.add (i.toNat * 11)).add 5) = some (.bool x5) ∧ ∃ x6 : Bool, rd H1 ((a.add (i.toNat * 11)).add 6) = some (.bool x6) ∧ ∃ x7 : Int, rd H1 ((a.add (i.toNat * 11)).add 7) = some (.int .i64 x7) ∧ ∃ x8 : Int, rd H1 ((a.add (i.toNat * 11)).add 8) = some (.int .i64 x8) ∧ ∃ x9 : Int, rd H1 ((a.add (i.toNat * 11)).add 9) = some (.int .i64 x9) ∧ ∃ x10 : Sl, rd H1 ((a.add (i.toNat * 11)).add 10) = some (.slice x10.p x10.n x10.c) ∧ (
  CallsH Try.prog n_ref18_ValidFunction #[.agg #[.int .i64 x, .int .i64 x1, .int .i64 x2, .int .i64 x3, .bool x4, .bool x5, .bool x6, .int .i64 x7, .int .i64 x8, .int .i64 x9, .slice x10.p x10.n x10.c]] H1 (fun v H2 =>
  ∃ x11 : Bool, v = .bool x11 ∧ (
  iteB (!x11) (
  R (.bool false) H2) (
  0 ≤ i ∧ i < (l.n : Int) ∧ (unSome l.p (fun a1 =>
  ∃ x12 : Int, rd H2 (a1.add (i.toNat * 11)) = some (.int .i64 x12) ∧ (
  iteB (decide (x12 < (-1 : Int))) (
  R (.bool false) H2) (
  0 ≤ i ∧ i < (l.n : Int) ∧ (unSome l.p (fun a2 =>
  ∃ x13 : Int, rd H2 (a2.add (i.toNat * 11)) = some (.int .i64 x13) ∧ (
  iteB (decide (x13 ≥ i)) (
  R (.bool false) H2) (
  0 ≤ i ∧ i < (l.n : Int) ∧ (unSome l.p (fun a3 =>
  ∃ x14 : Int, rd H2 (a3.add (i.toNat * 11)) = some (.int .i64 x14) ∧ (
  iteB (decide (x14 ≥ (0 : Int))) (
  0 ≤ i ∧ i < (l.n : Int) ∧ (unSome l.p (fun a4 =>
  ∃ x15 : Int, rd H2 (a4.add (i.toNat * 11)) = some (.int .i64 x15) ∧ (
  0 ≤ x15 ∧ x15 < (l.n : Int) ∧ (unSome l.p (fun a5 =>
  ∃ x16 : Bool, rd H2 ((a5.add (x15.toNat * 11)).add 4) = some (.bool x16) ∧ (
  iteB (!x16) (
  R (.bool false) H2) (
  J_ H2)))))))) (
  J_ H2))))))))))))))))))) ∧ (∀ H3 : Heap, J_ H3 → F_ref18_Valid_k2 R l I_ M_ i H1 H3)) (
  R (.bool true) H1)

def F_ref18_Valid (R : Value → Heap → Prop) (l : Sl) (H : Heap) : Prop :=
  iteB (decide ((l.n : Int) > (64 : Int))) (
  R (.bool false) H) (
  ∃ I_ : Int → Heap → Prop, ∃ M_ : Int → Heap → Nat, I_ (0 : Int) H ∧ (∀ i : Int, ∀ H1 : Heap, I_ i H1 → F_ref18_Valid_r3 R l I_ M_ i H1))

theorem F_ref18_Valid_eq (R : Value → Heap → Prop) (l : Sl) (H : Heap) : wpF Try.prog Try.f28 [(3, .int .i64 0), (4, .int .i64 0)] [(8, [], [0, 3])] [(4, [3], [0]), (9, [4], [0, 3])] [11] [.slice l.p l.n l.c] H R = F_ref18_Valid R l H := by kernel_rfl

theorem F_ref18_Valid_ok {R : Value → Heap → Prop} (l : Sl) {H : Heap} (h : F_ref18_Valid R l H) : CallsH Try.prog n_ref18_Valid #[.slice l.p l.n l.c] H R :=
  wpF_ok Try.func28 (F_ref18_Valid_eq R l H) h

/-! ### 29: platformfw/platformfwref18.bar -/

def F_ref18_bar (R : Value → Heap → Prop) (f_0 : Int) (f_1 : Int) (f_2 : Int) (f_3 : Int) (f_4 : Bool) (f_5 : Bool) (f_6 : Bool) (f_7 : Int) (f_8 : Int) (f_9 : Int) (f_10 : Sl) (i : Int) (H : Heap) : Prop :=
  letH (H.push (.cells #[.int .i64 f_0, .int .i64 f_1, .int .i64 f_2, .int .i64 f_3, .bool f_4, .bool f_5, .bool f_6, .int .i64 f_7, .int .i64 f_8, .int .i64 f_9, .slice f_10.p f_10.n f_10.c] t_api_Function (0, 0))) (fun H1 : Heap =>
  letH (H1.push (.cells #[.int .i64 (0 : Int), .int .i64 (0 : Int)] t_api_Bar (0, 0))) (fun H2 : Heap =>
  iteB (decide (i < (0 : Int))) (
  okRow H2 (⟨H1.size, 0, none⟩ : Addr) 2 ∧ (
  letH (wrs H2 (⟨H1.size, 0, none⟩ : Addr) [.int .i64 (0 : Int), .int .i64 (0 : Int)]) (fun H3 : Heap =>
  ∃ r : Int, rd H3 (⟨H1.size, 0, none⟩ : Addr) = some (.int .i64 r) ∧ ∃ r1 : Int, rd H3 ((⟨H1.size, 0, none⟩ : Addr).add 1) = some (.int .i64 r1) ∧ (
  R (.agg #[.int .i64 r, .int .i64 r1]) H3)))) (
  ∃ x : Sl, rd H2 ((⟨H.size, 0, none⟩ : Addr).add 10) = some (.slice x.p x.n x.c) ∧ (
  iteB (decide (i ≥ (x.n : Int))) (
  okRow H2 (⟨H1.size, 0, none⟩ : Addr) 2 ∧ (
  letH (wrs H2 (⟨H1.size, 0, none⟩ : Addr) [.int .i64 (0 : Int), .int .i64 (0 : Int)]) (fun H4 : Heap =>
  ∃ r2 : Int, rd H4 (⟨H1.size, 0, none⟩ : Addr) = some (.int .i64 r2) ∧ ∃ r3 : Int, rd H4 ((⟨H1.size, 0, none⟩ : Addr).add 1) = some (.int .i64 r3) ∧ (
  R (.agg #[.int .i64 r2, .int .i64 r3]) H4)))) (
  ∃ x1 : Sl, rd H2 ((⟨H.size, 0, none⟩ : Addr).add 10) = some (.slice x1.p x1.n x1.c) ∧ (
  0 ≤ i ∧ i < (x1.n : Int) ∧ (unSome x1.p (fun a =>
  ∃ x2 : Int, rd H2 (a.add (i.toNat * 2)) = some (.int .i64 x2) ∧ ∃ x3 : Int, rd H2 ((a.add (i.toNat * 2)).add 1) = some (.int .i64 x3) ∧ (
  okRow H2 (⟨H1.size, 0, none⟩ : Addr) 2 ∧ (
  letH (wrs H2 (⟨H1.size, 0, none⟩ : Addr) [.int .i64 x2, .int .i64 x3]) (fun H5 : Heap =>
  ∃ r4 : Int, rd H5 (⟨H1.size, 0, none⟩ : Addr) = some (.int .i64 r4) ∧ ∃ r5 : Int, rd H5 ((⟨H1.size, 0, none⟩ : Addr).add 1) = some (.int .i64 r5) ∧ (
  R (.agg #[.int .i64 r4, .int .i64 r5]) H5))))))))))))

theorem F_ref18_bar_eq (R : Value → Heap → Prop) (f_0 : Int) (f_1 : Int) (f_2 : Int) (f_3 : Int) (f_4 : Bool) (f_5 : Bool) (f_6 : Bool) (f_7 : Int) (f_8 : Int) (f_9 : Int) (f_10 : Sl) (i : Int) (H : Heap) : wpF Try.prog Try.f29 [] [] [] [11] [.agg #[.int .i64 f_0, .int .i64 f_1, .int .i64 f_2, .int .i64 f_3, .bool f_4, .bool f_5, .bool f_6, .int .i64 f_7, .int .i64 f_8, .int .i64 f_9, .slice f_10.p f_10.n f_10.c], .int .i64 i] H R = F_ref18_bar R f_0 f_1 f_2 f_3 f_4 f_5 f_6 f_7 f_8 f_9 f_10 i H := by kernel_rfl

theorem F_ref18_bar_ok {R : Value → Heap → Prop} (f_0 : Int) (f_1 : Int) (f_2 : Int) (f_3 : Int) (f_4 : Bool) (f_5 : Bool) (f_6 : Bool) (f_7 : Int) (f_8 : Int) (f_9 : Int) (f_10 : Sl) (i : Int) {H : Heap} (h : F_ref18_bar R f_0 f_1 f_2 f_3 f_4 f_5 f_6 f_7 f_8 f_9 f_10 i H) : CallsH Try.prog n_ref18_bar #[.agg #[.int .i64 f_0, .int .i64 f_1, .int .i64 f_2, .int .i64 f_3, .bool f_4, .bool f_5, .bool f_6, .int .i64 f_7, .int .i64 f_8, .int .i64 f_9, .slice f_10.p f_10.n f_10.c], .int .i64 i] H R :=
  wpF_ok Try.func29 (F_ref18_bar_eq R f_0 f_1 f_2 f_3 f_4 f_5 f_6 f_7 f_8 f_9 f_10 i H) h

/-! ### 30: platformfw/platformfwref18.above -/

def F_ref18_above_r1 (R : Value → Heap → Prop) (l : Sl) (I_ : Int → Heap → Prop) (M_ : Int → Heap → Nat) (i2 : Int) (H1 : Heap) : Prop :=
  iteB (decide (i2 ≥ (0 : Int))) (
  0 ≤ i2 ∧ i2 < (l.n : Int) ∧ (unSome l.p (fun a1 =>
  ∃ x : Bool, rd H1 ((a1.add (i2.toNat * 11)).add 5) = some (.bool x) ∧ (
  iteB (!x) (
  R (.bool false) H1) (
  0 ≤ i2 ∧ i2 < (l.n : Int) ∧ (unSome l.p (fun a2 =>
  ∃ i3 : Int, rd H1 (a2.add (i2.toNat * 11)) = some (.int .i64 i3) ∧ (
  I_ i3 H1 ∧ M_ i3 H1 < M_ i2 H1)))))))) (
  R (.bool true) H1)

def F_ref18_above (R : Value → Heap → Prop) (l : Sl) (i : Int) (H : Heap) : Prop :=
  0 ≤ i ∧ i < (l.n : Int) ∧ (unSome l.p (fun a =>
  ∃ i1 : Int, rd H (a.add (i.toNat * 11)) = some (.int .i64 i1) ∧ (
  ∃ I_ : Int → Heap → Prop, ∃ M_ : Int → Heap → Nat, I_ i1 H ∧ (∀ i2 : Int, ∀ H1 : Heap, I_ i2 H1 → F_ref18_above_r1 R l I_ M_ i2 H1))))

theorem F_ref18_above_eq (R : Value → Heap → Prop) (l : Sl) (i : Int) (H : Heap) : wpF Try.prog Try.f30 [(1, .int .i64 0)] [] [(2, [1], [0])] [11] [.slice l.p l.n l.c, .int .i64 i] H R = F_ref18_above R l i H := by kernel_rfl

theorem F_ref18_above_ok {R : Value → Heap → Prop} (l : Sl) (i : Int) {H : Heap} (h : F_ref18_above R l i H) : CallsH Try.prog n_ref18_above #[.slice l.p l.n l.c, .int .i64 i] H R :=
  wpF_ok Try.func30 (F_ref18_above_eq R l i H) h

/-! ### 31: platformfw/platformfwref18.window -/

def F_ref18_window_k1 (needs : Sl) (I_ : Sl → Int → Heap → Prop) (M_ : Sl → Int → Heap → Nat) (sizes : Sl) (k : Int) (H1 : Heap) (x3 : Bool) (H2 : Heap) : Prop :=
  iteB x3 (
  0 ≤ k ∧ k < (needs.n : Int) ∧ (unSome needs.p (fun a3 =>
  ∃ x4 : Int, rd H2 ((a3.add (k.toNat * 4)).add 3) = some (.int .i64 x4) ∧ (
  letH (H2.push (.cells #[.int .i64 x4] t_int (0, 0))) (fun H3 : Heap =>
  runH Try.prog (Builtin.append_ #[t_sl_int, t_sl_int] t_sl_int #[.slice sizes.p sizes.n sizes.c, .slice (some (⟨H2.size, 0, none⟩ : Addr)) 1 1]) H3 (fun v H4 =>
  ∃ sizes1 : Sl, v = .slice sizes1.p sizes1.n sizes1.c ∧ (
  letV (IntKind.i64.wrap (k + (1 : Int))) (fun k1 : Int =>
  I_ sizes1 k1 H4 ∧ M_ sizes1 k1 H4 < M_ sizes k H1)))))))) (
  letV (IntKind.i64.wrap (k + (1 : Int))) (fun k2 : Int =>
  I_ sizes k2 H2 ∧ M_ sizes k2 H2 < M_ sizes k H1))

def F_ref18_window_k2 (R : Value → Heap → Prop) (l : Sl) (i : Int) (classv : Int) (sizes : Sl) (H7 : Heap) : Prop :=
  0 ≤ i ∧ i < (l.n : Int) ∧ (unSome l.p (fun a6 =>
  ∃ x8 : Bool, rd H7 ((a6.add (i.toNat * 11)).add 6) = some (.bool x8) ∧ (
  CallsH Try.prog n_ref18_WindowSize #[.slice sizes.p sizes.n sizes.c, .int .i64 classv, .bool x8] H7 (fun v2 H8 =>
  ∃ x9 : Int, ∃ x10 : Bool, v2 = .tuple #[.int .i64 x9, .bool x10] ∧ (
  R (.tuple #[.int .i64 x9, .bool x10]) H8)))))

def F_ref18_window_k3 (R : Value → Heap → Prop) (l : Sl) (i : Int) (classv : Int) (sizes : Sl) (port : Bool) (H6 : Heap) : Prop :=
  ∃ J_2 : Heap → Prop, (
  iteB ((sizes.n : Int) == (0 : Int)) (
  iteB (!port) (
  R (.tuple #[.int .i64 (0 : Int), .bool false]) H6) (
  J_2 H6)) (
  J_2 H6)) ∧ (∀ H7 : Heap, J_2 H7 → F_ref18_window_k2 R l i classv sizes H7)

def F_ref18_window_r4 (R : Value → Heap → Prop) (l : Sl) (high : Bool) (i : Int) (classv : Int) (needs : Sl) (I_ : Sl → Int → Heap → Prop) (M_ : Sl → Int → Heap → Nat) (sizes : Sl) (k : Int) (H1 : Heap) : Prop :=
  iteB (decide (k < (needs.n : Int))) (
  ∃ J_ : Bool → Heap → Prop, (
  0 ≤ k ∧ k < (needs.n : Int) ∧ (unSome needs.p (fun a =>
  ∃ x : Int, rd H1 ((a.add (k.toNat * 4)).add 2) = some (.int .i64 x) ∧ (
  iteB (x == classv) (
  0 ≤ k ∧ k < (needs.n : Int) ∧ (unSome needs.p (fun a1 =>
  ∃ x1 : Int, rd H1 (a1.add (k.toNat * 4)) = some (.int .i64 x1) ∧ (
  0 ≤ x1 ∧ x1 < (l.n : Int) ∧ (unSome l.p (fun a2 =>
  ∃ x2 : Int, rd H1 (a2.add (x1.toNat * 11)) = some (.int .i64 x2) ∧ (
  J_ (x2 == i) H1))))))) (
  J_ false H1))))) ∧ (∀ x3 : Bool, ∀ H2 : Heap, J_ x3 H2 → F_ref18_window_k1 needs I_ M_ sizes k H1 x3 H2)) (
  ∃ J_1 : Bool → Heap → Prop, (
  0 ≤ i ∧ i < (l.n : Int) ∧ (unSome l.p (fun a4 =>
  ∃ x5 : Bool, rd H1 ((a4.add (i.toNat * 11)).add 6) = some (.bool x5) ∧ (
  iteB x5 (
  iteB (classv != (2 : Int)) (
  J_1 true H1) (
  iteB high (
  0 ≤ i ∧ i < (l.n : Int) ∧ (unSome l.p (fun a5 =>
  ∃ x6 : Bool, rd H1 ((a5.add (i.toNat * 11)).add 5) = some (.bool x6) ∧ (
  iteB x6 (
  CallsH Try.prog n_ref18_above #[.slice l.p l.n l.c, .int .i64 i] H1 (fun v1 H5 =>
  ∃ x7 : Bool, v1 = .bool x7 ∧ (
  J_1 x7 H5))) (
  J_1 false H1))))) (
  J_1 false H1))) (
  J_1 false H1))))) ∧ (∀ port : Bool, ∀ H6 : Heap, J_1 port H6 → F_ref18_window_k3 R l i classv sizes port H6))

def F_ref18_window (R : Value → Heap → Prop) (l : Sl) (high : Bool) (i : Int) (classv : Int) (needs : Sl) (H : Heap) : Prop :=
  ∃ I_ : Sl → Int → Heap → Prop, ∃ M_ : Sl → Int → Heap → Nat, I_ (Sl.mk none 0 0) (0 : Int) H ∧ (∀ sizes : Sl, ∀ k : Int, ∀ H1 : Heap, I_ sizes k H1 → F_ref18_window_r4 R l high i classv needs I_ M_ sizes k H1)

theorem F_ref18_window_eq (R : Value → Heap → Prop) (l : Sl) (high : Bool) (i : Int) (classv : Int) (needs : Sl) (H : Heap) : wpF Try.prog Try.f31 [(12, .slice none 0 0), (13, .int .i64 0), (14, .bool false), (40, .bool false)] [(6, [40], [0, 1, 2, 3, 4, 12, 13]), (8, [14], [0, 2, 3, 12]), (10, [], [0, 2, 3, 12])] [(3, [12, 13], [0, 1, 2, 3, 4])] [11] [.slice l.p l.n l.c, .bool high, .int .i64 i, .int .i64 classv, .slice needs.p needs.n needs.c] H R = F_ref18_window R l high i classv needs H := by kernel_rfl

theorem F_ref18_window_ok {R : Value → Heap → Prop} (l : Sl) (high : Bool) (i : Int) (classv : Int) (needs : Sl) {H : Heap} (h : F_ref18_window R l high i classv needs H) : CallsH Try.prog n_ref18_window #[.slice l.p l.n l.c, .bool high, .int .i64 i, .int .i64 classv, .slice needs.p needs.n needs.c] H R :=
  wpF_ok Try.func31 (F_ref18_window_eq R l high i classv needs H) h

/-! ### 32: platformfw/pciconf.Valid -/

def F_pciconf_Valid_r1 (R : Value → Heap → Prop) (H : Heap) (x23 : Sl) (I_ : Int → Heap → Prop) (M_ : Int → Heap → Nat) (x24 : Int) (H5 : Heap) : Prop :=
  iteB (decide (x24 < (x23.n : Int))) (
  ∃ x25 : Sl, rd H5 ((⟨H.size, 0, none⟩ : Addr).add 10) = some (.slice x25.p x25.n x25.c) ∧ (
  CallsH Try.prog n_pciconf_validBar #[.slice x25.p x25.n x25.c, .int .i64 x24] H5 (fun v1 H6 =>
  ∃ x26 : Bool, v1 = .bool x26 ∧ (
  iteB (!x26) (
  R (.bool false) H6) (
  I_ (IntKind.i64.wrap (x24 + (1 : Int))) H6 ∧ M_ (IntKind.i64.wrap (x24 + (1 : Int))) H6 < M_ x24 H5))))) (
  R (.bool true) H5)

def F_pciconf_Valid_k2 (R : Value → Heap → Prop) (H : Heap) (H3 : Heap) : Prop :=
  ∃ x20 : Sl, rd H3 ((⟨H.size, 0, none⟩ : Addr).add 10) = some (.slice x20.p x20.n x20.c) ∧ (
  ∃ x21 : Bool, rd H3 ((⟨H.size, 0, none⟩ : Addr).add 4) = some (.bool x21) ∧ (
  CallsH Try.prog n_pciconf_registers #[.bool x21] H3 (fun v H4 =>
  ∃ x22 : Int, v = .int .i64 x22 ∧ (
  Keeps H3 H4 [(((⟨H.size, 0, none⟩ : Addr).add 10), 1)] ∧ (
  iteB (decide ((x20.n : Int) > x22)) (
  R (.bool false) H4) (
  ∃ x23 : Sl, rd H4 ((⟨H.size, 0, none⟩ : Addr).add 10) = some (.slice x23.p x23.n x23.c) ∧ (
  ∃ I_ : Int → Heap → Prop, ∃ M_ : Int → Heap → Nat, I_ (0 : Int) H4 ∧ (∀ x24 : Int, ∀ H5 : Heap, I_ x24 H5 → F_pciconf_Valid_r1 R H x23 I_ M_ x24 H5))))))))

def F_pciconf_Valid_k3 (R : Value → Heap → Prop) (H : Heap) (H2 : Heap) : Prop :=
  ∃ J_1 : Heap → Prop, (
  ∃ x17 : Bool, rd H2 ((⟨H.size, 0, none⟩ : Addr).add 4) = some (.bool x17) ∧ (
  iteB (!x17) (
  ∃ x18 : Bool, rd H2 ((⟨H.size, 0, none⟩ : Addr).add 5) = some (.bool x18) ∧ (
  iteB x18 (
  R (.bool false) H2) (
  ∃ x19 : Bool, rd H2 ((⟨H.size, 0, none⟩ : Addr).add 6) = some (.bool x19) ∧ (
  iteB x19 (
  R (.bool false) H2) (
  J_1 H2))))) (
  J_1 H2))) ∧ (∀ H3 : Heap, J_1 H3 → F_pciconf_Valid_k2 R H H3)

def F_pciconf_Valid (R : Value → Heap → Prop) (f_0 : Int) (f_1 : Int) (f_2 : Int) (f_3 : Int) (f_4 : Bool) (f_5 : Bool) (f_6 : Bool) (f_7 : Int) (f_8 : Int) (f_9 : Int) (f_10 : Sl) (H : Heap) : Prop :=
  letH (H.push (.cells #[.int .i64 f_0, .int .i64 f_1, .int .i64 f_2, .int .i64 f_3, .bool f_4, .bool f_5, .bool f_6, .int .i64 f_7, .int .i64 f_8, .int .i64 f_9, .slice f_10.p f_10.n f_10.c] t_api_Function (0, 0))) (fun H1 : Heap =>
  ∃ x : Int, rd H1 ((⟨H.size, 0, none⟩ : Addr).add 2) = some (.int .i64 x) ∧ (
  iteB (decide (x < (1 : Int))) (
  R (.bool false) H1) (
  ∃ x1 : Int, rd H1 ((⟨H.size, 0, none⟩ : Addr).add 2) = some (.int .i64 x1) ∧ (
  iteB (decide (x1 > (65534 : Int))) (
  R (.bool false) H1) (
  ∃ x2 : Int, rd H1 ((⟨H.size, 0, none⟩ : Addr).add 3) = some (.int .i64 x2) ∧ (
  iteB (decide (x2 < (0 : Int))) (
  R (.bool false) H1) (
  ∃ x3 : Int, rd H1 ((⟨H.size, 0, none⟩ : Addr).add 3) = some (.int .i64 x3) ∧ (
  iteB (decide (x3 > (65535 : Int))) (
  R (.bool false) H1) (
  ∃ x4 : Int, rd H1 ((⟨H.size, 0, none⟩ : Addr).add 1) = some (.int .i64 x4) ∧ (
  iteB (decide (x4 < (0 : Int))) (
  R (.bool false) H1) (
  ∃ x5 : Int, rd H1 ((⟨H.size, 0, none⟩ : Addr).add 1) = some (.int .i64 x5) ∧ (
  iteB (decide (x5 > (31 : Int))) (
  R (.bool false) H1) (
  ∃ x6 : Int, rd H1 ((⟨H.size, 0, none⟩ : Addr).add 8) = some (.int .i64 x6) ∧ (
  iteB (decide (x6 < (0 : Int))) (
  R (.bool false) H1) (
  ∃ x7 : Int, rd H1 ((⟨H.size, 0, none⟩ : Addr).add 8) = some (.int .i64 x7) ∧ (
  iteB (decide (x7 > (4 : Int))) (
  R (.bool false) H1) (
  ∃ x8 : Int, rd H1 ((⟨H.size, 0, none⟩ : Addr).add 9) = some (.int .i64 x8) ∧ (
  iteB (decide (x8 < (0 : Int))) (
  R (.bool false) H1) (
  ∃ x9 : Int, rd H1 ((⟨H.size, 0, none⟩ : Addr).add 9) = some (.int .i64 x9) ∧ (
  iteB (decide (x9 > (32 : Int))) (
  R (.bool false) H1) (
  ∃ x10 : Int, rd H1 ((⟨H.size, 0, none⟩ : Addr).add 9) = some (.int .i64 x10) ∧ (
  ∃ x11 : Int, rd H1 ((⟨H.size, 0, none⟩ : Addr).add 9) = some (.int .i64 x11) ∧ (
  iteB ((bitsAnd .i64 x10 (IntKind.i64.wrap (x11 - (1 : Int)))) != (0 : Int)) (
  R (.bool false) H1) (
  ∃ J_ : Heap → Prop, (
  ∃ x12 : Int, rd H1 ((⟨H.size, 0, none⟩ : Addr).add 7) = some (.int .i64 x12) ∧ (
  iteB (decide (x12 < (0 : Int))) (
  R (.bool false) H1) (
  ∃ x13 : Int, rd H1 ((⟨H.size, 0, none⟩ : Addr).add 7) = some (.int .i64 x13) ∧ (
  iteB (decide (x13 > (32 : Int))) (
  R (.bool false) H1) (
  ∃ x14 : Int, rd H1 ((⟨H.size, 0, none⟩ : Addr).add 7) = some (.int .i64 x14) ∧ (
  iteB (decide (x14 > (0 : Int))) (
  ∃ x15 : Bool, rd H1 ((⟨H.size, 0, none⟩ : Addr).add 4) = some (.bool x15) ∧ (
  iteB x15 (
  ∃ x16 : Bool, rd H1 ((⟨H.size, 0, none⟩ : Addr).add 6) = some (.bool x16) ∧ (
  iteB (!x16) (
  R (.bool false) H1) (
  J_ H1))) (
  R (.bool false) H1))) (
  J_ H1))))))) ∧ (∀ H2 : Heap, J_ H2 → F_pciconf_Valid_k3 R H H2)))))))))))))))))))))))))

theorem F_pciconf_Valid_eq (R : Value → Heap → Prop) (f_0 : Int) (f_1 : Int) (f_2 : Int) (f_3 : Int) (f_4 : Bool) (f_5 : Bool) (f_6 : Bool) (f_7 : Int) (f_8 : Int) (f_9 : Int) (f_10 : Sl) (H : Heap) : wpF Try.prog Try.f32 [(100, .int .i64 0)] [(9, [], [1]), (11, [], [1])] [(14, [100], [1, 99])] [11] [.agg #[.int .i64 f_0, .int .i64 f_1, .int .i64 f_2, .int .i64 f_3, .bool f_4, .bool f_5, .bool f_6, .int .i64 f_7, .int .i64 f_8, .int .i64 f_9, .slice f_10.p f_10.n f_10.c]] H R = F_pciconf_Valid R f_0 f_1 f_2 f_3 f_4 f_5 f_6 f_7 f_8 f_9 f_10 H := by kernel_rfl

theorem F_pciconf_Valid_ok {R : Value → Heap → Prop} (f_0 : Int) (f_1 : Int) (f_2 : Int) (f_3 : Int) (f_4 : Bool) (f_5 : Bool) (f_6 : Bool) (f_7 : Int) (f_8 : Int) (f_9 : Int) (f_10 : Sl) {H : Heap} (h : F_pciconf_Valid R f_0 f_1 f_2 f_3 f_4 f_5 f_6 f_7 f_8 f_9 f_10 H) : CallsH Try.prog n_pciconf_Valid #[.agg #[.int .i64 f_0, .int .i64 f_1, .int .i64 f_2, .int .i64 f_3, .bool f_4, .bool f_5, .bool f_6, .int .i64 f_7, .int .i64 f_8, .int .i64 f_9, .slice f_10.p f_10.n f_10.c]] H R :=
  wpF_ok Try.func32 (F_pciconf_Valid_eq R f_0 f_1 f_2 f_3 f_4 f_5 f_6 f_7 f_8 f_9 f_10 H) h

/-! ### 33: platformfw/resources.prefAbove -/

def F_resources_prefAbove_r1 (R : Value → Heap → Prop) (l : Sl) (I_ : Int → Heap → Prop) (M_ : Int → Heap → Nat) (i1 : Int) (H1 : Heap) : Prop :=
  iteB (decide (i1 ≥ (0 : Int))) (
  0 ≤ i1 ∧ i1 < (l.n : Int) ∧ (unSome l.p (fun a1 =>
  ∃ x : Bool, rd H1 ((a1.add (i1.toNat * 11)).add 5) = some (.bool x) ∧ (
  iteB (!x) (
  R (.bool false) H1) (
  0 ≤ i1 ∧ i1 < (l.n : Int) ∧ (unSome l.p (fun a2 =>
  ∃ i2 : Int, rd H1 (a2.add (i1.toNat * 11)) = some (.int .i64 i2) ∧ (
  I_ i2 H1 ∧ M_ i2 H1 < M_ i1 H1)))))))) (
  R (.bool true) H1)

def F_resources_prefAbove (R : Value → Heap → Prop) (l : Sl) (function : Int) (H : Heap) : Prop :=
  0 ≤ function ∧ function < (l.n : Int) ∧ (unSome l.p (fun a =>
  ∃ i : Int, rd H (a.add (function.toNat * 11)) = some (.int .i64 i) ∧ (
  ∃ I_ : Int → Heap → Prop, ∃ M_ : Int → Heap → Nat, I_ i H ∧ (∀ i1 : Int, ∀ H1 : Heap, I_ i1 H1 → F_resources_prefAbove_r1 R l I_ M_ i1 H1))))

theorem F_resources_prefAbove_eq (R : Value → Heap → Prop) (l : Sl) (function : Int) (H : Heap) : wpF Try.prog Try.f33 [(5, .int .i64 0)] [] [(2, [5], [0])] [11] [.slice l.p l.n l.c, .int .i64 function] H R = F_resources_prefAbove R l function H := by kernel_rfl

theorem F_resources_prefAbove_ok {R : Value → Heap → Prop} (l : Sl) (function : Int) {H : Heap} (h : F_resources_prefAbove R l function H) : CallsH Try.prog n_resources_prefAbove #[.slice l.p l.n l.c, .int .i64 function] H R :=
  wpF_ok Try.func33 (F_resources_prefAbove_eq R l function H) h

/-! ### 34: platformfw/platformfwref18.ValidFunction -/

def F_ref18_ValidFunction_k1 (R : Value → Heap → Prop) (H : Heap) (I_ : Int → Heap → Prop) (M_ : Int → Heap → Nat) (i : Int) (H4 : Heap) (x46 : Bool) (H7 : Heap) : Prop :=
  iteB x46 (
  ∃ x47 : Int, rd H7 ((⟨H4.size, 0, none⟩ : Addr).add 1) = some (.int .i64 x47) ∧ (
  iteB (decide (x47 < (4 : Int))) (
  R (.bool false) H7) (
  ∃ x48 : Int, rd H7 ((⟨H4.size, 0, none⟩ : Addr).add 1) = some (.int .i64 x48) ∧ (
  iteB (decide (x48 > (40 : Int))) (
  R (.bool false) H7) (
  ∃ x49 : Sl, rd H7 ((⟨H.size, 0, none⟩ : Addr).add 10) = some (.slice x49.p x49.n x49.c) ∧ (
  iteB (decide ((IntKind.i64.wrap (i + (1 : Int))) ≥ (x49.n : Int))) (
  R (.bool false) H7) (
  ∃ x50 : Sl, rd H7 ((⟨H.size, 0, none⟩ : Addr).add 10) = some (.slice x50.p x50.n x50.c) ∧ (
  0 ≤ (IntKind.i64.wrap (i + (1 : Int))) ∧ (IntKind.i64.wrap (i + (1 : Int))) < (x50.n : Int) ∧ (unSome x50.p (fun a1 =>
  ∃ x51 : Int, rd H7 (a1.add ((IntKind.i64.wrap (i + (1 : Int))).toNat * 2)) = some (.int .i64 x51) ∧ (
  iteB (x51 != (0 : Int)) (
  R (.bool false) H7) (
  letV (IntKind.i64.wrap (i + (1 : Int))) (fun i4 : Int =>
  I_ i4 H7 ∧ M_ i4 H7 < M_ i H4))))))))))))) (
  R (.bool false) H7)

def F_ref18_ValidFunction_r2 (R : Value → Heap → Prop) (H : Heap) (I_ : Int → Heap → Prop) (M_ : Int → Heap → Nat) (i : Int) (H4 : Heap) : Prop :=
  ∃ x36 : Sl, rd H4 ((⟨H.size, 0, none⟩ : Addr).add 10) = some (.slice x36.p x36.n x36.c) ∧ (
  iteB (decide (i < (x36.n : Int))) (
  ∃ x37 : Sl, rd H4 ((⟨H.size, 0, none⟩ : Addr).add 10) = some (.slice x37.p x37.n x37.c) ∧ (
  0 ≤ i ∧ i < (x37.n : Int) ∧ (unSome x37.p (fun a =>
  ∃ x38 : Int, rd H4 (a.add (i.toNat * 2)) = some (.int .i64 x38) ∧ ∃ x39 : Int, rd H4 ((a.add (i.toNat * 2)).add 1) = some (.int .i64 x39) ∧ (
  letH (H4.push (.cells #[.int .i64 (0 : Int), .int .i64 (0 : Int)] t_api_Bar (0, 0))) (fun H5 : Heap =>
  okRow H5 (⟨H4.size, 0, none⟩ : Addr) 2 ∧ (
  letH (wrs H5 (⟨H4.size, 0, none⟩ : Addr) [.int .i64 x38, .int .i64 x39]) (fun H6 : Heap =>
  ∃ x40 : Int, rd H6 (⟨H4.size, 0, none⟩ : Addr) = some (.int .i64 x40) ∧ (
  iteB (x40 == (0 : Int)) (
  ∃ x41 : Int, rd H6 ((⟨H4.size, 0, none⟩ : Addr).add 1) = some (.int .i64 x41) ∧ (
  iteB (x41 != (0 : Int)) (
  R (.bool false) H6) (
  letV (IntKind.i64.wrap (i + (1 : Int))) (fun i1 : Int =>
  I_ i1 H6 ∧ M_ i1 H6 < M_ i H4)))) (
  iteB (x40 == (1 : Int)) (
  ∃ x42 : Int, rd H6 ((⟨H4.size, 0, none⟩ : Addr).add 1) = some (.int .i64 x42) ∧ (
  iteB (decide (x42 < (2 : Int))) (
  R (.bool false) H6) (
  ∃ x43 : Int, rd H6 ((⟨H4.size, 0, none⟩ : Addr).add 1) = some (.int .i64 x43) ∧ (
  iteB (decide (x43 > (8 : Int))) (
  R (.bool false) H6) (
  letV (IntKind.i64.wrap (i + (1 : Int))) (fun i2 : Int =>
  I_ i2 H6 ∧ M_ i2 H6 < M_ i H4)))))) (
  iteB (x40 == (2 : Int)) (
  ∃ x44 : Int, rd H6 ((⟨H4.size, 0, none⟩ : Addr).add 1) = some (.int .i64 x44) ∧ (
  iteB (decide (x44 < (4 : Int))) (
  R (.bool false) H6) (
  ∃ x45 : Int, rd H6 ((⟨H4.size, 0, none⟩ : Addr).add 1) = some (.int .i64 x45) ∧ (
  iteB (decide (x45 > (31 : Int))) (
  R (.bool false) H6) (
  letV (IntKind.i64.wrap (i + (1 : Int))) (fun i3 : Int =>
  I_ i3 H6 ∧ M_ i3 H6 < M_ i H4)))))) (
  ∃ J_1 : Bool → Heap → Prop, (
  iteB (x40 == (3 : Int)) (
  J_1 true H6) (
  J_1 (x40 == (4 : Int)) H6)) ∧ (∀ x46 : Bool, ∀ H7 : Heap, J_1 x46 H7 → F_ref18_ValidFunction_k1 R H I_ M_ i H4 x46 H7))))))))))))) (
  R (.bool true) H4))

def F_ref18_ValidFunction_k3 (R : Value → Heap → Prop) (H : Heap) (H2 : Heap) : Prop :=
  ∃ x23 : Sl, rd H2 ((⟨H.size, 0, none⟩ : Addr).add 10) = some (.slice x23.p x23.n x23.c) ∧ (
  ∃ x24 : Int, rd H2 (⟨H.size, 0, none⟩ : Addr) = some (.int .i64 x24) ∧ ∃ x25 : Int, rd H2 ((⟨H.size, 0, none⟩ : Addr).add 1) = some (.int .i64 x25) ∧ ∃ x26 : Int, rd H2 ((⟨H.size, 0, none⟩ : Addr).add 2) = some (.int .i64 x26) ∧ ∃ x27 : Int, rd H2 ((⟨H.size, 0, none⟩ : Addr).add 3) = some (.int .i64 x27) ∧ ∃ x28 : Bool, rd H2 ((⟨H.size, 0, none⟩ : Addr).add 4) = some (.bool x28) ∧ ∃ x29 : Bool, rd H2 ((⟨H.size, 0, none⟩ : Addr).add 5) = some (.bool x29) ∧ ∃ x30 : Bool, rd H2 ((⟨H.size, 0, none⟩ : Addr).add 6) = some (.bool x30) ∧ ∃ x31 : Int, rd H2 ((⟨H.size, 0, none⟩ : Addr).add 7) = some (.int .i64 x31) ∧ ∃ x32 : Int, rd H2 ((⟨H.size, 0, none⟩ : Addr).add 8) = some (.int .i64 x32) ∧ ∃ x33 : Int, rd H2 ((⟨H.size, 0, none⟩ : Addr).add 9) = some (.int .i64 x33) ∧ ∃ x34 : Sl, rd H2 ((⟨H.size, 0, none⟩ : Addr).add 10) = some (.slice x34.p x34.n x34.c) ∧ (
  CallsH Try.prog n_ref18_Registers #[.agg #[.int .i64 x24, .int .i64 x25, .int .i64 x26, .int .i64 x27, .bool x28, .bool x29, .bool x30, .int .i64 x31, .int .i64 x32, .int .i64 x33, .slice x34.p x34.n x34.c]] H2 (fun v H3 =>
  ∃ x35 : Int, v = .int .i64 x35 ∧ (
  Keeps H2 H3 [(((⟨H.size, 0, none⟩ : Addr).add 10), 1)] ∧ (
  iteB (decide ((x23.n : Int) > x35)) (
  R (.bool false) H3) (
  ∃ I_ : Int → Heap → Prop, ∃ M_ : Int → Heap → Nat, I_ (0 : Int) H3 ∧ (∀ i : Int, ∀ H4 : Heap, I_ i H4 → F_ref18_ValidFunction_r2 R H I_ M_ i H4)))))))

def F_ref18_ValidFunction (R : Value → Heap → Prop) (f_0 : Int) (f_1 : Int) (f_2 : Int) (f_3 : Int) (f_4 : Bool) (f_5 : Bool) (f_6 : Bool) (f_7 : Int) (f_8 : Int) (f_9 : Int) (f_10 : Sl) (H : Heap) : Prop :=
  letH (H.push (.cells #[.int .i64 f_0, .int .i64 f_1, .int .i64 f_2, .int .i64 f_3, .bool f_4, .bool f_5, .bool f_6, .int .i64 f_7, .int .i64 f_8, .int .i64 f_9, .slice f_10.p f_10.n f_10.c] t_api_Function (0, 0))) (fun H1 : Heap =>
  ∃ x : Int, rd H1 ((⟨H.size, 0, none⟩ : Addr).add 2) = some (.int .i64 x) ∧ (
  iteB (decide (x < (1 : Int))) (
  R (.bool false) H1) (
  ∃ x1 : Int, rd H1 ((⟨H.size, 0, none⟩ : Addr).add 2) = some (.int .i64 x1) ∧ (
  iteB (decide (x1 > (65534 : Int))) (
  R (.bool false) H1) (
  ∃ x2 : Int, rd H1 ((⟨H.size, 0, none⟩ : Addr).add 3) = some (.int .i64 x2) ∧ (
  iteB (decide (x2 < (0 : Int))) (
  R (.bool false) H1) (
  ∃ x3 : Int, rd H1 ((⟨H.size, 0, none⟩ : Addr).add 3) = some (.int .i64 x3) ∧ (
  iteB (decide (x3 > (65535 : Int))) (
  R (.bool false) H1) (
  ∃ x4 : Int, rd H1 ((⟨H.size, 0, none⟩ : Addr).add 1) = some (.int .i64 x4) ∧ (
  iteB (decide (x4 < (0 : Int))) (
  R (.bool false) H1) (
  ∃ x5 : Int, rd H1 ((⟨H.size, 0, none⟩ : Addr).add 1) = some (.int .i64 x5) ∧ (
  iteB (decide (x5 > (31 : Int))) (
  R (.bool false) H1) (
  ∃ x6 : Int, rd H1 ((⟨H.size, 0, none⟩ : Addr).add 8) = some (.int .i64 x6) ∧ (
  iteB (decide (x6 < (0 : Int))) (
  R (.bool false) H1) (
  ∃ x7 : Int, rd H1 ((⟨H.size, 0, none⟩ : Addr).add 8) = some (.int .i64 x7) ∧ (
  iteB (decide (x7 > (4 : Int))) (
  R (.bool false) H1) (
  ∃ x8 : Int, rd H1 ((⟨H.size, 0, none⟩ : Addr).add 7) = some (.int .i64 x8) ∧ (
  iteB (decide (x8 < (0 : Int))) (
  R (.bool false) H1) (
  ∃ x9 : Int, rd H1 ((⟨H.size, 0, none⟩ : Addr).add 7) = some (.int .i64 x9) ∧ (
  iteB (decide (x9 > (32 : Int))) (
  R (.bool false) H1) (
  ∃ J_ : Heap → Prop, (
  ∃ x10 : Int, rd H1 ((⟨H.size, 0, none⟩ : Addr).add 9) = some (.int .i64 x10) ∧ (
  iteB (decide (x10 < (0 : Int))) (
  R (.bool false) H1) (
  ∃ x11 : Int, rd H1 ((⟨H.size, 0, none⟩ : Addr).add 9) = some (.int .i64 x11) ∧ (
  iteB (decide (x11 > (32 : Int))) (
  R (.bool false) H1) (
  ∃ x12 : Int, rd H1 ((⟨H.size, 0, none⟩ : Addr).add 9) = some (.int .i64 x12) ∧ (
  ∃ x13 : Int, rd H1 ((⟨H.size, 0, none⟩ : Addr).add 9) = some (.int .i64 x13) ∧ (
  iteB ((bitsAnd .i64 x12 (IntKind.i64.wrap (x13 - (1 : Int)))) != (0 : Int)) (
  R (.bool false) H1) (
  ∃ x14 : Int, rd H1 ((⟨H.size, 0, none⟩ : Addr).add 7) = some (.int .i64 x14) ∧ (
  iteB (decide (x14 > (0 : Int))) (
  ∃ x15 : Bool, rd H1 ((⟨H.size, 0, none⟩ : Addr).add 4) = some (.bool x15) ∧ (
  iteB (!x15) (
  R (.bool false) H1) (
  ∃ x16 : Bool, rd H1 ((⟨H.size, 0, none⟩ : Addr).add 6) = some (.bool x16) ∧ (
  iteB (!x16) (
  R (.bool false) H1) (
  ∃ x17 : Bool, rd H1 ((⟨H.size, 0, none⟩ : Addr).add 4) = some (.bool x17) ∧ (
  iteB (!x17) (
  ∃ x18 : Bool, rd H1 ((⟨H.size, 0, none⟩ : Addr).add 5) = some (.bool x18) ∧ (
  iteB x18 (
  R (.bool false) H1) (
  ∃ x19 : Bool, rd H1 ((⟨H.size, 0, none⟩ : Addr).add 6) = some (.bool x19) ∧ (
  iteB x19 (
  R (.bool false) H1) (
  J_ H1))))) (
  J_ H1))))))) (
  ∃ x20 : Bool, rd H1 ((⟨H.size, 0, none⟩ : Addr).add 4) = some (.bool x20) ∧ (
  iteB (!x20) (
  ∃ x21 : Bool, rd H1 ((⟨H.size, 0, none⟩ : Addr).add 5) = some (.bool x21) ∧ (
  iteB x21 (
  R (.bool false) H1) (
  ∃ x22 : Bool, rd H1 ((⟨H.size, 0, none⟩ : Addr).add 6) = some (.bool x22) ∧ (
  iteB x22 (
  R (.bool false) H1) (
  J_ H1))))) (
  J_ H1)))))))))))) ∧ (∀ H2 : Heap, J_ H2 → F_ref18_ValidFunction_k3 R H H2))))))))))))))))))))))

theorem F_ref18_ValidFunction_eq (R : Value → Heap → Prop) (f_0 : Int) (f_1 : Int) (f_2 : Int) (f_3 : Int) (f_4 : Bool) (f_5 : Bool) (f_6 : Bool) (f_7 : Int) (f_8 : Int) (f_9 : Int) (f_10 : Sl) (H : Heap) : wpF Try.prog Try.f34 [(3, .int .i64 0), (143, .bool false)] [(5, [], [1]), (24, [143], [1, 3, 4])] [(8, [3], [1])] [11] [.agg #[.int .i64 f_0, .int .i64 f_1, .int .i64 f_2, .int .i64 f_3, .bool f_4, .bool f_5, .bool f_6, .int .i64 f_7, .int .i64 f_8, .int .i64 f_9, .slice f_10.p f_10.n f_10.c]] H R = F_ref18_ValidFunction R f_0 f_1 f_2 f_3 f_4 f_5 f_6 f_7 f_8 f_9 f_10 H := by kernel_rfl

theorem F_ref18_ValidFunction_ok {R : Value → Heap → Prop} (f_0 : Int) (f_1 : Int) (f_2 : Int) (f_3 : Int) (f_4 : Bool) (f_5 : Bool) (f_6 : Bool) (f_7 : Int) (f_8 : Int) (f_9 : Int) (f_10 : Sl) {H : Heap} (h : F_ref18_ValidFunction R f_0 f_1 f_2 f_3 f_4 f_5 f_6 f_7 f_8 f_9 f_10 H) : CallsH Try.prog n_ref18_ValidFunction #[.agg #[.int .i64 f_0, .int .i64 f_1, .int .i64 f_2, .int .i64 f_3, .bool f_4, .bool f_5, .bool f_6, .int .i64 f_7, .int .i64 f_8, .int .i64 f_9, .slice f_10.p f_10.n f_10.c]] H R :=
  wpF_ok Try.func34 (F_ref18_ValidFunction_eq R f_0 f_1 f_2 f_3 f_4 f_5 f_6 f_7 f_8 f_9 f_10 H) h

/-! ### 35: platformfw/pciconf.registers -/

def F_pciconf_registers (R : Value → Heap → Prop) (bridge : Bool) (H : Heap) : Prop :=
  iteB bridge (
  R (.int .i64 (2 : Int)) H) (
  R (.int .i64 (6 : Int)) H)

theorem F_pciconf_registers_eq (R : Value → Heap → Prop) (bridge : Bool) (H : Heap) : wpF Try.prog Try.f35 [] [] [] [11] [.bool bridge] H R = F_pciconf_registers R bridge H := by kernel_rfl

theorem F_pciconf_registers_ok {R : Value → Heap → Prop} (bridge : Bool) {H : Heap} (h : F_pciconf_registers R bridge H) : CallsH Try.prog n_pciconf_registers #[.bool bridge] H R :=
  wpF_ok Try.func35 (F_pciconf_registers_eq R bridge H) h

/-! ### 36: platformfw/pciconf.validBar -/

def F_pciconf_validBar_k1 (R : Value → Heap → Prop) (l : Sl) (i : Int) (size : Int) (x1 : Bool) (H1 : Heap) : Prop :=
  iteB x1 (
  iteB (decide (size ≥ (4 : Int))) (
  iteB (decide (size ≤ (40 : Int))) (
  iteB (decide ((IntKind.i64.wrap (i + (1 : Int))) < (l.n : Int))) (
  0 ≤ (IntKind.i64.wrap (i + (1 : Int))) ∧ (IntKind.i64.wrap (i + (1 : Int))) < (l.n : Int) ∧ (unSome l.p (fun a2 =>
  ∃ x2 : Int, rd H1 (a2.add ((IntKind.i64.wrap (i + (1 : Int))).toNat * 2)) = some (.int .i64 x2) ∧ (
  R (.bool (x2 == (0 : Int))) H1)))) (
  R (.bool false) H1)) (
  R (.bool false) H1)) (
  R (.bool false) H1)) (
  R (.bool false) H1)

def F_pciconf_validBar (R : Value → Heap → Prop) (l : Sl) (i : Int) (H : Heap) : Prop :=
  0 ≤ i ∧ i < (l.n : Int) ∧ (unSome l.p (fun a =>
  ∃ size : Int, rd H ((a.add (i.toNat * 2)).add 1) = some (.int .i64 size) ∧ (
  0 ≤ i ∧ i < (l.n : Int) ∧ (unSome l.p (fun a1 =>
  ∃ x : Int, rd H (a1.add (i.toNat * 2)) = some (.int .i64 x) ∧ (
  iteB (x == (0 : Int)) (
  R (.bool (size == (0 : Int))) H) (
  iteB (x == (1 : Int)) (
  iteB (decide (size ≥ (2 : Int))) (
  R (.bool (decide (size ≤ (8 : Int)))) H) (
  R (.bool false) H)) (
  iteB (x == (2 : Int)) (
  iteB (decide (size ≥ (4 : Int))) (
  R (.bool (decide (size ≤ (31 : Int)))) H) (
  R (.bool false) H)) (
  ∃ J_ : Bool → Heap → Prop, (
  iteB (x == (3 : Int)) (
  J_ true H) (
  J_ (x == (4 : Int)) H)) ∧ (∀ x1 : Bool, ∀ H1 : Heap, J_ x1 H1 → F_pciconf_validBar_k1 R l i size x1 H1))))))))))

theorem F_pciconf_validBar_eq (R : Value → Heap → Prop) (l : Sl) (i : Int) (H : Heap) : wpF Try.prog Try.f36 [(36, .bool false)] [(11, [36], [0, 1, 5])] [] [11] [.slice l.p l.n l.c, .int .i64 i] H R = F_pciconf_validBar R l i H := by kernel_rfl

theorem F_pciconf_validBar_ok {R : Value → Heap → Prop} (l : Sl) (i : Int) {H : Heap} (h : F_pciconf_validBar R l i H) : CallsH Try.prog n_pciconf_validBar #[.slice l.p l.n l.c, .int .i64 i] H R :=
  wpF_ok Try.func36 (F_pciconf_validBar_eq R l i H) h

/-! ### 37: platformfw/platformfwref18.Registers -/

def F_ref18_Registers (R : Value → Heap → Prop) (f_0 : Int) (f_1 : Int) (f_2 : Int) (f_3 : Int) (f_4 : Bool) (f_5 : Bool) (f_6 : Bool) (f_7 : Int) (f_8 : Int) (f_9 : Int) (f_10 : Sl) (H : Heap) : Prop :=
  letH (H.push (.cells #[.int .i64 f_0, .int .i64 f_1, .int .i64 f_2, .int .i64 f_3, .bool f_4, .bool f_5, .bool f_6, .int .i64 f_7, .int .i64 f_8, .int .i64 f_9, .slice f_10.p f_10.n f_10.c] t_api_Function (0, 0))) (fun H1 : Heap =>
  ∃ x : Bool, rd H1 ((⟨H.size, 0, none⟩ : Addr).add 4) = some (.bool x) ∧ (
  iteB x (
  R (.int .i64 (2 : Int)) H1) (
  R (.int .i64 (6 : Int)) H1)))

theorem F_ref18_Registers_eq (R : Value → Heap → Prop) (f_0 : Int) (f_1 : Int) (f_2 : Int) (f_3 : Int) (f_4 : Bool) (f_5 : Bool) (f_6 : Bool) (f_7 : Int) (f_8 : Int) (f_9 : Int) (f_10 : Sl) (H : Heap) : wpF Try.prog Try.f37 [] [] [] [11] [.agg #[.int .i64 f_0, .int .i64 f_1, .int .i64 f_2, .int .i64 f_3, .bool f_4, .bool f_5, .bool f_6, .int .i64 f_7, .int .i64 f_8, .int .i64 f_9, .slice f_10.p f_10.n f_10.c]] H R = F_ref18_Registers R f_0 f_1 f_2 f_3 f_4 f_5 f_6 f_7 f_8 f_9 f_10 H := by kernel_rfl

theorem F_ref18_Registers_ok {R : Value → Heap → Prop} (f_0 : Int) (f_1 : Int) (f_2 : Int) (f_3 : Int) (f_4 : Bool) (f_5 : Bool) (f_6 : Bool) (f_7 : Int) (f_8 : Int) (f_9 : Int) (f_10 : Sl) {H : Heap} (h : F_ref18_Registers R f_0 f_1 f_2 f_3 f_4 f_5 f_6 f_7 f_8 f_9 f_10 H) : CallsH Try.prog n_ref18_Registers #[.agg #[.int .i64 f_0, .int .i64 f_1, .int .i64 f_2, .int .i64 f_3, .bool f_4, .bool f_5, .bool f_6, .int .i64 f_7, .int .i64 f_8, .int .i64 f_9, .slice f_10.p f_10.n f_10.c]] H R :=
  wpF_ok Try.func37 (F_ref18_Registers_eq R f_0 f_1 f_2 f_3 f_4 f_5 f_6 f_7 f_8 f_9 f_10 H) h

end Go.Proofs.Ytfodidlecpiohaa
